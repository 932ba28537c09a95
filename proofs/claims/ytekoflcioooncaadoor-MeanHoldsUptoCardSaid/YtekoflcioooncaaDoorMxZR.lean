/-
  mean.Holds; Select, From and Holds of a nil tree.
-/
import Derived.Test.YtekoflcioooncaaDoorMxZD
import Derived.Test.YtekoflcioooncaaDoorMxZK
import Derived.Test.YtekoflcioooncaaDoorMxQ
import Derived.Deep.RegionHeld3
namespace Go.Proofs.YtekoflcioooncaaDoor
open Go.RowKit

theorem w64_3 : W64 3 := by unfold W64; decide
def holdsN (T : PT) (f : Nat) (v : Int) (x : PX) : Bool := if refusesN T.N f v [.mk 3 3 [] [x]] = 0 then holdP T f v x else false

theorem XAt.len {f : Nat} {w : World} {x : PX} {cs : List Value} (h : XAt f w x cs) : ∃ c0 c1 c2 c3 c4 c5 c6, cs = [c0, c1, c2, c3, c4, c5, c6] := by
  cases f with
  | zero => exact h.elim
  | succ f => obtain ⟨a, c, p, d, h1, _⟩ := h; exact ⟨_, _, _, _, _, _, _, h1⟩

set_option maxRecDepth 100000 in
set_option maxHeartbeats 4000000 in
theorem from_nil (v : Int) (a : Option Addr) (n c : Nat) (w : World) :
    Calls Tryd.prog 18 #[.pointer none, .int .i64 v, .agg #[.slice a n c]] w fun e w' => e = .returned (.tuple #[.slice none 0 0, .int .i64 1]) ∧ Below w.heap.size w w' := by
  have hb0 : Below w.heap.size w (w.alloc (.cells #[.slice a n c] 25)) := (Below.refl _ _).alloc (Nat.le_refl _) _
  have HB0 := Lib.hid hb0
  have HR := Lib.hid (mrefuses_nil v a n c (w.alloc (.cells #[.slice a n c] 25)))
  clear hb0
  go_enter Tryd.func18, Tryd.ntmps18
  go_wp2_with fail
  (with_reducible refine HR.out.mono ?_)
  rintro e w2 ⟨rfl, hb2⟩
  have HB2 := Lib.hid (HB0.out.trans (hb2.mono HB0.out.size))
  clear hb2
  go_wp2_with fail
  go_ret2
  exact ⟨rfl, HB2.out⟩
set_option maxRecDepth 100000 in
set_option maxHeartbeats 4000000 in
theorem select_nil (a : Option Addr) (n c : Nat) (w : World) :
    Calls Tryd.prog 15 #[.pointer none, .agg #[.slice a n c]] w fun e w' => e = .returned (.tuple #[.slice none 0 0, .int .i64 1]) ∧ Below w.heap.size w w' := by
  have hb0 : Below w.heap.size w (w.alloc (.cells #[.slice a n c] 25)) := (Below.refl _ _).alloc (Nat.le_refl _) _
  have HB0 := Lib.hid hb0
  have HR := Lib.hid (from_nil (-1) a n c (w.alloc (.cells #[.slice a n c] 25)))
  clear hb0
  go_enter Tryd.func15, Tryd.ntmps15
  go_wp2_with fail
  (with_reducible refine HR.out.mono ?_)
  rintro e w2 ⟨rfl, hb2⟩
  have HB2 := Lib.hid (HB0.out.trans (hb2.mono HB0.out.size))
  clear hb2
  go_wp2_with fail
  go_ret2
  exact ⟨rfl, HB2.out⟩
def holdsW (w : World) (cs : List Value) : World :=
  (((w.alloc (.cells cs.toArray 61)).alloc (.cells cs.toArray 61)).alloc (.cells #[.int .i64 3, .int .i64 3, .string ⟨#[]⟩, .slice (some ⟨w.heap.size + 1, 0, none⟩) 1 1] 57)).alloc (.cells #[.slice (some ⟨w.heap.size + 1 + 1, 0, none⟩) 1 1] 25)
theorem holdsW_spec (w : World) (cs : List Value) : Below w.heap.size w (holdsW w cs) ∧ (holdsW w cs).heap.size = w.heap.size + 4 ∧ (holdsW w cs).heap[w.heap.size]? = some (.cells cs.toArray 61 (0, 0)) ∧ (holdsW w cs).heap[w.heap.size + 1]? = some (.cells cs.toArray 61 (0, 0)) ∧
    (holdsW w cs).heap[w.heap.size + 2]? = some (.cells #[.int .i64 3, .int .i64 3, .string ⟨#[]⟩, .slice (some ⟨w.heap.size + 1, 0, none⟩) 1 1] 57 (0, 0)) := by
  unfold holdsW
  refine ⟨((((Below.refl _ _).alloc (Nat.le_refl _) _).alloc (by simp) _).alloc (by simp only [World.size_alloc]; omega) _).alloc (by simp only [World.size_alloc]; omega) _, by simp, ?_, ?_, ?_⟩
  · rw [Below.heap_alloc _ _ _ (by simp only [World.size_alloc]; omega), Below.heap_alloc _ _ _ (by simp only [World.size_alloc]; omega), Below.heap_alloc _ _ _ (by simp)]
    exact heap_alloc_new w _
  · rw [Below.heap_alloc _ _ _ (by simp only [World.size_alloc]; omega), Below.heap_alloc _ _ _ (by simp)]
    have := heap_alloc_new (w.alloc (.cells cs.toArray 61)) (.cells cs.toArray 61)
    rw [World.size_alloc] at this
    exact this
  · rw [Below.heap_alloc _ _ _ (by simp)]
    have := heap_alloc_new ((w.alloc (.cells cs.toArray 61)).alloc (.cells cs.toArray 61)) (.cells #[.int .i64 3, .int .i64 3, .string ⟨#[]⟩, .slice (some ⟨w.heap.size + 1, 0, none⟩) 1 1] 57)
    rw [World.size_alloc, World.size_alloc] at this
    exact this
theorem box7 {W : World} {G : Nat} {c0 c1 c2 c3 c4 c5 c6 : Value} (h : W.heap[G]? = some (.cells #[c0, c1, c2, c3, c4, c5, c6] 61 (0, 0))) : W.cell? ⟨G, 0, none⟩ = some c0 ∧ W.cell? ⟨G, 1, none⟩ = some c1 ∧ W.cell? ⟨G, 2, none⟩ = some c2 ∧ W.cell? ⟨G, 3, none⟩ = some c3 ∧ W.cell? ⟨G, 4, none⟩ = some c4 ∧ W.cell? ⟨G, 5, none⟩ = some c5 ∧ W.cell? ⟨G, 6, none⟩ = some c6 := by
  refine ⟨?_, ?_, ?_, ?_, ?_, ?_, ?_⟩ <;> (rw [cell_heap h]; rfl)
set_option maxRecDepth 100000 in
set_option maxHeartbeats 4000000 in
theorem holds_nil (v : Int) (c0 c1 c2 c3 c4 c5 c6 : Value) (w : World) :
    Calls Tryd.prog 24 #[.pointer none, .int .i64 v, .agg #[c0, c1, c2, c3, c4, c5, c6]] w fun e w' => e = .returned (.tuple #[.bool false, .int .i64 1]) ∧ Below w.heap.size w w' := by
  have HB0 := Lib.hid (holdsW_spec w [c0, c1, c2, c3, c4, c5, c6]).1
  have HR := Lib.hid (mrefuses_nil v (some ⟨w.heap.size + 1 + 1, 0, none⟩) 1 1 (holdsW w [c0, c1, c2, c3, c4, c5, c6]))
  have HWE : Hid (holdsW w [c0, c1, c2, c3, c4, c5, c6] = (((w.alloc (.cells #[c0, c1, c2, c3, c4, c5, c6] 61)).alloc (.cells #[c0, c1, c2, c3, c4, c5, c6] 61)).alloc (.cells #[.int .i64 3, .int .i64 3, .string ⟨#[]⟩, .slice (some ⟨w.heap.size + 1, 0, none⟩) 1 1] 57)).alloc (.cells #[.slice (some ⟨w.heap.size + 1 + 1, 0, none⟩) 1 1] 25)) := Lib.hid rfl
  generalize holdsW w [c0, c1, c2, c3, c4, c5, c6] = W0 at *
  go_enter Tryd.func24, Tryd.ntmps24
  go_wp2_with fail
  rw [← HWE.out]
  (with_reducible refine HR.out.mono ?_)
  rintro e w2 ⟨rfl, hb2⟩
  have HB2 := Lib.hid (HB0.out.trans (hb2.mono HB0.out.size))
  clear hb2
  go_wp2_with fail
  go_ret2
  exact ⟨rfl, HB2.out⟩
set_option maxRecDepth 100000 in
set_option maxHeartbeats 4000000 in
theorem mholds_any {f : Nat} (hf : f ≤ 1048576) {tb : Nat} {evs : List Ev} (v : Int) (x : PX) (cs : List Value) (w : World) (hq : TQ w tb evs) (hE : EnvT w) (hx : XAt f w x cs) :
    Calls Tryd.prog 24 #[.pointer (some ⟨tb, 0, none⟩), .int .i64 v, .agg cs.toArray] w fun e w' => e = .returned (.tuple #[.bool (holdsN (treePT evs) f v x), .int .i64 (refusesN (nodesB evs).length f v [.mk 3 3 [] [x]])]) ∧ Below w.heap.size w w' := by
  obtain ⟨hb0, hsz, hk0, hk1, hk2⟩ := holdsW_spec w cs
  have hxs : XsAt f (holdsW w cs) (some ⟨w.heap.size + 1, 0, none⟩) [x] := xs_one hk1 (by obtain ⟨_, _, _, _, _, _, _, rfl⟩ := hx.len; rfl) (XAt.turn hb0 (Nat.le_refl _) hx)
  have hss : SsAt f (holdsW w cs) (some ⟨w.heap.size + 1 + 1, 0, none⟩) [.mk 3 3 [] [x]] := ss_one (s := .mk 3 3 [] [x]) (wa := some ⟨w.heap.size + 1, 0, none⟩) (wc := 1) hk2 (Nat.le_refl _) w64_3 w64_3 (Nat.zero_le _) (Nat.le_of_ble_eq_true rfl) hxs
  have HB0 := Lib.hid hb0
  have HR := Lib.hid (refuses_any hf v (some ⟨w.heap.size + 1 + 1, 0, none⟩) 1 [.mk 3 3 [] [x]] (holdsW w cs) (hq.below hb0) (hE.below hb0) hss (Nat.le_of_ble_eq_true rfl))
  rw [show ([.mk 3 3 [] [x]] : List PS).length = 1 from rfl] at HR
  have HH : refusesN (nodesB evs).length f v [.mk 3 3 [] [x]] = 0 → Hid (∀ W, Below (holdsW w cs).heap.size (holdsW w cs) W → Calls Tryd.prog 49 #[.agg #[.pointer (some ⟨tb, 0, none⟩)], .int .i64 v, .agg cs.toArray] W fun e w' => e = .returned (.bool (holdP (treePT evs) f v x)) ∧ Below W.heap.size W w') := fun hr => by
    have hvv : -1 ≤ v ∧ v < ((nodesB evs).length : Int) := by
      unfold refusesN at hr
      split at hr
      · cases hr
      · omega
    have hck : checkN f [.mk 3 3 [] [x]] = 0 := by
      unfold refusesN at hr
      rw [if_neg (by omega)] at hr
      exact hr
    have hg := goodPB_wher (checkN_good hck) _ List.mem_cons_self
    refine Lib.hid fun W hW => ?_
    have hbW := hb0.trans (hW.mono hb0.size)
    exact holds_all tb evs f v x cs W hvv.1 hvv.2 (hq.below hbW) (XAt.turn hbW (Nat.le_refl _) hx) (by simpa [PS.wher] using hg)
  obtain ⟨c0, c1, c2, c3, c4, c5, c6, rfl⟩ := hx.len
  have HKS : Hid (∀ W, Below (holdsW w [c0, c1, c2, c3, c4, c5, c6]).heap.size (holdsW w [c0, c1, c2, c3, c4, c5, c6]) W → W.heap[w.heap.size]? = some (.cells #[c0, c1, c2, c3, c4, c5, c6] 61 (0, 0))) := Lib.hid fun W hW => (hW.block w.heap.size (by omega)).trans hk0
  have HWE : Hid (holdsW w [c0, c1, c2, c3, c4, c5, c6] = (((w.alloc (.cells #[c0, c1, c2, c3, c4, c5, c6] 61)).alloc (.cells #[c0, c1, c2, c3, c4, c5, c6] 61)).alloc (.cells #[.int .i64 3, .int .i64 3, .string ⟨#[]⟩, .slice (some ⟨w.heap.size + 1, 0, none⟩) 1 1] 57)).alloc (.cells #[.slice (some ⟨w.heap.size + 1 + 1, 0, none⟩) 1 1] 25)) := Lib.hid rfl
  clear hb0 hsz hk0 hk1 hk2 hxs hss hq hE hx
  show Calls Tryd.prog 24 #[.pointer (some ⟨tb, 0, none⟩), .int .i64 v, .agg #[c0, c1, c2, c3, c4, c5, c6]] w _
  generalize holdsW w [c0, c1, c2, c3, c4, c5, c6] = W0 at *
  unfold holdsN
  have hN : (treePT evs).N = (nodesB evs).length := rfl
  rw [hN]
  clear hN
  by_cases hr : refusesN (nodesB evs).length f v [.mk 3 3 [] [x]] = 0
  · have HHX := HH hr
    rw [if_pos hr]
    rw [hr] at HR ⊢
    clear HH hr
    generalize holdP (treePT evs) f v x = hp at *
    go_enter Tryd.func24, Tryd.ntmps24
    go_wp2_with fail
    rw [← HWE.out]
    (with_reducible refine HR.out.mono ?_)
    rintro e w2 ⟨rfl, hb2⟩
    have HB2 := Lib.hid (HB0.out.trans (hb2.mono HB0.out.size))
    have HHC := Lib.hid (HHX.out w2 hb2)
    obtain ⟨k0, k1, k2, k3, k4, k5, k6⟩ := box7 (HKS.out w2 hb2)
    clear hb2
    go_wp2_with fail
    (with_reducible refine HHC.out.mono ?_)
    rintro e w3 ⟨rfl, hb3⟩
    have HB3 := Lib.hid (HB2.out.trans (hb3.mono HB2.out.size))
    clear hb3
    go_wp2_with fail
    go_ret2
    exact ⟨rfl, HB3.out⟩
  · rw [if_neg hr]
    generalize refusesN (nodesB evs).length f v [.mk 3 3 [] [x]] = er at *
    have hr1 : ((er : Int) != 0) = true := by simp [hr]
    have hr2 : ((er : Int) == 0) = false := by simp [hr]
    clear HH hr
    go_enter Tryd.func24, Tryd.ntmps24
    go_wp2_with fail
    rw [← HWE.out]
    (with_reducible refine HR.out.mono ?_)
    rintro e w2 ⟨rfl, hb2⟩
    have HB2 := Lib.hid (HB0.out.trans (hb2.mono HB0.out.size))
    clear hb2
    go_wp2_with fail
    go_ret2
    exact ⟨rfl, HB2.out⟩
end Go.Proofs.YtekoflcioooncaaDoor

namespace Go.Proofs.YtekoflcioooncaaDoor
open Go.RowKit

def askP (l : List PX) : List PS := [.mk 3 3 [] l]
def askedW (w : World) (cs : List Value) : World :=
  (((w.alloc (.cells cs.toArray 61)).alloc (.cells #[.slice (some ⟨w.heap.size + 1 + 1 + 1, 0, none⟩) 1 1] 25)).alloc (.cells cs.toArray 61)).alloc (.cells #[.int .i64 3, .int .i64 3, .string ⟨#[]⟩, .slice (some ⟨w.heap.size + 1 + 1, 0, none⟩) 1 1] 57)
theorem askedW_spec {f : Nat} (w : World) (x : PX) (cs : List Value) (hx : XAt f w x cs) : Below w.heap.size w (askedW w cs) ∧ SsAt f (askedW w cs) (some ⟨w.heap.size + 1 + 1 + 1, 0, none⟩) (askP [x]) := by
  have hb : Below w.heap.size w (askedW w cs) := ((((Below.refl _ _).alloc (Nat.le_refl _) _).alloc (by simp) _).alloc (by simp only [World.size_alloc]; omega) _).alloc (by simp only [World.size_alloc]; omega) _
  have hk0 : (askedW w cs).heap[w.heap.size + 1 + 1]? = some (.cells cs.toArray 61 (0, 0)) := by
    unfold askedW
    rw [Below.heap_alloc _ _ _ (by simp)]
    have := heap_alloc_new ((w.alloc (.cells cs.toArray 61)).alloc (.cells #[.slice (some ⟨w.heap.size + 1 + 1 + 1, 0, none⟩) 1 1] 25)) (.cells cs.toArray 61)
    rw [World.size_alloc, World.size_alloc] at this
    exact this
  have hk1 : (askedW w cs).heap[w.heap.size + 1 + 1 + 1]? = some (.cells #[.int .i64 3, .int .i64 3, .string ⟨#[]⟩, .slice (some ⟨w.heap.size + 1 + 1, 0, none⟩) 1 1] 57 (0, 0)) := by
    unfold askedW
    have := heap_alloc_new (((w.alloc (.cells cs.toArray 61)).alloc (.cells #[.slice (some ⟨w.heap.size + 1 + 1 + 1, 0, none⟩) 1 1] 25)).alloc (.cells cs.toArray 61)) (.cells #[.int .i64 3, .int .i64 3, .string ⟨#[]⟩, .slice (some ⟨w.heap.size + 1 + 1, 0, none⟩) 1 1] 57)
    rw [World.size_alloc, World.size_alloc, World.size_alloc] at this
    exact this
  have hxs : XsAt f (askedW w cs) (some ⟨w.heap.size + 1 + 1, 0, none⟩) [x] := xs_one hk0 (by obtain ⟨_, _, _, _, _, _, _, rfl⟩ := hx.len; rfl) (XAt.turn hb (Nat.le_refl _) hx)
  exact ⟨hb, ss_one (s := .mk 3 3 [] [x]) (wa := some ⟨w.heap.size + 1 + 1, 0, none⟩) (wc := 1) hk1 (Nat.le_refl _) w64_3 w64_3 (Nat.zero_le _) (Nat.le_of_ble_eq_true rfl) hxs⟩
set_option maxRecDepth 100000 in
set_option maxHeartbeats 4000000 in
theorem asked12_any {f : Nat} (x : PX) (cs : List Value) (w : World) (hx : XAt f w x cs) :
    Calls Tryd.prog 23 #[.agg cs.toArray] w fun e w' => ∃ G, e = .returned (.agg #[.slice (some ⟨G, 0, none⟩) 1 1]) ∧ SsAt f w' (some ⟨G, 0, none⟩) (askP [x]) ∧ Below w.heap.size w w' := by
  have HSP := Lib.hid (askedW_spec w x cs hx)
  obtain ⟨c0, c1, c2, c3, c4, c5, c6, rfl⟩ := hx.len
  show Calls Tryd.prog 23 #[.agg #[c0, c1, c2, c3, c4, c5, c6]] w _
  clear hx
  go_enter Tryd.func23, Tryd.ntmps23
  go_wp2_with fail
  refine bodyPost_ret (v := .agg #[.slice (some ⟨w.heap.size + 1 + 1 + 1, 0, none⟩) 1 1]) ?_ rfl ⟨w.heap.size + 1 + 1 + 1, rfl, HSP.out.2, HSP.out.1⟩
  rw [results_cell1 rfl]
  go_simp
theorem xs_two {f : Nat} {w : World} {G : Nat} {x y : PX} {cs ds : List Value} {e : TypeId} {fz : Nat × Nat} (hG : w.heap[G]? = some (.cells (cs ++ ds).toArray e fz)) (hl : cs.length = 7) (hl2 : ds.length = 7) (hx : XAt f w x cs) (hy : XAt f w y ds) : XsAt f w (some ⟨G, 0, none⟩) [x, y] := fun i hi => by
  have hi2 : i < 2 := hi
  have h01 : i = 0 ∨ i = 1 := by omega
  rcases h01 with rfl | rfl
  · refine ⟨G, 0, cs, rfl, heap_lt hG, hl, fun j hj => ?_, hx⟩
    rw [cell_heap hG]
    simp [List.getElem?_append_left (show j < cs.length by omega)]
  · refine ⟨G, 0, ds, rfl, heap_lt hG, hl2, fun j hj => ?_, hy⟩
    rw [cell_heap hG]
    have e : 0 + 1 * 7 + j = cs.length + j := by omega
    show ((cs ++ ds).toArray)[0 + 1 * 7 + j]? = ds[j]?
    rw [e, List.getElem?_toArray, List.getElem?_append_right (by omega)]
    congr 1; omega
def notP (x : PX) : PX := .mk 2 [x] [] [] 0 [] 0
def bothP (o : Int) (x y : PX) : PX := .mk o [x, y] [] [] 0 [] 0
theorem x_of {f : Nat} {w : World} {a : Option Addr} {c : Nat} {o : Int} {l : List PX} (hl : XsAt f w a l) (hc : l.length ≤ c) (hn : l.length ≤ 1048576) (ho : W64 o) : XAt (f + 1) w (.mk o l [] [] 0 [] 0) [.int .i64 o, .slice a l.length c, .slice none 0 0, .string ⟨#[]⟩, .int .i64 0, .string ⟨#[]⟩, .int .i64 0] := by
  have w0 : W64 0 := by unfold W64; decide
  exact ⟨a, c, none, 0, rfl, hc, Nat.le_refl _, ho, w0, w0, Nat.zero_le _, Nat.zero_le _, hn, Nat.zero_le _, hl, RowP.nil _ _ _ _⟩
theorem check_ask {f : Nat} {l : List PX} (h : checkN f (askP l) = 0) : ∀ x ∈ l, goodXB f x = true ∧ deepXN f x + 1 ≤ 200 := by
  intro x hx
  have hg := goodPB_wher (checkN_good h) _ List.mem_cons_self
  refine ⟨List.all_eq_true.1 hg x hx, ?_⟩
  unfold checkN checkB at h
  split at h
  · rename_i hc
    rw [Bool.and_eq_true, decide_eq_true_eq] at hc
    refine Nat.le_trans ?_ hc.2
    have hmax : ∀ (l : List Nat) (n : Nat), n ∈ l → n ≤ maxN l := fun l n hn => by
      have key : ∀ (l : List Nat) (a : Nat), a ≤ l.foldl max a ∧ ∀ n ∈ l, n ≤ l.foldl max a := by
        intro l
        induction l with
        | nil => intro a; exact ⟨Nat.le_refl _, fun n h => by cases h⟩
        | cons b l ih =>
          intro a
          obtain ⟨h1, h2⟩ := ih (max a b)
          refine ⟨Nat.le_trans (Nat.le_max_left _ _) h1, fun n hn => ?_⟩
          rcases List.mem_cons.1 hn with rfl | hn
          · exact Nat.le_trans (Nat.le_max_right _ _) h1
          · exact h2 n hn
      exact (key l 0).2 n hn
    unfold deepPN askP
    refine Nat.le_trans (hmax (l.map fun x => deepXN f x + 1) _ (List.mem_map.2 ⟨x, hx, rfl⟩)) (hmax _ _ ?_)
    simp [PS.wher]
  · cases h
theorem check_mk {f : Nat} {l : List PX} (h : ∀ x ∈ l, goodXB f x = true ∧ deepXN f x + 1 ≤ 200) : checkN f (askP l) = 0 := by
  have h1 : goodPB (goodXB f) (askP l) = true := by
    unfold goodPB askP goodSB
    simp only [List.isEmpty_cons, Bool.not_false, Bool.true_and, List.all_cons, List.all_nil, Bool.and_true, PS.axis, PS.test, PS.name, PS.wher]
    have : l.all (goodXB f) = true := List.all_eq_true.2 fun x hx => (h x hx).1
    rw [this]; rfl
  have h2 : deepPN (deepXN f) (askP l) ≤ 200 := by
    refine maxN_le fun n hn => ?_
    simp only [askP, List.map_cons, List.map_nil, List.mem_cons, List.not_mem_nil, or_false] at hn
    subst hn
    refine maxN_le fun m hm => ?_
    obtain ⟨x, hx, rfl⟩ := List.mem_map.1 hm
    exact (h x hx).2
  unfold checkN checkB
  rw [h1, decide_eq_true h2]
  rfl
theorem check_path {f : Nat} {x : PX} (h : goodXB (f + 1) x = true ∧ deepXN (f + 1) x + 1 ≤ 200) (ho : x.op = 3) : checkN f x.path = 0 := by
  have h1 := goodXB_path h.1 ho
  have h2 : deepPN (deepXN f) x.path ≤ 200 := by
    have h3 := h.2
    unfold deepXN at h3
    rw [if_pos ho] at h3
    omega
  unfold checkN checkB
  rw [h1, decide_eq_true h2]
  rfl
end Go.Proofs.YtekoflcioooncaaDoor

namespace Go.Proofs.YtekoflcioooncaaDoor
open Go.RowKit

theorem w64_eq (x : Int) : Go.RowKit.wrap64 x = IntKind.i64.wrap x := by rw [IntKind.wrap_i64]; unfold Go.RowKit.wrap64; rfl
def capL {α : Type} (B : Int) (h : α → Int → Int) : Int → List α → Int
  | n, [] => n
  | n, x :: r => if n ≤ B then capL B h (h x n) r else n
theorem capL_stop {α : Type} {B : Int} {h : α → Int → Int} {n : Int} (hn : B < n) (l : List α) : capL B h n l = n := by
  cases l with
  | nil => rfl
  | cons x r => exact if_neg (by omega)
theorem capL_cons {α : Type} {B : Int} {h : α → Int → Int} {n : Int} (hn : n ≤ B) (x : α) (r : List α) : capL B h n (x :: r) = capL B h (h x n) r := if_pos hn
def wtS (g : Int → List PX → Int) (d : Int) (s : PS) (n : Int) : Int := IntKind.i64.wrap (n + g (IntKind.i64.wrap (d + 1)) s.wher)
def wtN (g : Int → List PX → Int) (d : Int) (ss : List PS) : Int := if 12 < d then 1000 else capL 60 (wtS g d) ss.length ss
def exS (g : Int → List PX → Int) (d : Int) (x : PX) (n : Int) : Int := IntKind.i64.wrap (n + IntKind.i64.wrap (g (IntKind.i64.wrap (d + 1)) x.args + wtN g (IntKind.i64.wrap (d + 1)) x.path))
def exN : Nat → Int → List PX → Int
  | 0, d, l => if 12 < d then 1000 else l.length
  | f + 1, d, l => if 12 < d then 1000 else capL 60 (exS (exN f) d) l.length l

def WtX (f : Nat) : Prop := ∀ (a : Option Addr) (c : Nat) (ss : List PS) (d : Int) (W : World), SsAt f W a ss → ss.length ≤ 1048576 →
  Calls Tryd.prog 30 #[.slice a ss.length c, .int .i64 d] W fun e w' => e = .returned (.int .i64 (wtN (exN f) d ss)) ∧ Below W.heap.size W w'
def ExX (f : Nat) : Prop := ∀ (a : Option Addr) (c : Nat) (l : List PX) (d : Int) (W : World), XsAt f W a l → l.length ≤ 1048576 →
  Calls Tryd.prog 57 #[.slice a l.length c, .int .i64 d] W fun e w' => e = .returned (.int .i64 (exN f d l)) ∧ Below W.heap.size W w'

set_option maxRecDepth 100000 in
set_option maxHeartbeats 4000000 in
theorem weight_of {f : Nat} (HL : ExX f) : WtX f := fun a c ss d w hs hn => by
  have HS := Lib.hid hs
  have HLL := Lib.hid HL
  obtain ⟨R, hR⟩ : ∃ R, wtN (exN f) d ss = R := ⟨_, rfl⟩
  rw [hR]
  unfold wtN at hR
  by_cases hd : 12 < d
  · rw [if_pos hd] at hR
    have HR := Lib.hid hR
    clear hs HL hR HS HLL
    generalize ss.length = n at *
    go_enter Tryd.func30, Tryd.ntmps30
    go_wp2_with fail
    go_ret
    exact ⟨ret_int HR.out, Below.refl _ _⟩
  rw [if_neg hd] at hR
  have hd' : d ≤ 12 := by omega
  have HR := Lib.hid hR
  clear hs HL hR hd
  obtain ⟨n, hm⟩ : ∃ n, ss.length = n := ⟨_, rfl⟩
  rw [hm] at hn HR ⊢
  have HM := Lib.hid hm
  clear hm
  go_enter Tryd.func30, Tryd.ntmps30
  go_wp2_with fail
  go_loopw [5, 6] (fun kv iv wr => ∃ (i : Nat) (r : Int), iv = .int .i64 i ∧ kv = .int .i64 r ∧ i ≤ n ∧ Hid (capL 60 (wtS (exN f) d) r (ss.drop i) = R ∧ Below w.heap.size w wr)) (fun _ iv _ => n - (intOf iv).toNat)
  case atStart => exact ⟨0, n, rfl, rfl, Nat.zero_le _, Lib.hid ⟨by rw [List.drop_zero]; exact HR.out, Below.refl _ _⟩⟩
  case round =>
    obtain ⟨i, r, rfl, rfl, hin, HB⟩ := hrel
    by_cases hi : i < n
    · have i1 : (0 : Int) ≤ (i : Int) := by omega
      have i2 : (i : Int) < (n : Int) := by omega
      have ewi : IntKind.i64.wrap ((i : Int) + 1) = (i : Int) + 1 := IntWalk.i64_in _ (by omega)
      by_cases hr : r ≤ 60
      · have hil : i < ss.length := by rw [HM.out]; exact hi
        obtain ⟨b, o, wa, wc, rfl, hb, hx, h4, h5, h6, h7, h8, hcs⟩ := HS.out.get i hil
        have HCS : Hid (∀ W, Below w.heap.size w W → W.cell? ⟨b, o + i * 4 + 3, none⟩ = some (.slice wa ss[i].wher.length wc)) := Lib.hid fun W hW => (hcs W hW).2.2.2
        have HRL : Hid (∀ W q, Below w.heap.size w W → Calls Tryd.prog 57 #[.slice wa ss[i].wher.length wc, .int .i64 q] W fun e w' => e = .returned (.int .i64 (exN f q ss[i].wher)) ∧ Below W.heap.size W w') := Lib.hid fun W q hW => HLL.out wa wc ss[i].wher q W (XsAt.below hx hW) h8
        have HNX : Hid (capL 60 (wtS (exN f) d) (IntKind.i64.wrap (r + exN f (IntKind.i64.wrap (d + 1)) ss[i].wher)) (ss.drop (i + 1)) = R) := Lib.hid (by
          have := HB.out.1
          rw [List.drop_eq_getElem_cons hil, capL_cons hr] at this
          exact this)
        clear hcs hx h4 h5 h6 h7 h8 hb
        generalize hnew : exN f (IntKind.i64.wrap (d + 1)) ss[i].wher = z at *
        have HNEW := Lib.hid hnew
        clear hnew
        generalize ss[i].wher = wl at *
        generalize hwl : wl.length = wn at *
        clear hwl
        generalize hdd : IntKind.i64.wrap (d + 1) = dd at *
        have c3 := HCS.out _ HB.out.2
        go_wp2_with fail
        (with_reducible refine (HRL.out _ dd HB.out.2).mono ?_)
        rintro e w2 ⟨rfl, hb2⟩
        rw [HNEW.out]
        have HB2 := Lib.hid (HB.out.2.trans (hb2.mono HB.out.2.size))
        clear hb2
        go_wp2_with fail
        go_roundw
        case rel => exact ⟨i + 1, _, by go_num, rfl, by omega, Lib.hid ⟨(by rw [w64_eq]; exact HNX.out), HB2.out⟩⟩
        case measure => simp [intOf]; omega
      · have hr' : 60 < r := by omega
        have HE : Hid (r = R) := Lib.hid (by rw [← HB.out.1, capL_stop hr'])
        go_wp2_with fail
        go_ret
        exact ⟨ret_int HE.out, HB.out.2⟩
    · have i4 : (n : Int) ≤ (i : Int) := by omega
      have HE : Hid (r = R) := Lib.hid (by rw [← HB.out.1, List.drop_of_length_le (by rw [HM.out]; omega)]; rfl)
      go_wp2_with fail
      go_ret
      exact ⟨ret_int HE.out, HB.out.2⟩
set_option maxRecDepth 100000 in
set_option maxHeartbeats 4000000 in
theorem exprs_big (f : Nat) (a : Option Addr) (c : Nat) (l : List PX) (d : Int) (w : World) (hd : 12 < d) :
    Calls Tryd.prog 57 #[.slice a l.length c, .int .i64 d] w fun e w' => e = .returned (.int .i64 (exN f d l)) ∧ Below w.heap.size w w' := by
  have hR : exN f d l = 1000 := by cases f <;> exact if_pos hd
  rw [hR]
  clear hR
  generalize l.length = n at *
  go_enter Tryd.func57, Tryd.ntmps57
  go_wp2_with fail
  go_ret
  exact ⟨rfl, Below.refl _ _⟩
set_option maxRecDepth 100000 in
set_option maxHeartbeats 4000000 in
theorem exprs_of {f : Nat} (HL : ExX f) (HW : WtX f) : ExX (f + 1) := fun a c l d w hs hn => by
  by_cases hd : 12 < d
  · exact exprs_big _ a c l d w hd
  have HS := Lib.hid hs
  have HLL := Lib.hid HL
  have HWW := Lib.hid HW
  obtain ⟨R, hR⟩ : ∃ R, exN (f + 1) d l = R := ⟨_, rfl⟩
  rw [hR]
  have hR' : capL 60 (exS (exN f) d) l.length l = R := (if_neg hd).symm.trans hR
  have hd' : d ≤ 12 := by omega
  have HR := Lib.hid hR'
  clear hs HL HW hR hR' hd
  obtain ⟨n, hm⟩ : ∃ n, l.length = n := ⟨_, rfl⟩
  rw [hm] at hn HR ⊢
  have HM := Lib.hid hm
  clear hm
  go_enter Tryd.func57, Tryd.ntmps57
  go_wp2_with fail
  go_loopw [5, 6] (fun kv iv wr => ∃ (i : Nat) (r : Int), iv = .int .i64 i ∧ kv = .int .i64 r ∧ i ≤ n ∧ Hid (capL 60 (exS (exN f) d) r (l.drop i) = R ∧ Below w.heap.size w wr)) (fun _ iv _ => n - (intOf iv).toNat)
  case atStart => exact ⟨0, n, rfl, rfl, Nat.zero_le _, Lib.hid ⟨by rw [List.drop_zero]; exact HR.out, Below.refl _ _⟩⟩
  case round =>
    obtain ⟨i, r, rfl, rfl, hin, HB⟩ := hrel
    by_cases hi : i < n
    · have i1 : (0 : Int) ≤ (i : Int) := by omega
      have i2 : (i : Int) < (n : Int) := by omega
      have ewi : IntKind.i64.wrap ((i : Int) + 1) = (i : Int) + 1 := IntWalk.i64_in _ (by omega)
      by_cases hr : r ≤ 60
      · have hil : i < l.length := by rw [HM.out]; exact hi
        obtain ⟨b, o, xa, xc, xp, xd, rfl, hb, hxa, hxp, h4, h5, h6, h7, h8, h9, h10, h11, h12, hcs⟩ := HS.out.get i hil
        have HCS : Hid (∀ W, Below w.heap.size w W → W.cell? ⟨b, o + i * 7 + 1, none⟩ = some (.slice xa l[i].args.length xc) ∧ W.cell? ⟨b, o + i * 7 + 2, none⟩ = some (.slice xp l[i].path.length xd) ∧ Below w.heap.size w W) := Lib.hid fun W hW => ⟨(hcs W hW).2.1, (hcs W hW).2.2.1, hW⟩
        have HRL : Hid (∀ W q, Below w.heap.size w W → Calls Tryd.prog 57 #[.slice xa l[i].args.length xc, .int .i64 q] W fun e w' => e = .returned (.int .i64 (exN f q l[i].args)) ∧ Below W.heap.size W w') := Lib.hid fun W q hW => HLL.out xa xc l[i].args q W (XsAt.below hxa hW) h11
        have HRX : Hid (∀ W q, Below w.heap.size w W → Calls Tryd.prog 30 #[.slice xp l[i].path.length xd, .int .i64 q] W fun e w' => e = .returned (.int .i64 (wtN (exN f) q l[i].path)) ∧ Below W.heap.size W w') := Lib.hid fun W q hW => HWW.out xp xd l[i].path q W (SsAt.below hxp hW) h12
        have HNX : Hid (capL 60 (exS (exN f) d) (IntKind.i64.wrap (r + IntKind.i64.wrap (exN f (IntKind.i64.wrap (d + 1)) l[i].args + wtN (exN f) (IntKind.i64.wrap (d + 1)) l[i].path))) (l.drop (i + 1)) = R) := Lib.hid (by
          have := HB.out.1
          rw [List.drop_eq_getElem_cons hil, capL_cons hr] at this
          exact this)
        clear hcs hxa hxp h4 h5 h6 h7 h8 h9 h10 h11 h12 hb
        obtain ⟨dd, hdd⟩ : ∃ dd, IntKind.i64.wrap (d + 1) = dd := ⟨_, rfl⟩
        rw [hdd] at HNX
        have HRL2 : Hid (∀ W, Below w.heap.size w W → Calls Tryd.prog 57 #[.slice xa l[i].args.length xc, .int .i64 dd] W fun e w' => e = .returned (.int .i64 (exN f dd l[i].args)) ∧ Below w.heap.size w w') := Lib.hid fun W hW => (HRL.out W dd hW).mono fun e w' ⟨h1, h2⟩ => ⟨h1, hW.trans (h2.mono hW.size)⟩
        have HRX2 : Hid (∀ W, Below w.heap.size w W → Calls Tryd.prog 30 #[.slice xp l[i].path.length xd, .int .i64 dd] W fun e w' => e = .returned (.int .i64 (wtN (exN f) dd l[i].path)) ∧ Below w.heap.size w w') := Lib.hid fun W hW => (HRX.out W dd hW).mono fun e w' ⟨h1, h2⟩ => ⟨h1, hW.trans (h2.mono hW.size)⟩
        clear HRL HRX
        generalize exN f dd l[i].args = z1 at *
        generalize wtN (exN f) dd l[i].path = z2 at *
        generalize l[i].args.length = xl at *
        generalize l[i].path.length = pl at *
        have HBD := Lib.hid (HB.out.2.drew)
        have hbd := HBD.out
        obtain ⟨c1, c2, _⟩ := HCS.out _ hbd
        go_wp2_with fail
        go_region_held3 (fun w' => w'.cell? ⟨b, o + i * 7 + 1, none⟩ = some (.slice xa xl xc) ∧ w'.cell? ⟨b, o + i * 7 + 2, none⟩ = some (.slice xp pl xd) ∧ Below w.heap.size w w') (first | exact HCS.out _ hbd | exact HCS.out _ ‹_›) (first | (go_at_call 57; (with_reducible refine (HRL2.out _ ‹_›).mono ?_); rintro e w5 ⟨rfl, hb5⟩) | (go_at_call 30; (with_reducible refine (HRX2.out _ ‹_›).mono ?_); rintro e w7 ⟨rfl, hb7⟩))
        have HB8 := Lib.hid hb7
        clear hb5 hb7
        go_wp2_with fail
        go_roundw
        case rel => exact ⟨i + 1, _, by go_num, rfl, by omega, Lib.hid ⟨HNX.out, HB8.out⟩⟩
        case measure => simp [intOf]; omega
      · have hr' : 60 < r := by omega
        have HE : Hid (r = R) := Lib.hid (by rw [← HB.out.1, capL_stop hr'])
        go_wp2_with fail
        go_ret
        exact ⟨ret_int HE.out, HB.out.2⟩
    · have i4 : (n : Int) ≤ (i : Int) := by omega
      have HE : Hid (r = R) := Lib.hid (by rw [← HB.out.1, List.drop_of_length_le (by rw [HM.out]; omega)]; rfl)
      go_wp2_with fail
      go_ret
      exact ⟨ret_int HE.out, HB.out.2⟩
set_option maxRecDepth 100000 in
set_option maxHeartbeats 4000000 in
theorem exprs_zero : ExX 0 := fun a c l d w hs hn => by
  by_cases hd : 12 < d
  · exact exprs_big _ a c l d w hd
  obtain rfl : l = [] := XsAt.zero hs
  have hR : exN 0 d [] = 0 := if_neg hd
  rw [hR, show ([] : List PX).length = 0 from rfl]
  have hd' : d ≤ 12 := by omega
  clear hs hn hd hR
  go_enter Tryd.func57, Tryd.ntmps57
  go_wp2_with fail
  go_loopw [5, 6] (fun kv iv wr => iv = .int .i64 0 ∧ kv = .int .i64 0 ∧ Hid (Below w.heap.size w wr)) (fun _ _ _ => 0)
  case atStart => exact ⟨rfl, rfl, Lib.hid (Below.refl _ _)⟩
  case round =>
    obtain ⟨rfl, rfl, HB⟩ := hrel
    go_wp2_with fail
    go_ret
    exact ⟨rfl, HB.out⟩
theorem exprs_all : ∀ f, ExX f
  | 0 => exprs_zero
  | f + 1 => exprs_of (exprs_all f) (weight_of (exprs_all f))
theorem weight_all (f : Nat) : WtX f := weight_of (exprs_all f)
end Go.Proofs.YtekoflcioooncaaDoor
