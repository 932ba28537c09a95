/-
  mean.Holds; Select, From and Holds of a nil tree.
-/
import Derived.Test.YtekoflcioooncaaDoorMcZL
import Derived.Test.YtekoflcioooncaaDoorMcZE
namespace Go.Proofs.YtekoflcioooncaaDoor
open Go.RowKit

theorem w64_3 : W64 3 := by unfold W64; decide
/-- what Holds gives -/
def holdsN (T : PT) (f : Nat) (v : Int) (x : PX) : Bool := if refusesN T.N f v [.mk 3 3 [] [x]] = 0 then holdP T f v x else false

theorem XAt.len {f : Nat} {w : World} {x : PX} {cs : List Value} (h : XAt f w x cs) : ∃ c0 c1 c2 c3 c4 c5 c6, cs = [c0, c1, c2, c3, c4, c5, c6] := by
  cases f with
  | zero => exact h.elim
  | succ f => obtain ⟨a, c, p, d, h1, _⟩ := h; exact ⟨_, _, _, _, _, _, _, h1⟩

set_option maxRecDepth 100000 in
set_option maxHeartbeats 4000000 in
theorem from_nil (v : Int) (a : Option Addr) (n c : Nat) (w : World) :
    Calls Tryd.prog 18 #[.pointer none, .int .i64 v, .agg #[.slice a n c]] w fun e w' => e = .returned (.tuple #[.slice none 0 0, .int .i64 1]) ∧ Below w.heap.size w w' := by
  have hb0 : Below w.heap.size w (w.alloc (.cells #[.slice a n c] 25)) := (Below.refl _ _).alloc (Nat.le_refl _) _
  have HB0 := Lib.hid hb0
  have HR := Lib.hid (mrefuses_nil v a n c (w.alloc (.cells #[.slice a n c] 25)))
  clear hb0
  go_enter Tryd.func18, Tryd.ntmps18
  go_wp2_with fail
  (with_reducible refine HR.out.mono ?_)
  rintro e w2 ⟨rfl, hb2⟩
  have HB2 := Lib.hid (HB0.out.trans (hb2.mono HB0.out.size))
  clear hb2
  go_wp2_with fail
  go_ret2
  exact ⟨rfl, HB2.out⟩
set_option maxRecDepth 100000 in
set_option maxHeartbeats 4000000 in
theorem select_nil (a : Option Addr) (n c : Nat) (w : World) :
    Calls Tryd.prog 15 #[.pointer none, .agg #[.slice a n c]] w fun e w' => e = .returned (.tuple #[.slice none 0 0, .int .i64 1]) ∧ Below w.heap.size w w' := by
  have hb0 : Below w.heap.size w (w.alloc (.cells #[.slice a n c] 25)) := (Below.refl _ _).alloc (Nat.le_refl _) _
  have HB0 := Lib.hid hb0
  have HR := Lib.hid (from_nil (-1) a n c (w.alloc (.cells #[.slice a n c] 25)))
  clear hb0
  go_enter Tryd.func15, Tryd.ntmps15
  go_wp2_with fail
  (with_reducible refine HR.out.mono ?_)
  rintro e w2 ⟨rfl, hb2⟩
  have HB2 := Lib.hid (HB0.out.trans (hb2.mono HB0.out.size))
  clear hb2
  go_wp2_with fail
  go_ret2
  exact ⟨rfl, HB2.out⟩
/-- the memory that Holds lays out for its path -/
def holdsW (w : World) (cs : List Value) : World :=
  (((w.alloc (.cells cs.toArray 61)).alloc (.cells cs.toArray 61)).alloc (.cells #[.int .i64 3, .int .i64 3, .string ⟨#[]⟩, .slice (some ⟨w.heap.size + 1, 0, none⟩) 1 1] 57)).alloc (.cells #[.slice (some ⟨w.heap.size + 1 + 1, 0, none⟩) 1 1] 25)
theorem holdsW_spec (w : World) (cs : List Value) : Below w.heap.size w (holdsW w cs) ∧ (holdsW w cs).heap.size = w.heap.size + 4 ∧ (holdsW w cs).heap[w.heap.size]? = some (.cells cs.toArray 61 (0, 0)) ∧ (holdsW w cs).heap[w.heap.size + 1]? = some (.cells cs.toArray 61 (0, 0)) ∧
    (holdsW w cs).heap[w.heap.size + 2]? = some (.cells #[.int .i64 3, .int .i64 3, .string ⟨#[]⟩, .slice (some ⟨w.heap.size + 1, 0, none⟩) 1 1] 57 (0, 0)) := by
  unfold holdsW
  refine ⟨((((Below.refl _ _).alloc (Nat.le_refl _) _).alloc (by simp) _).alloc (by simp only [World.size_alloc]; omega) _).alloc (by simp only [World.size_alloc]; omega) _, by simp, ?_, ?_, ?_⟩
  · rw [Below.heap_alloc _ _ _ (by simp only [World.size_alloc]; omega), Below.heap_alloc _ _ _ (by simp only [World.size_alloc]; omega), Below.heap_alloc _ _ _ (by simp)]
    exact heap_alloc_new w _
  · rw [Below.heap_alloc _ _ _ (by simp only [World.size_alloc]; omega), Below.heap_alloc _ _ _ (by simp)]
    have := heap_alloc_new (w.alloc (.cells cs.toArray 61)) (.cells cs.toArray 61)
    rw [World.size_alloc] at this
    exact this
  · rw [Below.heap_alloc _ _ _ (by simp)]
    have := heap_alloc_new ((w.alloc (.cells cs.toArray 61)).alloc (.cells cs.toArray 61)) (.cells #[.int .i64 3, .int .i64 3, .string ⟨#[]⟩, .slice (some ⟨w.heap.size + 1, 0, none⟩) 1 1] 57)
    rw [World.size_alloc, World.size_alloc] at this
    exact this
theorem box7 {W : World} {G : Nat} {c0 c1 c2 c3 c4 c5 c6 : Value} (h : W.heap[G]? = some (.cells #[c0, c1, c2, c3, c4, c5, c6] 61 (0, 0))) : W.cell? ⟨G, 0, none⟩ = some c0 ∧ W.cell? ⟨G, 1, none⟩ = some c1 ∧ W.cell? ⟨G, 2, none⟩ = some c2 ∧ W.cell? ⟨G, 3, none⟩ = some c3 ∧ W.cell? ⟨G, 4, none⟩ = some c4 ∧ W.cell? ⟨G, 5, none⟩ = some c5 ∧ W.cell? ⟨G, 6, none⟩ = some c6 := by
  refine ⟨?_, ?_, ?_, ?_, ?_, ?_, ?_⟩ <;> (rw [cell_heap h]; rfl)
set_option maxRecDepth 100000 in
set_option maxHeartbeats 4000000 in
theorem holds_nil (v : Int) (c0 c1 c2 c3 c4 c5 c6 : Value) (w : World) :
    Calls Tryd.prog 24 #[.pointer none, .int .i64 v, .agg #[c0, c1, c2, c3, c4, c5, c6]] w fun e w' => e = .returned (.tuple #[.bool false, .int .i64 1]) ∧ Below w.heap.size w w' := by
  have HB0 := Lib.hid (holdsW_spec w [c0, c1, c2, c3, c4, c5, c6]).1
  have HR := Lib.hid (mrefuses_nil v (some ⟨w.heap.size + 1 + 1, 0, none⟩) 1 1 (holdsW w [c0, c1, c2, c3, c4, c5, c6]))
  have HWE : Hid (holdsW w [c0, c1, c2, c3, c4, c5, c6] = (((w.alloc (.cells #[c0, c1, c2, c3, c4, c5, c6] 61)).alloc (.cells #[c0, c1, c2, c3, c4, c5, c6] 61)).alloc (.cells #[.int .i64 3, .int .i64 3, .string ⟨#[]⟩, .slice (some ⟨w.heap.size + 1, 0, none⟩) 1 1] 57)).alloc (.cells #[.slice (some ⟨w.heap.size + 1 + 1, 0, none⟩) 1 1] 25)) := Lib.hid rfl
  generalize holdsW w [c0, c1, c2, c3, c4, c5, c6] = W0 at *
  go_enter Tryd.func24, Tryd.ntmps24
  go_wp2_with fail
  rw [← HWE.out]
  (with_reducible refine HR.out.mono ?_)
  rintro e w2 ⟨rfl, hb2⟩
  have HB2 := Lib.hid (HB0.out.trans (hb2.mono HB0.out.size))
  clear hb2
  go_wp2_with fail
  go_ret2
  exact ⟨rfl, HB2.out⟩
set_option maxRecDepth 100000 in
set_option maxHeartbeats 4000000 in
theorem mholds_any {f : Nat} (hf : f ≤ 1048576) {tb : Nat} {evs : List Ev} (v : Int) (x : PX) (cs : List Value) (w : World) (hq : TQ w tb evs) (hE : EnvT w) (hx : XAt f w x cs) :
    Calls Tryd.prog 24 #[.pointer (some ⟨tb, 0, none⟩), .int .i64 v, .agg cs.toArray] w fun e w' => e = .returned (.tuple #[.bool (holdsN (treePT evs) f v x), .int .i64 (refusesN (nodesB evs).length f v [.mk 3 3 [] [x]])]) ∧ Below w.heap.size w w' := by
  obtain ⟨hb0, hsz, hk0, hk1, hk2⟩ := holdsW_spec w cs
  have hxs : XsAt f (holdsW w cs) (some ⟨w.heap.size + 1, 0, none⟩) [x] := xs_one hk1 (by obtain ⟨_, _, _, _, _, _, _, rfl⟩ := hx.len; rfl) (XAt.turn hb0 (Nat.le_refl _) hx)
  have hss : SsAt f (holdsW w cs) (some ⟨w.heap.size + 1 + 1, 0, none⟩) [.mk 3 3 [] [x]] := ss_one (s := .mk 3 3 [] [x]) (wa := some ⟨w.heap.size + 1, 0, none⟩) (wc := 1) hk2 (Nat.le_refl _) w64_3 w64_3 (Nat.zero_le _) (Nat.le_of_ble_eq_true rfl) hxs
  have HB0 := Lib.hid hb0
  have HR := Lib.hid (refuses_any hf v (some ⟨w.heap.size + 1 + 1, 0, none⟩) 1 [.mk 3 3 [] [x]] (holdsW w cs) (hq.below hb0) (hE.below hb0) hss (Nat.le_of_ble_eq_true rfl))
  rw [show ([.mk 3 3 [] [x]] : List PS).length = 1 from rfl] at HR
  have HH : refusesN (nodesB evs).length f v [.mk 3 3 [] [x]] = 0 → Hid (∀ W, Below (holdsW w cs).heap.size (holdsW w cs) W → Calls Tryd.prog 49 #[.agg #[.pointer (some ⟨tb, 0, none⟩)], .int .i64 v, .agg cs.toArray] W fun e w' => e = .returned (.bool (holdP (treePT evs) f v x)) ∧ Below W.heap.size W w') := fun hr => by
    have hvv : -1 ≤ v ∧ v < ((nodesB evs).length : Int) := by
      unfold refusesN at hr
      split at hr
      · cases hr
      · omega
    have hck : checkN f [.mk 3 3 [] [x]] = 0 := by
      unfold refusesN at hr
      rw [if_neg (by omega)] at hr
      exact hr
    have hg := goodPB_wher (checkN_good hck) _ List.mem_cons_self
    refine Lib.hid fun W hW => ?_
    have hbW := hb0.trans (hW.mono hb0.size)
    exact holds_all tb evs f v x cs W hvv.1 hvv.2 (hq.below hbW) (XAt.turn hbW (Nat.le_refl _) hx) (by simpa [PS.wher] using hg)
  obtain ⟨c0, c1, c2, c3, c4, c5, c6, rfl⟩ := hx.len
  have HKS : Hid (∀ W, Below (holdsW w [c0, c1, c2, c3, c4, c5, c6]).heap.size (holdsW w [c0, c1, c2, c3, c4, c5, c6]) W → W.heap[w.heap.size]? = some (.cells #[c0, c1, c2, c3, c4, c5, c6] 61 (0, 0))) := Lib.hid fun W hW => (hW.block w.heap.size (by omega)).trans hk0
  have HWE : Hid (holdsW w [c0, c1, c2, c3, c4, c5, c6] = (((w.alloc (.cells #[c0, c1, c2, c3, c4, c5, c6] 61)).alloc (.cells #[c0, c1, c2, c3, c4, c5, c6] 61)).alloc (.cells #[.int .i64 3, .int .i64 3, .string ⟨#[]⟩, .slice (some ⟨w.heap.size + 1, 0, none⟩) 1 1] 57)).alloc (.cells #[.slice (some ⟨w.heap.size + 1 + 1, 0, none⟩) 1 1] 25)) := Lib.hid rfl
  clear hb0 hsz hk0 hk1 hk2 hxs hss hq hE hx
  show Calls Tryd.prog 24 #[.pointer (some ⟨tb, 0, none⟩), .int .i64 v, .agg #[c0, c1, c2, c3, c4, c5, c6]] w _
  generalize holdsW w [c0, c1, c2, c3, c4, c5, c6] = W0 at *
  unfold holdsN
  have hN : (treePT evs).N = (nodesB evs).length := rfl
  rw [hN]
  clear hN
  by_cases hr : refusesN (nodesB evs).length f v [.mk 3 3 [] [x]] = 0
  · have HHX := HH hr
    rw [if_pos hr]
    rw [hr] at HR ⊢
    clear HH hr
    generalize holdP (treePT evs) f v x = hp at *
    go_enter Tryd.func24, Tryd.ntmps24
    go_wp2_with fail
    rw [← HWE.out]
    (with_reducible refine HR.out.mono ?_)
    rintro e w2 ⟨rfl, hb2⟩
    have HB2 := Lib.hid (HB0.out.trans (hb2.mono HB0.out.size))
    have HHC := Lib.hid (HHX.out w2 hb2)
    obtain ⟨k0, k1, k2, k3, k4, k5, k6⟩ := box7 (HKS.out w2 hb2)
    clear hb2
    go_wp2_with fail
    (with_reducible refine HHC.out.mono ?_)
    rintro e w3 ⟨rfl, hb3⟩
    have HB3 := Lib.hid (HB2.out.trans (hb3.mono HB2.out.size))
    clear hb3
    go_wp2_with fail
    go_ret2
    exact ⟨rfl, HB3.out⟩
  · rw [if_neg hr]
    generalize refusesN (nodesB evs).length f v [.mk 3 3 [] [x]] = er at *
    have hr1 : ((er : Int) != 0) = true := by simp [hr]
    have hr2 : ((er : Int) == 0) = false := by simp [hr]
    clear HH hr
    go_enter Tryd.func24, Tryd.ntmps24
    go_wp2_with fail
    rw [← HWE.out]
    (with_reducible refine HR.out.mono ?_)
    rintro e w2 ⟨rfl, hb2⟩
    have HB2 := Lib.hid (HB0.out.trans (hb2.mono HB0.out.size))
    clear hb2
    go_wp2_with fail
    go_ret2
    exact ⟨rfl, HB2.out⟩
end Go.Proofs.YtekoflcioooncaaDoor

/-
  Plain facts of rows of booleans and of their numbers, for the laws that want no document: steps add up, one step alone, two predicates, union.
-/
namespace Go.Proofs.YtekoflcioooncaaDoor
open Go.RowKit

/-- the numbers of a row rise -/
def Ris (l : List Int) : Prop := l.Pairwise (· < ·)
theorem mem_trueIdx {fr : List Bool} {x : Int} : x ∈ trueIdx fr ↔ ∃ k, k < fr.length ∧ fr[k]?.getD false = true ∧ x = (k : Int) - 1 := by
  unfold trueIdx
  rw [List.mem_filterMap]
  constructor
  · rintro ⟨k, hk, h⟩
    rw [List.mem_range] at hk
    split at h
    · rename_i h1; exact ⟨k, hk, h1, (Option.some.inj h).symm⟩
    · cases h
  · rintro ⟨k, hk, h1, rfl⟩
    exact ⟨k, List.mem_range.2 hk, by rw [if_pos h1]⟩
theorem ris_filterMap (fr : List Bool) : ∀ n, Ris ((List.range n).filterMap fun (k : Nat) => if fr[k]?.getD false then some ((k : Int) - 1) else none) ∧ ∀ x ∈ ((List.range n).filterMap fun (k : Nat) => if fr[k]?.getD false then some ((k : Int) - 1) else none), x < (n : Int) - 1 := by
  intro n
  induction n with
  | zero => exact ⟨List.Pairwise.nil, fun x h => by cases h⟩
  | succ n ih =>
    rw [List.range_succ, List.filterMap_append]
    have hs : ∀ x ∈ ([n].filterMap fun (k : Nat) => if fr[k]?.getD false then some ((k : Int) - 1) else none), x = (n : Int) - 1 := by
      intro x hx
      rw [List.mem_filterMap] at hx
      obtain ⟨k, hk, h⟩ := hx
      have : k = n := by simpa using hk
      subst this
      split at h
      · exact (Option.some.inj h).symm
      · cases h
    refine ⟨List.pairwise_append.2 ⟨ih.1, ?_, fun x hx y hy => by rw [hs y hy]; exact ih.2 x hx⟩, fun x hx => ?_⟩
    · rw [List.filterMap_cons]
      split
      · exact List.Pairwise.nil
      · exact List.Pairwise.cons (fun _ h => by cases h) List.Pairwise.nil
    · rcases List.mem_append.1 hx with h | h
      · have := ih.2 x h; omega
      · have := hs x h; omega
theorem ris_trueIdx (fr : List Bool) : Ris (trueIdx fr) := (ris_filterMap fr fr.length).1
/-- rising rows with the same numbers are the same -/
theorem ris_ext : ∀ {l m : List Int}, Ris l → Ris m → (∀ x, x ∈ l ↔ x ∈ m) → l = m
  | [], [], _, _, _ => rfl
  | [], y :: m, _, _, h => by have := (h y).2 List.mem_cons_self; cases this
  | x :: l, [], _, _, h => by have := (h x).1 List.mem_cons_self; cases this
  | x :: l, y :: m, hl, hm, h => by
    obtain ⟨hx, hl2⟩ := List.pairwise_cons.1 hl
    obtain ⟨hy, hm2⟩ := List.pairwise_cons.1 hm
    have e : x = y := by
      rcases List.mem_cons.1 ((h x).1 List.mem_cons_self) with h1 | h1
      · exact h1
      · rcases List.mem_cons.1 ((h y).2 List.mem_cons_self) with h2 | h2
        · exact h2.symm
        · have := hx y h2; have := hy x h1; omega
    subst e
    rw [ris_ext hl2 hm2 fun z => ?_]
    constructor
    · intro hz
      rcases List.mem_cons.1 ((h z).1 (List.mem_cons_of_mem _ hz)) with h1 | h1
      · have := hx z hz; omega
      · exact h1
    · intro hz
      rcases List.mem_cons.1 ((h z).2 (List.mem_cons_of_mem _ hz)) with h1 | h1
      · have := hy z hz; omega
      · exact h1
theorem stepP_at (hold : Int → PX → Bool) (T : PT) (fr : List Bool) (s : PS) (k : Nat) : (stepP hold T fr s)[k]?.getD false = true ↔ k < fr.length ∧ (∃ j, j < fr.length ∧ fr[j]?.getD false = true ∧ ((k : Int) - 1) ∈ T.along ((j : Int) - 1) s.axis) ∧ meetsP T ((k : Int) - 1) s = true ∧ s.wher.all (hold ((k : Int) - 1)) = true := by
  unfold stepP
  rw [List.getElem?_map]
  rcases Nat.lt_or_ge k fr.length with h | h
  · rw [List.getElem?_range h]
    simp only [Option.map_some, Option.getD_some, Bool.and_eq_true, reachP_iff]
    exact ⟨fun ⟨a, b, c⟩ => ⟨h, a, b, c⟩, fun ⟨_, a, b, c⟩ => ⟨a, b, c⟩⟩
  · rw [List.getElem?_eq_none (by simpa using h)]
    exact ⟨fun h => (by cases h), fun ⟨h1, _⟩ => absurd h1 (by omega)⟩
theorem oneP_at (N : Nat) (n : Int) (k : Nat) : (oneP N n)[k]?.getD false = true ↔ k ≤ N ∧ (k : Int) = n + 1 := by
  unfold oneP
  rw [List.getElem?_map]
  rcases Nat.lt_or_ge k (N + 1) with h | h
  · rw [List.getElem?_range h]
    simp only [Option.map_some, Option.getD_some, decide_eq_true_eq]
    exact ⟨fun a => ⟨by omega, a⟩, fun a => a.2⟩
  · rw [List.getElem?_eq_none (by simpa using h)]
    exact ⟨fun h => (by cases h), fun ⟨h1, _⟩ => absurd h1 (by omega)⟩
theorem stepsP_cons (hold : Int → PX → Bool) (T : PT) (fr : List Bool) (s : PS) (ss : List PS) : stepsP hold T fr (s :: ss) = stepsP hold T (stepP hold T fr s) ss := rfl
theorem stepsP_app (hold : Int → PX → Bool) (T : PT) (fr : List Bool) (ss tt : List PS) : stepsP hold T fr (ss ++ tt) = stepsP hold T (stepsP hold T fr ss) tt := by unfold stepsP; rw [List.foldl_append]
/-- steps from many nodes are those from each -/
theorem stepsP_lin (hold : Int → PX → Bool) (T : PT) (N : Nat) : ∀ (ss : List PS) (fr : List Bool), fr.length = N + 1 → ∀ k : Nat, ((stepsP hold T fr ss)[k]?.getD false = true ↔ ∃ j : Nat, j < fr.length ∧ fr[j]?.getD false = true ∧ (stepsP hold T (oneP N ((j : Int) - 1)) ss)[k]?.getD false = true) := by
  intro ss
  induction ss with
  | nil =>
    intro fr hl k
    show fr[k]?.getD false = true ↔ ∃ j : Nat, j < fr.length ∧ fr[j]?.getD false = true ∧ (oneP N ((j : Int) - 1))[k]?.getD false = true
    constructor
    · intro h
      have := fr_lt h
      exact ⟨k, this, h, (oneP_at ..).2 ⟨by omega, by omega⟩⟩
    · rintro ⟨j, h1, h2, h3⟩
      have := ((oneP_at ..).1 h3).2
      have e : k = j := by omega
      rw [e]; exact h2
  | cons s ss ih =>
    intro fr hl k
    rw [stepsP_cons, ih _ (by rw [stepP_len, hl]) k, stepP_len]
    constructor
    · rintro ⟨j', h1, h2, h3⟩
      obtain ⟨_, ⟨j, q1, q2, q3⟩, q4, q5⟩ := (stepP_at ..).1 h2
      refine ⟨j, q1, q2, ?_⟩
      rw [stepsP_cons, ih _ (by rw [stepP_len, oneP_len]) k, stepP_len, oneP_len]
      refine ⟨j', by omega, (stepP_at ..).2 ⟨by rw [oneP_len]; omega, ⟨j, by rw [oneP_len]; omega, (oneP_at ..).2 ⟨by omega, by omega⟩, q3⟩, q4, q5⟩, h3⟩
    · rintro ⟨j, q1, q2, h⟩
      rw [stepsP_cons, ih _ (by rw [stepP_len, oneP_len]) k, stepP_len, oneP_len] at h
      obtain ⟨j', h1, h2, h3⟩ := h
      obtain ⟨_, ⟨i, p1, p2, p3⟩, q4, q5⟩ := (stepP_at ..).1 h2
      have hi := ((oneP_at ..).1 p2).2
      have e : i = j := by omega
      subst e
      exact ⟨j', by omega, (stepP_at ..).2 ⟨by omega, ⟨i, q1, q2, p3⟩, q4, q5⟩, h3⟩
theorem mem_fromP {T : PT} {f : Nat} {n : Int} {ss : List PS} {x : Int} : x ∈ fromP T f n ss ↔ ∃ k : Nat, x = (k : Int) - 1 ∧ (stepsP (holdP T f) T (oneP T.N n) ss)[k]?.getD false = true := by
  unfold fromP
  rw [mem_trueIdx]
  constructor
  · rintro ⟨k, _, h, e⟩; exact ⟨k, e, h⟩
  · rintro ⟨k, e, h⟩; exact ⟨k, fr_lt h, h, e⟩
theorem ris_fromP (T : PT) (f : Nat) (n : Int) (ss : List PS) : Ris (fromP T f n ss) := ris_trueIdx _
/-- one step from one node -/
theorem mem_from1 {T : PT} {f : Nat} {n : Int} {s : PS} {x : Int} (h1 : -1 ≤ n) (h2 : n < T.N) : x ∈ fromP T f n [s] ↔ -1 ≤ x ∧ x < T.N ∧ x ∈ T.along n s.axis ∧ meetsP T x s = true ∧ s.wher.all (holdP T f x) = true := by
  rw [mem_fromP]
  constructor
  · rintro ⟨k, rfl, h⟩
    obtain ⟨p1, ⟨j, p2, p3, p4⟩, p5, p6⟩ := (stepP_at ..).1 h
    rw [oneP_len] at p1
    have := ((oneP_at ..).1 p3).2
    rw [show (j : Int) - 1 = n by omega] at p4
    exact ⟨by omega, by omega, p4, p5, p6⟩
  · rintro ⟨p1, p2, p3, p4, p5⟩
    obtain ⟨k, rfl⟩ : ∃ k : Nat, x = (k : Int) - 1 := ⟨(x + 1).toNat, by omega⟩
    refine ⟨k, rfl, (stepP_at ..).2 ⟨by rw [oneP_len]; omega, ⟨(n + 1).toNat, by rw [oneP_len]; omega, (oneP_at ..).2 ⟨by omega, by omega⟩, ?_⟩, p4, p5⟩⟩
    rw [show (((n + 1).toNat : Nat) : Int) - 1 = n by omega]; exact p3
/-- a path cut in two -/
theorem mem_from_app {T : PT} {f : Nat} {n : Int} {ss tt : List PS} {x : Int} : x ∈ fromP T f n (ss ++ tt) ↔ ∃ y ∈ fromP T f n ss, x ∈ fromP T f y tt := by
  rw [mem_fromP]
  constructor
  · rintro ⟨k, rfl, h⟩
    rw [stepsP_app, stepsP_lin _ _ T.N _ _ (by rw [stepsP_len, oneP_len])] at h
    obtain ⟨j, _, q2, q3⟩ := h
    exact ⟨(j : Int) - 1, mem_fromP.2 ⟨j, rfl, q2⟩, mem_fromP.2 ⟨k, rfl, q3⟩⟩
  · rintro ⟨y, h1, h2⟩
    obtain ⟨j, rfl, q2⟩ := mem_fromP.1 h1
    obtain ⟨k, rfl, q3⟩ := mem_fromP.1 h2
    refine ⟨k, rfl, ?_⟩
    rw [stepsP_app, stepsP_lin _ _ T.N _ _ (by rw [stepsP_len, oneP_len])]
    exact ⟨j, fr_lt q2, q2, q3⟩
/-- a step by self -/
theorem from_self {evs : List Ev} {f : Nat} {n : Int} (h1 : -1 ≤ n) (h2 : n < (nodesB evs).length) (l : List PX) : fromP (treePT evs) f n [.mk 3 3 [] l] = if l.all (holdP (treePT evs) f n) then [n] else [] := by
  have hal : (treePT evs).along n 3 = [n] := alongM_self h1 h2
  have hm : ∀ x, x ∈ fromP (treePT evs) f n [.mk 3 3 [] l] ↔ x = n ∧ l.all (holdP (treePT evs) f n) = true := fun x => by
    rw [mem_from1 h1 h2]
    show _ ∧ _ ∧ x ∈ (treePT evs).along n 3 ∧ _ ∧ l.all (holdP (treePT evs) f x) = true ↔ _
    rw [hal, List.mem_singleton]
    constructor
    · rintro ⟨_, _, rfl, _, h⟩; exact ⟨rfl, h⟩
    · rintro ⟨rfl, h⟩; exact ⟨h1, h2, rfl, rfl, h⟩
  refine ris_ext (ris_fromP ..) (by split; exact List.Pairwise.cons (fun _ h => by cases h) List.Pairwise.nil; exact List.Pairwise.nil) fun x => ?_
  rw [hm]
  split
  · rename_i h; rw [List.mem_singleton]; exact ⟨fun a => a.1, fun a => ⟨a, h⟩⟩
  · rename_i h; exact ⟨fun a => absurd a.2 h, fun a => (by cases a)⟩
/-- Exists: where the path leads somewhere -/
theorem some_exists {T : PT} {fr : List Bool} {x : PX} (ha : x.attr = []) (hc : x.cmp = 0) : someP T fr x = decide (0 < (trueIdx fr).length) := by
  have hcm : ∀ v, comparesP T v x = true := fun v => by
    unfold comparesP askedP
    rw [if_pos ha, hc]
    rfl
  cases hd : decide (0 < (trueIdx fr).length) with
  | true =>
    rw [decide_eq_true_eq] at hd
    obtain ⟨y, hy⟩ := List.exists_mem_of_length_pos hd
    obtain ⟨k, h1, h2, _⟩ := mem_trueIdx.1 hy
    unfold someP
    rw [List.any_eq_true]
    exact ⟨k, List.mem_range.2 h1, by rw [h2, hcm]; rfl⟩
  | false =>
    rw [decide_eq_false_iff_not] at hd
    cases hs : someP T fr x with
    | false => rfl
    | true =>
      unfold someP at hs
      rw [List.any_eq_true] at hs
      obtain ⟨k, h1, h2⟩ := hs
      rw [Bool.and_eq_true] at h2
      have := List.length_pos_of_mem (mem_trueIdx.2 ⟨k, List.mem_range.1 h1, h2.1, rfl⟩)
      exact absurd this hd

/-- the numbers that one of two rising rows has -/
def unionL : List Int → List Int → List Int
  | a, [] => a
  | [], y :: b => y :: unionL [] b
  | x :: a, y :: b => if x < y then x :: unionL a (y :: b) else if x = y then y :: unionL a b else y :: unionL (x :: a) b
  termination_by a b => a.length + b.length
theorem unionL_nil (a : List Int) : unionL a [] = a := by unfold unionL; rfl
theorem unionL_lt {x y : Int} {a b : List Int} (h : x < y) : unionL (x :: a) (y :: b) = x :: unionL a (y :: b) := by
  rw [unionL.eq_def]; simp only; rw [if_pos h]
theorem unionL_eq {y : Int} {a b : List Int} : unionL (y :: a) (y :: b) = y :: unionL a b := by
  rw [unionL.eq_def]; simp
theorem unionL_gt {x y : Int} {a b : List Int} (h : y < x) : unionL (x :: a) (y :: b) = y :: unionL (x :: a) b := by
  rw [unionL.eq_def]; simp only; rw [if_neg (by omega), if_neg (by omega)]
theorem unionL_nilcons {y : Int} {b : List Int} : unionL [] (y :: b) = y :: unionL [] b := by
  rw [unionL.eq_def]
theorem union_all (P : List Int → List Int → List Int → Prop) (h0 : ∀ a, P a [] a) (h1 : ∀ y b u, P [] b u → P [] (y :: b) (y :: u)) (h2 : ∀ x a y b u, x < y → P a (y :: b) u → P (x :: a) (y :: b) (x :: u)) (h3 : ∀ y a b u, P a b u → P (y :: a) (y :: b) (y :: u)) (h4 : ∀ x a y b u, y < x → P (x :: a) b u → P (x :: a) (y :: b) (y :: u)) : ∀ n a b, a.length + b.length ≤ n → P a b (unionL a b) := by
  intro n
  induction n with
  | zero =>
    intro a b h
    have hb : b = [] := List.length_eq_zero_iff.1 (by omega)
    subst hb
    rw [unionL_nil]; exact h0 a
  | succ n ih =>
    intro a b h
    match a, b with
    | a, [] => rw [unionL_nil]; exact h0 a
    | [], y :: b => rw [unionL_nilcons]; exact h1 _ _ _ (ih _ _ (by simp at h ⊢; omega))
    | x :: a, y :: b =>
      simp only [List.length_cons] at h
      rcases Int.lt_trichotomy x y with hxy | hxy | hxy
      · rw [unionL_lt hxy]; exact h2 _ _ _ _ _ hxy (ih _ _ (by simp; omega))
      · subst hxy; rw [unionL_eq]; exact h3 _ _ _ _ (ih _ _ (by omega))
      · rw [unionL_gt hxy]; exact h4 _ _ _ _ _ hxy (ih _ _ (by simp; omega))
theorem mem_union (a b : List Int) (z : Int) : z ∈ unionL a b ↔ z ∈ a ∨ z ∈ b := by
  refine union_all (fun a b u => z ∈ u ↔ z ∈ a ∨ z ∈ b) (fun a => by simp) (fun y b u h => ?_) (fun x a y b u _ h => ?_) (fun y a b u h => ?_) (fun x a y b u _ h => ?_) _ a b (Nat.le_refl _)
  · rw [List.mem_cons, h]; simp
  · rw [List.mem_cons, h]; simp only [List.mem_cons]; exact or_assoc.symm
  · rw [List.mem_cons, h]; simp only [List.mem_cons]
    constructor
    · rintro (h | h | h)
      · exact .inl (.inl h)
      · exact .inl (.inr h)
      · exact .inr (.inr h)
    · rintro ((h | h) | (h | h))
      · exact .inl h
      · exact .inr (.inl h)
      · exact .inl h
      · exact .inr (.inr h)
  · rw [List.mem_cons, h]; simp only [List.mem_cons]
    constructor
    · rintro (h | (h | h) | h)
      · exact .inr (.inl h)
      · exact .inl (.inl h)
      · exact .inl (.inr h)
      · exact .inr (.inr h)
    · rintro ((h | h) | (h | h))
      · exact .inr (.inl (.inl h))
      · exact .inr (.inl (.inr h))
      · exact .inl h
      · exact .inr (.inr h)
theorem ris_union {a b : List Int} (ha : Ris a) (hb : Ris b) : Ris (unionL a b) := by
  have := union_all (fun a b u => Ris a → Ris b → Ris u ∧ ∀ z ∈ u, z ∈ a ∨ z ∈ b) (fun a h _ => ⟨h, fun z hz => .inl hz⟩) (fun y b u h ha hb => ?_) (fun x a y b u hxy h ha hb => ?_) (fun y a b u h ha hb => ?_) (fun x a y b u hxy h ha hb => ?_) _ a b (Nat.le_refl _)
  · exact (this ha hb).1
  · obtain ⟨h1, h2⟩ := List.pairwise_cons.1 hb
    obtain ⟨k1, k2⟩ := h ha h2
    refine ⟨List.pairwise_cons.2 ⟨fun z hz => ?_, k1⟩, fun z hz => ?_⟩
    · rcases k2 z hz with h | h
      · cases h
      · exact h1 z h
    · rcases List.mem_cons.1 hz with h | h
      · exact .inr (List.mem_cons.2 (.inl h))
      · rcases k2 z h with h | h
        · exact .inl h
        · exact .inr (List.mem_cons_of_mem _ h)
  · obtain ⟨h1, h2⟩ := List.pairwise_cons.1 ha
    obtain ⟨q1, _⟩ := List.pairwise_cons.1 hb
    obtain ⟨k1, k2⟩ := h h2 hb
    refine ⟨List.pairwise_cons.2 ⟨fun z hz => ?_, k1⟩, fun z hz => ?_⟩
    · rcases k2 z hz with h | h
      · exact h1 z h
      · rcases List.mem_cons.1 h with h | h
        · omega
        · have := q1 z h; omega
    · rcases List.mem_cons.1 hz with h | h
      · exact .inl (List.mem_cons.2 (.inl h))
      · rcases k2 z h with h | h
        · exact .inl (List.mem_cons_of_mem _ h)
        · exact .inr h
  · obtain ⟨h1, h2⟩ := List.pairwise_cons.1 ha
    obtain ⟨q1, q2⟩ := List.pairwise_cons.1 hb
    obtain ⟨k1, k2⟩ := h h2 q2
    refine ⟨List.pairwise_cons.2 ⟨fun z hz => ?_, k1⟩, fun z hz => ?_⟩
    · rcases k2 z hz with h | h
      · exact h1 z h
      · exact q1 z h
    · rcases List.mem_cons.1 hz with h | h
      · exact .inl (List.mem_cons.2 (.inl h))
      · rcases k2 z h with h | h
        · exact .inl (List.mem_cons_of_mem _ h)
        · exact .inr (List.mem_cons_of_mem _ h)
  · obtain ⟨h1, h2⟩ := List.pairwise_cons.1 ha
    obtain ⟨q1, q2⟩ := List.pairwise_cons.1 hb
    obtain ⟨k1, k2⟩ := h ha q2
    refine ⟨List.pairwise_cons.2 ⟨fun z hz => ?_, k1⟩, fun z hz => ?_⟩
    · rcases k2 z hz with h | h
      · rcases List.mem_cons.1 h with h | h
        · omega
        · have := h1 z h; omega
      · exact q1 z h
    · rcases List.mem_cons.1 hz with h | h
      · exact .inr (List.mem_cons.2 (.inl h))
      · rcases k2 z h with h | h
        · exact .inl h
        · exact .inr (List.mem_cons_of_mem _ h)
theorem union_len (a b : List Int) : (unionL a b).length ≤ a.length + b.length := by
  refine union_all (fun a b u => u.length ≤ a.length + b.length) (fun a => by simp) (fun y b u h => ?_) (fun x a y b u _ h => ?_) (fun y a b u h => ?_) (fun x a y b u _ h => ?_) _ a b (Nat.le_refl _)
  all_goals (simp only [List.length_cons, List.length_nil] at *; omega)
/-- all of them together -/
def sumL (g : Int → List Int) (l : List Int) : List Int := l.foldl (fun s x => unionL s (g x)) []
theorem sum_spec (g : Int → List Int) (hg : ∀ x, Ris (g x)) (l : List Int) : ∀ s, Ris s → Ris (l.foldl (fun s x => unionL s (g x)) s) ∧ ∀ z, z ∈ l.foldl (fun s x => unionL s (g x)) s ↔ z ∈ s ∨ ∃ x ∈ l, z ∈ g x := by
  induction l with
  | nil => intro s hs; exact ⟨hs, fun z => by simp⟩
  | cons x l ih =>
    intro s hs
    rw [List.foldl_cons]
    obtain ⟨h1, h2⟩ := ih _ (ris_union hs (hg x))
    refine ⟨h1, fun z => ?_⟩
    rw [h2, mem_union]
    constructor
    · rintro ((h | h) | ⟨y, hy, h⟩)
      · exact .inl h
      · exact .inr ⟨x, List.mem_cons_self, h⟩
      · exact .inr ⟨y, List.mem_cons_of_mem _ hy, h⟩
    · rintro (h | ⟨y, hy, h⟩)
      · exact .inl (.inl h)
      · rcases List.mem_cons.1 hy with rfl | hy
        · exact .inl (.inr h)
        · exact .inr ⟨y, hy, h⟩
theorem sum_len (g : Int → List Int) (B : Nat) (hg : ∀ x, (g x).length ≤ B) (l : List Int) : ∀ s : List Int, (l.foldl (fun s x => unionL s (g x)) s).length ≤ s.length + l.length * B := by
  induction l with
  | nil => intro s; simp
  | cons x l ih =>
    intro s
    rw [List.foldl_cons]
    have h1 := ih (unionL s (g x))
    have h2 := union_len s (g x)
    have h3 := hg x
    have e : (x :: l).length * B = l.length * B + B := by simp [Nat.add_mul]
    omega
/-- a path cut in two is the sum of the second part -/
theorem sum_from (T : PT) (f : Nat) (n : Int) (ss tt : List PS) : sumL (fun y => fromP T f y tt) (fromP T f n ss) = fromP T f n (ss ++ tt) := by
  have h := sum_spec (fun y => fromP T f y tt) (fun y => ris_fromP ..) (fromP T f n ss) [] List.Pairwise.nil
  refine ris_ext h.1 (ris_fromP ..) fun x => ?_
  rw [mem_from_app]
  refine (h.2 x).trans ?_
  constructor
  · rintro (h | h)
    · cases h
    · exact h
  · exact .inr
theorem from_orself {evs : List Ev} (hw : wholeB evs = true) (f : Nat) (te : Int) (nm : List UInt8) (l : List PX) : fromP (treePT evs) f (-1) [.mk 2 te nm l] = unionL (fromP (treePT evs) f (-1) [.mk 3 te nm l]) (fromP (treePT evs) f (-1) [.mk 1 te nm l]) := by
  have hx := axF_of hw
  have h2 : (-1 : Int) < (treePT evs).N := by show (-1 : Int) < ((nodesB evs).length : Int); omega
  have e2 : (treePT evs).along (-1) 2 = -1 :: (treePT evs).along (-1) 1 := alongM_orself hx.rng (by omega) h2
  have e3 : (treePT evs).along (-1) 3 = [-1] := alongM_self (by omega) h2
  refine ris_ext (ris_fromP ..) (ris_union (ris_fromP ..) (ris_fromP ..)) fun x => ?_
  rw [mem_union, mem_from1 (by omega) h2, mem_from1 (by omega) h2, mem_from1 (by omega) h2]
  show _ ∧ _ ∧ x ∈ (treePT evs).along (-1) 2 ∧ meetsP (treePT evs) x (.mk 2 te nm l) = true ∧ l.all (holdP (treePT evs) f x) = true ↔ (_ ∧ _ ∧ x ∈ (treePT evs).along (-1) 3 ∧ meetsP (treePT evs) x (.mk 3 te nm l) = true ∧ l.all (holdP (treePT evs) f x) = true) ∨ (_ ∧ _ ∧ x ∈ (treePT evs).along (-1) 1 ∧ meetsP (treePT evs) x (.mk 1 te nm l) = true ∧ l.all (holdP (treePT evs) f x) = true)
  rw [e2, e3, List.mem_cons, List.mem_singleton]
  show _ ∧ _ ∧ _ ∧ meetsP (treePT evs) x (.mk 3 te nm l) = true ∧ _ ↔ _ ∨ (_ ∧ _ ∧ _ ∧ meetsP (treePT evs) x (.mk 3 te nm l) = true ∧ _)
  constructor
  · rintro ⟨a, b, c | c, d⟩
    · exact .inl ⟨a, b, c, d⟩
    · exact .inr ⟨a, b, c, d⟩
  · rintro (⟨a, b, c, d⟩ | ⟨a, b, c, d⟩)
    · exact ⟨a, b, .inl c, d⟩
    · exact ⟨a, b, .inr c, d⟩
theorem from_child {evs : List Ev} (hw : wholeB evs = true) (f : Nat) (te : Int) (nm : List UInt8) (l : List PX) : fromP (treePT evs) f (-1) [.mk 2 3 [] [], .mk 0 te nm l] = fromP (treePT evs) f (-1) [.mk 1 te nm l] := by
  have hx := axF_of hw
  have h2 : (-1 : Int) < (treePT evs).N := by show (-1 : Int) < ((nodesB evs).length : Int); omega
  have e2 : (treePT evs).along (-1) 2 = -1 :: (treePT evs).along (-1) 1 := alongM_orself hx.rng (by omega) h2
  have e1 : (treePT evs).along (-1) 1 = rngL 0 (nodesB evs).length := alongM_desc hx.rng (by omega) h2
  have e0 : ∀ y : Int, -1 ≤ y → y < (nodesB evs).length → ∀ x, x ∈ (treePT evs).along y 0 ↔ y + 1 ≤ x ∧ x < hiOf (nodesB evs).length (lastN evs) y ∧ parN evs x.toNat = y := fun y hy1 hy2 x => by
    show x ∈ alongM (nodesB evs).length (lastN evs) y 0 ↔ _
    rw [← alongR_eq hx]
    unfold alongR
    rw [if_neg (by omega), if_neg (by omega), List.nil_append, List.mem_filter, mem_rngL]
    unfold keepR
    simp
    omega
  refine ris_ext (ris_fromP ..) (ris_fromP ..) fun x => ?_
  rw [show ([.mk 2 3 [] [], .mk 0 te nm l] : List PS) = [.mk 2 3 [] []] ++ [.mk 0 te nm l] from rfl, mem_from_app, mem_from1 (by omega) h2]
  show (∃ y ∈ fromP (treePT evs) f (-1) [.mk 2 3 [] []], _) ↔ _ ∧ _ ∧ x ∈ (treePT evs).along (-1) 1 ∧ meetsP (treePT evs) x (.mk 1 te nm l) = true ∧ l.all (holdP (treePT evs) f x) = true
  rw [e1, mem_rngL]
  constructor
  · rintro ⟨y, hy, h⟩
    obtain ⟨y1, y2, _, _, _⟩ := (mem_from1 (by omega) h2).1 hy
    obtain ⟨x1, x2, x3, x4, x5⟩ := (mem_from1 y1 y2).1 h
    obtain ⟨z1, _, _⟩ := (e0 y y1 y2 x).1 x3
    have x2' : x < ((nodesB evs).length : Int) := x2
    exact ⟨x1, x2, ⟨by omega, x2'⟩, x4, x5⟩
  · rintro ⟨x1, x2, ⟨x3, _⟩, x4, x5⟩
    have x2' : x < ((nodesB evs).length : Int) := x2
    have hp := hx.plt x.toNat (by omega)
    have hin := hx.ins x.toNat (by omega)
    have hr := hx.rng x.toNat (by omega)
    have hy2 : parN evs x.toNat < ((nodesB evs).length : Int) := by omega
    refine ⟨parN evs x.toNat, (mem_from1 (by omega) h2).2 ⟨hp.1, hy2, ?_, rfl, rfl⟩, (mem_from1 hp.1 hy2).2 ⟨x1, x2, (e0 _ hp.1 hy2 x).2 ⟨by omega, ?_, rfl⟩, x4, x5⟩⟩
    · show _ ∈ (treePT evs).along (-1) 2
      rw [e2, e1, List.mem_cons, mem_rngL]; omega
    · have hhi : hiP (nodesB evs).length (lastN evs) (parN evs x.toNat) = hiOf (nodesB evs).length (lastN evs) (parN evs x.toNat) := rfl
      rw [← hhi]; omega
end Go.Proofs.YtekoflcioooncaaDoor

/-
  gimletlaw12.asked; expressions that a law lays out.
-/
namespace Go.Proofs.YtekoflcioooncaaDoor
open Go.RowKit

/-- the path that asks expressions -/
def askP (l : List PX) : List PS := [.mk 3 3 [] l]
/-- the memory that asked lays out -/
def askedW (w : World) (cs : List Value) : World :=
  (((w.alloc (.cells cs.toArray 61)).alloc (.cells #[.slice (some ⟨w.heap.size + 1 + 1 + 1, 0, none⟩) 1 1] 25)).alloc (.cells cs.toArray 61)).alloc (.cells #[.int .i64 3, .int .i64 3, .string ⟨#[]⟩, .slice (some ⟨w.heap.size + 1 + 1, 0, none⟩) 1 1] 57)
theorem askedW_spec {f : Nat} (w : World) (x : PX) (cs : List Value) (hx : XAt f w x cs) : Below w.heap.size w (askedW w cs) ∧ SsAt f (askedW w cs) (some ⟨w.heap.size + 1 + 1 + 1, 0, none⟩) (askP [x]) := by
  have hb : Below w.heap.size w (askedW w cs) := ((((Below.refl _ _).alloc (Nat.le_refl _) _).alloc (by simp) _).alloc (by simp only [World.size_alloc]; omega) _).alloc (by simp only [World.size_alloc]; omega) _
  have hk0 : (askedW w cs).heap[w.heap.size + 1 + 1]? = some (.cells cs.toArray 61 (0, 0)) := by
    unfold askedW
    rw [Below.heap_alloc _ _ _ (by simp)]
    have := heap_alloc_new ((w.alloc (.cells cs.toArray 61)).alloc (.cells #[.slice (some ⟨w.heap.size + 1 + 1 + 1, 0, none⟩) 1 1] 25)) (.cells cs.toArray 61)
    rw [World.size_alloc, World.size_alloc] at this
    exact this
  have hk1 : (askedW w cs).heap[w.heap.size + 1 + 1 + 1]? = some (.cells #[.int .i64 3, .int .i64 3, .string ⟨#[]⟩, .slice (some ⟨w.heap.size + 1 + 1, 0, none⟩) 1 1] 57 (0, 0)) := by
    unfold askedW
    have := heap_alloc_new (((w.alloc (.cells cs.toArray 61)).alloc (.cells #[.slice (some ⟨w.heap.size + 1 + 1 + 1, 0, none⟩) 1 1] 25)).alloc (.cells cs.toArray 61)) (.cells #[.int .i64 3, .int .i64 3, .string ⟨#[]⟩, .slice (some ⟨w.heap.size + 1 + 1, 0, none⟩) 1 1] 57)
    rw [World.size_alloc, World.size_alloc, World.size_alloc] at this
    exact this
  have hxs : XsAt f (askedW w cs) (some ⟨w.heap.size + 1 + 1, 0, none⟩) [x] := xs_one hk0 (by obtain ⟨_, _, _, _, _, _, _, rfl⟩ := hx.len; rfl) (XAt.turn hb (Nat.le_refl _) hx)
  exact ⟨hb, ss_one (s := .mk 3 3 [] [x]) (wa := some ⟨w.heap.size + 1 + 1, 0, none⟩) (wc := 1) hk1 (Nat.le_refl _) w64_3 w64_3 (Nat.zero_le _) (Nat.le_of_ble_eq_true rfl) hxs⟩
set_option maxRecDepth 100000 in
set_option maxHeartbeats 4000000 in
theorem asked12_any {f : Nat} (x : PX) (cs : List Value) (w : World) (hx : XAt f w x cs) :
    Calls Tryd.prog 23 #[.agg cs.toArray] w fun e w' => ∃ G, e = .returned (.agg #[.slice (some ⟨G, 0, none⟩) 1 1]) ∧ SsAt f w' (some ⟨G, 0, none⟩) (askP [x]) ∧ Below w.heap.size w w' := by
  have HSP := Lib.hid (askedW_spec w x cs hx)
  obtain ⟨c0, c1, c2, c3, c4, c5, c6, rfl⟩ := hx.len
  show Calls Tryd.prog 23 #[.agg #[c0, c1, c2, c3, c4, c5, c6]] w _
  clear hx
  go_enter Tryd.func23, Tryd.ntmps23
  go_wp2_with fail
  refine bodyPost_ret (v := .agg #[.slice (some ⟨w.heap.size + 1 + 1 + 1, 0, none⟩) 1 1]) ?_ rfl ⟨w.heap.size + 1 + 1 + 1, rfl, HSP.out.2, HSP.out.1⟩
  rw [results_cell1 rfl]
  go_simp
/-- two expressions' row in memory -/
theorem xs_two {f : Nat} {w : World} {G : Nat} {x y : PX} {cs ds : List Value} {e : TypeId} {fz : Nat × Nat} (hG : w.heap[G]? = some (.cells (cs ++ ds).toArray e fz)) (hl : cs.length = 7) (hl2 : ds.length = 7) (hx : XAt f w x cs) (hy : XAt f w y ds) : XsAt f w (some ⟨G, 0, none⟩) [x, y] := fun i hi => by
  have hi2 : i < 2 := hi
  have h01 : i = 0 ∨ i = 1 := by omega
  rcases h01 with rfl | rfl
  · refine ⟨G, 0, cs, rfl, heap_lt hG, hl, fun j hj => ?_, hx⟩
    rw [cell_heap hG]
    simp [List.getElem?_append_left (show j < cs.length by omega)]
  · refine ⟨G, 0, ds, rfl, heap_lt hG, hl2, fun j hj => ?_, hy⟩
    rw [cell_heap hG]
    have e : 0 + 1 * 7 + j = cs.length + j := by omega
    show ((cs ++ ds).toArray)[0 + 1 * 7 + j]? = ds[j]?
    rw [e, List.getElem?_toArray, List.getElem?_append_right (by omega)]
    congr 1; omega
def notP (x : PX) : PX := .mk 2 [x] [] [] 0 [] 0
def bothP (o : Int) (x y : PX) : PX := .mk o [x, y] [] [] 0 [] 0
/-- an expression over a row of others, as it is laid out -/
theorem x_of {f : Nat} {w : World} {a : Option Addr} {c : Nat} {o : Int} {l : List PX} (hl : XsAt f w a l) (hc : l.length ≤ c) (hn : l.length ≤ 1048576) (ho : W64 o) : XAt (f + 1) w (.mk o l [] [] 0 [] 0) [.int .i64 o, .slice a l.length c, .slice none 0 0, .string ⟨#[]⟩, .int .i64 0, .string ⟨#[]⟩, .int .i64 0] := by
  have w0 : W64 0 := by unfold W64; decide
  exact ⟨a, c, none, 0, rfl, hc, Nat.le_refl _, ho, w0, w0, Nat.zero_le _, Nat.zero_le _, hn, Nat.zero_le _, hl, RowP.nil _ _ _ _⟩
theorem check_ask {f : Nat} {l : List PX} (h : checkN f (askP l) = 0) : ∀ x ∈ l, goodXB f x = true ∧ deepXN f x + 1 ≤ 200 := by
  intro x hx
  have hg := goodPB_wher (checkN_good h) _ List.mem_cons_self
  refine ⟨List.all_eq_true.1 hg x hx, ?_⟩
  unfold checkN checkB at h
  split at h
  · rename_i hc
    rw [Bool.and_eq_true, decide_eq_true_eq] at hc
    refine Nat.le_trans ?_ hc.2
    have hmax : ∀ (l : List Nat) (n : Nat), n ∈ l → n ≤ maxN l := fun l n hn => by
      have key : ∀ (l : List Nat) (a : Nat), a ≤ l.foldl max a ∧ ∀ n ∈ l, n ≤ l.foldl max a := by
        intro l
        induction l with
        | nil => intro a; exact ⟨Nat.le_refl _, fun n h => by cases h⟩
        | cons b l ih =>
          intro a
          obtain ⟨h1, h2⟩ := ih (max a b)
          refine ⟨Nat.le_trans (Nat.le_max_left _ _) h1, fun n hn => ?_⟩
          rcases List.mem_cons.1 hn with rfl | hn
          · exact Nat.le_trans (Nat.le_max_right _ _) h1
          · exact h2 n hn
      exact (key l 0).2 n hn
    unfold deepPN askP
    refine Nat.le_trans (hmax (l.map fun x => deepXN f x + 1) _ (List.mem_map.2 ⟨x, hx, rfl⟩)) (hmax _ _ ?_)
    simp [PS.wher]
  · cases h
theorem check_mk {f : Nat} {l : List PX} (h : ∀ x ∈ l, goodXB f x = true ∧ deepXN f x + 1 ≤ 200) : checkN f (askP l) = 0 := by
  have h1 : goodPB (goodXB f) (askP l) = true := by
    unfold goodPB askP goodSB
    simp only [List.isEmpty_cons, Bool.not_false, Bool.true_and, List.all_cons, List.all_nil, Bool.and_true, PS.axis, PS.test, PS.name, PS.wher]
    have : l.all (goodXB f) = true := List.all_eq_true.2 fun x hx => (h x hx).1
    rw [this]; rfl
  have h2 : deepPN (deepXN f) (askP l) ≤ 200 := by
    refine maxN_le fun n hn => ?_
    simp only [askP, List.map_cons, List.map_nil, List.mem_cons, List.not_mem_nil, or_false] at hn
    subst hn
    refine maxN_le fun m hm => ?_
    obtain ⟨x, hx, rfl⟩ := List.mem_map.1 hm
    exact (h x hx).2
  unfold checkN checkB
  rw [h1, decide_eq_true h2]
  rfl
/-- of a Some that is good, its path is -/
theorem check_path {f : Nat} {x : PX} (h : goodXB (f + 1) x = true ∧ deepXN (f + 1) x + 1 ≤ 200) (ho : x.op = 3) : checkN f x.path = 0 := by
  have h1 := goodXB_path h.1 ho
  have h2 : deepPN (deepXN f) x.path ≤ 200 := by
    have h3 := h.2
    unfold deepXN at h3
    rw [if_pos ho] at h3
    omega
  unfold checkN checkB
  rw [h1, decide_eq_true h2]
  rfl
end Go.Proofs.YtekoflcioooncaaDoor

/-
  Parts of a path in memory: its first steps, the others; one step by another axis.
-/
namespace Go.Proofs.YtekoflcioooncaaDoor
open Go.RowKit

theorem SsAt.take {f : Nat} {w : World} {a : Option Addr} {l : List PS} (h : SsAt f w a l) (k : Nat) : SsAt f w a (l.take k) := fun i hi => by
  have hi2 : i < l.length := by rw [List.length_take] at hi; omega
  obtain ⟨b, o, cs, h1, h2, h3, h4, h5⟩ := h i hi2
  exact ⟨b, o, cs, h1, h2, h3, h4, by rw [List.getElem_take]; exact h5⟩
theorem SsAt.drop {f : Nat} {w : World} {b o : Nat} {l : List PS} (h : SsAt f w (some ⟨b, o, none⟩) l) (k : Nat) : SsAt f w (some ⟨b, o + k * 4, none⟩) (l.drop k) := fun i hi => by
  have hi2 : k + i < l.length := by rw [List.length_drop] at hi; omega
  obtain ⟨b', o', cs, h1, h2, h3, h4, h5⟩ := h (k + i) hi2
  cases h1
  refine ⟨b, o + k * 4, cs, rfl, h2, h3, fun j hj => ?_, by rw [List.getElem_drop]; exact h5⟩
  rw [← h4 j hj]
  congr 2
  rw [Nat.add_mul]; omega
theorem maxN_mem : ∀ (l : List Nat) (n : Nat), n ∈ l → n ≤ maxN l := fun l n hn => by
  have key : ∀ (l : List Nat) (a : Nat), a ≤ l.foldl max a ∧ ∀ n ∈ l, n ≤ l.foldl max a := by
    intro l
    induction l with
    | nil => intro a; exact ⟨Nat.le_refl _, fun n h => by cases h⟩
    | cons b l ih =>
      intro a
      obtain ⟨h1, h2⟩ := ih (max a b)
      refine ⟨Nat.le_trans (Nat.le_max_left _ _) h1, fun n hn => ?_⟩
      rcases List.mem_cons.1 hn with rfl | hn
      · exact Nat.le_trans (Nat.le_max_right _ _) h1
      · exact h2 n hn
  exact (key l 0).2 n hn
/-- what Check says of each step -/
theorem check_steps {f : Nat} {l : List PS} (h : checkN f l = 0) : ∀ s ∈ l, goodSB (goodXB f) s = true ∧ maxN (s.wher.map fun x => deepXN f x + 1) ≤ 200 := by
  intro s hs
  have hg := checkN_good h
  refine ⟨?_, ?_⟩
  · obtain ⟨i, hi, rfl⟩ := List.getElem_of_mem hs
    exact goodPB_at hg i hi
  · unfold checkN checkB at h
    split at h
    · rename_i hc
      rw [Bool.and_eq_true, decide_eq_true_eq] at hc
      refine Nat.le_trans ?_ hc.2
      unfold deepPN
      exact maxN_mem _ _ (List.mem_map.2 ⟨s, hs, rfl⟩)
    · cases h
theorem check_of {f : Nat} {l : List PS} (hne : l ≠ []) (h : ∀ s ∈ l, goodSB (goodXB f) s = true ∧ maxN (s.wher.map fun x => deepXN f x + 1) ≤ 200) : checkN f l = 0 := by
  have h1 : goodPB (goodXB f) l = true := by
    unfold goodPB
    have : l.all (goodSB (goodXB f)) = true := List.all_eq_true.2 fun s hs => (h s hs).1
    rw [this]
    cases l with
    | nil => exact absurd rfl hne
    | cons _ _ => rfl
  have h2 : deepPN (deepXN f) l ≤ 200 := by
    refine maxN_le fun n hn => ?_
    obtain ⟨s, hs, rfl⟩ := List.mem_map.1 hn
    exact (h s hs).2
  unfold checkN checkB
  rw [h1, decide_eq_true h2]
  rfl
theorem good_axis {g : PX → Bool} {ax te : Int} {nm : List UInt8} {l : List PX} (b : Int) (hb : 0 ≤ b ∧ b ≤ 3) (h : goodSB g (.mk ax te nm l) = true) : goodSB g (.mk b te nm l) = true := by
  unfold goodSB at h ⊢
  simp only [PS.axis, PS.test, PS.name, PS.wher, Bool.and_eq_true] at h ⊢
  exact ⟨⟨⟨⟨⟨decide_eq_true hb.1, decide_eq_true hb.2⟩, h.1.1.1.2⟩, h.1.1.2⟩, h.1.2⟩, h.2⟩
/-- two steps' row in memory -/
theorem ss_two {f : Nat} {w : World} {G : Nat} {s t : PS} {cs ds : List Value} {e : TypeId} {fz : Nat × Nat} (hG : w.heap[G]? = some (.cells (cs ++ ds).toArray e fz)) (hl : cs.length = 4) (hl2 : ds.length = 4) (hs : StepAt (XAt f) w s cs) (ht : StepAt (XAt f) w t ds) : SsAt f w (some ⟨G, 0, none⟩) [s, t] := fun i hi => by
  have hi2 : i < 2 := hi
  have h01 : i = 0 ∨ i = 1 := by omega
  rcases h01 with rfl | rfl
  · refine ⟨G, 0, cs, rfl, heap_lt hG, hl, fun j hj => ?_, hs⟩
    rw [cell_heap hG]
    simp [List.getElem?_append_left (show j < cs.length by omega)]
  · refine ⟨G, 0, ds, rfl, heap_lt hG, hl2, fun j hj => ?_, ht⟩
    rw [cell_heap hG]
    have e : 0 + 1 * 4 + j = cs.length + j := by omega
    show ((cs ++ ds).toArray)[0 + 1 * 4 + j]? = ds[j]?
    rw [e, List.getElem?_toArray, List.getElem?_append_right (by omega)]
    congr 1; omega
theorem ss_row {f : Nat} {w : World} {G : Nat} {s : PS} {cs : List Value} {e : TypeId} {fz : Nat × Nat} (hG : w.heap[G]? = some (.cells cs.toArray e fz)) (hl : cs.length = 4) (hs : StepAt (XAt f) w s cs) : SsAt f w (some ⟨G, 0, none⟩) [s] := fun i hi => by
  have h0 : i = 0 := by simpa using hi
  subst h0
  refine ⟨G, 0, cs, rfl, heap_lt hG, hl, fun j hj => ?_, hs⟩
  rw [cell_heap hG]
  simp
theorem StepAt.axis {P : World → PX → List Value → Prop} {w : World} {s : PS} {wa : Option Addr} {wc : Nat} (h : StepAt P w s (stepC s wa wc)) (b : Int) (hb : W64 b) : StepAt P w (.mk b s.test s.name s.wher) [.int .i64 b, .int .i64 s.test, .string (strL s.name), .slice wa s.wher.length wc] := by
  obtain ⟨a, c, h1, h2, h3, h4, h5, h6, h7⟩ := h
  unfold stepC at h1
  injection h1 with _ h1
  injection h1 with _ h1
  injection h1 with _ h1
  injection h1 with h1 _
  injection h1 with e1 _ e2
  subst e1 e2
  exact ⟨_, _, rfl, h2, hb, h4, h5, h6, h7⟩
/-- a step's block: its axis is turned -/
def StpB (W : World) (P : Nat) (b te : Int) (nm : ByteArray) (wa : Option Addr) (wl wc : Nat) : Prop := W.heap[P]? = some (.cells #[.int .i64 b, .int .i64 te, .string nm, .slice wa wl wc] 57 (0, 0))
theorem StpB.set {W : World} {P : Nat} {b te : Int} {nm : ByteArray} {wa : Option Addr} {wl wc : Nat} (h : StpB W P b te nm wa wl wc) (b' : Int) : StpB (W.setCell ⟨P, 0, none⟩ (.int .i64 b')) P b' te nm wa wl wc := by
  unfold StpB
  rw [setCell_heap h]
  rfl
theorem StpB.cells {W : World} {P : Nat} {b te : Int} {nm : ByteArray} {wa : Option Addr} {wl wc : Nat} (h : StpB W P b te nm wa wl wc) : W.cell? ⟨P, 0, none⟩ = some (.int .i64 b) ∧ W.cell? ⟨P, 1, none⟩ = some (.int .i64 te) ∧ W.cell? ⟨P, 2, none⟩ = some (.string nm) ∧ W.cell? ⟨P, 3, none⟩ = some (.slice wa wl wc) ∧ W.frozen? ⟨P, 0, none⟩ = false := by
  refine ⟨?_, ?_, ?_, ?_, frozen_heap h⟩ <;> (rw [cell_heap h]; rfl)
theorem StpB.below {W W' : World} {P : Nat} {b te : Int} {nm : ByteArray} {wa : Option Addr} {wl wc : Nat} (h : StpB W P b te nm wa wl wc) (hb : Below W.heap.size W W') : StpB W' P b te nm wa wl wc := (hb.block P (heap_lt h)).trans h
end Go.Proofs.YtekoflcioooncaaDoor
