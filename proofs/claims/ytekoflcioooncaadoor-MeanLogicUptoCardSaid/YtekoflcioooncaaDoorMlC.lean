/-
  The law MeanLogic.
-/
import Derived.Test.YtekoflcioooncaaDoorMlA
import Derived.Test.YtekoflcioooncaaDoorMlB
import Derived.BigQuiet
namespace Go.Proofs.YtekoflcioooncaaDoor
open Go.RowKit

theorem strL_ne {l : List UInt8} (h : l ≠ []) : (strL l).toList.isEmpty = false := by
  have e : (strL l).toList = l := by rw [strL_toList]
  rw [e]
  cases l with
  | nil => exact absurd rfl h
  | cons _ _ => rfl
/-- what the law lays out: not x, x and y, x or y -/
def logW (w : World) (cs ds : List Value) : World :=
  (((((w.alloc (.cells cs.toArray 61)).alloc (.cells #[.int .i64 2, .slice (some ⟨w.heap.size, 0, none⟩) 1 1, .slice none 0 0, .string ⟨#[]⟩, .int .i64 0, .string ⟨#[]⟩, .int .i64 0] 61)).alloc
    (.cells (cs ++ ds).toArray 61)).alloc (.cells #[.int .i64 0, .slice (some ⟨w.heap.size + 1 + 1, 0, none⟩) 2 2, .slice none 0 0, .string ⟨#[]⟩, .int .i64 0, .string ⟨#[]⟩, .int .i64 0] 61)).alloc
    (.cells (cs ++ ds).toArray 61)).alloc (.cells #[.int .i64 1, .slice (some ⟨w.heap.size + 1 + 1 + 1 + 1, 0, none⟩) 2 2, .slice none 0 0, .string ⟨#[]⟩, .int .i64 0, .string ⟨#[]⟩, .int .i64 0] 61)
def opX (o : Int) (g n : Nat) : List Value := [.int .i64 o, .slice (some ⟨g, 0, none⟩) n n, .slice none 0 0, .string ⟨#[]⟩, .int .i64 0, .string ⟨#[]⟩, .int .i64 0]
theorem alloc_at (w : World) (o : Obj) {k : Nat} (h : k = w.heap.size) : (w.alloc o).heap[k]? = some o := by subst h; exact heap_alloc_new w o
theorem logW_spec {f : Nat} (w : World) (x y : PX) (cs ds : List Value) (hx : XAt f w x cs) (hy : XAt f w y ds) : Below w.heap.size w (logW w cs ds) ∧ (logW w cs ds).heap.size = w.heap.size + 6 ∧
    (logW w cs ds).heap[w.heap.size + 1]? = some (.cells (opX 2 w.heap.size 1).toArray 61 (0, 0)) ∧ (logW w cs ds).heap[w.heap.size + 1 + 1 + 1]? = some (.cells (opX 0 (w.heap.size + 1 + 1) 2).toArray 61 (0, 0)) ∧ (logW w cs ds).heap[w.heap.size + 1 + 1 + 1 + 1 + 1]? = some (.cells (opX 1 (w.heap.size + 1 + 1 + 1 + 1) 2).toArray 61 (0, 0)) ∧
    XAt (f + 1) (logW w cs ds) (notP x) (opX 2 w.heap.size 1) ∧ XAt (f + 1) (logW w cs ds) (bothP 0 x y) (opX 0 (w.heap.size + 1 + 1) 2) ∧ XAt (f + 1) (logW w cs ds) (bothP 1 x y) (opX 1 (w.heap.size + 1 + 1 + 1 + 1) 2) := by
  have hcs : cs.length = 7 := by obtain ⟨_, _, _, _, _, _, _, rfl⟩ := hx.len; rfl
  have hds : ds.length = 7 := by obtain ⟨_, _, _, _, _, _, _, rfl⟩ := hy.len; rfl
  have hb : Below w.heap.size w (logW w cs ds) := ((((((Below.refl _ _).alloc (Nat.le_refl _) _).alloc (by simp) _).alloc (by simp only [World.size_alloc]; omega) _).alloc (by simp only [World.size_alloc]; omega) _).alloc (by simp only [World.size_alloc]; omega) _).alloc (by simp only [World.size_alloc]; omega) _
  have k0 : (logW w cs ds).heap[w.heap.size]? = some (.cells cs.toArray 61 (0, 0)) := by
    unfold logW
    iterate 5 rw [Below.heap_alloc _ _ _ (by simp only [World.size_alloc]; omega)]
    exact alloc_at _ _ rfl
  have k1 : (logW w cs ds).heap[w.heap.size + 1]? = some (.cells (opX 2 w.heap.size 1).toArray 61 (0, 0)) := by
    unfold logW
    iterate 4 rw [Below.heap_alloc _ _ _ (by simp only [World.size_alloc]; omega)]
    exact alloc_at _ _ (by simp only [World.size_alloc])
  have k2 : (logW w cs ds).heap[w.heap.size + 1 + 1]? = some (.cells (cs ++ ds).toArray 61 (0, 0)) := by
    unfold logW
    iterate 3 rw [Below.heap_alloc _ _ _ (by simp only [World.size_alloc]; omega)]
    exact alloc_at _ _ (by simp only [World.size_alloc])
  have k3 : (logW w cs ds).heap[w.heap.size + 1 + 1 + 1]? = some (.cells (opX 0 (w.heap.size + 1 + 1) 2).toArray 61 (0, 0)) := by
    unfold logW
    iterate 2 rw [Below.heap_alloc _ _ _ (by simp only [World.size_alloc]; omega)]
    exact alloc_at _ _ (by simp only [World.size_alloc])
  have k4 : (logW w cs ds).heap[w.heap.size + 1 + 1 + 1 + 1]? = some (.cells (cs ++ ds).toArray 61 (0, 0)) := by
    unfold logW
    rw [Below.heap_alloc _ _ _ (by simp only [World.size_alloc]; omega)]
    exact alloc_at _ _ (by simp only [World.size_alloc])
  have k5 : (logW w cs ds).heap[w.heap.size + 1 + 1 + 1 + 1 + 1]? = some (.cells (opX 1 (w.heap.size + 1 + 1 + 1 + 1) 2).toArray 61 (0, 0)) := by
    unfold logW
    exact alloc_at _ _ (by simp only [World.size_alloc])
  have hx' := XAt.turn hb (Nat.le_refl _) hx
  have hy' := XAt.turn hb (Nat.le_refl _) hy
  have w0 : W64 0 := by unfold W64; decide
  have w1 : W64 1 := by unfold W64; decide
  have w2 : W64 2 := by unfold W64; decide
  refine ⟨hb, by simp [logW], k1, k3, k5, ?_, ?_, ?_⟩
  · exact x_of (l := [x]) (c := 1) (xs_one k0 hcs hx') (Nat.le_refl _) (Nat.le_of_ble_eq_true rfl) w2
  · exact x_of (l := [x, y]) (c := 2) (xs_two k2 hcs hds hx' hy') (Nat.le_refl _) (Nat.le_of_ble_eq_true rfl) w0
  · exact x_of (l := [x, y]) (c := 2) (xs_two k4 hcs hds hx' hy') (Nat.le_refl _) (Nat.le_of_ble_eq_true rfl) w1
/-- and a step that asks both -/
def twoW (w : World) (cs ds : List Value) : World :=
  ((w.alloc (.cells (cs ++ ds).toArray 61)).alloc (.cells #[.int .i64 3, .int .i64 3, .string ⟨#[]⟩, .slice (some ⟨w.heap.size, 0, none⟩) 2 2] 57)).alloc (.cells #[.slice (some ⟨w.heap.size + 1, 0, none⟩) 1 1] 25)
theorem twoW_spec {f : Nat} (w : World) (x y : PX) (cs ds : List Value) (hx : XAt f w x cs) (hy : XAt f w y ds) : Below w.heap.size w (twoW w cs ds) ∧ (twoW w cs ds).heap.size = w.heap.size + 3 ∧
    (twoW w cs ds).heap[w.heap.size + 1 + 1]? = some (.cells #[.slice (some ⟨w.heap.size + 1, 0, none⟩) 1 1] 25 (0, 0)) ∧ SsAt f (twoW w cs ds) (some ⟨w.heap.size + 1, 0, none⟩) (askP [x, y]) := by
  have hcs : cs.length = 7 := by obtain ⟨_, _, _, _, _, _, _, rfl⟩ := hx.len; rfl
  have hds : ds.length = 7 := by obtain ⟨_, _, _, _, _, _, _, rfl⟩ := hy.len; rfl
  have hb : Below w.heap.size w (twoW w cs ds) := (((Below.refl _ _).alloc (Nat.le_refl _) _).alloc (by simp) _).alloc (by simp only [World.size_alloc]; omega) _
  have k0 : (twoW w cs ds).heap[w.heap.size]? = some (.cells (cs ++ ds).toArray 61 (0, 0)) := by
    unfold twoW
    iterate 2 rw [Below.heap_alloc _ _ _ (by simp only [World.size_alloc]; omega)]
    exact alloc_at _ _ rfl
  have k1 : (twoW w cs ds).heap[w.heap.size + 1]? = some (.cells #[.int .i64 3, .int .i64 3, .string ⟨#[]⟩, .slice (some ⟨w.heap.size, 0, none⟩) 2 2] 57 (0, 0)) := by
    unfold twoW
    rw [Below.heap_alloc _ _ _ (by simp only [World.size_alloc]; omega)]
    exact alloc_at _ _ (by simp only [World.size_alloc])
  have k2 : (twoW w cs ds).heap[w.heap.size + 1 + 1]? = some (.cells #[.slice (some ⟨w.heap.size + 1, 0, none⟩) 1 1] 25 (0, 0)) := by
    unfold twoW
    exact alloc_at _ _ (by simp only [World.size_alloc])
  refine ⟨hb, by simp [twoW], k2, ?_⟩
  exact ss_one (s := .mk 3 3 [] [x, y]) (wa := some ⟨w.heap.size, 0, none⟩) (wc := 2) k1 (Nat.le_refl _) w64_3 w64_3 (Nat.zero_le _) (Nat.le_of_ble_eq_true rfl) (xs_two k0 hcs hds (XAt.turn hb (Nat.le_refl _) hx) (XAt.turn hb (Nat.le_refl _) hy))
theorem calls_eq {P : Program} {f : Nat} {args : Array Value} {W W' : World} {Q : Ending → World → Prop} (h : W = W') (hc : Calls P f args W' Q) : Calls P f args W Q := h ▸ hc
def frL (v0 v1 v2 : Value) (P4 P5 tb P9 P10 P11 P12 : Nat) (t : Array Value) : Array Value :=
  #[v0, v1, v2, slotOf t 3, .pointer (some ⟨P4, 0, none⟩), .pointer (some ⟨P5, 0, none⟩), slotOf t 6, .pointer (some ⟨tb, 0, none⟩), slotOf t 8, .pointer (some ⟨P9, 0, none⟩), .pointer (some ⟨P10, 0, none⟩), .pointer (some ⟨P11, 0, none⟩), .pointer (some ⟨P12, 0, none⟩), slotOf t 13, slotOf t 14, slotOf t 15, slotOf t 16, slotOf t 17, slotOf t 18, slotOf t 19, slotOf t 20, slotOf t 21, slotOf t 22, slotOf t 23, slotOf t 24, slotOf t 25, slotOf t 26, slotOf t 27, slotOf t 28, slotOf t 29, slotOf t 30, slotOf t 31, slotOf t 32, slotOf t 33, slotOf t 34, slotOf t 35, slotOf t 36, slotOf t 37, slotOf t 38, slotOf t 39, slotOf t 40, slotOf t 41, slotOf t 42, slotOf t 43, slotOf t 44, slotOf t 45, slotOf t 46, slotOf t 47, slotOf t 48, slotOf t 49, slotOf t 50, slotOf t 51, slotOf t 52, slotOf t 53, slotOf t 54, slotOf t 55, slotOf t 56, slotOf t 57, slotOf t 58, slotOf t 59, slotOf t 60, slotOf t 61, slotOf t 62, slotOf t 63, slotOf t 64, slotOf t 65, slotOf t 66, slotOf t 67, slotOf t 68, slotOf t 69, slotOf t 70, slotOf t 71, slotOf t 72, slotOf t 73, slotOf t 74, slotOf t 75, slotOf t 76, slotOf t 77, slotOf t 78, slotOf t 79, slotOf t 80, slotOf t 81, slotOf t 82, slotOf t 83, slotOf t 84, slotOf t 85, slotOf t 86, slotOf t 87, slotOf t 88, slotOf t 89, slotOf t 90, slotOf t 91, slotOf t 92, slotOf t 93, slotOf t 94, slotOf t 95, slotOf t 96, slotOf t 97, slotOf t 98, slotOf t 99, slotOf t 100, slotOf t 101, slotOf t 102, slotOf t 103, slotOf t 104, slotOf t 105, slotOf t 106, slotOf t 107, slotOf t 108, slotOf t 109, slotOf t 110, slotOf t 111, slotOf t 112, slotOf t 113, slotOf t 114, slotOf t 115, slotOf t 116, slotOf t 117, slotOf t 118, slotOf t 119, slotOf t 120, slotOf t 121, slotOf t 122, slotOf t 123, slotOf t 124, slotOf t 125, slotOf t 126, slotOf t 127, slotOf t 128, slotOf t 129, slotOf t 130, slotOf t 131, slotOf t 132, slotOf t 133, slotOf t 134, slotOf t 135, slotOf t 136, slotOf t 137, slotOf t 138, slotOf t 139, slotOf t 140, slotOf t 141, slotOf t 142, slotOf t 143, slotOf t 144, slotOf t 145, slotOf t 146, slotOf t 147, slotOf t 148, slotOf t 149, slotOf t 150, slotOf t 151, slotOf t 152, slotOf t 153, slotOf t 154, slotOf t 155, slotOf t 156, slotOf t 157, slotOf t 158, slotOf t 159, slotOf t 160, slotOf t 161, slotOf t 162, slotOf t 163, slotOf t 164, slotOf t 165, slotOf t 166, slotOf t 167, slotOf t 168, slotOf t 169, slotOf t 170, slotOf t 171, slotOf t 172, slotOf t 173, slotOf t 174, slotOf t 175, slotOf t 176, slotOf t 177, slotOf t 178, slotOf t 179, slotOf t 180, slotOf t 181, slotOf t 182, slotOf t 183, slotOf t 184, slotOf t 185, slotOf t 186, slotOf t 187, slotOf t 188, slotOf t 189, slotOf t 190, slotOf t 191, slotOf t 192, slotOf t 193, slotOf t 194, slotOf t 195, slotOf t 196, slotOf t 197, slotOf t 198, slotOf t 199, slotOf t 200, slotOf t 201, slotOf t 202, slotOf t 203, slotOf t 204, slotOf t 205, slotOf t 206, slotOf t 207, slotOf t 208, slotOf t 209, slotOf t 210, slotOf t 211, slotOf t 212, slotOf t 213, slotOf t 214, slotOf t 215, slotOf t 216, slotOf t 217, slotOf t 218, slotOf t 219, slotOf t 220, slotOf t 221, slotOf t 222, slotOf t 223, slotOf t 224, slotOf t 225, slotOf t 226, slotOf t 227, slotOf t 228, slotOf t 229, slotOf t 230, slotOf t 231, slotOf t 232]

set_option maxRecDepth 1000000 in
set_option maxHeartbeats 8000000 in
theorem meanLogic_of {f : Nat} (hf : f + 2 ≤ 1048576) (a : Option Addr) (n c : Nat) (evs : List Ev) (x y : PX) (cs ds : List Value) (w : World) (hE : EnvT w) (hev : EvsAt w a n evs) (hw : wtEs evs ≤ 1048576) (hx : XAt (f + 1) w x cs) (hy : XAt (f + 1) w y ds) :
    Calls Tryd.prog 7 #[.slice a n c, .agg cs.toArray, .agg ds.toArray] w fun e w' => e = .returned (.bool true) ∧ Below w.heap.size w w' := by
  have hn : n ≤ 1048576 := by have := wtEs_length evs; have := hev.1; omega
  obtain ⟨W0, hW0⟩ : ∃ W0, W0 = (w.alloc (.cells cs.toArray 61)).alloc (.cells ds.toArray 61) := ⟨_, rfl⟩
  have hb0 : Below w.heap.size w W0 := by rw [hW0]; exact ((Below.refl w.heap.size w).alloc (Nat.le_refl _) _).alloc (by simp) _
  have hsz0 : W0.heap.size = w.heap.size + 2 := by rw [hW0]; simp
  have hk4 : W0.heap[w.heap.size]? = some (.cells cs.toArray 61 (0, 0)) := by
    rw [hW0, Below.heap_alloc _ _ _ (by simp)]; exact heap_alloc_new w _
  have hk5 : W0.heap[w.heap.size + 1]? = some (.cells ds.toArray 61 (0, 0)) := by
    rw [hW0]; exact alloc_at _ _ (by simp)
  have HKS : Hid (∀ W, Below W0.heap.size W0 W → W.heap[w.heap.size]? = some (.cells cs.toArray 61 (0, 0)) ∧ W.heap[w.heap.size + 1]? = some (.cells ds.toArray 61 (0, 0))) := Lib.hid fun W hW =>
    ⟨(hW.block w.heap.size (by omega)).trans hk4, (hW.block (w.heap.size + 1) (by omega)).trans hk5⟩
  have FIN : Hid (∀ W, Below W0.heap.size W0 W → Below w.heap.size w W) := Lib.hid fun W hW => hb0.trans (hW.mono hb0.size)
  have HAW := Lib.hid (awake12_any steps_all W0 (hE.below hb0))
  have HBD : Hid (∀ W, Below W0.heap.size W0 W → Calls Tryd.prog 10 #[.slice a n c] W fun e w' => ((wholeB evs = true ∧ ∃ tb, e = .returned (.tuple #[.pointer (some ⟨tb, 0, none⟩), .int .i64 0]) ∧ TreeAt w' W.heap.size tb evs) ∨ (wholeB evs = false ∧ e = .returned (.tuple #[.pointer none, .int .i64 6]))) ∧ Below W.heap.size W w') := Lib.hid fun W hW =>
    treeBuild_any a n c evs W (hev.below (FIN.out W hW)) hn (evsSm hw) (hE.below (FIN.out W hW)).rng (hE.below (FIN.out W hW)).tab
  have HAX : Hid (∀ W, Below W0.heap.size W0 W → Calls Tryd.prog 23 #[.agg cs.toArray] W fun e w' => ∃ G, e = .returned (.agg #[.slice (some ⟨G, 0, none⟩) 1 1]) ∧ SsAt (f + 1) w' (some ⟨G, 0, none⟩) (askP [x]) ∧ Below W.heap.size W w') := Lib.hid fun W hW => asked12_any x cs W (XAt.turn (FIN.out W hW) (Nat.le_refl _) hx)
  have HAY : Hid (∀ W, Below W0.heap.size W0 W → Calls Tryd.prog 23 #[.agg ds.toArray] W fun e w' => ∃ G, e = .returned (.agg #[.slice (some ⟨G, 0, none⟩) 1 1]) ∧ SsAt (f + 1) w' (some ⟨G, 0, none⟩) (askP [y]) ∧ Below W.heap.size W w') := Lib.hid fun W hW => asked12_any y ds W (XAt.turn (FIN.out W hW) (Nat.le_refl _) hy)
  have HLT : Hid (∀ W (F G : Nat) (z : PX), SsAt F W (some ⟨G, 0, none⟩) (askP [z]) → Calls Tryd.prog 11 #[.agg #[.slice (some ⟨G, 0, none⟩) 1 1]] W fun e w' => SomeB e ∧ Below W.heap.size W w') := Lib.hid fun W F G z h => light_any (some ⟨G, 0, none⟩) 1 (askP [z]) W h (Nat.le_of_ble_eq_true rfl)
  have HCK : Hid (∀ W (F G : Nat) (z : PX), F ≤ 1048576 → Below W0.heap.size W0 W → SsAt F W (some ⟨G, 0, none⟩) (askP [z]) → Calls Tryd.prog 14 #[.agg #[.slice (some ⟨G, 0, none⟩) 1 1]] W fun e w' => e = .returned (.int .i64 (checkN F (askP [z]))) ∧ Below W.heap.size W w') := Lib.hid fun W F G z hF hW h => check_any hF (some ⟨G, 0, none⟩) 1 (askP [z]) W (hE.below (FIN.out W hW)) h (Nat.le_of_ble_eq_true rfl)
  have HENV : Hid (∀ W, Below W0.heap.size W0 W → EnvT W) := Lib.hid fun W hW => hE.below (FIN.out W hW)
  have HWT := Lib.hid hw
  have HXX : Hid (∀ W, Below W0.heap.size W0 W → XAt (f + 1) W x cs ∧ XAt (f + 1) W y ds) := Lib.hid fun W hW => ⟨XAt.turn (FIN.out W hW) (Nat.le_refl _) hx, XAt.turn (FIN.out W hW) (Nat.le_refl _) hy⟩
  have HW0E := Lib.hid hW0
  obtain ⟨aa, ac, pa, pc, rfl, hal, hpl, _, _, _, hatl, htxl, hargl, hpathl, hargs, hpath⟩ := hx
  have HPA : Hid (∀ W, Below W0.heap.size W0 W → SsAt f W pa x.path) := Lib.hid fun W hW => SsAt.below hpath (FIN.out W hW)
  have HPL := Lib.hid hpathl
  obtain ⟨y0, y1, y2, y3, y4, y5, y6, rfl⟩ := hy.len
  clear hW0 hb0 hsz0 hk4 hk5 hE hev hw hy hal hpl hatl htxl hargl hpathl hargs hpath hn
  show Calls Tryd.prog 7 #[.slice a n c, .agg #[.int .i64 x.op, .slice aa x.args.length ac, .slice pa x.path.length pc, .string (strL x.attr), .int .i64 x.cmp, .string (strL x.text), .int .i64 x.num], .agg #[y0, y1, y2, y3, y4, y5, y6]] w _
  go_enter Tryd.func7, Tryd.ntmps7
  go_wp2_with fail
  rw [← HW0E.out]
  (with_reducible refine HAW.out.mono ?_)
  rintro e w1 ⟨rfl, hb1⟩
  have HB1 := Lib.hid hb1
  have HBDX := Lib.hid (HBD.out w1 hb1)
  clear hb1
  go_wp2_with fail
  (with_reducible refine HBDX.out.mono ?_)
  rintro e w2 ⟨he, hb2⟩
  have HB2 := Lib.hid (HB1.out.trans (hb2.mono HB1.out.size))
  clear hb2
  rcases he with ⟨hwh, tb, rfl, htr⟩ | ⟨_, rfl⟩
  rotate_left
  · go_wp2_with fail
    go_ret
    exact ⟨rfl, FIN.out _ HB2.out⟩
  have HTR := Lib.hid htr
  have HWH := Lib.hid hwh
  clear htr hwh
  have HLEN : Hid (∀ W, Below w2.heap.size w2 W → Calls Tryd.prog 12 #[.pointer (some ⟨tb, 0, none⟩)] W fun e w' => e = .returned (.int .i64 ((nodesB evs).length : Nat)) ∧ w' = W) := Lib.hid fun W hW => len_any (treeLast (HTR.out.below hW) HWH.out)
  obtain ⟨p0, p1, p2, p3, p4, p5, p6⟩ := box7 (HKS.out w2 HB2.out).1
  have HA2 := Lib.hid (HAX.out w2 HB2.out)
  go_wp2_with fail
  (with_reducible refine HA2.out.mono ?_)
  rintro e w3 ⟨G3, rfl, hs3, hb3⟩
  have HB3 := Lib.hid (HB2.out.trans (hb3.mono HB2.out.size))
  have HB23 := Lib.hid hb3
  have HL3 := Lib.hid (HLT.out w3 _ G3 x hs3)
  clear hs3 hb3 p0 p1 p2 p3 p4 p5 p6
  go_wp2_with fail
  (with_reducible refine HL3.out.mono ?_)
  rintro e w4 ⟨⟨b4, rfl⟩, hb4⟩
  have HB4 := Lib.hid (HB3.out.trans (hb4.mono HB3.out.size))
  have HB24 := Lib.hid (HB23.out.trans (hb4.mono HB23.out.size))
  clear hb4
  obtain ⟨p0, p1, p2, p3, p4, p5, p6⟩ := box7 (HKS.out w4 HB4.out).1
  obtain ⟨q0, q1, q2, q3, q4, q5, q6⟩ := box7 (HKS.out w4 HB4.out).2
  cases b4 with
  | false =>
    go_wp2_with fail
    go_ret
    exact ⟨rfl, FIN.out _ HB4.out⟩
  | true =>
    have HA4 := Lib.hid (HAY.out w4 HB4.out)
    go_wp2_with fail
    (with_reducible refine HA4.out.mono ?_)
    rintro e w5 ⟨G5, rfl, hs5, hb5⟩
    have HB5 := Lib.hid (HB4.out.trans (hb5.mono HB4.out.size))
    have HB25 := Lib.hid (HB24.out.trans (hb5.mono HB24.out.size))
    have HL5 := Lib.hid (HLT.out w5 _ G5 y hs5)
    clear hs5 hb5 p0 p1 p2 p3 p4 p5 p6 q0 q1 q2 q3 q4 q5 q6
    go_wp2_with fail
    (with_reducible refine HL5.out.mono ?_)
    rintro e w6 ⟨⟨b6, rfl⟩, hb6⟩
    have HB6 := Lib.hid (HB5.out.trans (hb6.mono HB5.out.size))
    have HB26 := Lib.hid (HB25.out.trans (hb6.mono HB25.out.size))
    clear hb6
    have HLN6 := Lib.hid (HLEN.out w6 HB26.out)
    cases b6 with
    | false =>
      go_wp2_with fail
      go_ret
      exact ⟨rfl, FIN.out _ HB6.out⟩
    | true =>
      obtain ⟨N, hN⟩ : ∃ N, (nodesB evs).length = N := ⟨_, rfl⟩
      rw [hN] at HLN6 HLEN
      have HNN := Lib.hid hN
      clear hN
      by_cases h60 : 60 < N
      · have h60' : (60 : Int) < (N : Int) := by omega
        go_wp2_with fail
        (with_reducible refine HLN6.out.mono ?_)
        rintro e w7 ⟨rfl, rfl⟩
        go_wp2_with fail
        go_ret
        exact ⟨rfl, FIN.out _ HB6.out⟩
      have h60' : (N : Int) ≤ 60 := by omega
      have HTQ : Hid (∀ W, Below w2.heap.size w2 W → TQ W tb evs) := Lib.hid fun W hW => tq_of (HTR.out.below hW) HWH.out HWT.out (by rw [HNN.out]; omega)
      obtain ⟨p0, p1, p2, p3, p4, p5, p6⟩ := box7 (HKS.out w6 HB6.out).1
      obtain ⟨q0, q1, q2, q3, q4, q5, q6⟩ := box7 (HKS.out w6 HB6.out).2
      have HQ2 : Hid (∀ o1 o2 : Obj, Below W0.heap.size W0 ((w6.alloc o1).alloc o2)) := Lib.hid fun o1 o2 => ((HB6.out.alloc HB6.out.size _).alloc (HB6.out.alloc HB6.out.size _).size _)
      have p0_2 := fun o1 o2 : Obj => (box7 (HKS.out _ (HQ2.out o1 o2)).1).1
      have p1_2 := fun o1 o2 : Obj => (box7 (HKS.out _ (HQ2.out o1 o2)).1).2.1
      have p2_2 := fun o1 o2 : Obj => (box7 (HKS.out _ (HQ2.out o1 o2)).1).2.2.1
      have p3_2 := fun o1 o2 : Obj => (box7 (HKS.out _ (HQ2.out o1 o2)).1).2.2.2.1
      have p4_2 := fun o1 o2 : Obj => (box7 (HKS.out _ (HQ2.out o1 o2)).1).2.2.2.2.1
      have p5_2 := fun o1 o2 : Obj => (box7 (HKS.out _ (HQ2.out o1 o2)).1).2.2.2.2.2.1
      have p6_2 := fun o1 o2 : Obj => (box7 (HKS.out _ (HQ2.out o1 o2)).1).2.2.2.2.2.2
      have q0_2 := fun o1 o2 : Obj => (box7 (HKS.out _ (HQ2.out o1 o2)).2).1
      have q1_2 := fun o1 o2 : Obj => (box7 (HKS.out _ (HQ2.out o1 o2)).2).2.1
      have q2_2 := fun o1 o2 : Obj => (box7 (HKS.out _ (HQ2.out o1 o2)).2).2.2.1
      have q3_2 := fun o1 o2 : Obj => (box7 (HKS.out _ (HQ2.out o1 o2)).2).2.2.2.1
      have q4_2 := fun o1 o2 : Obj => (box7 (HKS.out _ (HQ2.out o1 o2)).2).2.2.2.2.1
      have q5_2 := fun o1 o2 : Obj => (box7 (HKS.out _ (HQ2.out o1 o2)).2).2.2.2.2.2.1
      have q6_2 := fun o1 o2 : Obj => (box7 (HKS.out _ (HQ2.out o1 o2)).2).2.2.2.2.2.2
      have HQ4 : Hid (∀ o1 o2 o3 o4 : Obj, Below W0.heap.size W0 ((((w6.alloc o1).alloc o2).alloc o3).alloc o4)) := Lib.hid fun o1 o2 o3 o4 => ((((HB6.out.alloc HB6.out.size _).alloc (HB6.out.alloc HB6.out.size _).size _).alloc ((HB6.out.alloc HB6.out.size _).alloc (HB6.out.alloc HB6.out.size _).size _).size _).alloc (((HB6.out.alloc HB6.out.size _).alloc (HB6.out.alloc HB6.out.size _).size _).alloc ((HB6.out.alloc HB6.out.size _).alloc (HB6.out.alloc HB6.out.size _).size _).size _).size _)
      have p0_4 := fun o1 o2 o3 o4 : Obj => (box7 (HKS.out _ (HQ4.out o1 o2 o3 o4)).1).1
      have p1_4 := fun o1 o2 o3 o4 : Obj => (box7 (HKS.out _ (HQ4.out o1 o2 o3 o4)).1).2.1
      have p2_4 := fun o1 o2 o3 o4 : Obj => (box7 (HKS.out _ (HQ4.out o1 o2 o3 o4)).1).2.2.1
      have p3_4 := fun o1 o2 o3 o4 : Obj => (box7 (HKS.out _ (HQ4.out o1 o2 o3 o4)).1).2.2.2.1
      have p4_4 := fun o1 o2 o3 o4 : Obj => (box7 (HKS.out _ (HQ4.out o1 o2 o3 o4)).1).2.2.2.2.1
      have p5_4 := fun o1 o2 o3 o4 : Obj => (box7 (HKS.out _ (HQ4.out o1 o2 o3 o4)).1).2.2.2.2.2.1
      have p6_4 := fun o1 o2 o3 o4 : Obj => (box7 (HKS.out _ (HQ4.out o1 o2 o3 o4)).1).2.2.2.2.2.2
      have q0_4 := fun o1 o2 o3 o4 : Obj => (box7 (HKS.out _ (HQ4.out o1 o2 o3 o4)).2).1
      have q1_4 := fun o1 o2 o3 o4 : Obj => (box7 (HKS.out _ (HQ4.out o1 o2 o3 o4)).2).2.1
      have q2_4 := fun o1 o2 o3 o4 : Obj => (box7 (HKS.out _ (HQ4.out o1 o2 o3 o4)).2).2.2.1
      have q3_4 := fun o1 o2 o3 o4 : Obj => (box7 (HKS.out _ (HQ4.out o1 o2 o3 o4)).2).2.2.2.1
      have q4_4 := fun o1 o2 o3 o4 : Obj => (box7 (HKS.out _ (HQ4.out o1 o2 o3 o4)).2).2.2.2.2.1
      have q5_4 := fun o1 o2 o3 o4 : Obj => (box7 (HKS.out _ (HQ4.out o1 o2 o3 o4)).2).2.2.2.2.2.1
      have q6_4 := fun o1 o2 o3 o4 : Obj => (box7 (HKS.out _ (HQ4.out o1 o2 o3 o4)).2).2.2.2.2.2.2
      have HQ6 : Hid (∀ o1 o2 o3 o4 o5 o6 : Obj, Below W0.heap.size W0 ((((((w6.alloc o1).alloc o2).alloc o3).alloc o4).alloc o5).alloc o6)) := Lib.hid fun o1 o2 o3 o4 o5 o6 => ((((((HB6.out.alloc HB6.out.size _).alloc (HB6.out.alloc HB6.out.size _).size _).alloc ((HB6.out.alloc HB6.out.size _).alloc (HB6.out.alloc HB6.out.size _).size _).size _).alloc (((HB6.out.alloc HB6.out.size _).alloc (HB6.out.alloc HB6.out.size _).size _).alloc ((HB6.out.alloc HB6.out.size _).alloc (HB6.out.alloc HB6.out.size _).size _).size _).size _).alloc ((((HB6.out.alloc HB6.out.size _).alloc (HB6.out.alloc HB6.out.size _).size _).alloc ((HB6.out.alloc HB6.out.size _).alloc (HB6.out.alloc HB6.out.size _).size _).size _).alloc (((HB6.out.alloc HB6.out.size _).alloc (HB6.out.alloc HB6.out.size _).size _).alloc ((HB6.out.alloc HB6.out.size _).alloc (HB6.out.alloc HB6.out.size _).size _).size _).size _).size _).alloc (((((HB6.out.alloc HB6.out.size _).alloc (HB6.out.alloc HB6.out.size _).size _).alloc ((HB6.out.alloc HB6.out.size _).alloc (HB6.out.alloc HB6.out.size _).size _).size _).alloc (((HB6.out.alloc HB6.out.size _).alloc (HB6.out.alloc HB6.out.size _).size _).alloc ((HB6.out.alloc HB6.out.size _).alloc (HB6.out.alloc HB6.out.size _).size _).size _).size _).alloc ((((HB6.out.alloc HB6.out.size _).alloc (HB6.out.alloc HB6.out.size _).size _).alloc ((HB6.out.alloc HB6.out.size _).alloc (HB6.out.alloc HB6.out.size _).size _).size _).alloc (((HB6.out.alloc HB6.out.size _).alloc (HB6.out.alloc HB6.out.size _).size _).alloc ((HB6.out.alloc HB6.out.size _).alloc (HB6.out.alloc HB6.out.size _).size _).size _).size _).size _).size _)
      have p0_6 := fun o1 o2 o3 o4 o5 o6 : Obj => (box7 (HKS.out _ (HQ6.out o1 o2 o3 o4 o5 o6)).1).1
      have p1_6 := fun o1 o2 o3 o4 o5 o6 : Obj => (box7 (HKS.out _ (HQ6.out o1 o2 o3 o4 o5 o6)).1).2.1
      have p2_6 := fun o1 o2 o3 o4 o5 o6 : Obj => (box7 (HKS.out _ (HQ6.out o1 o2 o3 o4 o5 o6)).1).2.2.1
      have p3_6 := fun o1 o2 o3 o4 o5 o6 : Obj => (box7 (HKS.out _ (HQ6.out o1 o2 o3 o4 o5 o6)).1).2.2.2.1
      have p4_6 := fun o1 o2 o3 o4 o5 o6 : Obj => (box7 (HKS.out _ (HQ6.out o1 o2 o3 o4 o5 o6)).1).2.2.2.2.1
      have p5_6 := fun o1 o2 o3 o4 o5 o6 : Obj => (box7 (HKS.out _ (HQ6.out o1 o2 o3 o4 o5 o6)).1).2.2.2.2.2.1
      have p6_6 := fun o1 o2 o3 o4 o5 o6 : Obj => (box7 (HKS.out _ (HQ6.out o1 o2 o3 o4 o5 o6)).1).2.2.2.2.2.2
      have q0_6 := fun o1 o2 o3 o4 o5 o6 : Obj => (box7 (HKS.out _ (HQ6.out o1 o2 o3 o4 o5 o6)).2).1
      have q1_6 := fun o1 o2 o3 o4 o5 o6 : Obj => (box7 (HKS.out _ (HQ6.out o1 o2 o3 o4 o5 o6)).2).2.1
      have q2_6 := fun o1 o2 o3 o4 o5 o6 : Obj => (box7 (HKS.out _ (HQ6.out o1 o2 o3 o4 o5 o6)).2).2.2.1
      have q3_6 := fun o1 o2 o3 o4 o5 o6 : Obj => (box7 (HKS.out _ (HQ6.out o1 o2 o3 o4 o5 o6)).2).2.2.2.1
      have q4_6 := fun o1 o2 o3 o4 o5 o6 : Obj => (box7 (HKS.out _ (HQ6.out o1 o2 o3 o4 o5 o6)).2).2.2.2.2.1
      have q5_6 := fun o1 o2 o3 o4 o5 o6 : Obj => (box7 (HKS.out _ (HQ6.out o1 o2 o3 o4 o5 o6)).2).2.2.2.2.2.1
      have q6_6 := fun o1 o2 o3 o4 o5 o6 : Obj => (box7 (HKS.out _ (HQ6.out o1 o2 o3 o4 o5 o6)).2).2.2.2.2.2.2
      obtain ⟨hl1, hl2, hl3, hl4, hl5, hl6, hl7, hl8⟩ := logW_spec w6 x y [.int .i64 x.op, .slice aa x.args.length ac, .slice pa x.path.length pc, .string (strL x.attr), .int .i64 x.cmp, .string (strL x.text), .int .i64 x.num] [y0, y1, y2, y3, y4, y5, y6] (HXX.out w6 HB6.out).1 (HXX.out w6 HB6.out).2
      obtain ⟨W8, hW8⟩ : ∃ W8, logW w6 [.int .i64 x.op, .slice aa x.args.length ac, .slice pa x.path.length pc, .string (strL x.attr), .int .i64 x.cmp, .string (strL x.text), .int .i64 x.num] [y0, y1, y2, y3, y4, y5, y6] = W8 := ⟨_, rfl⟩
      rw [hW8] at hl1 hl2 hl3 hl4 hl5 hl6 hl7 hl8
      have HW8 := Lib.hid hW8
      have HB8 := Lib.hid (HB6.out.trans (hl1.mono HB6.out.size))
      have HB28 := Lib.hid (HB26.out.trans (hl1.mono HB26.out.size))
      have HKN : Hid (∀ W, Below W8.heap.size W8 W → W.heap[w6.heap.size + 1]? = some (.cells #[.int .i64 2, .slice (some ⟨w6.heap.size, 0, none⟩) 1 1, .slice none 0 0, .string ⟨#[]⟩, .int .i64 0, .string ⟨#[]⟩, .int .i64 0] 61 (0, 0))) := Lib.hid fun W hW => (hW.block _ (by omega)).trans hl3
      have HXN : Hid (∀ W, Below W8.heap.size W8 W → XAt (f + 1 + 1) W (notP x) [.int .i64 2, .slice (some ⟨w6.heap.size, 0, none⟩) 1 1, .slice none 0 0, .string ⟨#[]⟩, .int .i64 0, .string ⟨#[]⟩, .int .i64 0]) := Lib.hid fun W hW => XAt.turn hW (Nat.le_refl _) hl6
      have HAN : Hid (∀ W, Below W8.heap.size W8 W → Calls Tryd.prog 23 #[.agg #[.int .i64 2, .slice (some ⟨w6.heap.size, 0, none⟩) 1 1, .slice none 0 0, .string ⟨#[]⟩, .int .i64 0, .string ⟨#[]⟩, .int .i64 0]] W fun e w' => ∃ G, e = .returned (.agg #[.slice (some ⟨G, 0, none⟩) 1 1]) ∧ SsAt (f + 1 + 1) w' (some ⟨G, 0, none⟩) (askP [notP x]) ∧ Below W.heap.size W w') := Lib.hid fun W hW => asked12_any (notP x) [.int .i64 2, .slice (some ⟨w6.heap.size, 0, none⟩) 1 1, .slice none 0 0, .string ⟨#[]⟩, .int .i64 0, .string ⟨#[]⟩, .int .i64 0] W (HXN.out W hW)
      have HKA : Hid (∀ W, Below W8.heap.size W8 W → W.heap[w6.heap.size + 1 + 1 + 1]? = some (.cells #[.int .i64 0, .slice (some ⟨w6.heap.size + 1 + 1, 0, none⟩) 2 2, .slice none 0 0, .string ⟨#[]⟩, .int .i64 0, .string ⟨#[]⟩, .int .i64 0] 61 (0, 0))) := Lib.hid fun W hW => (hW.block _ (by omega)).trans hl4
      have HXA : Hid (∀ W, Below W8.heap.size W8 W → XAt (f + 1 + 1) W (bothP 0 x y) [.int .i64 0, .slice (some ⟨w6.heap.size + 1 + 1, 0, none⟩) 2 2, .slice none 0 0, .string ⟨#[]⟩, .int .i64 0, .string ⟨#[]⟩, .int .i64 0]) := Lib.hid fun W hW => XAt.turn hW (Nat.le_refl _) hl7
      have HAA : Hid (∀ W, Below W8.heap.size W8 W → Calls Tryd.prog 23 #[.agg #[.int .i64 0, .slice (some ⟨w6.heap.size + 1 + 1, 0, none⟩) 2 2, .slice none 0 0, .string ⟨#[]⟩, .int .i64 0, .string ⟨#[]⟩, .int .i64 0]] W fun e w' => ∃ G, e = .returned (.agg #[.slice (some ⟨G, 0, none⟩) 1 1]) ∧ SsAt (f + 1 + 1) w' (some ⟨G, 0, none⟩) (askP [bothP 0 x y]) ∧ Below W.heap.size W w') := Lib.hid fun W hW => asked12_any (bothP 0 x y) [.int .i64 0, .slice (some ⟨w6.heap.size + 1 + 1, 0, none⟩) 2 2, .slice none 0 0, .string ⟨#[]⟩, .int .i64 0, .string ⟨#[]⟩, .int .i64 0] W (HXA.out W hW)
      have HKO : Hid (∀ W, Below W8.heap.size W8 W → W.heap[w6.heap.size + 1 + 1 + 1 + 1 + 1]? = some (.cells #[.int .i64 1, .slice (some ⟨w6.heap.size + 1 + 1 + 1 + 1, 0, none⟩) 2 2, .slice none 0 0, .string ⟨#[]⟩, .int .i64 0, .string ⟨#[]⟩, .int .i64 0] 61 (0, 0))) := Lib.hid fun W hW => (hW.block _ (by omega)).trans hl5
      have HXO : Hid (∀ W, Below W8.heap.size W8 W → XAt (f + 1 + 1) W (bothP 1 x y) [.int .i64 1, .slice (some ⟨w6.heap.size + 1 + 1 + 1 + 1, 0, none⟩) 2 2, .slice none 0 0, .string ⟨#[]⟩, .int .i64 0, .string ⟨#[]⟩, .int .i64 0]) := Lib.hid fun W hW => XAt.turn hW (Nat.le_refl _) hl8
      have HAO : Hid (∀ W, Below W8.heap.size W8 W → Calls Tryd.prog 23 #[.agg #[.int .i64 1, .slice (some ⟨w6.heap.size + 1 + 1 + 1 + 1, 0, none⟩) 2 2, .slice none 0 0, .string ⟨#[]⟩, .int .i64 0, .string ⟨#[]⟩, .int .i64 0]] W fun e w' => ∃ G, e = .returned (.agg #[.slice (some ⟨G, 0, none⟩) 1 1]) ∧ SsAt (f + 1 + 1) w' (some ⟨G, 0, none⟩) (askP [bothP 1 x y]) ∧ Below W.heap.size W w') := Lib.hid fun W hW => asked12_any (bothP 1 x y) [.int .i64 1, .slice (some ⟨w6.heap.size + 1 + 1 + 1 + 1, 0, none⟩) 2 2, .slice none 0 0, .string ⟨#[]⟩, .int .i64 0, .string ⟨#[]⟩, .int .i64 0] W (HXO.out W hW)
      clear hl1 hl2 hl3 hl4 hl5 hl6 hl7 hl8 hW8
      have HAX8 := Lib.hid (HAX.out W8 HB8.out)
      have HF1 : Hid (f + 1 ≤ 1048576 ∧ f + 1 + 1 ≤ 1048576) := Lib.hid ⟨by omega, by omega⟩
      go_wp2_with fail
      (with_reducible refine HLN6.out.mono ?_)
      rintro e w7 ⟨rfl, rfl⟩
      have HBW : Hid (Below W8.heap.size W8 W8) := Lib.hid (Below.refl _ _)
      go_wp2_with fail
      refine calls_eq HW8.out ?_
      (with_reducible refine HAX8.out.mono ?_)
      rintro e wa1 ⟨G1, rfl, hs, hb⟩
      have HBa1 := Lib.hid (HB8.out.trans (hb.mono HB8.out.size))
      have HBb1 := Lib.hid (HBW.out.trans (hb.mono HBW.out.size))
      have HC1 := Lib.hid (HCK.out wa1 _ G1 (x) HF1.out.1 HBa1.out hs)
      clear hs hb
      obtain ⟨cv1, hcv⟩ : ∃ cx, checkN (f + 1) (askP [x]) = cx := ⟨_, rfl⟩
      rw [hcv] at HC1
      have HCV1 := Lib.hid hcv
      clear hcv
      go_wp2_with fail
      (with_reducible refine HC1.out.mono ?_)
      rintro e wc1 ⟨rfl, hb⟩
      have HBc1 := Lib.hid (HBa1.out.trans (hb.mono HBa1.out.size))
      have HBd1 := Lib.hid (HBb1.out.trans (hb.mono HBb1.out.size))
      clear hb
      by_cases hc1 : cv1 = 0
      rotate_left
      · have hne : (cv1 != 0) = true := by simp [hc1]
        go_wp2_with fail
        go_ret
        exact ⟨rfl, FIN.out _ HBc1.out⟩
      subst hc1
      obtain ⟨q0, q1, q2, q3, q4, q5, q6⟩ := box7 (HKS.out wc1 HBc1.out).2
      have HAn2 := Lib.hid (HAY.out wc1 HBc1.out)
      go_wp2_with fail
      (with_reducible refine HAn2.out.mono ?_)
      rintro e wa2 ⟨G2, rfl, hs, hb⟩
      have HBa2 := Lib.hid (HBc1.out.trans (hb.mono HBc1.out.size))
      have HBb2 := Lib.hid (HBd1.out.trans (hb.mono HBd1.out.size))
      have HC2 := Lib.hid (HCK.out wa2 _ G2 (y) HF1.out.1 HBa2.out hs)
      clear hs hb
      obtain ⟨cv2, hcv⟩ : ∃ cx, checkN (f + 1) (askP [y]) = cx := ⟨_, rfl⟩
      rw [hcv] at HC2
      have HCV2 := Lib.hid hcv
      clear hcv
      go_wp2_with fail
      (with_reducible refine HC2.out.mono ?_)
      rintro e wc2 ⟨rfl, hb⟩
      have HBc2 := Lib.hid (HBa2.out.trans (hb.mono HBa2.out.size))
      have HBd2 := Lib.hid (HBb2.out.trans (hb.mono HBb2.out.size))
      clear hb
      by_cases hc2 : cv2 = 0
      rotate_left
      · have hne : (cv2 != 0) = true := by simp [hc2]
        go_wp2_with fail
        go_ret
        exact ⟨rfl, FIN.out _ HBc2.out⟩
      subst hc2
      obtain ⟨r0, r1, r2, r3, r4, r5, r6⟩ := box7 (HKN.out wc2 HBd2.out)
      have HAn3 := Lib.hid (HAN.out wc2 HBd2.out)
      go_wp2_with fail
      (with_reducible refine HAn3.out.mono ?_)
      rintro e wa3 ⟨G3, rfl, hs, hb⟩
      have HBa3 := Lib.hid (HBc2.out.trans (hb.mono HBc2.out.size))
      have HBb3 := Lib.hid (HBd2.out.trans (hb.mono HBd2.out.size))
      have HC3 := Lib.hid (HCK.out wa3 _ G3 (notP x) HF1.out.2 HBa3.out hs)
      clear hs hb
      obtain ⟨cv3, hcv⟩ : ∃ cx, checkN (f + 1 + 1) (askP [notP x]) = cx := ⟨_, rfl⟩
      rw [hcv] at HC3
      have HCV3 := Lib.hid hcv
      clear hcv
      go_wp2_with fail
      (with_reducible refine HC3.out.mono ?_)
      rintro e wc3 ⟨rfl, hb⟩
      have HBc3 := Lib.hid (HBa3.out.trans (hb.mono HBa3.out.size))
      have HBd3 := Lib.hid (HBb3.out.trans (hb.mono HBb3.out.size))
      clear hb
      by_cases hc3 : cv3 = 0
      rotate_left
      · have hne : (cv3 != 0) = true := by simp [hc3]
        go_wp2_with fail
        go_ret
        exact ⟨rfl, FIN.out _ HBc3.out⟩
      subst hc3
      obtain ⟨r0, r1, r2, r3, r4, r5, r6⟩ := box7 (HKA.out wc3 HBd3.out)
      have HAn4 := Lib.hid (HAA.out wc3 HBd3.out)
      go_wp2_with fail
      (with_reducible refine HAn4.out.mono ?_)
      rintro e wa4 ⟨G4, rfl, hs, hb⟩
      have HBa4 := Lib.hid (HBc3.out.trans (hb.mono HBc3.out.size))
      have HBb4 := Lib.hid (HBd3.out.trans (hb.mono HBd3.out.size))
      have HC4 := Lib.hid (HCK.out wa4 _ G4 (bothP 0 x y) HF1.out.2 HBa4.out hs)
      clear hs hb
      obtain ⟨cv4, hcv⟩ : ∃ cx, checkN (f + 1 + 1) (askP [bothP 0 x y]) = cx := ⟨_, rfl⟩
      rw [hcv] at HC4
      have HCV4 := Lib.hid hcv
      clear hcv
      go_wp2_with fail
      (with_reducible refine HC4.out.mono ?_)
      rintro e wc4 ⟨rfl, hb⟩
      have HBc4 := Lib.hid (HBa4.out.trans (hb.mono HBa4.out.size))
      have HBd4 := Lib.hid (HBb4.out.trans (hb.mono HBb4.out.size))
      clear hb
      by_cases hc4 : cv4 = 0
      rotate_left
      · have hne : (cv4 != 0) = true := by simp [hc4]
        go_wp2_with fail
        go_ret
        exact ⟨rfl, FIN.out _ HBc4.out⟩
      subst hc4
      obtain ⟨r0, r1, r2, r3, r4, r5, r6⟩ := box7 (HKO.out wc4 HBd4.out)
      have HAn5 := Lib.hid (HAO.out wc4 HBd4.out)
      go_wp2_with fail
      (with_reducible refine HAn5.out.mono ?_)
      rintro e wa5 ⟨G5, rfl, hs, hb⟩
      have HBa5 := Lib.hid (HBc4.out.trans (hb.mono HBc4.out.size))
      have HBb5 := Lib.hid (HBd4.out.trans (hb.mono HBd4.out.size))
      have HC5 := Lib.hid (HCK.out wa5 _ G5 (bothP 1 x y) HF1.out.2 HBa5.out hs)
      clear hs hb
      obtain ⟨cv5, hcv⟩ : ∃ cx, checkN (f + 1 + 1) (askP [bothP 1 x y]) = cx := ⟨_, rfl⟩
      rw [hcv] at HC5
      have HCV5 := Lib.hid hcv
      clear hcv
      go_wp2_with fail
      (with_reducible refine HC5.out.mono ?_)
      rintro e wc5 ⟨rfl, hb⟩
      have HBc5 := Lib.hid (HBa5.out.trans (hb.mono HBa5.out.size))
      have HBd5 := Lib.hid (HBb5.out.trans (hb.mono HBb5.out.size))
      clear hb
      by_cases hc5 : cv5 = 0
      rotate_left
      · have hne : (cv5 != 0) = true := by simp [hc5]
        go_wp2_with fail
        go_ret
        exact ⟨rfl, FIN.out _ HBc5.out⟩
      subst hc5
      obtain ⟨p0, p1, p2, p3, p4, p5, p6⟩ := box7 (HKS.out wc5 HBc5.out).1
      obtain ⟨q0, q1, q2, q3, q4, q5, q6⟩ := box7 (HKS.out wc5 HBc5.out).2
      obtain ⟨t1, t2, t3, t4⟩ := twoW_spec wc5 x y [.int .i64 x.op, .slice aa x.args.length ac, .slice pa x.path.length pc, .string (strL x.attr), .int .i64 x.cmp, .string (strL x.text), .int .i64 x.num] [y0, y1, y2, y3, y4, y5, y6] (HXX.out wc5 HBc5.out).1 (HXX.out wc5 HBc5.out).2
      obtain ⟨W10, hW10⟩ : ∃ W10, twoW wc5 [.int .i64 x.op, .slice aa x.args.length ac, .slice pa x.path.length pc, .string (strL x.attr), .int .i64 x.cmp, .string (strL x.text), .int .i64 x.num] [y0, y1, y2, y3, y4, y5, y6] = W10 := ⟨_, rfl⟩
      rw [hW10] at t1 t2 t3 t4
      have HW10 := Lib.hid hW10
      have HB10 := Lib.hid (HBc5.out.trans (t1.mono HBc5.out.size))
      have HB810 := Lib.hid (HBd5.out.trans (t1.mono HBd5.out.size))
      have HB210 : Hid (Below w2.heap.size w2 W10) := Lib.hid (HB28.out.trans (HB810.out.mono HB28.out.size))
      have HKT : Hid (∀ W, Below W10.heap.size W10 W → W.cell? ⟨wc5.heap.size + 1 + 1, 0, none⟩ = some (.slice (some ⟨wc5.heap.size + 1, 0, none⟩) 1 1)) := Lib.hid fun W hW => by rw [cell_heap ((hW.block _ (by omega)).trans t3)]; rfl
      have HST : Hid (∀ W, Below W10.heap.size W10 W → SsAt (f + 1) W (some ⟨wc5.heap.size + 1, 0, none⟩) (askP [x, y])) := Lib.hid fun W hW => SsAt.below t4 hW
      clear t1 t2 t3 t4 hW10
      have HRFS : Hid (∀ v : Int, -1 ≤ v → v < (N : Int) → ∀ F (l : List PX), checkN F (askP l) = 0 → refusesN (nodesB evs).length F v (askP l) = 0) := Lib.hid fun v h1 h2 F l h => by
        unfold refusesN
        rw [if_neg (by rw [HNN.out]; omega)]; exact h
      have HHO : Hid (∀ (v : Int) F (z : PX) (zc : List Value) (W : World), -1 ≤ v → v < (N : Int) → F ≤ 1048576 → checkN F (askP [z]) = 0 → Below W10.heap.size W10 W → XAt F W z zc → Calls Tryd.prog 24 #[.pointer (some ⟨tb, 0, none⟩), .int .i64 v, .agg zc.toArray] W fun e w' => e = .returned (.tuple #[.bool (holdP (treePT evs) F v z), .int .i64 0]) ∧ Below W.heap.size W w') := Lib.hid fun v F z zc W h1 h2 hF hck hW hz => by
        have h := mholds_any hF v z zc W (HTQ.out W (HB210.out.trans (hW.mono HB210.out.size))) (HENV.out W (HB10.out.trans (hW.mono HB10.out.size))) hz
        have hr := HRFS.out v h1 h2 F [z] hck
        have hh : holdsN (treePT evs) F v z = holdP (treePT evs) F v z := if_pos hr
        rw [hh] at h
        have hr2 : refusesN (nodesB evs).length F v [.mk 3 3 [] [z]] = 0 := hr
        rw [hr2] at h
        exact h
      have HTWO : Hid (∀ (v : Int) (W : World), -1 ≤ v → v < (N : Int) → Below W10.heap.size W10 W → Calls Tryd.prog 18 #[.pointer (some ⟨tb, 0, none⟩), .int .i64 v, .agg #[.slice (some ⟨wc5.heap.size + 1, 0, none⟩) 1 1]] W fun e w' => ∃ A cc, e = .returned (.tuple #[.slice A (if holdP (treePT evs) (f + 1) v x && holdP (treePT evs) (f + 1) v y then 1 else 0) cc, .int .i64 0]) ∧ Below W.heap.size W w') := Lib.hid fun v W h1 h2 hW => by
        have hck : checkN (f + 1) (askP [x, y]) = 0 := check_mk fun z hz => by
          simp only [List.mem_cons, List.not_mem_nil, or_false] at hz
          rcases hz with rfl | rfl
          · exact check_ask HCV1.out _ List.mem_cons_self
          · exact check_ask HCV2.out _ List.mem_cons_self
        have h := from_any (f := f + 1) HF1.out.1 (steps_all (f + 1) tb evs) v (some ⟨wc5.heap.size + 1, 0, none⟩) 1 (askP [x, y]) W (HTQ.out W (HB210.out.trans (hW.mono HB210.out.size))) (HENV.out W (HB10.out.trans (hW.mono HB10.out.size))) (HST.out W hW) (Nat.le_of_ble_eq_true rfl)
        have hr := HRFS.out v h1 h2 (f + 1) [x, y] hck
        have hN2 : v < ((nodesB evs).length : Int) := by rw [HNN.out]; exact h2
        have hfr : fromN (treePT evs) (f + 1) v (askP [x, y]) = if holdP (treePT evs) (f + 1) v x && holdP (treePT evs) (f + 1) v y then [v] else [] := by
          have : fromN (treePT evs) (f + 1) v (askP [x, y]) = fromP (treePT evs) (f + 1) v (askP [x, y]) := if_pos hr
          rw [this]
          have := from_self (f := f + 1) h1 hN2 [x, y]
          simp only [List.all_cons, List.all_nil, Bool.and_true] at this
          exact this
        rw [hfr, hr] at h
        refine h.mono fun e w' ⟨A, cc, e1, _, _, e4⟩ => ⟨A, cc, ?_, e4⟩
        rw [e1]
        cases hq : (holdP (treePT evs) (f + 1) v x && holdP (treePT evs) (f + 1) v y) <;> rfl
      have HSOM : Hid (x.op = 3 ∧ x.attr = [] ∧ x.cmp = 0 → ∀ (v : Int) (W : World), -1 ≤ v → v < (N : Int) → Below W10.heap.size W10 W → Calls Tryd.prog 18 #[.pointer (some ⟨tb, 0, none⟩), .int .i64 v, .agg #[.slice pa x.path.length pc]] W fun e w' => ∃ A ln cc, e = .returned (.tuple #[.slice A ln cc, .int .i64 0]) ∧ holdP (treePT evs) (f + 1) v x = decide ((0 : Int) < (ln : Int)) ∧ Below W.heap.size W w') := Lib.hid fun ⟨x1, x2, x3⟩ v W h1 h2 hW => by
        have hck : checkN f x.path = 0 := check_path (check_ask HCV1.out _ List.mem_cons_self) x1
        have hbw := HB10.out.trans (hW.mono HB10.out.size)
        have h := from_any (f := f) (by have := HF1.out.1; omega) (steps_all f tb evs) v pa pc x.path W (HTQ.out W (HB210.out.trans (hW.mono HB210.out.size))) (HENV.out W hbw) (HPA.out W hbw) HPL.out
        have hr : refusesN (nodesB evs).length f v x.path = 0 := by
          unfold refusesN
          rw [if_neg (by rw [HNN.out]; omega)]; exact hck
        have hfr : fromN (treePT evs) f v x.path = fromP (treePT evs) f v x.path := if_pos hr
        rw [hfr, hr] at h
        refine h.mono fun e w' ⟨A, cc, e1, _, _, e4⟩ => ⟨A, _, cc, e1, ?_, e4⟩
        rw [holdP_succ, if_neg (by omega), if_neg (by omega), if_neg (by omega), some_exists x2 x3]
        show decide (0 < (fromP (treePT evs) f v x.path).length) = _
        exact decide_eq_decide.2 (by omega)
      have HKB : Hid (∀ W, Below W10.heap.size W10 W → Below W0.heap.size W0 W ∧ Below W8.heap.size W8 W ∧ Below w2.heap.size w2 W) := Lib.hid fun W hW => ⟨HB10.out.trans (hW.mono HB10.out.size), HB810.out.trans (hW.mono HB810.out.size), HB210.out.trans (hW.mono HB210.out.size)⟩
      have HBS : Hid (Below W10.heap.size W10 W10) := Lib.hid (Below.refl _ _)
      have HBT : Hid (Below W10.heap.size W10 (twoW wc5 [.int .i64 x.op, .slice aa x.args.length ac, .slice pa x.path.length pc, .string (strL x.attr), .int .i64 x.cmp, .string (strL x.text), .int .i64 x.num] [y0, y1, y2, y3, y4, y5, y6])) := Lib.hid (by rw [HW10.out]; exact HBS.out)
      have HBASE : Hid (∀ W, Below W10.heap.size W10 W → Below w.heap.size w W) := Lib.hid fun W hW => FIN.out W (HKB.out W hW).1
      go_wp2_with fail
      refine wp_loop_ghost (fun k a1 wr => ∃ j : Nat, slotOf a1.tmps 13 = .int .i64 ((j : Int) - 1) ∧ j ≤ N + 1 ∧ k = N + 1 - j ∧ Hid (Below W10.heap.size W10 wr) ∧ a1 = { tmps := frL (.slice a n c) (.agg #[.int .i64 x.op, .slice aa x.args.length ac, .slice pa x.path.length pc, .string (strL x.attr), .int .i64 x.cmp, .string (strL x.text), .int .i64 x.num]) (.agg #[y0, y1, y2, y3, y4, y5, y6]) w.heap.size (w.heap.size + 1) tb (w7.heap.size + 1) (w7.heap.size + 1 + 1 + 1) (w7.heap.size + 1 + 1 + 1 + 1 + 1) (wc5.heap.size + 1 + 1) a1.tmps, defers := [] }) (N + 1) ?atStart ?round
      case atStart => exact ⟨0, rfl, Nat.zero_le _, rfl, Lib.hid HBT.out, rfl⟩
      case round =>
        rintro mk ⟨t, dd⟩ wr ⟨j, h13, hjn, rfl, HJ, ha⟩
        obtain ⟨ha1, ha2⟩ := Act.mk.inj ha
        subst dd
        rw [ha1]
        clear ha ha1
        dsimp only [frL] at h13 ⊢
        rw [h13]
        clear h13
        have HLNR := Lib.hid (HLEN.out wr (HKB.out wr HJ.out).2.2)
        have ewj : IntKind.i64.wrap ((j : Int) - 1 + 1) = (j : Int) := by rw [IntWalk.i64_in _ (by omega)]; omega
        by_cases hj : j < N + 1
        rotate_left
        · have hj2 : j = N + 1 := by omega
          subst hj2
          have hj3 : (N : Int) ≤ ((N + 1 : Nat) : Int) - 1 := by omega
          go_wp2_with fail
          (with_reducible refine HLNR.out.mono ?_)
          rintro e wl ⟨rfl, rfl⟩
          go_wp2_with fail
          go_ret
          exact ⟨rfl, HBASE.out _ HJ.out⟩
        have HEX : Hid ((j : Int) = (((j + 1 : Nat) : Int) - 1)) := Lib.hid (by omega)
        obtain ⟨v, hv⟩ : ∃ v, (j : Int) - 1 = v := ⟨_, rfl⟩
        rw [hv] at ewj ⊢
        have v1 : -1 ≤ v := by omega
        have v2 : v < (N : Int) := by omega
        obtain ⟨bx, hbx⟩ : ∃ b, holdP (treePT evs) (f + 1) v x = b := ⟨_, rfl⟩
        obtain ⟨bz, hbz⟩ : ∃ b, holdP (treePT evs) (f + 1) v y = b := ⟨_, rfl⟩
        have HBX := Lib.hid hbx
        have hnt : holdP (treePT evs) (f + 1 + 1) v (notP x) = !bx := by rw [← hbx, holdP_succ]; simp [notP, PX.op, PX.args]
        have han : holdP (treePT evs) (f + 1 + 1) v (bothP 0 x y) = (bx && bz) := by rw [← hbx, ← hbz, holdP_succ]; simp [bothP, PX.op, PX.args]
        have hor : holdP (treePT evs) (f + 1 + 1) v (bothP 1 x y) = (bx || bz) := by rw [← hbx, ← hbz, holdP_succ]; simp [bothP, PX.op, PX.args]
        have HHX : Hid (∀ W, Below W10.heap.size W10 W → Calls Tryd.prog 24 #[.pointer (some ⟨tb, 0, none⟩), .int .i64 v, .agg #[.int .i64 x.op, .slice aa x.args.length ac, .slice pa x.path.length pc, .string (strL x.attr), .int .i64 x.cmp, .string (strL x.text), .int .i64 x.num]] W fun e w' => e = .returned (.tuple #[.bool bx, .int .i64 0]) ∧ Below W.heap.size W w') := Lib.hid fun W hW => by rw [← hbx]; exact HHO.out v (f + 1) x _ W v1 v2 HF1.out.1 HCV1.out hW (HXX.out W (HKB.out W hW).1).1
        have HHY : Hid (∀ W, Below W10.heap.size W10 W → Calls Tryd.prog 24 #[.pointer (some ⟨tb, 0, none⟩), .int .i64 v, .agg #[y0, y1, y2, y3, y4, y5, y6]] W fun e w' => e = .returned (.tuple #[.bool bz, .int .i64 0]) ∧ Below W.heap.size W w') := Lib.hid fun W hW => by rw [← hbz]; exact HHO.out v (f + 1) y _ W v1 v2 HF1.out.1 HCV2.out hW (HXX.out W (HKB.out W hW).1).2
        have HHN : Hid (∀ W, Below W10.heap.size W10 W → Calls Tryd.prog 24 #[.pointer (some ⟨tb, 0, none⟩), .int .i64 v, .agg #[.int .i64 2, .slice (some ⟨w7.heap.size, 0, none⟩) 1 1, .slice none 0 0, .string ⟨#[]⟩, .int .i64 0, .string ⟨#[]⟩, .int .i64 0]] W fun e w' => e = .returned (.tuple #[.bool (!bx), .int .i64 0]) ∧ Below W.heap.size W w') := Lib.hid fun W hW => by rw [← hnt]; exact HHO.out v (f + 1 + 1) (notP x) _ W v1 v2 HF1.out.2 HCV3.out hW (HXN.out W (HKB.out W hW).2.1)
        have HHA : Hid (∀ W, Below W10.heap.size W10 W → Calls Tryd.prog 24 #[.pointer (some ⟨tb, 0, none⟩), .int .i64 v, .agg #[.int .i64 0, .slice (some ⟨w7.heap.size + 1 + 1, 0, none⟩) 2 2, .slice none 0 0, .string ⟨#[]⟩, .int .i64 0, .string ⟨#[]⟩, .int .i64 0]] W fun e w' => e = .returned (.tuple #[.bool (bx && bz), .int .i64 0]) ∧ Below W.heap.size W w') := Lib.hid fun W hW => by rw [← han]; exact HHO.out v (f + 1 + 1) (bothP 0 x y) _ W v1 v2 HF1.out.2 HCV4.out hW (HXA.out W (HKB.out W hW).2.1)
        have HHO : Hid (∀ W, Below W10.heap.size W10 W → Calls Tryd.prog 24 #[.pointer (some ⟨tb, 0, none⟩), .int .i64 v, .agg #[.int .i64 1, .slice (some ⟨w7.heap.size + 1 + 1 + 1 + 1, 0, none⟩) 2 2, .slice none 0 0, .string ⟨#[]⟩, .int .i64 0, .string ⟨#[]⟩, .int .i64 0]] W fun e w' => e = .returned (.tuple #[.bool (bx || bz), .int .i64 0]) ∧ Below W.heap.size W w') := Lib.hid fun W hW => by rw [← hor]; exact HHO.out v (f + 1 + 1) (bothP 1 x y) _ W v1 v2 HF1.out.2 HCV5.out hW (HXO.out W (HKB.out W hW).2.1)
        have HTW : Hid (∀ W, Below W10.heap.size W10 W → Calls Tryd.prog 18 #[.pointer (some ⟨tb, 0, none⟩), .int .i64 v, .agg #[.slice (some ⟨wc5.heap.size + 1, 0, none⟩) 1 1]] W fun e w' => ∃ A cc, e = .returned (.tuple #[.slice A (if bx && bz then 1 else 0) cc, .int .i64 0]) ∧ Below W.heap.size W w') := Lib.hid fun W hW => by have := HTWO.out v W v1 v2 hW; rw [hbx, hbz] at this; exact this
        have HSO : Hid (x.op = 3 ∧ x.attr = [] ∧ x.cmp = 0 → ∀ W, Below W10.heap.size W10 W → Calls Tryd.prog 18 #[.pointer (some ⟨tb, 0, none⟩), .int .i64 v, .agg #[.slice pa x.path.length pc]] W fun e w' => ∃ A ln cc, e = .returned (.tuple #[.slice A ln cc, .int .i64 0]) ∧ bx = decide ((0 : Int) < (ln : Int)) ∧ Below W.heap.size W w') := Lib.hid fun hq W hW => by have := HSOM.out hq v W v1 v2 hW; rw [hbx] at this; exact this
        obtain ⟨ln, hln⟩ : ∃ ln : Nat, (if bx && bz then 1 else 0) = ln := ⟨_, rfl⟩
        rw [hln] at HTW
        have HLN := Lib.hid hln
        clear hln hbx hbz hnt han hor HBX hv
        go_wp2_with fail
        (with_reducible refine HLNR.out.mono ?_)
        rintro e wl ⟨rfl, rfl⟩
        obtain ⟨p0, p1, p2, p3, p4, p5, p6⟩ := box7 ((HKS.out wl (HKB.out wl HJ.out).1).1)
        go_wp2_with fail
        (with_reducible refine (HHX.out _ HJ.out).mono ?_)
        rintro e wh0 ⟨rfl, hb⟩
        have HJ0 := Lib.hid (HJ.out.trans (hb.mono HJ.out.size))
        clear hb p0 p1 p2 p3 p4 p5 p6
        obtain ⟨q0, q1, q2, q3, q4, q5, q6⟩ := box7 ((HKS.out wh0 (HKB.out wh0 HJ0.out).1).2)
        go_wp2_with fail
        (with_reducible refine (HHY.out _ HJ0.out).mono ?_)
        rintro e wh1 ⟨rfl, hb⟩
        have HJ1 := Lib.hid (HJ0.out.trans (hb.mono HJ0.out.size))
        clear hb q0 q1 q2 q3 q4 q5 q6
        obtain ⟨r0, r1, r2, r3, r4, r5, r6⟩ := box7 (HKN.out wh1 (HKB.out wh1 HJ1.out).2.1)
        go_wp2_with fail
        (with_reducible refine (HHN.out _ HJ1.out).mono ?_)
        rintro e wh2 ⟨rfl, hb⟩
        have HJ2 := Lib.hid (HJ1.out.trans (hb.mono HJ1.out.size))
        clear hb r0 r1 r2 r3 r4 r5 r6
        obtain ⟨r0, r1, r2, r3, r4, r5, r6⟩ := box7 (HKA.out wh2 (HKB.out wh2 HJ2.out).2.1)
        go_wp2_with fail
        (with_reducible refine (HHA.out _ HJ2.out).mono ?_)
        rintro e wh3 ⟨rfl, hb⟩
        have HJ3 := Lib.hid (HJ2.out.trans (hb.mono HJ2.out.size))
        clear hb r0 r1 r2 r3 r4 r5 r6
        obtain ⟨r0, r1, r2, r3, r4, r5, r6⟩ := box7 (HKO.out wh3 (HKB.out wh3 HJ3.out).2.1)
        go_wp2_with fail
        (with_reducible refine (HHO.out _ HJ3.out).mono ?_)
        rintro e wh4 ⟨rfl, hb⟩
        have HJ4 := Lib.hid (HJ3.out.trans (hb.mono HJ3.out.size))
        clear hb r0 r1 r2 r3 r4 r5 r6
        have s0 := HKT.out wh4 HJ4.out
        go_wp2_with fail
        (with_reducible refine (HTW.out _ HJ4.out).mono ?_)
        rintro e wh5 ⟨A5, c5, rfl, hb⟩
        have HJ5 := Lib.hid (HJ4.out.trans (hb.mono HJ4.out.size))
        clear hb s0
        obtain ⟨p0, p1, p2, p3, p4, p5, p6⟩ := box7 (HKS.out wh5 (HKB.out wh5 HJ5.out).1).1
        generalize (nodesB evs).length = NL at *
        by_cases hop : x.op = 3
        rotate_left
        · have x0 : (x.op == 3) = false := by simpa using hop
          clear hop
          cases bx with
          | false =>
            cases bz with
            | false =>
              obtain rfl : ln = 0 := HLN.out.symm
              go_wp2_with fail
              exact ⟨N + 1 - (j + 1), by omega, j + 1, congrArg (Value.int .i64) HEX.out, by omega, rfl, Lib.hid HJ5.out, rfl⟩
            | true =>
              obtain rfl : ln = 0 := HLN.out.symm
              go_wp2_with fail
              exact ⟨N + 1 - (j + 1), by omega, j + 1, congrArg (Value.int .i64) HEX.out, by omega, rfl, Lib.hid HJ5.out, rfl⟩
          | true =>
            cases bz with
            | false =>
              obtain rfl : ln = 0 := HLN.out.symm
              go_wp2_with fail
              exact ⟨N + 1 - (j + 1), by omega, j + 1, congrArg (Value.int .i64) HEX.out, by omega, rfl, Lib.hid HJ5.out, rfl⟩
            | true =>
              obtain rfl : ln = 1 := HLN.out.symm
              go_wp2_with fail
              exact ⟨N + 1 - (j + 1), by omega, j + 1, congrArg (Value.int .i64) HEX.out, by omega, rfl, Lib.hid HJ5.out, rfl⟩
        by_cases hat : x.attr = []
        rotate_left
        · have x0 : (x.op == 3) = true := by simp [hop]
          have x1 : (strL x.attr).toList.isEmpty = false := strL_ne hat
          clear hop hat
          cases bx with
          | false =>
            cases bz with
            | false =>
              obtain rfl : ln = 0 := HLN.out.symm
              go_wp2_with fail
              exact ⟨N + 1 - (j + 1), by omega, j + 1, congrArg (Value.int .i64) HEX.out, by omega, rfl, Lib.hid HJ5.out, rfl⟩
            | true =>
              obtain rfl : ln = 0 := HLN.out.symm
              go_wp2_with fail
              exact ⟨N + 1 - (j + 1), by omega, j + 1, congrArg (Value.int .i64) HEX.out, by omega, rfl, Lib.hid HJ5.out, rfl⟩
          | true =>
            cases bz with
            | false =>
              obtain rfl : ln = 0 := HLN.out.symm
              go_wp2_with fail
              exact ⟨N + 1 - (j + 1), by omega, j + 1, congrArg (Value.int .i64) HEX.out, by omega, rfl, Lib.hid HJ5.out, rfl⟩
            | true =>
              obtain rfl : ln = 1 := HLN.out.symm
              go_wp2_with fail
              exact ⟨N + 1 - (j + 1), by omega, j + 1, congrArg (Value.int .i64) HEX.out, by omega, rfl, Lib.hid HJ5.out, rfl⟩
        by_cases hcm : x.cmp = 0
        rotate_left
        · have x0 : (x.op == 3) = true := by simp [hop]
          have x1 : (strL x.attr).toList.isEmpty = true := by rw [strL_isE2, hat]; rfl
          have x2 : (x.cmp == 0) = false := by simpa using hcm
          clear hop hat hcm
          cases bx with
          | false =>
            cases bz with
            | false =>
              obtain rfl : ln = 0 := HLN.out.symm
              go_wp2_with fail
              exact ⟨N + 1 - (j + 1), by omega, j + 1, congrArg (Value.int .i64) HEX.out, by omega, rfl, Lib.hid HJ5.out, rfl⟩
            | true =>
              obtain rfl : ln = 0 := HLN.out.symm
              go_wp2_with fail
              exact ⟨N + 1 - (j + 1), by omega, j + 1, congrArg (Value.int .i64) HEX.out, by omega, rfl, Lib.hid HJ5.out, rfl⟩
          | true =>
            cases bz with
            | false =>
              obtain rfl : ln = 0 := HLN.out.symm
              go_wp2_with fail
              exact ⟨N + 1 - (j + 1), by omega, j + 1, congrArg (Value.int .i64) HEX.out, by omega, rfl, Lib.hid HJ5.out, rfl⟩
            | true =>
              obtain rfl : ln = 1 := HLN.out.symm
              go_wp2_with fail
              exact ⟨N + 1 - (j + 1), by omega, j + 1, congrArg (Value.int .i64) HEX.out, by omega, rfl, Lib.hid HJ5.out, rfl⟩
        · have HSX := Lib.hid (HSO.out ⟨hop, hat, hcm⟩ wh5 HJ5.out)
          have x0 : (x.op == 3) = true := by simp [hop]
          have x1 : (strL x.attr).toList.isEmpty = true := by rw [strL_isE2, hat]; rfl
          have x2 : (x.cmp == 0) = true := by simp [hcm]
          clear hop hat hcm
          cases bx with
          | false =>
            cases bz with
            | false =>
              obtain rfl : ln = 0 := HLN.out.symm
              go_wp2_with fail
              (with_reducible refine HSX.out.mono ?_)
              rintro e wz ⟨Az, lz, cz, rfl, hd, hb⟩
              have HJ6 := Lib.hid (HJ5.out.trans (hb.mono HJ5.out.size))
              clear hb
              obtain rfl : lz = 0 := by have := of_decide_eq_false hd.symm; omega
              clear hd
              go_wp2_with fail
              exact ⟨N + 1 - (j + 1), by omega, j + 1, congrArg (Value.int .i64) HEX.out, by omega, rfl, Lib.hid HJ6.out, rfl⟩
            | true =>
              obtain rfl : ln = 0 := HLN.out.symm
              go_wp2_with fail
              (with_reducible refine HSX.out.mono ?_)
              rintro e wz ⟨Az, lz, cz, rfl, hd, hb⟩
              have HJ6 := Lib.hid (HJ5.out.trans (hb.mono HJ5.out.size))
              clear hb
              obtain rfl : lz = 0 := by have := of_decide_eq_false hd.symm; omega
              clear hd
              go_wp2_with fail
              exact ⟨N + 1 - (j + 1), by omega, j + 1, congrArg (Value.int .i64) HEX.out, by omega, rfl, Lib.hid HJ6.out, rfl⟩
          | true =>
            cases bz with
            | false =>
              obtain rfl : ln = 0 := HLN.out.symm
              go_wp2_with fail
              (with_reducible refine HSX.out.mono ?_)
              rintro e wz ⟨Az, lz, cz, rfl, hd, hb⟩
              have HJ6 := Lib.hid (HJ5.out.trans (hb.mono HJ5.out.size))
              clear hb
              have hd2 : (0 : Int) < (lz : Int) := of_decide_eq_true hd.symm
              have hd3 : 0 < lz := by omega
              have hd4 : decide (0 < lz) = true := decide_eq_true hd3
              have hd5 : decide ((0 : Int) < (lz : Int)) = true := decide_eq_true hd2
              clear hd
              go_wp2_with fail
              exact ⟨N + 1 - (j + 1), by omega, j + 1, congrArg (Value.int .i64) HEX.out, by omega, rfl, Lib.hid HJ6.out, rfl⟩
            | true =>
              obtain rfl : ln = 1 := HLN.out.symm
              go_wp2_with fail
              (with_reducible refine HSX.out.mono ?_)
              rintro e wz ⟨Az, lz, cz, rfl, hd, hb⟩
              have HJ6 := Lib.hid (HJ5.out.trans (hb.mono HJ5.out.size))
              clear hb
              have hd2 : (0 : Int) < (lz : Int) := of_decide_eq_true hd.symm
              have hd3 : 0 < lz := by omega
              have hd4 : decide (0 < lz) = true := decide_eq_true hd3
              have hd5 : decide ((0 : Int) < (lz : Int)) = true := decide_eq_true hd2
              clear hd
              go_wp2_with fail
              exact ⟨N + 1 - (j + 1), by omega, j + 1, congrArg (Value.int .i64) HEX.out, by omega, rfl, Lib.hid HJ6.out, rfl⟩
end Go.Proofs.YtekoflcioooncaaDoor
