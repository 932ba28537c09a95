/-
  The law HalfLogic.
-/
import Derived.Test.YtklpihaelaagpaaDoorLgZL
import Derived.Test.YtklpihaelaagpaaDoorLgZM
namespace Go.Proofs.YtklpihaelaagpaaDoor
open Go.RowKit

theorem minI_eq (x y z : Int) (h : z = min x y) {ats : Array TypeId} {ty : TypeId} : Builtin.min_ ats ty #[.int .i64 x, .int .i64 y] = pure (.int .i64 z) := by
  subst h
  simp only [Builtin.min_, List.foldlM_cons, List.foldlM_nil, Builtin.min2, bind_pure]
  congr 2
  split <;> omega
theorem maxI_eq (x y z : Int) (h : z = max x y) {ats : Array TypeId} {ty : TypeId} : Builtin.max_ ats ty #[.int .i64 x, .int .i64 y] = pure (.int .i64 z) := by
  subst h
  simp only [Builtin.max_, List.foldlM_cons, List.foldlM_nil, Builtin.max2, bind_pure]
  congr 2
  split <;> omega
def frH (v0 v1 v2 : Value) (P4 P5 P7 P8 P9 : Nat) (t : Array Value) : Array Value :=
  #[v0, v1, v2, slotOf t 3, .pointer (some ⟨P4, 0, none⟩), .pointer (some ⟨P5, 0, none⟩), slotOf t 6, .pointer (some ⟨P7, 0, none⟩), .pointer (some ⟨P8, 0, none⟩), .pointer (some ⟨P9, 0, none⟩), slotOf t 10, slotOf t 11, slotOf t 12, slotOf t 13, slotOf t 14, slotOf t 15, slotOf t 16, slotOf t 17, slotOf t 18, slotOf t 19, slotOf t 20, slotOf t 21, slotOf t 22, slotOf t 23, slotOf t 24, slotOf t 25, slotOf t 26, slotOf t 27, slotOf t 28, slotOf t 29, slotOf t 30, slotOf t 31, slotOf t 32, slotOf t 33, slotOf t 34, slotOf t 35, slotOf t 36, slotOf t 37, slotOf t 38, slotOf t 39, slotOf t 40, slotOf t 41, slotOf t 42, slotOf t 43, slotOf t 44, slotOf t 45, slotOf t 46, slotOf t 47, slotOf t 48, slotOf t 49, slotOf t 50, slotOf t 51, slotOf t 52, slotOf t 53, slotOf t 54, slotOf t 55, slotOf t 56, slotOf t 57, slotOf t 58, slotOf t 59, slotOf t 60, slotOf t 61, slotOf t 62, slotOf t 63, slotOf t 64, slotOf t 65, slotOf t 66, slotOf t 67, slotOf t 68, slotOf t 69, slotOf t 70, slotOf t 71, slotOf t 72, slotOf t 73, slotOf t 74, slotOf t 75, slotOf t 76, slotOf t 77, slotOf t 78, slotOf t 79, slotOf t 80, slotOf t 81, slotOf t 82, slotOf t 83, slotOf t 84, slotOf t 85, slotOf t 86, slotOf t 87, slotOf t 88, slotOf t 89, slotOf t 90, slotOf t 91, slotOf t 92, slotOf t 93, slotOf t 94, slotOf t 95, slotOf t 96, slotOf t 97, slotOf t 98, slotOf t 99, slotOf t 100, slotOf t 101, slotOf t 102, slotOf t 103, slotOf t 104, slotOf t 105, slotOf t 106, slotOf t 107, slotOf t 108, slotOf t 109, slotOf t 110, slotOf t 111, slotOf t 112, slotOf t 113, slotOf t 114, slotOf t 115, slotOf t 116, slotOf t 117, slotOf t 118, slotOf t 119, slotOf t 120, slotOf t 121, slotOf t 122, slotOf t 123, slotOf t 124, slotOf t 125, slotOf t 126, slotOf t 127, slotOf t 128, slotOf t 129, slotOf t 130, slotOf t 131, slotOf t 132, slotOf t 133, slotOf t 134, slotOf t 135, slotOf t 136, slotOf t 137, slotOf t 138, slotOf t 139, slotOf t 140, slotOf t 141, slotOf t 142, slotOf t 143, slotOf t 144, slotOf t 145, slotOf t 146, slotOf t 147, slotOf t 148, slotOf t 149, slotOf t 150, slotOf t 151, slotOf t 152, slotOf t 153, slotOf t 154, slotOf t 155, slotOf t 156, slotOf t 157, slotOf t 158, slotOf t 159, slotOf t 160, slotOf t 161, slotOf t 162, slotOf t 163, slotOf t 164, slotOf t 165, slotOf t 166, slotOf t 167, slotOf t 168, slotOf t 169, slotOf t 170, slotOf t 171, slotOf t 172, slotOf t 173, slotOf t 174, slotOf t 175, slotOf t 176, slotOf t 177, slotOf t 178]
theorem known_not (hs : List HN) (f : Nat) (x : PX) (k : Nat) (hk : k < hs.length) (h3 : T3 ((exprT hs (f + 1) x).getD k 0)) : (exprT hs (f + 1 + 1) (notP x)).getD k 0 = 2 - (exprT hs (f + 1) x).getD k 0 := by
  have : exprT hs (f + 1 + 1) (notP x) = rowOf hs.length fun k => notI ((exprT hs (f + 1) x).getD k 0) := rfl
  rw [this, rowOf_getD _ _ _ hk]
  unfold notI
  rw [seenI_of h3]
theorem known_and (hs : List HN) (f : Nat) (x y : PX) (k : Nat) (hk : k < hs.length) (h3 : T3 ((exprT hs (f + 1) x).getD k 0)) (h4 : T3 ((exprT hs (f + 1) y).getD k 0)) : (exprT hs (f + 1 + 1) (bothP 0 x y)).getD k 0 = min ((exprT hs (f + 1) x).getD k 0) ((exprT hs (f + 1) y).getD k 0) := by
  have : exprT hs (f + 1 + 1) (bothP 0 x y) = rowOf hs.length fun k => andL [(exprT hs (f + 1) x).getD k 0, (exprT hs (f + 1) y).getD k 0] := rfl
  rw [this, rowOf_getD _ _ _ hk]
  exact andL_two h3 h4
theorem known_or (hs : List HN) (f : Nat) (x y : PX) (k : Nat) (hk : k < hs.length) (h3 : T3 ((exprT hs (f + 1) x).getD k 0)) (h4 : T3 ((exprT hs (f + 1) y).getD k 0)) : (exprT hs (f + 1 + 1) (bothP 1 x y)).getD k 0 = max ((exprT hs (f + 1) x).getD k 0) ((exprT hs (f + 1) y).getD k 0) := by
  have : exprT hs (f + 1 + 1) (bothP 1 x y) = rowOf hs.length fun k => orL [(exprT hs (f + 1) x).getD k 0, (exprT hs (f + 1) y).getD k 0] := rfl
  rw [this, rowOf_getD _ _ _ hk]
  exact orL_two h3 h4
set_option maxRecDepth 1000000 in
set_option maxHeartbeats 16000000 in
theorem halfLogic_of {f : Nat} (hf : f + 2 ≤ 1048576) (a : Option Addr) (n c : Nat) (evs : List Ev) (x y : PX) (cs ds : List Value) (w : World) (hE : EnvT w) (hev : EvsAt w a n evs) (hw : wtEs evs ≤ 1048576) (hx : XAt (f + 1) w x cs) (hy : XAt (f + 1) w y ds) :
    Calls Tryd.prog 3 #[.slice a n c, .agg cs.toArray, .agg ds.toArray] w fun e w' => e = .returned (.bool true) ∧ Below w.heap.size w w' := by
  have hn : n ≤ 1048576 := by have := wtEs_length evs; have := hev.1; omega
  obtain ⟨W0, hW0⟩ : ∃ W0, W0 = (w.alloc (.cells cs.toArray 30)).alloc (.cells ds.toArray 30) := ⟨_, rfl⟩
  have hb0 : Below w.heap.size w W0 := by rw [hW0]; exact ((Below.refl w.heap.size w).alloc (Nat.le_refl _) _).alloc (by simp) _
  have hsz0 : W0.heap.size = w.heap.size + 2 := by rw [hW0]; simp
  have hk4 : W0.heap[w.heap.size]? = some (.cells cs.toArray 30 (0, 0)) := by
    rw [hW0, Below.heap_alloc _ _ _ (by simp)]; exact heap_alloc_new w _
  have hk5 : W0.heap[w.heap.size + 1]? = some (.cells ds.toArray 30 (0, 0)) := by
    rw [hW0]; exact alloc_atH _ _ (by simp)
  have HKS : Hid (∀ W, Below W0.heap.size W0 W → W.heap[w.heap.size]? = some (.cells cs.toArray 30 (0, 0)) ∧ W.heap[w.heap.size + 1]? = some (.cells ds.toArray 30 (0, 0))) := Lib.hid fun W hW =>
    ⟨(hW.block w.heap.size (by omega)).trans hk4, (hW.block (w.heap.size + 1) (by omega)).trans hk5⟩
  have FIN : Hid (∀ W, Below W0.heap.size W0 W → Below w.heap.size w W) := Lib.hid fun W hW => hb0.trans (hW.mono hb0.size)
  have HAW := Lib.hid (awake15_any W0 (hE.below hb0))
  have HBQ : Hid (∀ W, Below W0.heap.size W0 W → BegQ W a n evs) := Lib.hid fun W hW => ⟨hev.below (FIN.out W hW), hn, evsSm hw, hw, (hE.below (FIN.out W hW)).rng, (hE.below (FIN.out W hW)).tab⟩
  have HBG : Hid (∀ W, Below W0.heap.size W0 W → Calls Tryd.prog 5 #[.slice a n c] W fun e w' => e = .returned (.bool (begAll beg0 evs).isSome) ∧ Below W.heap.size W w') := Lib.hid fun W hW => begin15_any a n c evs W (hev.below (FIN.out W hW)) hn (evsSm hw)
  have HAX : Hid (∀ W, Below W0.heap.size W0 W → Calls Tryd.prog 7 #[.agg cs.toArray] W fun e w' => ∃ G, e = .returned (.agg #[.slice (some ⟨G, 0, none⟩) 1 1]) ∧ SsAt (f + 1) w' (some ⟨G, 0, none⟩) (askP [x]) ∧ Below W.heap.size W w') := Lib.hid fun W hW => asked15_any x cs W (XAt.turn (FIN.out W hW) (Nat.le_refl _) hx)
  have HAY : Hid (∀ W, Below W0.heap.size W0 W → Calls Tryd.prog 7 #[.agg ds.toArray] W fun e w' => ∃ G, e = .returned (.agg #[.slice (some ⟨G, 0, none⟩) 1 1]) ∧ SsAt (f + 1) w' (some ⟨G, 0, none⟩) (askP [y]) ∧ Below W.heap.size W w') := Lib.hid fun W hW => asked15_any y ds W (XAt.turn (FIN.out W hW) (Nat.le_refl _) hy)
  have HLT : Hid (∀ W (F G : Nat) (z : PX), SsAt F W (some ⟨G, 0, none⟩) (askP [z]) → Calls Tryd.prog 6 #[.agg #[.slice (some ⟨G, 0, none⟩) 1 1]] W fun e w' => SomeB e ∧ Below W.heap.size W w') := Lib.hid fun W F G z h => light_any (some ⟨G, 0, none⟩) 1 (askP [z]) W h (Nat.le_of_ble_eq_true rfl)
  have HCK : Hid (∀ W (F G : Nat) (z : PX), F ≤ 1048576 → Below W0.heap.size W0 W → SsAt F W (some ⟨G, 0, none⟩) (askP [z]) → Calls Tryd.prog 8 #[.agg #[.slice (some ⟨G, 0, none⟩) 1 1]] W fun e w' => e = .returned (.int .i64 (checkN F (askP [z]))) ∧ Below W.heap.size W w') := Lib.hid fun W F G z hF hW h => check_any hF (some ⟨G, 0, none⟩) 1 (askP [z]) W (hE.below (FIN.out W hW)) h (Nat.le_of_ble_eq_true rfl)
  have HXX : Hid (∀ W, Below W0.heap.size W0 W → XAt (f + 1) W x cs ∧ XAt (f + 1) W y ds) := Lib.hid fun W hW => ⟨XAt.turn (FIN.out W hW) (Nat.le_refl _) hx, XAt.turn (FIN.out W hW) (Nat.le_refl _) hy⟩
  have HEV : Hid (∀ k (hk : k < evs.length), ∃ b o, a = some ⟨b, o, none⟩ ∧ b < w.heap.size ∧ ∀ W, Below w.heap.size w W → W.cell? ⟨b, o + k * 8, none⟩ = some (.int .i64 evs[k].kind) ∧ W.cell? ⟨b, o + k * 8 + 1, none⟩ = some (.int .i64 evs[k].num)) := Lib.hid fun k hk => by
    obtain ⟨b, o, A, m, c', e, hb, _, _, hc⟩ := hev.at8 k hk
    exact ⟨b, o, e, hb, fun W hW => ⟨(hc W hW).1, (hc W hW).2.1⟩⟩
  have HNL : Hid (n = evs.length) := Lib.hid hev.1
  have HW0E := Lib.hid hW0
  have HF1 : Hid (f + 1 ≤ 1048576 ∧ f + 1 + 1 ≤ 1048576) := Lib.hid ⟨by omega, by omega⟩
  obtain ⟨x0, x1, x2, x3, x4, x5, x6, rfl⟩ := hx.lenH
  obtain ⟨y0, y1, y2, y3, y4, y5, y6, rfl⟩ := hy.lenH
  clear hW0 hb0 hsz0 hk4 hk5 hE hev hw hx hy
  show Calls Tryd.prog 3 #[.slice a n c, .agg #[x0, x1, x2, x3, x4, x5, x6], .agg #[y0, y1, y2, y3, y4, y5, y6]] w _
  go_enter Tryd.func3, Tryd.ntmps3
  go_wp2_with fail
  rw [← HW0E.out]
  (with_reducible refine HAW.out.mono ?_)
  rintro e w1 ⟨rfl, hb1⟩
  have HB1 := Lib.hid hb1
  clear hb1
  obtain ⟨p0, p1, p2, p3, p4, p5, p6⟩ := box7 (HKS.out w1 HB1.out).1
  obtain ⟨q0, q1, q2, q3, q4, q5, q6⟩ := box7 (HKS.out w1 HB1.out).2
  have HQ2 : Hid (∀ o1 o2 : Obj, Below W0.heap.size W0 ((w1.alloc o1).alloc o2)) := Lib.hid fun o1 o2 => ((HB1.out.alloc HB1.out.size _).alloc (HB1.out.alloc HB1.out.size _).size _)
  have p0_2 := fun o1 o2 : Obj => (box7 (HKS.out _ (HQ2.out o1 o2)).1).1
  have p1_2 := fun o1 o2 : Obj => (box7 (HKS.out _ (HQ2.out o1 o2)).1).2.1
  have p2_2 := fun o1 o2 : Obj => (box7 (HKS.out _ (HQ2.out o1 o2)).1).2.2.1
  have p3_2 := fun o1 o2 : Obj => (box7 (HKS.out _ (HQ2.out o1 o2)).1).2.2.2.1
  have p4_2 := fun o1 o2 : Obj => (box7 (HKS.out _ (HQ2.out o1 o2)).1).2.2.2.2.1
  have p5_2 := fun o1 o2 : Obj => (box7 (HKS.out _ (HQ2.out o1 o2)).1).2.2.2.2.2.1
  have p6_2 := fun o1 o2 : Obj => (box7 (HKS.out _ (HQ2.out o1 o2)).1).2.2.2.2.2.2
  have q0_2 := fun o1 o2 : Obj => (box7 (HKS.out _ (HQ2.out o1 o2)).2).1
  have q1_2 := fun o1 o2 : Obj => (box7 (HKS.out _ (HQ2.out o1 o2)).2).2.1
  have q2_2 := fun o1 o2 : Obj => (box7 (HKS.out _ (HQ2.out o1 o2)).2).2.2.1
  have q3_2 := fun o1 o2 : Obj => (box7 (HKS.out _ (HQ2.out o1 o2)).2).2.2.2.1
  have q4_2 := fun o1 o2 : Obj => (box7 (HKS.out _ (HQ2.out o1 o2)).2).2.2.2.2.1
  have q5_2 := fun o1 o2 : Obj => (box7 (HKS.out _ (HQ2.out o1 o2)).2).2.2.2.2.2.1
  have q6_2 := fun o1 o2 : Obj => (box7 (HKS.out _ (HQ2.out o1 o2)).2).2.2.2.2.2.2
  have HQ4 : Hid (∀ o1 o2 o3 o4 : Obj, Below W0.heap.size W0 ((((w1.alloc o1).alloc o2).alloc o3).alloc o4)) := Lib.hid fun o1 o2 o3 o4 => ((((HB1.out.alloc HB1.out.size _).alloc (HB1.out.alloc HB1.out.size _).size _).alloc ((HB1.out.alloc HB1.out.size _).alloc (HB1.out.alloc HB1.out.size _).size _).size _).alloc (((HB1.out.alloc HB1.out.size _).alloc (HB1.out.alloc HB1.out.size _).size _).alloc ((HB1.out.alloc HB1.out.size _).alloc (HB1.out.alloc HB1.out.size _).size _).size _).size _)
  have p0_4 := fun o1 o2 o3 o4 : Obj => (box7 (HKS.out _ (HQ4.out o1 o2 o3 o4)).1).1
  have p1_4 := fun o1 o2 o3 o4 : Obj => (box7 (HKS.out _ (HQ4.out o1 o2 o3 o4)).1).2.1
  have p2_4 := fun o1 o2 o3 o4 : Obj => (box7 (HKS.out _ (HQ4.out o1 o2 o3 o4)).1).2.2.1
  have p3_4 := fun o1 o2 o3 o4 : Obj => (box7 (HKS.out _ (HQ4.out o1 o2 o3 o4)).1).2.2.2.1
  have p4_4 := fun o1 o2 o3 o4 : Obj => (box7 (HKS.out _ (HQ4.out o1 o2 o3 o4)).1).2.2.2.2.1
  have p5_4 := fun o1 o2 o3 o4 : Obj => (box7 (HKS.out _ (HQ4.out o1 o2 o3 o4)).1).2.2.2.2.2.1
  have p6_4 := fun o1 o2 o3 o4 : Obj => (box7 (HKS.out _ (HQ4.out o1 o2 o3 o4)).1).2.2.2.2.2.2
  have q0_4 := fun o1 o2 o3 o4 : Obj => (box7 (HKS.out _ (HQ4.out o1 o2 o3 o4)).2).1
  have q1_4 := fun o1 o2 o3 o4 : Obj => (box7 (HKS.out _ (HQ4.out o1 o2 o3 o4)).2).2.1
  have q2_4 := fun o1 o2 o3 o4 : Obj => (box7 (HKS.out _ (HQ4.out o1 o2 o3 o4)).2).2.2.1
  have q3_4 := fun o1 o2 o3 o4 : Obj => (box7 (HKS.out _ (HQ4.out o1 o2 o3 o4)).2).2.2.2.1
  have q4_4 := fun o1 o2 o3 o4 : Obj => (box7 (HKS.out _ (HQ4.out o1 o2 o3 o4)).2).2.2.2.2.1
  have q5_4 := fun o1 o2 o3 o4 : Obj => (box7 (HKS.out _ (HQ4.out o1 o2 o3 o4)).2).2.2.2.2.2.1
  have q6_4 := fun o1 o2 o3 o4 : Obj => (box7 (HKS.out _ (HQ4.out o1 o2 o3 o4)).2).2.2.2.2.2.2
  obtain ⟨hl1, hl2, hl3, hl4, hl5, hl6, hl7, hl8⟩ := logW_spec w1 x y [x0, x1, x2, x3, x4, x5, x6] [y0, y1, y2, y3, y4, y5, y6] (HXX.out w1 HB1.out).1 (HXX.out w1 HB1.out).2
  obtain ⟨W8, hW8⟩ : ∃ W8, logW w1 [x0, x1, x2, x3, x4, x5, x6] [y0, y1, y2, y3, y4, y5, y6] = W8 := ⟨_, rfl⟩
  rw [hW8] at hl1 hl2 hl3 hl4 hl5 hl6 hl7 hl8
  have HW8 := Lib.hid hW8
  have HB8 := Lib.hid (HB1.out.trans (hl1.mono HB1.out.size))
  have HKN : Hid (∀ W, Below W8.heap.size W8 W → W.heap[w1.heap.size + 1]? = some (.cells #[.int .i64 2, .slice (some ⟨w1.heap.size, 0, none⟩) 1 1, .slice none 0 0, .string ⟨#[]⟩, .int .i64 0, .string ⟨#[]⟩, .int .i64 0] 30 (0, 0))) := Lib.hid fun W hW => (hW.block _ (by omega)).trans hl3
  have HXN : Hid (∀ W, Below W8.heap.size W8 W → XAt (f + 1 + 1) W (notP x) [.int .i64 2, .slice (some ⟨w1.heap.size, 0, none⟩) 1 1, .slice none 0 0, .string ⟨#[]⟩, .int .i64 0, .string ⟨#[]⟩, .int .i64 0]) := Lib.hid fun W hW => XAt.turn hW (Nat.le_refl _) hl6
  have HAN : Hid (∀ W, Below W8.heap.size W8 W → Calls Tryd.prog 7 #[.agg #[.int .i64 2, .slice (some ⟨w1.heap.size, 0, none⟩) 1 1, .slice none 0 0, .string ⟨#[]⟩, .int .i64 0, .string ⟨#[]⟩, .int .i64 0]] W fun e w' => ∃ G, e = .returned (.agg #[.slice (some ⟨G, 0, none⟩) 1 1]) ∧ SsAt (f + 1 + 1) w' (some ⟨G, 0, none⟩) (askP [notP x]) ∧ Below W.heap.size W w') := Lib.hid fun W hW => asked15_any (notP x) [.int .i64 2, .slice (some ⟨w1.heap.size, 0, none⟩) 1 1, .slice none 0 0, .string ⟨#[]⟩, .int .i64 0, .string ⟨#[]⟩, .int .i64 0] W (HXN.out W hW)
  have HKA : Hid (∀ W, Below W8.heap.size W8 W → W.heap[w1.heap.size + 1 + 1 + 1]? = some (.cells #[.int .i64 0, .slice (some ⟨w1.heap.size + 1 + 1, 0, none⟩) 2 2, .slice none 0 0, .string ⟨#[]⟩, .int .i64 0, .string ⟨#[]⟩, .int .i64 0] 30 (0, 0))) := Lib.hid fun W hW => (hW.block _ (by omega)).trans hl4
  have HXA : Hid (∀ W, Below W8.heap.size W8 W → XAt (f + 1 + 1) W (bothP 0 x y) [.int .i64 0, .slice (some ⟨w1.heap.size + 1 + 1, 0, none⟩) 2 2, .slice none 0 0, .string ⟨#[]⟩, .int .i64 0, .string ⟨#[]⟩, .int .i64 0]) := Lib.hid fun W hW => XAt.turn hW (Nat.le_refl _) hl7
  have HAA : Hid (∀ W, Below W8.heap.size W8 W → Calls Tryd.prog 7 #[.agg #[.int .i64 0, .slice (some ⟨w1.heap.size + 1 + 1, 0, none⟩) 2 2, .slice none 0 0, .string ⟨#[]⟩, .int .i64 0, .string ⟨#[]⟩, .int .i64 0]] W fun e w' => ∃ G, e = .returned (.agg #[.slice (some ⟨G, 0, none⟩) 1 1]) ∧ SsAt (f + 1 + 1) w' (some ⟨G, 0, none⟩) (askP [bothP 0 x y]) ∧ Below W.heap.size W w') := Lib.hid fun W hW => asked15_any (bothP 0 x y) [.int .i64 0, .slice (some ⟨w1.heap.size + 1 + 1, 0, none⟩) 2 2, .slice none 0 0, .string ⟨#[]⟩, .int .i64 0, .string ⟨#[]⟩, .int .i64 0] W (HXA.out W hW)
  have HKO : Hid (∀ W, Below W8.heap.size W8 W → W.heap[w1.heap.size + 1 + 1 + 1 + 1 + 1]? = some (.cells #[.int .i64 1, .slice (some ⟨w1.heap.size + 1 + 1 + 1 + 1, 0, none⟩) 2 2, .slice none 0 0, .string ⟨#[]⟩, .int .i64 0, .string ⟨#[]⟩, .int .i64 0] 30 (0, 0))) := Lib.hid fun W hW => (hW.block _ (by omega)).trans hl5
  have HXO : Hid (∀ W, Below W8.heap.size W8 W → XAt (f + 1 + 1) W (bothP 1 x y) [.int .i64 1, .slice (some ⟨w1.heap.size + 1 + 1 + 1 + 1, 0, none⟩) 2 2, .slice none 0 0, .string ⟨#[]⟩, .int .i64 0, .string ⟨#[]⟩, .int .i64 0]) := Lib.hid fun W hW => XAt.turn hW (Nat.le_refl _) hl8
  have HAO : Hid (∀ W, Below W8.heap.size W8 W → Calls Tryd.prog 7 #[.agg #[.int .i64 1, .slice (some ⟨w1.heap.size + 1 + 1 + 1 + 1, 0, none⟩) 2 2, .slice none 0 0, .string ⟨#[]⟩, .int .i64 0, .string ⟨#[]⟩, .int .i64 0]] W fun e w' => ∃ G, e = .returned (.agg #[.slice (some ⟨G, 0, none⟩) 1 1]) ∧ SsAt (f + 1 + 1) w' (some ⟨G, 0, none⟩) (askP [bothP 1 x y]) ∧ Below W.heap.size W w') := Lib.hid fun W hW => asked15_any (bothP 1 x y) [.int .i64 1, .slice (some ⟨w1.heap.size + 1 + 1 + 1 + 1, 0, none⟩) 2 2, .slice none 0 0, .string ⟨#[]⟩, .int .i64 0, .string ⟨#[]⟩, .int .i64 0] W (HXO.out W hW)
  clear hl1 hl2 hl3 hl4 hl5 hl6 hl7 hl8 hW8
  have HBG8 := Lib.hid (HBG.out W8 HB8.out)
  have HBW : Hid (Below W8.heap.size W8 W8) := Lib.hid (Below.refl _ _)
  have HB8L : Hid (Below W0.heap.size W0 (logW w1 [x0, x1, x2, x3, x4, x5, x6] [y0, y1, y2, y3, y4, y5, y6])) := Lib.hid (by rw [HW8.out]; exact HB8.out)
  by_cases hn120 : (120 : Int) < (n : Int)
  · go_wp2_with fail
    go_ret
    exact ⟨rfl, FIN.out _ HB8L.out⟩
  have hn120' : (n : Int) ≤ 120 := by omega
  go_wp2_with fail
  refine calls_eqH HW8.out ?_
  (with_reducible refine HBG8.out.mono ?_)
  rintro e w2 ⟨rfl, hb⟩
  have HB2 := Lib.hid (HB8.out.trans (hb.mono HB8.out.size))
  have HD2 := Lib.hid (HBW.out.trans (hb.mono HBW.out.size))
  clear hb
  cases hst : begAll beg0 evs with
  | none =>
    go_wp2_with fail
    go_ret
    exact ⟨rfl, FIN.out _ HB2.out⟩
  | some st =>
  have HST := Lib.hid hst
  clear hst
  simp only [Option.isSome_some]
  obtain ⟨p0, p1, p2, p3, p4, p5, p6⟩ := box7 (HKS.out w2 HB2.out).1
  have HA3 := Lib.hid (HAX.out w2 HB2.out)
  go_wp2_with fail
  (with_reducible refine HA3.out.mono ?_)
  rintro e w3 ⟨G3, rfl, hs, hb⟩
  have HB3 := Lib.hid (HB2.out.trans (hb.mono HB2.out.size))
  have HD3 := Lib.hid (HD2.out.trans (hb.mono HD2.out.size))
  have HL3 := Lib.hid (HLT.out w3 _ G3 x hs)
  clear hs hb p0 p1 p2 p3 p4 p5 p6
  go_wp2_with fail
  (with_reducible refine HL3.out.mono ?_)
  rintro e w4 ⟨⟨b4, rfl⟩, hb⟩
  have HB4 := Lib.hid (HB3.out.trans (hb.mono HB3.out.size))
  have HD4 := Lib.hid (HD3.out.trans (hb.mono HD3.out.size))
  clear hb
  cases b4 with
  | false =>
    go_wp2_with fail
    go_ret
    exact ⟨rfl, FIN.out _ HB4.out⟩
  | true =>
  obtain ⟨q0, q1, q2, q3, q4, q5, q6⟩ := box7 (HKS.out w4 HB4.out).2
  have HA5 := Lib.hid (HAY.out w4 HB4.out)
  go_wp2_with fail
  (with_reducible refine HA5.out.mono ?_)
  rintro e w5 ⟨G5, rfl, hs, hb⟩
  have HB5 := Lib.hid (HB4.out.trans (hb.mono HB4.out.size))
  have HD5 := Lib.hid (HD4.out.trans (hb.mono HD4.out.size))
  have HL5 := Lib.hid (HLT.out w5 _ G5 y hs)
  clear hs hb q0 q1 q2 q3 q4 q5 q6
  go_wp2_with fail
  (with_reducible refine HL5.out.mono ?_)
  rintro e w6 ⟨⟨b6, rfl⟩, hb⟩
  have HB6 := Lib.hid (HB5.out.trans (hb.mono HB5.out.size))
  have HD6 := Lib.hid (HD5.out.trans (hb.mono HD5.out.size))
  clear hb
  cases b6 with
  | false =>
    go_wp2_with fail
    go_ret
    exact ⟨rfl, FIN.out _ HB6.out⟩
  | true =>
  obtain ⟨p0, p1, p2, p3, p4, p5, p6⟩ := box7 (HKS.out w6 HB6.out).1
  have HAn1 := Lib.hid (HAX.out w6 HB6.out)
  go_wp2_with fail
  (with_reducible refine HAn1.out.mono ?_)
  rintro e wa1 ⟨Ga1, rfl, hs, hb⟩
  have HBa1 := Lib.hid (HB6.out.trans (hb.mono HB6.out.size))
  have HDa1 := Lib.hid (HD6.out.trans (hb.mono HD6.out.size))
  have HC1 := Lib.hid (HCK.out wa1 _ Ga1 (x) HF1.out.1 HBa1.out hs)
  clear hs hb p0 p1 p2 p3 p4 p5 p6
  obtain ⟨cv1, hcv⟩ : ∃ cx, checkN (f + 1) (askP [x]) = cx := ⟨_, rfl⟩
  rw [hcv] at HC1
  have HCV1 := Lib.hid hcv
  clear hcv
  go_wp2_with fail
  (with_reducible refine HC1.out.mono ?_)
  rintro e wc1 ⟨rfl, hb⟩
  have HBc1 := Lib.hid (HBa1.out.trans (hb.mono HBa1.out.size))
  have HDc1 := Lib.hid (HDa1.out.trans (hb.mono HDa1.out.size))
  clear hb
  by_cases hc1 : cv1 = 0
  rotate_left
  · have hne : (cv1 != 0) = true := by simp [hc1]
    go_wp2_with fail
    go_ret
    exact ⟨rfl, FIN.out _ HBc1.out⟩
  subst hc1
  obtain ⟨q0, q1, q2, q3, q4, q5, q6⟩ := box7 (HKS.out wc1 HBc1.out).2
  have HAn2 := Lib.hid (HAY.out wc1 HBc1.out)
  go_wp2_with fail
  (with_reducible refine HAn2.out.mono ?_)
  rintro e wa2 ⟨Ga2, rfl, hs, hb⟩
  have HBa2 := Lib.hid (HBc1.out.trans (hb.mono HBc1.out.size))
  have HDa2 := Lib.hid (HDc1.out.trans (hb.mono HDc1.out.size))
  have HC2 := Lib.hid (HCK.out wa2 _ Ga2 (y) HF1.out.1 HBa2.out hs)
  clear hs hb q0 q1 q2 q3 q4 q5 q6
  obtain ⟨cv2, hcv⟩ : ∃ cx, checkN (f + 1) (askP [y]) = cx := ⟨_, rfl⟩
  rw [hcv] at HC2
  have HCV2 := Lib.hid hcv
  clear hcv
  go_wp2_with fail
  (with_reducible refine HC2.out.mono ?_)
  rintro e wc2 ⟨rfl, hb⟩
  have HBc2 := Lib.hid (HBa2.out.trans (hb.mono HBa2.out.size))
  have HDc2 := Lib.hid (HDa2.out.trans (hb.mono HDa2.out.size))
  clear hb
  by_cases hc2 : cv2 = 0
  rotate_left
  · have hne : (cv2 != 0) = true := by simp [hc2]
    go_wp2_with fail
    go_ret
    exact ⟨rfl, FIN.out _ HBc2.out⟩
  subst hc2
  obtain ⟨r0, r1, r2, r3, r4, r5, r6⟩ := box7 (HKN.out wc2 HDc2.out)
  have HAn3 := Lib.hid (HAN.out wc2 HDc2.out)
  go_wp2_with fail
  (with_reducible refine HAn3.out.mono ?_)
  rintro e wa3 ⟨Ga3, rfl, hs, hb⟩
  have HBa3 := Lib.hid (HBc2.out.trans (hb.mono HBc2.out.size))
  have HDa3 := Lib.hid (HDc2.out.trans (hb.mono HDc2.out.size))
  have HC3 := Lib.hid (HCK.out wa3 _ Ga3 (notP x) HF1.out.2 HBa3.out hs)
  clear hs hb r0 r1 r2 r3 r4 r5 r6
  obtain ⟨cv3, hcv⟩ : ∃ cx, checkN (f + 1 + 1) (askP [notP x]) = cx := ⟨_, rfl⟩
  rw [hcv] at HC3
  have HCV3 := Lib.hid hcv
  clear hcv
  go_wp2_with fail
  (with_reducible refine HC3.out.mono ?_)
  rintro e wc3 ⟨rfl, hb⟩
  have HBc3 := Lib.hid (HBa3.out.trans (hb.mono HBa3.out.size))
  have HDc3 := Lib.hid (HDa3.out.trans (hb.mono HDa3.out.size))
  clear hb
  by_cases hc3 : cv3 = 0
  rotate_left
  · have hne : (cv3 != 0) = true := by simp [hc3]
    go_wp2_with fail
    go_ret
    exact ⟨rfl, FIN.out _ HBc3.out⟩
  subst hc3
  obtain ⟨r0, r1, r2, r3, r4, r5, r6⟩ := box7 (HKA.out wc3 HDc3.out)
  have HAn4 := Lib.hid (HAA.out wc3 HDc3.out)
  go_wp2_with fail
  (with_reducible refine HAn4.out.mono ?_)
  rintro e wa4 ⟨Ga4, rfl, hs, hb⟩
  have HBa4 := Lib.hid (HBc3.out.trans (hb.mono HBc3.out.size))
  have HDa4 := Lib.hid (HDc3.out.trans (hb.mono HDc3.out.size))
  have HC4 := Lib.hid (HCK.out wa4 _ Ga4 (bothP 0 x y) HF1.out.2 HBa4.out hs)
  clear hs hb r0 r1 r2 r3 r4 r5 r6
  obtain ⟨cv4, hcv⟩ : ∃ cx, checkN (f + 1 + 1) (askP [bothP 0 x y]) = cx := ⟨_, rfl⟩
  rw [hcv] at HC4
  have HCV4 := Lib.hid hcv
  clear hcv
  go_wp2_with fail
  (with_reducible refine HC4.out.mono ?_)
  rintro e wc4 ⟨rfl, hb⟩
  have HBc4 := Lib.hid (HBa4.out.trans (hb.mono HBa4.out.size))
  have HDc4 := Lib.hid (HDa4.out.trans (hb.mono HDa4.out.size))
  clear hb
  by_cases hc4 : cv4 = 0
  rotate_left
  · have hne : (cv4 != 0) = true := by simp [hc4]
    go_wp2_with fail
    go_ret
    exact ⟨rfl, FIN.out _ HBc4.out⟩
  subst hc4
  obtain ⟨r0, r1, r2, r3, r4, r5, r6⟩ := box7 (HKO.out wc4 HDc4.out)
  have HAn5 := Lib.hid (HAO.out wc4 HDc4.out)
  go_wp2_with fail
  (with_reducible refine HAn5.out.mono ?_)
  rintro e wa5 ⟨Ga5, rfl, hs, hb⟩
  have HBa5 := Lib.hid (HBc4.out.trans (hb.mono HBc4.out.size))
  have HDa5 := Lib.hid (HDc4.out.trans (hb.mono HDc4.out.size))
  have HC5 := Lib.hid (HCK.out wa5 _ Ga5 (bothP 1 x y) HF1.out.2 HBa5.out hs)
  clear hs hb r0 r1 r2 r3 r4 r5 r6
  obtain ⟨cv5, hcv⟩ : ∃ cx, checkN (f + 1 + 1) (askP [bothP 1 x y]) = cx := ⟨_, rfl⟩
  rw [hcv] at HC5
  have HCV5 := Lib.hid hcv
  clear hcv
  go_wp2_with fail
  (with_reducible refine HC5.out.mono ?_)
  rintro e wc5 ⟨rfl, hb⟩
  have HBc5 := Lib.hid (HBa5.out.trans (hb.mono HBa5.out.size))
  have HDc5 := Lib.hid (HDa5.out.trans (hb.mono HDa5.out.size))
  clear hb
  by_cases hc5 : cv5 = 0
  rotate_left
  · have hne : (cv5 != 0) = true := by simp [hc5]
    go_wp2_with fail
    go_ret
    exact ⟨rfl, FIN.out _ HBc5.out⟩
  subst hc5
  obtain ⟨hs, hhs⟩ : ∃ hs, readN evs st = hs := ⟨_, rfl⟩
  have HHS := Lib.hid hhs
  have HLEN : Hid ((hs.length : Int) = st.next + 1 ∧ 1 ≤ hs.length) := Lib.hid (by rw [← hhs]; exact readN_len HST.out)
  have HHO : Hid (∀ (v : Int) F (z : PX) (zc : List Value) (W : World), -1 ≤ v → v < st.next → v ≤ 1152921504606846976 → F ≤ 1048576 → checkN F (askP [z]) = 0 → Below W0.heap.size W0 W → XAt F W z zc → Calls Tryd.prog 9 #[.slice a n c, .int .i64 v, .agg zc.toArray] W fun e w' => e = .returned (.tuple #[.int .i64 ((exprT hs F z).getD (v + 1).toNat 0), .int .i64 0]) ∧ Below W.heap.size W w') := Lib.hid fun v F z zc W h1 h2 h3 hF hck hW hz => by
    have h := holdsH_any hF a n c evs v z zc W (HBQ.out W hW) hz ⟨by omega, h3⟩
    have hl := HLEN.out.1
    have hh : holdsN F evs v z = ((exprT hs F z).getD (v + 1).toNat 0, 0) := by
      unfold holdsN
      rw [HST.out]
      simp only
      rw [hhs, if_neg (by rw [hck]; decide), if_neg (by omega)]
    rw [hh] at h
    exact h
  have HNUM : Hid (∀ k (hk : k < evs.length), evs[k].kind ≠ 2 → 0 ≤ evs[k].num ∧ evs[k].num < st.next) := Lib.hid fun k hk h2 => beg_num HST.out k hk h2
  have HNX : Hid (0 ≤ st.next ∧ st.next ≤ 1152921504606846976) := Lib.hid (by
    have h1 := HLEN.out
    have h2 := (beg_hok HST.out).len
    have h3 : (readN evs st).length = (hAll evs.length evs evs.length).1.length := List.length_modify _ _ _
    have h4 := HNL.out
    rw [hhs] at h3
    omega)
  have HKB : Hid (∀ W, Below wc5.heap.size wc5 W → Below W0.heap.size W0 W ∧ Below W8.heap.size W8 W) := Lib.hid fun W hW => ⟨HBc5.out.trans (hW.mono HBc5.out.size), HDc5.out.trans (hW.mono HDc5.out.size)⟩
  have HBS : Hid (Below wc5.heap.size wc5 wc5) := Lib.hid (Below.refl _ _)
  have HBASE : Hid (∀ W, Below wc5.heap.size wc5 W → Below w.heap.size w W) := Lib.hid fun W hW => FIN.out W (HKB.out W hW).1
  clear hhs
  go_wp2_with fail
  refine wp_loop_ghost (fun k a1 wr => ∃ (j : Nat) (v : Int), slotOf a1.tmps 11 = .int .i64 (j : Int) ∧ slotOf a1.tmps 10 = .int .i64 v ∧ j ≤ n + 1 ∧ k = n + 1 - j ∧ Hid (-1 ≤ v ∧ v < st.next) ∧ Hid (Below wc5.heap.size wc5 wr) ∧ a1 = { tmps := frH (.slice a n c) (.agg #[x0, x1, x2, x3, x4, x5, x6]) (.agg #[y0, y1, y2, y3, y4, y5, y6]) w.heap.size (w.heap.size + 1) (w1.heap.size + 1) (w1.heap.size + 1 + 1 + 1) (w1.heap.size + 1 + 1 + 1 + 1 + 1) a1.tmps, defers := [] }) (n + 1) ?atStart ?round
  case atStart => exact ⟨0, -1, rfl, rfl, Nat.zero_le _, rfl, Lib.hid ⟨by omega, by have := HNX.out; omega⟩, Lib.hid HBS.out, rfl⟩
  case round =>
    rintro mk ⟨t, dd⟩ wr ⟨j, v, h11, h10, hjn, rfl, HVR, HJ, ha⟩
    obtain ⟨ha1, ha2⟩ := Act.mk.inj ha
    subst dd
    rw [ha1]
    clear ha ha1
    dsimp only [frH] at h10 h11 ⊢
    obtain ⟨J, hJ⟩ : ∃ J : Int, (j : Int) = J := ⟨_, rfl⟩
    obtain ⟨J2, hJ2⟩ : ∃ J2 : Int, ((j + 1 : Nat) : Int) = J2 := ⟨_, rfl⟩
    have HJJ : Hid (Value.int .i64 J2 = Value.int .i64 ((j + 1 : Nat) : Int)) := Lib.hid (by rw [hJ2])
    rw [hJ] at h11
    rw [h10, h11]
    clear h10 h11
    have ewj : IntKind.i64.wrap (J + 1) = J2 := by rw [IntWalk.i64_in _ (by omega)]; omega
    by_cases hj : j ≤ n
    rotate_left
    · have hj2 : j = n + 1 := by omega
      have hj3 : (n : Int) < J := by omega
      go_wp2_with fail
      go_ret
      exact ⟨rfl, HBASE.out _ HJ.out⟩
    have hj' : J ≤ (n : Int) := by omega
    by_cases hj0 : j = 0
    · have hz0 : J ≤ 0 := by omega
      clear hJ hJ2
      obtain ⟨k, hk⟩ : ∃ k : Nat, (v + 1).toNat = k := ⟨_, rfl⟩
      have hkl : k < hs.length := by have := HLEN.out.1; have := HVR.out; omega
      have HVB := Lib.hid (show v ≤ 1152921504606846976 by have := HNX.out; have := HVR.out; omega)
      have hT := fun z => ((exprT_ok hs HLEN.out.2 f z).1).at k
      have hnt := known_not hs f x k hkl (hT x)
      have han := known_and hs f x y k hkl (hT x) (hT y)
      have hor := known_or hs f x y k hkl (hT x) (hT y)
      have h3x := hT x
      have h3y := hT y
      obtain ⟨va, hva⟩ : ∃ va, (exprT hs (f + 1) x).getD k 0 = va := ⟨_, rfl⟩
      obtain ⟨vb, hvb⟩ : ∃ vb, (exprT hs (f + 1) y).getD k 0 = vb := ⟨_, rfl⟩
      obtain ⟨vc, hvc⟩ : ∃ vc, (exprT hs (f + 1 + 1) (notP x)).getD k 0 = vc := ⟨_, rfl⟩
      obtain ⟨vd, hvd⟩ : ∃ vd, (exprT hs (f + 1 + 1) (bothP 0 x y)).getD k 0 = vd := ⟨_, rfl⟩
      obtain ⟨ve, hve⟩ : ∃ ve, (exprT hs (f + 1 + 1) (bothP 1 x y)).getD k 0 = ve := ⟨_, rfl⟩
      rw [hva] at hnt han hor h3x
      rw [hvb] at han hor h3y
      rw [hvc] at hnt
      rw [hvd] at han
      rw [hve] at hor
      have HHX : Hid (∀ W, Below wc5.heap.size wc5 W → Calls Tryd.prog 9 #[.slice a n c, .int .i64 v, .agg #[x0, x1, x2, x3, x4, x5, x6]] W fun e w' => e = .returned (.tuple #[.int .i64 va, .int .i64 0]) ∧ Below W.heap.size W w') := Lib.hid fun W hW => by
        have := HHO.out v (f + 1) (x) _ W HVR.out.1 HVR.out.2 HVB.out HF1.out.1 HCV1.out (HKB.out W hW).1 (HXX.out W (HKB.out W hW).1).1
        rw [hk, hva] at this
        exact this
      have HHY : Hid (∀ W, Below wc5.heap.size wc5 W → Calls Tryd.prog 9 #[.slice a n c, .int .i64 v, .agg #[y0, y1, y2, y3, y4, y5, y6]] W fun e w' => e = .returned (.tuple #[.int .i64 vb, .int .i64 0]) ∧ Below W.heap.size W w') := Lib.hid fun W hW => by
        have := HHO.out v (f + 1) (y) _ W HVR.out.1 HVR.out.2 HVB.out HF1.out.1 HCV2.out (HKB.out W hW).1 (HXX.out W (HKB.out W hW).1).2
        rw [hk, hvb] at this
        exact this
      have HHN : Hid (∀ W, Below wc5.heap.size wc5 W → Calls Tryd.prog 9 #[.slice a n c, .int .i64 v, .agg #[.int .i64 2, .slice (some ⟨w1.heap.size, 0, none⟩) 1 1, .slice none 0 0, .string ⟨#[]⟩, .int .i64 0, .string ⟨#[]⟩, .int .i64 0]] W fun e w' => e = .returned (.tuple #[.int .i64 vc, .int .i64 0]) ∧ Below W.heap.size W w') := Lib.hid fun W hW => by
        have := HHO.out v (f + 1 + 1) (notP x) _ W HVR.out.1 HVR.out.2 HVB.out HF1.out.2 HCV3.out (HKB.out W hW).1 (HXN.out W (HKB.out W hW).2)
        rw [hk, hvc] at this
        exact this
      have HHA : Hid (∀ W, Below wc5.heap.size wc5 W → Calls Tryd.prog 9 #[.slice a n c, .int .i64 v, .agg #[.int .i64 0, .slice (some ⟨w1.heap.size + 1 + 1, 0, none⟩) 2 2, .slice none 0 0, .string ⟨#[]⟩, .int .i64 0, .string ⟨#[]⟩, .int .i64 0]] W fun e w' => e = .returned (.tuple #[.int .i64 vd, .int .i64 0]) ∧ Below W.heap.size W w') := Lib.hid fun W hW => by
        have := HHO.out v (f + 1 + 1) (bothP 0 x y) _ W HVR.out.1 HVR.out.2 HVB.out HF1.out.2 HCV4.out (HKB.out W hW).1 (HXA.out W (HKB.out W hW).2)
        rw [hk, hvd] at this
        exact this
      have HHO : Hid (∀ W, Below wc5.heap.size wc5 W → Calls Tryd.prog 9 #[.slice a n c, .int .i64 v, .agg #[.int .i64 1, .slice (some ⟨w1.heap.size + 1 + 1 + 1 + 1, 0, none⟩) 2 2, .slice none 0 0, .string ⟨#[]⟩, .int .i64 0, .string ⟨#[]⟩, .int .i64 0]] W fun e w' => e = .returned (.tuple #[.int .i64 ve, .int .i64 0]) ∧ Below W.heap.size W w') := Lib.hid fun W hW => by
        have := HHO.out v (f + 1 + 1) (bothP 1 x y) _ W HVR.out.1 HVR.out.2 HVB.out HF1.out.2 HCV5.out (HKB.out W hW).1 (HXO.out W (HKB.out W hW).2)
        rw [hk, hve] at this
        exact this
      have HC : Hid (vc = 2 - va ∧ vd = min va vb ∧ ve = max va vb ∧ T3 va ∧ T3 vb) := Lib.hid ⟨hnt, han, hor, h3x, h3y⟩
      clear hnt han hor h3x h3y hT hva hvb hvc hvd hve hk hkl
      obtain ⟨p0, p1, p2, p3, p4, p5, p6⟩ := box7 (HKS.out wr (HKB.out wr HJ.out).1).1
      go_wp2_with fail
      (with_reducible refine (HHX.out _ HJ.out).mono ?_)
      rintro e wh0 ⟨rfl, hb⟩
      have HJ0 := Lib.hid (HJ.out.trans (hb.mono HJ.out.size))
      clear hb p0 p1 p2 p3 p4 p5 p6
      obtain ⟨q0, q1, q2, q3, q4, q5, q6⟩ := box7 (HKS.out wh0 (HKB.out wh0 HJ0.out).1).2
      go_wp2_with fail
      (with_reducible refine (HHY.out _ HJ0.out).mono ?_)
      rintro e wh1 ⟨rfl, hb⟩
      have HJ1 := Lib.hid (HJ0.out.trans (hb.mono HJ0.out.size))
      clear hb q0 q1 q2 q3 q4 q5 q6
      obtain ⟨r0, r1, r2, r3, r4, r5, r6⟩ := box7 (HKN.out wh1 (HKB.out wh1 HJ1.out).2)
      go_wp2_with fail
      (with_reducible refine (HHN.out _ HJ1.out).mono ?_)
      rintro e wh2 ⟨rfl, hb⟩
      have HJ2 := Lib.hid (HJ1.out.trans (hb.mono HJ1.out.size))
      clear hb r0 r1 r2 r3 r4 r5 r6
      obtain ⟨r0, r1, r2, r3, r4, r5, r6⟩ := box7 (HKA.out wh2 (HKB.out wh2 HJ2.out).2)
      go_wp2_with fail
      (with_reducible refine (HHA.out _ HJ2.out).mono ?_)
      rintro e wh3 ⟨rfl, hb⟩
      have HJ3 := Lib.hid (HJ2.out.trans (hb.mono HJ2.out.size))
      clear hb r0 r1 r2 r3 r4 r5 r6
      obtain ⟨r0, r1, r2, r3, r4, r5, r6⟩ := box7 (HKO.out wh3 (HKB.out wh3 HJ3.out).2)
      go_wp2_with fail
      (with_reducible refine (HHO.out _ HJ3.out).mono ?_)
      rintro e wh4 ⟨rfl, hb⟩
      have HJ4 := Lib.hid (HJ3.out.trans (hb.mono HJ3.out.size))
      clear hb r0 r1 r2 r3 r4 r5 r6
      obtain ⟨c1, c2, c3, ⟨c4, c5⟩, ⟨c6, c7⟩⟩ := HC.out
      have ewa : IntKind.i64.wrap (2 - va) = 2 - va := IntWalk.i64_in _ (by omega)
      by_cases hle : va ≤ vb
      · have hmin : ∀ ats ty, Builtin.min_ ats ty #[.int .i64 va, .int .i64 vb] = pure (.int .i64 va) := fun _ _ => minI_eq _ _ _ (by omega)
        have hmax : ∀ ats ty, Builtin.max_ ats ty #[.int .i64 va, .int .i64 vb] = pure (.int .i64 vb) := fun _ _ => maxI_eq _ _ _ (by omega)
        obtain rfl : vd = va := by omega
        obtain rfl : ve = vb := by omega
        subst c1
        clear HC c2 c3 c4 c5 c6 c7
        go_wp2_with fail
        exact ⟨n + 1 - (j + 1), by omega, (j + 1), v, HJJ.out, rfl, by omega, rfl, HVR, Lib.hid HJ4.out, rfl⟩
      · have hmin : ∀ ats ty, Builtin.min_ ats ty #[.int .i64 va, .int .i64 vb] = pure (.int .i64 vb) := fun _ _ => minI_eq _ _ _ (by omega)
        have hmax : ∀ ats ty, Builtin.max_ ats ty #[.int .i64 va, .int .i64 vb] = pure (.int .i64 va) := fun _ _ => maxI_eq _ _ _ (by omega)
        obtain rfl : vd = vb := by omega
        obtain rfl : ve = va := by omega
        subst c1
        clear HC c2 c3 c4 c5 c6 c7 hle
        go_wp2_with fail
        exact ⟨n + 1 - (j + 1), by omega, (j + 1), v, HJJ.out, rfl, by omega, rfl, HVR, Lib.hid HJ4.out, rfl⟩
    obtain ⟨i, hi⟩ : ∃ i, j = i + 1 := ⟨j - 1, by omega⟩
    have hil : i < evs.length := by have := HNL.out; omega
    have hpos : (0 : Int) < J := by omega
    have ewi : IntKind.i64.wrap (J - 1) = (i : Int) := by rw [IntWalk.i64_in _ (by omega)]; omega
    clear hJ hJ2
    have i1 : (0 : Int) ≤ (i : Int) := by omega
    have i2 : (i : Int) < (n : Int) := by omega
    obtain ⟨b, o, rfl, hbl, hc⟩ := HEV.out i hil
    obtain ⟨e0, e1⟩ := hc wr (HBASE.out wr HJ.out)
    have HNM := Lib.hid (HNUM.out i hil)
    clear hc
    generalize evs[i] = e at *
    by_cases h2 : e.kind = 2
    · rw [h2] at e0
      go_wp2_with fail
      exact ⟨n + 1 - (j + 1), by omega, j + 1, v, HJJ.out, rfl, by omega, rfl, HVR, Lib.hid HJ.out, rfl⟩
    have t2 : ((e.kind : Int) == 2) = false := by simpa using h2
    obtain ⟨v', hv'⟩ : ∃ v', e.num = v' := ⟨_, rfl⟩
    have HVR2 : Hid (-1 ≤ v' ∧ v' < st.next) := Lib.hid (by have := HNM.out h2; omega)
    rw [hv'] at e1
    clear HVR HNM hv' h2
    obtain ⟨k, hk⟩ : ∃ k : Nat, (v' + 1).toNat = k := ⟨_, rfl⟩
    have hkl : k < hs.length := by have := HLEN.out.1; have := HVR2.out; omega
    have HVB := Lib.hid (show v' ≤ 1152921504606846976 by have := HNX.out; have := HVR2.out; omega)
    have hT := fun z => ((exprT_ok hs HLEN.out.2 f z).1).at k
    have hnt := known_not hs f x k hkl (hT x)
    have han := known_and hs f x y k hkl (hT x) (hT y)
    have hor := known_or hs f x y k hkl (hT x) (hT y)
    have h3x := hT x
    have h3y := hT y
    obtain ⟨va, hva⟩ : ∃ va, (exprT hs (f + 1) x).getD k 0 = va := ⟨_, rfl⟩
    obtain ⟨vb, hvb⟩ : ∃ vb, (exprT hs (f + 1) y).getD k 0 = vb := ⟨_, rfl⟩
    obtain ⟨vc, hvc⟩ : ∃ vc, (exprT hs (f + 1 + 1) (notP x)).getD k 0 = vc := ⟨_, rfl⟩
    obtain ⟨vd, hvd⟩ : ∃ vd, (exprT hs (f + 1 + 1) (bothP 0 x y)).getD k 0 = vd := ⟨_, rfl⟩
    obtain ⟨ve, hve⟩ : ∃ ve, (exprT hs (f + 1 + 1) (bothP 1 x y)).getD k 0 = ve := ⟨_, rfl⟩
    rw [hva] at hnt han hor h3x
    rw [hvb] at han hor h3y
    rw [hvc] at hnt
    rw [hvd] at han
    rw [hve] at hor
    have HHX : Hid (∀ W, Below wc5.heap.size wc5 W → Calls Tryd.prog 9 #[.slice (some ⟨b, o, none⟩) n c, .int .i64 v', .agg #[x0, x1, x2, x3, x4, x5, x6]] W fun e w' => e = .returned (.tuple #[.int .i64 va, .int .i64 0]) ∧ Below W.heap.size W w') := Lib.hid fun W hW => by
      have := HHO.out v' (f + 1) (x) _ W HVR2.out.1 HVR2.out.2 HVB.out HF1.out.1 HCV1.out (HKB.out W hW).1 (HXX.out W (HKB.out W hW).1).1
      rw [hk, hva] at this
      exact this
    have HHY : Hid (∀ W, Below wc5.heap.size wc5 W → Calls Tryd.prog 9 #[.slice (some ⟨b, o, none⟩) n c, .int .i64 v', .agg #[y0, y1, y2, y3, y4, y5, y6]] W fun e w' => e = .returned (.tuple #[.int .i64 vb, .int .i64 0]) ∧ Below W.heap.size W w') := Lib.hid fun W hW => by
      have := HHO.out v' (f + 1) (y) _ W HVR2.out.1 HVR2.out.2 HVB.out HF1.out.1 HCV2.out (HKB.out W hW).1 (HXX.out W (HKB.out W hW).1).2
      rw [hk, hvb] at this
      exact this
    have HHN : Hid (∀ W, Below wc5.heap.size wc5 W → Calls Tryd.prog 9 #[.slice (some ⟨b, o, none⟩) n c, .int .i64 v', .agg #[.int .i64 2, .slice (some ⟨w1.heap.size, 0, none⟩) 1 1, .slice none 0 0, .string ⟨#[]⟩, .int .i64 0, .string ⟨#[]⟩, .int .i64 0]] W fun e w' => e = .returned (.tuple #[.int .i64 vc, .int .i64 0]) ∧ Below W.heap.size W w') := Lib.hid fun W hW => by
      have := HHO.out v' (f + 1 + 1) (notP x) _ W HVR2.out.1 HVR2.out.2 HVB.out HF1.out.2 HCV3.out (HKB.out W hW).1 (HXN.out W (HKB.out W hW).2)
      rw [hk, hvc] at this
      exact this
    have HHA : Hid (∀ W, Below wc5.heap.size wc5 W → Calls Tryd.prog 9 #[.slice (some ⟨b, o, none⟩) n c, .int .i64 v', .agg #[.int .i64 0, .slice (some ⟨w1.heap.size + 1 + 1, 0, none⟩) 2 2, .slice none 0 0, .string ⟨#[]⟩, .int .i64 0, .string ⟨#[]⟩, .int .i64 0]] W fun e w' => e = .returned (.tuple #[.int .i64 vd, .int .i64 0]) ∧ Below W.heap.size W w') := Lib.hid fun W hW => by
      have := HHO.out v' (f + 1 + 1) (bothP 0 x y) _ W HVR2.out.1 HVR2.out.2 HVB.out HF1.out.2 HCV4.out (HKB.out W hW).1 (HXA.out W (HKB.out W hW).2)
      rw [hk, hvd] at this
      exact this
    have HHO : Hid (∀ W, Below wc5.heap.size wc5 W → Calls Tryd.prog 9 #[.slice (some ⟨b, o, none⟩) n c, .int .i64 v', .agg #[.int .i64 1, .slice (some ⟨w1.heap.size + 1 + 1 + 1 + 1, 0, none⟩) 2 2, .slice none 0 0, .string ⟨#[]⟩, .int .i64 0, .string ⟨#[]⟩, .int .i64 0]] W fun e w' => e = .returned (.tuple #[.int .i64 ve, .int .i64 0]) ∧ Below W.heap.size W w') := Lib.hid fun W hW => by
      have := HHO.out v' (f + 1 + 1) (bothP 1 x y) _ W HVR2.out.1 HVR2.out.2 HVB.out HF1.out.2 HCV5.out (HKB.out W hW).1 (HXO.out W (HKB.out W hW).2)
      rw [hk, hve] at this
      exact this
    have HC : Hid (vc = 2 - va ∧ vd = min va vb ∧ ve = max va vb ∧ T3 va ∧ T3 vb) := Lib.hid ⟨hnt, han, hor, h3x, h3y⟩
    clear hnt han hor h3x h3y hT hva hvb hvc hvd hve hk hkl
    obtain ⟨p0, p1, p2, p3, p4, p5, p6⟩ := box7 (HKS.out wr (HKB.out wr HJ.out).1).1
    go_wp2_with fail
    (with_reducible refine (HHX.out _ HJ.out).mono ?_)
    rintro e wh0 ⟨rfl, hb⟩
    have HJ0 := Lib.hid (HJ.out.trans (hb.mono HJ.out.size))
    clear hb p0 p1 p2 p3 p4 p5 p6
    obtain ⟨q0, q1, q2, q3, q4, q5, q6⟩ := box7 (HKS.out wh0 (HKB.out wh0 HJ0.out).1).2
    go_wp2_with fail
    (with_reducible refine (HHY.out _ HJ0.out).mono ?_)
    rintro e wh1 ⟨rfl, hb⟩
    have HJ1 := Lib.hid (HJ0.out.trans (hb.mono HJ0.out.size))
    clear hb q0 q1 q2 q3 q4 q5 q6
    obtain ⟨r0, r1, r2, r3, r4, r5, r6⟩ := box7 (HKN.out wh1 (HKB.out wh1 HJ1.out).2)
    go_wp2_with fail
    (with_reducible refine (HHN.out _ HJ1.out).mono ?_)
    rintro e wh2 ⟨rfl, hb⟩
    have HJ2 := Lib.hid (HJ1.out.trans (hb.mono HJ1.out.size))
    clear hb r0 r1 r2 r3 r4 r5 r6
    obtain ⟨r0, r1, r2, r3, r4, r5, r6⟩ := box7 (HKA.out wh2 (HKB.out wh2 HJ2.out).2)
    go_wp2_with fail
    (with_reducible refine (HHA.out _ HJ2.out).mono ?_)
    rintro e wh3 ⟨rfl, hb⟩
    have HJ3 := Lib.hid (HJ2.out.trans (hb.mono HJ2.out.size))
    clear hb r0 r1 r2 r3 r4 r5 r6
    obtain ⟨r0, r1, r2, r3, r4, r5, r6⟩ := box7 (HKO.out wh3 (HKB.out wh3 HJ3.out).2)
    go_wp2_with fail
    (with_reducible refine (HHO.out _ HJ3.out).mono ?_)
    rintro e wh4 ⟨rfl, hb⟩
    have HJ4 := Lib.hid (HJ3.out.trans (hb.mono HJ3.out.size))
    clear hb r0 r1 r2 r3 r4 r5 r6
    obtain ⟨c1, c2, c3, ⟨c4, c5⟩, ⟨c6, c7⟩⟩ := HC.out
    have ewa : IntKind.i64.wrap (2 - va) = 2 - va := IntWalk.i64_in _ (by omega)
    by_cases hle : va ≤ vb
    · have hmin : ∀ ats ty, Builtin.min_ ats ty #[.int .i64 va, .int .i64 vb] = pure (.int .i64 va) := fun _ _ => minI_eq _ _ _ (by omega)
      have hmax : ∀ ats ty, Builtin.max_ ats ty #[.int .i64 va, .int .i64 vb] = pure (.int .i64 vb) := fun _ _ => maxI_eq _ _ _ (by omega)
      obtain rfl : vd = va := by omega
      obtain rfl : ve = vb := by omega
      subst c1
      clear HC c2 c3 c4 c5 c6 c7
      go_wp2_with fail
      exact ⟨n + 1 - (j + 1), by omega, (j + 1), v', HJJ.out, rfl, by omega, rfl, HVR2, Lib.hid HJ4.out, rfl⟩
    · have hmin : ∀ ats ty, Builtin.min_ ats ty #[.int .i64 va, .int .i64 vb] = pure (.int .i64 vb) := fun _ _ => minI_eq _ _ _ (by omega)
      have hmax : ∀ ats ty, Builtin.max_ ats ty #[.int .i64 va, .int .i64 vb] = pure (.int .i64 va) := fun _ _ => maxI_eq _ _ _ (by omega)
      obtain rfl : vd = vb := by omega
      obtain rfl : ve = va := by omega
      subst c1
      clear HC c2 c3 c4 c5 c6 c7 hle
      go_wp2_with fail
      exact ⟨n + 1 - (j + 1), by omega, (j + 1), v', HJJ.out, rfl, by omega, rfl, HVR2, Lib.hid HJ4.out, rfl⟩
end Go.Proofs.YtklpihaelaagpaaDoor
