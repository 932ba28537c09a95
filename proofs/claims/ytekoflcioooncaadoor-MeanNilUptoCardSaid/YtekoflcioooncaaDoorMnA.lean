/-
  mean.Holds; Select, From and Holds of a nil tree.
-/
import Derived.Test.YtekoflcioooncaaDoorMcZL
import Derived.Test.YtekoflcioooncaaDoorMcZE
import Derived.Test.YtekoflcioooncaaDoorMcQ
import Derived.Deep.RegionHeld3
import Derived.Test.YtekoflcioooncaaDoorMcZG
import Derived.ChangeMaps5
namespace Go.Proofs.YtekoflcioooncaaDoor
open Go.RowKit

theorem w64_3 : W64 3 := by unfold W64; decide
/-- what Holds gives -/
def holdsN (T : PT) (f : Nat) (v : Int) (x : PX) : Bool := if refusesN T.N f v [.mk 3 3 [] [x]] = 0 then holdP T f v x else false

theorem XAt.len {f : Nat} {w : World} {x : PX} {cs : List Value} (h : XAt f w x cs) : ∃ c0 c1 c2 c3 c4 c5 c6, cs = [c0, c1, c2, c3, c4, c5, c6] := by
  cases f with
  | zero => exact h.elim
  | succ f => obtain ⟨a, c, p, d, h1, _⟩ := h; exact ⟨_, _, _, _, _, _, _, h1⟩

set_option maxRecDepth 100000 in
set_option maxHeartbeats 4000000 in
theorem from_nil (v : Int) (a : Option Addr) (n c : Nat) (w : World) :
    Calls Tryd.prog 18 #[.pointer none, .int .i64 v, .agg #[.slice a n c]] w fun e w' => e = .returned (.tuple #[.slice none 0 0, .int .i64 1]) ∧ Below w.heap.size w w' := by
  have hb0 : Below w.heap.size w (w.alloc (.cells #[.slice a n c] 25)) := (Below.refl _ _).alloc (Nat.le_refl _) _
  have HB0 := Lib.hid hb0
  have HR := Lib.hid (mrefuses_nil v a n c (w.alloc (.cells #[.slice a n c] 25)))
  clear hb0
  go_enter Tryd.func18, Tryd.ntmps18
  go_wp2_with fail
  (with_reducible refine HR.out.mono ?_)
  rintro e w2 ⟨rfl, hb2⟩
  have HB2 := Lib.hid (HB0.out.trans (hb2.mono HB0.out.size))
  clear hb2
  go_wp2_with fail
  go_ret2
  exact ⟨rfl, HB2.out⟩
set_option maxRecDepth 100000 in
set_option maxHeartbeats 4000000 in
theorem select_nil (a : Option Addr) (n c : Nat) (w : World) :
    Calls Tryd.prog 15 #[.pointer none, .agg #[.slice a n c]] w fun e w' => e = .returned (.tuple #[.slice none 0 0, .int .i64 1]) ∧ Below w.heap.size w w' := by
  have hb0 : Below w.heap.size w (w.alloc (.cells #[.slice a n c] 25)) := (Below.refl _ _).alloc (Nat.le_refl _) _
  have HB0 := Lib.hid hb0
  have HR := Lib.hid (from_nil (-1) a n c (w.alloc (.cells #[.slice a n c] 25)))
  clear hb0
  go_enter Tryd.func15, Tryd.ntmps15
  go_wp2_with fail
  (with_reducible refine HR.out.mono ?_)
  rintro e w2 ⟨rfl, hb2⟩
  have HB2 := Lib.hid (HB0.out.trans (hb2.mono HB0.out.size))
  clear hb2
  go_wp2_with fail
  go_ret2
  exact ⟨rfl, HB2.out⟩
/-- the memory that Holds lays out for its path -/
def holdsW (w : World) (cs : List Value) : World :=
  (((w.alloc (.cells cs.toArray 61)).alloc (.cells cs.toArray 61)).alloc (.cells #[.int .i64 3, .int .i64 3, .string ⟨#[]⟩, .slice (some ⟨w.heap.size + 1, 0, none⟩) 1 1] 57)).alloc (.cells #[.slice (some ⟨w.heap.size + 1 + 1, 0, none⟩) 1 1] 25)
theorem holdsW_spec (w : World) (cs : List Value) : Below w.heap.size w (holdsW w cs) ∧ (holdsW w cs).heap.size = w.heap.size + 4 ∧ (holdsW w cs).heap[w.heap.size]? = some (.cells cs.toArray 61 (0, 0)) ∧ (holdsW w cs).heap[w.heap.size + 1]? = some (.cells cs.toArray 61 (0, 0)) ∧
    (holdsW w cs).heap[w.heap.size + 2]? = some (.cells #[.int .i64 3, .int .i64 3, .string ⟨#[]⟩, .slice (some ⟨w.heap.size + 1, 0, none⟩) 1 1] 57 (0, 0)) := by
  unfold holdsW
  refine ⟨((((Below.refl _ _).alloc (Nat.le_refl _) _).alloc (by simp) _).alloc (by simp only [World.size_alloc]; omega) _).alloc (by simp only [World.size_alloc]; omega) _, by simp, ?_, ?_, ?_⟩
  · rw [Below.heap_alloc _ _ _ (by simp only [World.size_alloc]; omega), Below.heap_alloc _ _ _ (by simp only [World.size_alloc]; omega), Below.heap_alloc _ _ _ (by simp)]
    exact heap_alloc_new w _
  · rw [Below.heap_alloc _ _ _ (by simp only [World.size_alloc]; omega), Below.heap_alloc _ _ _ (by simp)]
    have := heap_alloc_new (w.alloc (.cells cs.toArray 61)) (.cells cs.toArray 61)
    rw [World.size_alloc] at this
    exact this
  · rw [Below.heap_alloc _ _ _ (by simp)]
    have := heap_alloc_new ((w.alloc (.cells cs.toArray 61)).alloc (.cells cs.toArray 61)) (.cells #[.int .i64 3, .int .i64 3, .string ⟨#[]⟩, .slice (some ⟨w.heap.size + 1, 0, none⟩) 1 1] 57)
    rw [World.size_alloc, World.size_alloc] at this
    exact this
theorem box7 {W : World} {G : Nat} {c0 c1 c2 c3 c4 c5 c6 : Value} (h : W.heap[G]? = some (.cells #[c0, c1, c2, c3, c4, c5, c6] 61 (0, 0))) : W.cell? ⟨G, 0, none⟩ = some c0 ∧ W.cell? ⟨G, 1, none⟩ = some c1 ∧ W.cell? ⟨G, 2, none⟩ = some c2 ∧ W.cell? ⟨G, 3, none⟩ = some c3 ∧ W.cell? ⟨G, 4, none⟩ = some c4 ∧ W.cell? ⟨G, 5, none⟩ = some c5 ∧ W.cell? ⟨G, 6, none⟩ = some c6 := by
  refine ⟨?_, ?_, ?_, ?_, ?_, ?_, ?_⟩ <;> (rw [cell_heap h]; rfl)
set_option maxRecDepth 100000 in
set_option maxHeartbeats 4000000 in
theorem holds_nil (v : Int) (c0 c1 c2 c3 c4 c5 c6 : Value) (w : World) :
    Calls Tryd.prog 24 #[.pointer none, .int .i64 v, .agg #[c0, c1, c2, c3, c4, c5, c6]] w fun e w' => e = .returned (.tuple #[.bool false, .int .i64 1]) ∧ Below w.heap.size w w' := by
  have HB0 := Lib.hid (holdsW_spec w [c0, c1, c2, c3, c4, c5, c6]).1
  have HR := Lib.hid (mrefuses_nil v (some ⟨w.heap.size + 1 + 1, 0, none⟩) 1 1 (holdsW w [c0, c1, c2, c3, c4, c5, c6]))
  have HWE : Hid (holdsW w [c0, c1, c2, c3, c4, c5, c6] = (((w.alloc (.cells #[c0, c1, c2, c3, c4, c5, c6] 61)).alloc (.cells #[c0, c1, c2, c3, c4, c5, c6] 61)).alloc (.cells #[.int .i64 3, .int .i64 3, .string ⟨#[]⟩, .slice (some ⟨w.heap.size + 1, 0, none⟩) 1 1] 57)).alloc (.cells #[.slice (some ⟨w.heap.size + 1 + 1, 0, none⟩) 1 1] 25)) := Lib.hid rfl
  generalize holdsW w [c0, c1, c2, c3, c4, c5, c6] = W0 at *
  go_enter Tryd.func24, Tryd.ntmps24
  go_wp2_with fail
  rw [← HWE.out]
  (with_reducible refine HR.out.mono ?_)
  rintro e w2 ⟨rfl, hb2⟩
  have HB2 := Lib.hid (HB0.out.trans (hb2.mono HB0.out.size))
  clear hb2
  go_wp2_with fail
  go_ret2
  exact ⟨rfl, HB2.out⟩
set_option maxRecDepth 100000 in
set_option maxHeartbeats 4000000 in
theorem mholds_any {f : Nat} (hf : f ≤ 1048576) {tb : Nat} {evs : List Ev} (v : Int) (x : PX) (cs : List Value) (w : World) (hq : TQ w tb evs) (hE : EnvT w) (hx : XAt f w x cs) :
    Calls Tryd.prog 24 #[.pointer (some ⟨tb, 0, none⟩), .int .i64 v, .agg cs.toArray] w fun e w' => e = .returned (.tuple #[.bool (holdsN (treePT evs) f v x), .int .i64 (refusesN (nodesB evs).length f v [.mk 3 3 [] [x]])]) ∧ Below w.heap.size w w' := by
  obtain ⟨hb0, hsz, hk0, hk1, hk2⟩ := holdsW_spec w cs
  have hxs : XsAt f (holdsW w cs) (some ⟨w.heap.size + 1, 0, none⟩) [x] := xs_one hk1 (by obtain ⟨_, _, _, _, _, _, _, rfl⟩ := hx.len; rfl) (XAt.turn hb0 (Nat.le_refl _) hx)
  have hss : SsAt f (holdsW w cs) (some ⟨w.heap.size + 1 + 1, 0, none⟩) [.mk 3 3 [] [x]] := ss_one (s := .mk 3 3 [] [x]) (wa := some ⟨w.heap.size + 1, 0, none⟩) (wc := 1) hk2 (Nat.le_refl _) w64_3 w64_3 (Nat.zero_le _) (Nat.le_of_ble_eq_true rfl) hxs
  have HB0 := Lib.hid hb0
  have HR := Lib.hid (refuses_any hf v (some ⟨w.heap.size + 1 + 1, 0, none⟩) 1 [.mk 3 3 [] [x]] (holdsW w cs) (hq.below hb0) (hE.below hb0) hss (Nat.le_of_ble_eq_true rfl))
  rw [show ([.mk 3 3 [] [x]] : List PS).length = 1 from rfl] at HR
  have HH : refusesN (nodesB evs).length f v [.mk 3 3 [] [x]] = 0 → Hid (∀ W, Below (holdsW w cs).heap.size (holdsW w cs) W → Calls Tryd.prog 49 #[.agg #[.pointer (some ⟨tb, 0, none⟩)], .int .i64 v, .agg cs.toArray] W fun e w' => e = .returned (.bool (holdP (treePT evs) f v x)) ∧ Below W.heap.size W w') := fun hr => by
    have hvv : -1 ≤ v ∧ v < ((nodesB evs).length : Int) := by
      unfold refusesN at hr
      split at hr
      · cases hr
      · omega
    have hck : checkN f [.mk 3 3 [] [x]] = 0 := by
      unfold refusesN at hr
      rw [if_neg (by omega)] at hr
      exact hr
    have hg := goodPB_wher (checkN_good hck) _ List.mem_cons_self
    refine Lib.hid fun W hW => ?_
    have hbW := hb0.trans (hW.mono hb0.size)
    exact holds_all tb evs f v x cs W hvv.1 hvv.2 (hq.below hbW) (XAt.turn hbW (Nat.le_refl _) hx) (by simpa [PS.wher] using hg)
  obtain ⟨c0, c1, c2, c3, c4, c5, c6, rfl⟩ := hx.len
  have HKS : Hid (∀ W, Below (holdsW w [c0, c1, c2, c3, c4, c5, c6]).heap.size (holdsW w [c0, c1, c2, c3, c4, c5, c6]) W → W.heap[w.heap.size]? = some (.cells #[c0, c1, c2, c3, c4, c5, c6] 61 (0, 0))) := Lib.hid fun W hW => (hW.block w.heap.size (by omega)).trans hk0
  have HWE : Hid (holdsW w [c0, c1, c2, c3, c4, c5, c6] = (((w.alloc (.cells #[c0, c1, c2, c3, c4, c5, c6] 61)).alloc (.cells #[c0, c1, c2, c3, c4, c5, c6] 61)).alloc (.cells #[.int .i64 3, .int .i64 3, .string ⟨#[]⟩, .slice (some ⟨w.heap.size + 1, 0, none⟩) 1 1] 57)).alloc (.cells #[.slice (some ⟨w.heap.size + 1 + 1, 0, none⟩) 1 1] 25)) := Lib.hid rfl
  clear hb0 hsz hk0 hk1 hk2 hxs hss hq hE hx
  show Calls Tryd.prog 24 #[.pointer (some ⟨tb, 0, none⟩), .int .i64 v, .agg #[c0, c1, c2, c3, c4, c5, c6]] w _
  generalize holdsW w [c0, c1, c2, c3, c4, c5, c6] = W0 at *
  unfold holdsN
  have hN : (treePT evs).N = (nodesB evs).length := rfl
  rw [hN]
  clear hN
  by_cases hr : refusesN (nodesB evs).length f v [.mk 3 3 [] [x]] = 0
  · have HHX := HH hr
    rw [if_pos hr]
    rw [hr] at HR ⊢
    clear HH hr
    generalize holdP (treePT evs) f v x = hp at *
    go_enter Tryd.func24, Tryd.ntmps24
    go_wp2_with fail
    rw [← HWE.out]
    (with_reducible refine HR.out.mono ?_)
    rintro e w2 ⟨rfl, hb2⟩
    have HB2 := Lib.hid (HB0.out.trans (hb2.mono HB0.out.size))
    have HHC := Lib.hid (HHX.out w2 hb2)
    obtain ⟨k0, k1, k2, k3, k4, k5, k6⟩ := box7 (HKS.out w2 hb2)
    clear hb2
    go_wp2_with fail
    (with_reducible refine HHC.out.mono ?_)
    rintro e w3 ⟨rfl, hb3⟩
    have HB3 := Lib.hid (HB2.out.trans (hb3.mono HB2.out.size))
    clear hb3
    go_wp2_with fail
    go_ret2
    exact ⟨rfl, HB3.out⟩
  · rw [if_neg hr]
    generalize refusesN (nodesB evs).length f v [.mk 3 3 [] [x]] = er at *
    have hr1 : ((er : Int) != 0) = true := by simp [hr]
    have hr2 : ((er : Int) == 0) = false := by simp [hr]
    clear HH hr
    go_enter Tryd.func24, Tryd.ntmps24
    go_wp2_with fail
    rw [← HWE.out]
    (with_reducible refine HR.out.mono ?_)
    rintro e w2 ⟨rfl, hb2⟩
    have HB2 := Lib.hid (HB0.out.trans (hb2.mono HB0.out.size))
    clear hb2
    go_wp2_with fail
    go_ret2
    exact ⟨rfl, HB2.out⟩
end Go.Proofs.YtekoflcioooncaaDoor

/-
  gimletref11: Great: it says something, whatever comes.
-/
namespace Go.Proofs.YtekoflcioooncaaDoor
open Go.RowKit

def RestX (f : Nat) : Prop := ∀ (a : Option Addr) (c : Nat) (ss : List PS) (k : Int) (W : World), SsAt f W a ss → ss.length ≤ 1048576 → -3000000 ≤ k → k ≤ 262144 →
  Calls Tryd.prog 52 #[.slice a ss.length c, .int .i64 k] W fun e w' => ∃ r, e = .returned (.int .i64 r) ∧ -3000000 ≤ r ∧ r ≤ k ∧ Below W.heap.size W w'
def RestL (f : Nat) : Prop := ∀ (a : Option Addr) (c : Nat) (l : List PX) (k : Int) (W : World), XsAt f W a l → l.length ≤ 1048576 → -3000000 ≤ k → k ≤ 262144 →
  Calls Tryd.prog 74 #[.slice a l.length c, .int .i64 k] W fun e w' => ∃ r, e = .returned (.int .i64 r) ∧ -3000000 ≤ r ∧ r ≤ k ∧ Below W.heap.size W w'

set_option maxRecDepth 100000 in
set_option maxHeartbeats 4000000 in
theorem rest_of {f : Nat} (HL : RestL f) : RestX f := fun a c ss k w hs hn hk1 hk2 => by
  have HS := Lib.hid hs
  have HLL := Lib.hid HL
  clear hs HL
  obtain ⟨n, hm⟩ : ∃ n, ss.length = n := ⟨_, rfl⟩
  rw [hm] at hn ⊢
  have HM := Lib.hid hm
  clear hm
  go_enter Tryd.func52, Tryd.ntmps52
  go_wp2_with fail
  go_loopw [1, 5] (fun kv iv wr => ∃ (i : Nat) (r : Int), iv = .int .i64 i ∧ kv = .int .i64 r ∧ i ≤ n ∧ -3000000 ≤ r ∧ r ≤ k ∧ Hid (Below w.heap.size w wr)) (fun _ iv _ => n - (intOf iv).toNat)
  case atStart => exact ⟨0, k, rfl, rfl, Nat.zero_le _, hk1, Int.le_refl _, Lib.hid (Below.refl _ _)⟩
  case round =>
    obtain ⟨i, r, rfl, rfl, hin, hr1, hr2, HB⟩ := hrel
    by_cases hi : i < n
    · have i1 : (0 : Int) ≤ (i : Int) := by omega
      have i2 : (i : Int) < (n : Int) := by omega
      have ewi : IntKind.i64.wrap ((i : Int) + 1) = (i : Int) + 1 := IntWalk.i64_in _ (by omega)
      by_cases hr : 0 ≤ r
      · have hil : i < ss.length := by rw [HM.out]; exact hi
        obtain ⟨b, o, wa, wc, rfl, hb, hx, h4, h5, h6, h7, h8, hcs⟩ := HS.out.get i hil
        have HCS : Hid (∀ W, Below w.heap.size w W → W.cell? ⟨b, o + i * 4 + 2, none⟩ = some (.string (strL ss[i].name)) ∧ W.cell? ⟨b, o + i * 4 + 3, none⟩ = some (.slice wa ss[i].wher.length wc)) := Lib.hid fun W hW => ⟨(hcs W hW).2.2.1, (hcs W hW).2.2.2⟩
        have HRL : Hid (∀ W q, Below w.heap.size w W → -3000000 ≤ q → q ≤ 262144 → Calls Tryd.prog 74 #[.slice wa ss[i].wher.length wc, .int .i64 q] W fun e w' => ∃ r, e = .returned (.int .i64 r) ∧ -3000000 ≤ r ∧ r ≤ q ∧ Below W.heap.size W w') := Lib.hid fun W q hW h1 h2 => HLL.out wa wc ss[i].wher q W (XsAt.below hx hW) h8 h1 h2
        have hnm : (strL ss[i].name).size ≤ 1048576 := by rw [strL_size]; exact h7
        clear hcs hx h4 h5 h6 h7 h8 hb
        generalize strL ss[i].name = nm at *
        generalize ss[i].wher.length = wl at *
        have ew1 : IntKind.i64.wrap (r - 1) = r - 1 := IntWalk.i64_in _ (by omega)
        have ew2 : IntKind.i64.wrap (r - 1 - (nm.size : Int)) = r - 1 - (nm.size : Int) := IntWalk.i64_in _ (by omega)
        obtain ⟨q, hq⟩ : ∃ q, r - 1 - (nm.size : Int) = q := ⟨_, rfl⟩
        have hq1 : -3000000 ≤ q := by omega
        have hq2 : q ≤ r - 1 := by omega
        have hq3 : q ≤ 262144 := by omega
        have HQ := Lib.hid (And.intro hq1 hq3)
        rw [hq] at ew2
        have HBD := Lib.hid (HB.out.drew)
        obtain ⟨c2, c3⟩ := HCS.out _ HBD.out
        go_wp2_with fail
        go_region_held3 (fun w' => w'.cell? ⟨b, o + i * 4 + 2, none⟩ = some (.string nm) ∧ w'.cell? ⟨b, o + i * 4 + 3, none⟩ = some (.slice wa wl wc)) (first | exact HCS.out _ HBD.out | exact HCS.out _ ‹_›) (first | (go_at_call 74; (with_reducible refine (HRL.out _ q HBD.out HQ.out.1 HQ.out.2).mono ?_); rintro e w5 ⟨r5, rfl, p1, p2, hb5⟩; have hb6 := HBD.out.trans (hb5.mono HBD.out.size)))
        have HB6 := Lib.hid hb6
        clear hb5 hb6
        go_wp2_with fail
        go_roundw
        case rel => exact ⟨i + 1, r5, by go_num, rfl, by omega, p1, by omega, HB6⟩
        case measure => simp [intOf]; omega
      · have hr' : r < 0 := by omega
        go_wp2_with fail
        go_ret
        exact ⟨r, rfl, hr1, hr2, HB.out⟩
    · have i4 : (n : Int) ≤ (i : Int) := by omega
      go_wp2_with fail
      go_ret
      exact ⟨r, rfl, hr1, hr2, HB.out⟩

set_option maxRecDepth 100000 in
set_option maxHeartbeats 4000000 in
theorem restL_of {f : Nat} (HL : RestL f) (HR : RestX f) : RestL (f + 1) := fun a c l k w hs hn hk1 hk2 => by
  have HS : Hid (XsAt (f + 1) w a l) := Lib.hid hs
  have HLL := Lib.hid HL
  have HRR := Lib.hid HR
  clear hs HL HR
  obtain ⟨n, hm⟩ : ∃ n, l.length = n := ⟨_, rfl⟩
  rw [hm] at hn ⊢
  have HM := Lib.hid hm
  clear hm
  go_enter Tryd.func74, Tryd.ntmps74
  go_wp2_with fail
  go_loopw [1, 5] (fun kv iv wr => ∃ (i : Nat) (r : Int), iv = .int .i64 i ∧ kv = .int .i64 r ∧ i ≤ n ∧ -3000000 ≤ r ∧ r ≤ k ∧ Hid (Below w.heap.size w wr)) (fun _ iv _ => n - (intOf iv).toNat)
  case atStart => exact ⟨0, k, rfl, rfl, Nat.zero_le _, hk1, Int.le_refl _, Lib.hid (Below.refl _ _)⟩
  case round =>
    obtain ⟨i, r, rfl, rfl, hin, hr1, hr2, HB⟩ := hrel
    by_cases hi : i < n
    · have i1 : (0 : Int) ≤ (i : Int) := by omega
      have i2 : (i : Int) < (n : Int) := by omega
      have ewi : IntKind.i64.wrap ((i : Int) + 1) = (i : Int) + 1 := IntWalk.i64_in _ (by omega)
      by_cases hr : 0 ≤ r
      · have hil : i < l.length := by rw [HM.out]; exact hi
        obtain ⟨b, o, xa, xc, xp, xd, rfl, hb, hxa, hxp, h4, h5, h6, h7, h8, h9, h10, h11, h12, hcs⟩ := HS.out.get i hil
        have HCS : Hid (∀ W, Below w.heap.size w W → W.cell? ⟨b, o + i * 7 + 1, none⟩ = some (.slice xa l[i].args.length xc) ∧ W.cell? ⟨b, o + i * 7 + 2, none⟩ = some (.slice xp l[i].path.length xd) ∧ W.cell? ⟨b, o + i * 7 + 3, none⟩ = some (.string (strL l[i].attr)) ∧ W.cell? ⟨b, o + i * 7 + 5, none⟩ = some (.string (strL l[i].text))) := Lib.hid fun W hW => ⟨(hcs W hW).2.1, (hcs W hW).2.2.1, (hcs W hW).2.2.2.1, (hcs W hW).2.2.2.2.2.1⟩
        have HRL : Hid (∀ W q, Below w.heap.size w W → -3000000 ≤ q → q ≤ 262144 → Calls Tryd.prog 74 #[.slice xa l[i].args.length xc, .int .i64 q] W fun e w' => ∃ r, e = .returned (.int .i64 r) ∧ -3000000 ≤ r ∧ r ≤ q ∧ Below W.heap.size W w') := Lib.hid fun W q hW h1 h2 => HLL.out xa xc l[i].args q W (XsAt.below hxa hW) h11 h1 h2
        have HRX : Hid (∀ W q, Below w.heap.size w W → -3000000 ≤ q → q ≤ 262144 → Calls Tryd.prog 52 #[.slice xp l[i].path.length xd, .int .i64 q] W fun e w' => ∃ r, e = .returned (.int .i64 r) ∧ -3000000 ≤ r ∧ r ≤ q ∧ Below W.heap.size W w') := Lib.hid fun W q hW h1 h2 => HRR.out xp xd l[i].path q W (SsAt.below hxp hW) h12 h1 h2
        have hnm : (strL l[i].attr).size ≤ 1048576 := by rw [strL_size]; exact h9
        have htx : (strL l[i].text).size ≤ 1048576 := by rw [strL_size]; exact h10
        clear hcs hxa hxp h4 h5 h6 h7 h8 h9 h10 h11 h12 hb
        generalize strL l[i].attr = nm at *
        generalize strL l[i].text = tx at *
        generalize l[i].args.length = xl at *
        generalize l[i].path.length = pl at *
        have ew1 : IntKind.i64.wrap (r - 1) = r - 1 := IntWalk.i64_in _ (by omega)
        have ew2 : IntKind.i64.wrap (r - 1 - (nm.size : Int)) = r - 1 - (nm.size : Int) := IntWalk.i64_in _ (by omega)
        have ew3 : IntKind.i64.wrap (r - 1 - (nm.size : Int) - (tx.size : Int)) = r - 1 - (nm.size : Int) - (tx.size : Int) := IntWalk.i64_in _ (by omega)
        obtain ⟨q, hq⟩ : ∃ q, r - 1 - (nm.size : Int) - (tx.size : Int) = q := ⟨_, rfl⟩
        have hq1 : -3000000 ≤ q := by omega
        have hq2 : q ≤ r - 1 := by omega
        have hq3 : q ≤ 262144 := by omega
        have HQ := Lib.hid (And.intro hq1 hq3)
        rw [hq] at ew3
        have HBD := Lib.hid (HB.out.drew)
        obtain ⟨c1, c2, c3, c5⟩ := HCS.out _ HBD.out
        go_wp2_with fail
        go_region_held3 (fun w' => w'.cell? ⟨b, o + i * 7 + 1, none⟩ = some (.slice xa xl xc) ∧ w'.cell? ⟨b, o + i * 7 + 2, none⟩ = some (.slice xp pl xd) ∧ w'.cell? ⟨b, o + i * 7 + 3, none⟩ = some (.string nm) ∧ w'.cell? ⟨b, o + i * 7 + 5, none⟩ = some (.string tx)) (first | exact HCS.out _ HBD.out | exact HCS.out _ ‹_›) (first | (go_at_call 74; (with_reducible refine (HRL.out _ q HBD.out HQ.out.1 HQ.out.2).mono ?_); rintro e w5 ⟨r5, rfl, p1, p2, hb5⟩; have hb6 := HBD.out.trans (hb5.mono HBD.out.size)) | (go_at_call 52; (with_reducible refine (HRX.out _ r5 hb6 p1 (Int.le_trans p2 HQ.out.2)).mono ?_); rintro e w7 ⟨r7, rfl, p3, p4, hb7⟩; have hb8 := hb6.trans (hb7.mono hb6.size)))
        have HB8 := Lib.hid hb8
        clear hb5 hb6 hb7 hb8
        go_wp2_with fail
        go_roundw
        case rel => exact ⟨i + 1, r7, by go_num, rfl, by omega, p3, by omega, HB8⟩
        case measure => simp [intOf]; omega
      · have hr' : r < 0 := by omega
        go_wp2_with fail
        go_ret
        exact ⟨r, rfl, hr1, hr2, HB.out⟩
    · have i4 : (n : Int) ≤ (i : Int) := by omega
      go_wp2_with fail
      go_ret
      exact ⟨r, rfl, hr1, hr2, HB.out⟩
set_option maxRecDepth 100000 in
set_option maxHeartbeats 4000000 in
theorem restL_zero : RestL 0 := fun a c l k w hs hn hk1 hk2 => by
  obtain rfl : l = [] := XsAt.zero hs
  rw [show ([] : List PX).length = 0 from rfl]
  clear hs hn
  go_enter Tryd.func74, Tryd.ntmps74
  go_wp2_with fail
  go_loopw [1, 5] (fun kv iv wr => iv = .int .i64 0 ∧ kv = .int .i64 k ∧ Hid (Below w.heap.size w wr)) (fun _ _ _ => 0)
  case atStart => exact ⟨rfl, rfl, Lib.hid (Below.refl _ _)⟩
  case round =>
    obtain ⟨rfl, rfl, HB⟩ := hrel
    go_wp2_with fail
    go_ret
    exact ⟨k, rfl, hk1, Int.le_refl _, HB.out⟩
theorem restL_all : ∀ f, RestL f
  | 0 => restL_zero
  | f + 1 => restL_of (restL_all f) (rest_of (restL_all f))
theorem rest_all (f : Nat) : RestX f := rest_of (restL_all f)
set_option maxRecDepth 100000 in
set_option maxHeartbeats 4000000 in
theorem great_any {f : Nat} (a : Option Addr) (c : Nat) (ss : List PS) (w : World) (hs : SsAt f w a ss) (hn : ss.length ≤ 1048576) :
    Calls Tryd.prog 26 #[.agg #[.slice a ss.length c]] w fun e w' => ∃ g, e = .returned (.bool g) ∧ Below w.heap.size w w' := by
  have hb0 : Below w.heap.size w (w.alloc (.cells #[.slice a ss.length c] 25)) := (Below.refl _ _).alloc (Nat.le_refl _) _
  have HB0 := Lib.hid hb0
  have HR := Lib.hid (rest_all f a c ss 262144 _ (SsAt.below hs hb0) hn (by decide) (by decide))
  clear hs hb0
  generalize ss.length = n at *
  go_enter Tryd.func26, Tryd.ntmps26
  go_wp2_with fail
  (with_reducible refine HR.out.mono ?_)
  rintro e w2 ⟨r, rfl, _, _, hb2⟩
  have HB2 := Lib.hid (HB0.out.trans (hb2.mono HB0.out.size))
  clear hb2
  go_wp2_with fail
  go_ret
  exact ⟨_, rfl, HB2.out⟩
end Go.Proofs.YtekoflcioooncaaDoor

/-
  The law MeanNil.
-/
namespace Go.Proofs.YtekoflcioooncaaDoor
open Go.RowKit

/-- an expression's row, and a step's row that asks it -/
def askW (w : World) (cs : List Value) : World :=
  (w.alloc (.cells cs.toArray 61)).alloc (.cells #[.int .i64 0, .int .i64 0, .string ⟨#[]⟩, .slice (some ⟨w.heap.size, 0, none⟩) 1 1] 57)
theorem askW_spec {f : Nat} (w : World) (x : PX) (cs : List Value) (hx : XAt f w x cs) : Below w.heap.size w (askW w cs) ∧ SsAt f (askW w cs) (some ⟨w.heap.size + 1, 0, none⟩) [.mk 0 0 [] [x]] := by
  have hb : Below w.heap.size w (askW w cs) := ((Below.refl _ _).alloc (Nat.le_refl _) _).alloc (by simp) _
  have hk0 : (askW w cs).heap[w.heap.size]? = some (.cells cs.toArray 61 (0, 0)) := by
    unfold askW
    rw [Below.heap_alloc _ _ _ (by simp)]
    exact heap_alloc_new w _
  have hk1 : (askW w cs).heap[w.heap.size + 1]? = some (.cells #[.int .i64 0, .int .i64 0, .string ⟨#[]⟩, .slice (some ⟨w.heap.size, 0, none⟩) 1 1] 57 (0, 0)) := by
    unfold askW
    have := heap_alloc_new (w.alloc (.cells cs.toArray 61)) (.cells #[.int .i64 0, .int .i64 0, .string ⟨#[]⟩, .slice (some ⟨w.heap.size, 0, none⟩) 1 1] 57)
    rw [World.size_alloc] at this
    exact this
  have hxs : XsAt f (askW w cs) (some ⟨w.heap.size, 0, none⟩) [x] := xs_one hk0 (by obtain ⟨_, _, _, _, _, _, _, rfl⟩ := hx.len; rfl) (XAt.turn hb (Nat.le_refl _) hx)
  have w0 : W64 0 := by unfold W64; decide
  exact ⟨hb, ss_one (s := .mk 0 0 [] [x]) (wa := some ⟨w.heap.size, 0, none⟩) (wc := 1) hk1 (Nat.le_refl _) w0 w0 (Nat.zero_le _) (Nat.le_of_ble_eq_true rfl) hxs⟩

set_option maxRecDepth 100000 in
set_option maxHeartbeats 4000000 in
theorem meanNil_of {f : Nat} (v : Int) (a : Option Addr) (c : Nat) (ss : List PS) (x : PX) (cs : List Value) (w : World) (hE : EnvT w) (hs : SsAt f w a ss) (hn : ss.length ≤ 1048576) (hx : XAt f w x cs) :
    Calls Tryd.prog 8 #[.int .i64 v, .agg #[.slice a ss.length c], .agg cs.toArray] w fun e w' => e = .returned (.bool true) ∧ Below w.heap.size w w' := by
  obtain ⟨c0, c1, c2, c3, c4, c5, c6, hcs⟩ := hx.len
  subst hcs
  show Calls Tryd.prog 8 #[.int .i64 v, .agg #[.slice a ss.length c], .agg #[c0, c1, c2, c3, c4, c5, c6]] w _
  obtain ⟨W0, hW0⟩ : ∃ W0, W0 = (w.alloc (.cells #[.slice a ss.length c] 25)).alloc (.cells #[c0, c1, c2, c3, c4, c5, c6] 61) := ⟨_, rfl⟩
  have hb0 : Below w.heap.size w W0 := by rw [hW0]; exact ((Below.refl w.heap.size w).alloc (Nat.le_refl _) _).alloc (by simp) _
  have hsz0 : W0.heap.size = w.heap.size + 2 := by rw [hW0]; simp
  have hk3 : W0.heap[w.heap.size]? = some (.cells #[.slice a ss.length c] 25 (0, 0)) := by
    rw [hW0, Below.heap_alloc _ _ _ (by simp)]; exact heap_alloc_new w _
  have hk5 : W0.heap[w.heap.size + 1]? = some (.cells #[c0, c1, c2, c3, c4, c5, c6] 61 (0, 0)) := by
    rw [hW0]
    have := heap_alloc_new (w.alloc (.cells #[.slice a ss.length c] 25)) (.cells #[c0, c1, c2, c3, c4, c5, c6] 61)
    rw [World.size_alloc] at this
    exact this
  have HB0 : Hid (Below w.heap.size w W0) := Lib.hid hb0
  have HKS : Hid (∀ W, Below W0.heap.size W0 W → W.cell? ⟨w.heap.size, 0, none⟩ = some (.slice a ss.length c) ∧ W.heap[w.heap.size + 1]? = some (.cells #[c0, c1, c2, c3, c4, c5, c6] 61 (0, 0))) := Lib.hid fun W hW =>
    ⟨by rw [cell_heap ((hW.block w.heap.size (by omega)).trans hk3)]; rfl, (hW.block (w.heap.size + 1) (by omega)).trans hk5⟩
  have HG1 := Lib.hid (great_any a c ss W0 (SsAt.below hs hb0) hn)
  have HG2 : Hid (∀ W, Below W0.heap.size W0 W → Below W.heap.size W (askW W [c0, c1, c2, c3, c4, c5, c6]) ∧ Calls Tryd.prog 26 #[.agg #[.slice (some ⟨W.heap.size + 1, 0, none⟩) 1 1]] (askW W [c0, c1, c2, c3, c4, c5, c6]) fun e w' => ∃ g, e = .returned (.bool g) ∧ Below (askW W [c0, c1, c2, c3, c4, c5, c6]).heap.size (askW W [c0, c1, c2, c3, c4, c5, c6]) w') := Lib.hid fun W hW => by
    obtain ⟨h1, h2⟩ := askW_spec W x _ (XAt.turn (hb0.trans (hW.mono hb0.size)) (Nat.le_refl _) hx)
    exact ⟨h1, great_any _ 1 [.mk 0 0 [] [x]] _ h2 (Nat.le_of_ble_eq_true rfl)⟩
  have HAW : Hid (∀ W, Below W0.heap.size W0 W → Calls Tryd.prog 9 #[] W fun e w' => e = .returned (.bool true) ∧ Below W0.heap.size W0 w') := Lib.hid fun W hW =>
    (awake12_any steps_all W (hE.below (hb0.trans (hW.mono hb0.size)))).mono fun e w' ⟨h1, h2⟩ => ⟨h1, hW.trans (h2.mono hW.size)⟩
  have HSN := Lib.hid (select_nil a ss.length c)
  have HFN := Lib.hid (from_nil v a ss.length c)
  have HHN := Lib.hid (holds_nil v c0 c1 c2 c3 c4 c5 c6)
  have HW0E := Lib.hid hW0
  clear hb0 hsz0 hk3 hk5 hE hs hx hW0
  generalize ss.length = n at *
  go_enter Tryd.func8, Tryd.ntmps8
  go_wp2_with fail
  rw [← HW0E.out]
  have k0 := (HKS.out W0 (Below.refl _ _)).1
  (with_reducible refine HG1.out.mono ?_)
  rintro e w1 ⟨g1, rfl, hb1⟩
  have HB1 := Lib.hid hb1
  clear k0 hb1
  obtain ⟨k0, hk5⟩ := HKS.out w1 HB1.out
  obtain ⟨q0, q1, q2, q3, q4, q5, q6⟩ := box7 hk5
  clear hk5
  have FIN : Hid (∀ W, Below W0.heap.size W0 W → Below w.heap.size w W) := Lib.hid fun W hW => HB0.out.trans (hW.mono HB0.out.size)
  cases g1 with
  | true =>
    have HA := Lib.hid (HAW.out w1 HB1.out)
    go_wp2_with fail
    (with_reducible refine HA.out.mono ?_)
    rintro e w2 ⟨rfl, hb2⟩
    have HB2 := Lib.hid (FIN.out _ hb2)
    clear hb2
    go_wp2_with fail
    go_ret
    exact ⟨rfl, HB2.out⟩
  | false =>
    have HG := Lib.hid (HG2.out w1 HB1.out)
    go_wp2_with fail
    have e1 : (w1.alloc (.cells #[c0, c1, c2, c3, c4, c5, c6] 61)).alloc (.cells #[.int .i64 0, .int .i64 0, .string ⟨#[]⟩, .slice (some ⟨w1.heap.size, 0, none⟩) 1 1] 57) = askW w1 [c0, c1, c2, c3, c4, c5, c6] := rfl
    rw [e1]
    (with_reducible refine HG.out.2.mono ?_)
    rintro e w2 ⟨g2, rfl, hb2⟩
    have HB2 := Lib.hid (HB1.out.trans ((HG.out.1.trans (hb2.mono HG.out.1.size)).mono HB1.out.size))
    clear hb2 e1 k0 q0 q1 q2 q3 q4 q5 q6
    have HA := Lib.hid (HAW.out w2 HB2.out)
    cases g2 with
    | true =>
      go_wp2_with fail
      (with_reducible refine HA.out.mono ?_)
      rintro e w3 ⟨rfl, hb3⟩
      have HB3 := Lib.hid (FIN.out _ hb3)
      clear hb3
      go_wp2_with fail
      go_ret
      exact ⟨rfl, HB3.out⟩
    | false =>
      go_wp2_with fail
      (with_reducible refine HA.out.mono ?_)
      rintro e w3 ⟨rfl, hb3⟩
      have HB3 := Lib.hid hb3
      have k0 := (HKS.out w3 hb3).1
      clear hb3
      go_wp2_with fail
      (with_reducible refine (HSN.out _).mono ?_)
      rintro e w4 ⟨rfl, hb4⟩
      have HB4 := Lib.hid (HB3.out.trans (hb4.mono HB3.out.size))
      clear k0 hb4
      have k0 := (HKS.out w4 HB4.out).1
      go_wp2_with fail
      (with_reducible refine (HFN.out _).mono ?_)
      rintro e w5 ⟨rfl, hb5⟩
      have HB5 := Lib.hid (HB4.out.trans (hb5.mono HB4.out.size))
      clear k0 hb5
      obtain ⟨q0, q1, q2, q3, q4, q5, q6⟩ := box7 (HKS.out w5 HB5.out).2
      go_wp2_with fail
      (with_reducible refine (HHN.out _).mono ?_)
      rintro e w6 ⟨rfl, hb6⟩
      have HB6 := Lib.hid (FIN.out _ (HB5.out.trans (hb6.mono HB5.out.size)))
      clear hb6
      go_wp2_with fail
      go_ret
      exact ⟨rfl, HB6.out⟩
end Go.Proofs.YtekoflcioooncaaDoor

/-
  MeanNil, where what it reads is of bulk at most 1048576: for every such argument the law returns true, and it reads as before: the row's statement and its card. Condition: the bulk bound of the statement itself.
-/
namespace Go.Proofs.YtekoflcioooncaaDoor.meanNil
open Go.ChangeShapes Go.WideShapes Go.ChangeAt Go.RowKit
open Go.ChangeMaps (open_string shut_string)

theorem at_laid {W : World} (hL : laidMetH Tryd.prog Rows.meanNilUptoRow.laid W) : RangesAt W 2 ∧ Lib.Utf8Tabs 0 1 W := at_laid3 hL

set_option maxRecDepth 100000 in
theorem contract (H : Type) (enc : TypeId × Value → H) (W : World) (base : Nat) (args : Array Value) (ds gs : List (DataW H)) (before : List MemPlace)
    (hval : ∀ (j : Nat) t v, Tryd.f8.params[j]? = some t → args[j]? = some v → Value.okWide Tryd.prog W .any base t v)
    (hW : DataW.Whole enc Tryd.prog Tryd.f8.params.toList Rows.meanNilSpec.vars false W args.toList ds gs before) (hk : Rows.uptoSmall H (ds ++ gs) = true) (hL : laidMetH Tryd.prog Rows.meanNilUptoRow.laid W) :
    Calls Tryd.prog 8 args W fun e W' => ∃ v, e = .returned v ∧ Rows.meanNilSpec.post enc Tryd.prog Tryd.f8 false true false false W args v W' := by
  have hW' := hW
  obtain ⟨p, q, hA0, hV, rfl, hfz, hnd⟩ := hW
  have hA : DataW.TrodAll enc Tryd.prog W 0 (fun _ => true) true Tryd.f8.params.toList args.toList ds p := hA0
  rw [Tryd.params8] at hA hval
  obtain ⟨v0, vs0, d0, ds0, p0, q0, hargs, rfl, rfl, h0, r0⟩ := trodAll_cons hA
  obtain ⟨v1, vs1, d1, ds1, p1, q1, rfl, rfl, rfl, h1, r1⟩ := trodAll_cons r0
  obtain ⟨v2, vs2, d2, ds2, p2, q2, rfl, rfl, rfl, h2, r2⟩ := trodAll_cons r1
  obtain ⟨rfl, rfl, rfl⟩ := trodAll_nil r2
  obtain rfl : args = #[v0, v1, v2] := by cases args; simp_all
  obtain ⟨rfl, rfl⟩ := trodVars_none hV
  obtain ⟨z0, rfl, e0, f0, hw0⟩ := open_int Tryd.underlying3 (hval 0 3 v0 rfl rfl) h0
  obtain ⟨ca1, rfl, hsz1⟩ := okWide_struct Tryd.underlying25 (hval 1 25 v1 rfl rfl)
  obtain ⟨cl1, rfl⟩ : ∃ l : List Value, ca1 = l.toArray := ⟨ca1.toList, by simp⟩
  have hO1 : Rows.uptoBulk d1 ≤ 1048576 → ∃ a c, ∃ l : List PS, cl1 = [.slice a l.length c] ∧ l.length ≤ c ∧ l.length ≤ 1048576 ∧ SsAt 1048576 W a l := fun hbb => by
    obtain ⟨fuel, hf⟩ := h1
    exact path_open (fun m es y hy hb => expr_open 1048576 m es y hy hb (Nat.le_refl _)) hf (Nat.le_trans hbb (by decide)) hbb
  obtain ⟨ca2, rfl, hsz2⟩ := okWide_struct Tryd.underlying61 (hval 2 61 v2 rfl rfl)
  obtain ⟨cl2, rfl⟩ : ∃ l : List Value, ca2 = l.toArray := ⟨ca2.toList, by simp⟩
  have hO2 : Rows.uptoBulk d2 ≤ 1048576 → ∃ z : PX, XAt 1048576 W z cl2 := fun hbb => by
    obtain ⟨fuel, hf⟩ := h2
    exact expr_open 1048576 fuel _ _ hf hbb (Nat.le_refl _)
  clear hA0
  simp only [List.append_nil] at hW' hk
  have hb : Rows.uptoBulkAll [d0, d1, d2] ≤ 1048576 := of_decide_eq_true hk
  simp only [Rows.uptoBulkAll] at hb
  have hbe1 : Rows.uptoBulk d1 ≤ 1048576 := by omega
  have hbe2 : Rows.uptoBulk d2 ≤ 1048576 := by omega
  have hlt0 : ∀ x ∈ p0, x.block < W.heap.size := fun x hx => hW'.lt x (by simp [hx])
  have hlt1 : ∀ x ∈ p1, x.block < W.heap.size := fun x hx => hW'.lt x (by simp [hx])
  have hlt2 : ∀ x ∈ p2, x.block < W.heap.size := fun x hx => hW'.lt x (by simp [hx])
  obtain ⟨a1, c1, l1, rfl, hc1, hn1, hs1⟩ := hO1 hbe1
  obtain ⟨x2, hx2⟩ := hO2 hbe2
  refine (meanNil_of z0 a1 c1 l1 x2 cl2 W ⟨(at_laid hL).1, (at_laid hL).2⟩ hs1 hn1 hx2).mono fun e W' ⟨he, bel⟩ => ?_
  subst he
  refine ⟨_, rfl, _, _, _, [], p0 ++ (p1 ++ (p2 ++ [])), [], hW', ?_, ?_, rfl, bel.frame _, fun h => by cases h⟩
  · exact trodAll_cons_mk (shut_bool Tryd.underlying4 _) trodAll_mk0
  · exact trodAll_cons_mk (Below.trod laidOut (by kernel_rfl) (of_decide_eq_true (by kernel_rfl)) h0 bel hlt0) (trodAll_cons_mk (Below.trod laidOut (by kernel_rfl) (of_decide_eq_true (by kernel_rfl)) h1 bel hlt1) (trodAll_cons_mk (Below.trod laidOut (by kernel_rfl) (of_decide_eq_true (by kernel_rfl)) h2 bel hlt2) trodAll_mk0))

theorem reads (os : Os) {H : Type} (enc : TypeId × Value → H) : ∃ places, DataW.whole enc Tryd.prog ((laidWorld3 os).forCall (fun _ _ => 0) ⟨#[], #[.int .i64 0, .agg #[.slice none 0 0], .agg #[.int .i64 0, .slice none 0 0, .slice none 0 0, .string .empty, .int .i64 0, .string .empty, .int .i64 0]], []⟩).memory Tryd.f8.params.toList Rows.meanNilSpec.vars false (#[.int .i64 0, .agg #[.slice none 0 0], .agg #[.int .i64 0, .slice none 0 0, .slice none 0 0, .string .empty, .int .i64 0, .string .empty, .int .i64 0]] : Array Value).toList 8 = some ([.lit (.int .i64 0), .agg [.nil], .agg [.lit (.int .i64 0), .nil, .agg [.nil], .lit (.string []), .lit (.int .i64 0), .lit (.string []), .lit (.int .i64 0)]], [], places) :=
  ⟨[], by kernel_rfl⟩

set_option maxRecDepth 100000 in
theorem lifted (os : Os) (started : os.Started) (H : Type) (enc : TypeId × Value → H) (F : Stop.Interp) :
    ReturnsInHanded {} Tryd.checked os 8 .any ((Rows.OpenSpec.upto Rows.meanNilSpec).preRow enc Tryd.prog Tryd.f8 Rows.meanNilUptoRow.domain false Rows.meanNilUptoRow.laid) (((Rows.OpenSpec.upto Rows.meanNilSpec).at F).post enc Tryd.prog Tryd.f8 false true false false) := by
  obtain ⟨places, hx⟩ := reads os enc
  refine returnsInHanded_of_row (C := Tryd.checked) (s := Rows.OpenSpec.upto Rows.meanNilSpec) own' started (by kernel_rfl) Tryd.func8
    (witness_row_atRef (enc := enc) (C := Tryd.checked) false (laidWorld3 os) #[.int .i64 0, .agg #[.slice none 0 0], .agg #[.int .i64 0, .slice none 0 0, .slice none 0 0, .string .empty, .int .i64 0, .string .empty, .int .i64 0]] rfl (by kernel_rfl) (by kernel_rfl) (by kernel_rfl)
      (OpenSpec.preRow_of_cond 8 hx (by kernel_rfl) (fun k hk => by cases hk; kernel_rfl) (by kernel_rfl) (laid_met3 os _))) ?_
  intro W base args ds gs before hval hW _ hcond _ hL _ _
  exact contract H enc W base args ds gs before hval hW (hcond _ rfl) hL

theorem proved : Rows.MeanNilUptoSaid :=
  OpenClaim.holds_of_cond 8 Tryd.f8 rfl rfl rfl rfl rfl rfl rfl ⟨rfl, rfl, rfl, rfl, rfl⟩ rfl rfl rfl rfl rfl (by kernel_rfl) Tryd.func8 (by kernel_rfl)
    (of_decide_eq_true (by kernel_rfl)) (by unfold Func.isWrapper; first | (rw [if_pos (by decide +kernel)]; kernel_rfl) | (rw [if_neg (by decide +kernel)]; exact ⟨rfl, rfl⟩))
    (fun os started H enc _ F => by rw [OpenClaim.pre_eq_preRow]; exact lifted os started H enc F)

theorem plain (f : FuncId) (fn : Func) (hf : Tryd.pinned.checked.prog.funcNamed "gimlet/gimletlaw12.MeanNil" = some f) (hfn : Tryd.pinned.checked.prog.funcs[f]? = some fn) :
    false = Tryd.pinned.checked.prog.looks [] ∧ ∀ (j : Nat) t, fn.params[j]? = some t → Tryd.pinned.checked.prog.wantsStandIn t = false := by
  obtain rfl : f = 8 := Option.some.inj ((show Tryd.prog.funcNamed "gimlet/gimletlaw12.MeanNil" = some 8 by kernel_rfl).symm.trans hf) |>.symm
  obtain rfl : fn = Tryd.f8 := (Option.some.inj (Tryd.func8.symm.trans hfn)).symm
  refine ⟨by kernel_rfl, fun j t ht => ?_⟩
  rw [Tryd.params8] at ht
  have hm := Array.mem_of_getElem? ht
  obtain rfl | rfl | rfl : t = 3 ∨ t = 25 ∨ t = 61 := by simpa using hm
  · exact (show Tryd.prog.wantsStandIn 3 = false by kernel_rfl)
  · exact (show Tryd.prog.wantsStandIn 25 = false by kernel_rfl)
  · exact (show Tryd.prog.wantsStandIn 61 = false by kernel_rfl)

theorem card : Rows.MeanNilUptoCardSaid :=
  Claim7.holds_tied_plain_at .later [] _ _ _ _ proved (fun _ h => by cases h) (by kernel_rfl) (fun _ h => by cases h) meanNilUpto_row_tie rfl ⟨rfl, rfl⟩ (by kernel_rfl) rfl plain (by kernel_rfl)
#print axioms card
end Go.Proofs.YtekoflcioooncaaDoor.meanNil
