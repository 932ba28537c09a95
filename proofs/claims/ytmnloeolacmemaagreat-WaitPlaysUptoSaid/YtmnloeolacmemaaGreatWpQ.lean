/-
  Package wait: New, Held, Waiting, Take of what does not fit, all of them of nil.
-/
import Derived.Test.YtmnloeolacmemaaGreatWpP
import Derived.Test.YtmnloeolacmemaaGreatWpA
import Derived.Test.YtmnloeolacmemaaGreatWpB
import Derived.Deep.Upon
import Derived.IntWalk
import Derived.Test.YtmnloeolacmemaaGreatWpD
namespace Go.Proofs.YtmnloeolacmemaaGreat
open Go.RowKit

def wst0 : WSt := ⟨fun _ => none, [], [], 0, 0, []⟩
/-- the colours of a new Wait -/
def colNew (C : Nat → Nat) (B : Nat) : Nat → Nat := fun k => if k = B then 2 else if k = B + 1 then 3 else if k = B + 2 then 1 else C k
set_option maxRecDepth 1000000 in
set_option maxHeartbeats 4000000 in
theorem wait_new {C : Nat → Nat} {w : World} (ht : ∀ k, w.heap.size ≤ k → C k = 0) :
    Calls Tryz.prog 5 #[] w fun r w' => r = .returned (.pointer (some ⟨w.heap.size + 2, 0, none⟩)) ∧ WAt (colNew C w.heap.size) w' (w.heap.size + 2) w.heap.size (w.heap.size + 1) (fun _ => none) (.slice none 0 0) (.slice none 0 0) wst0 0 0 0 ∧ Below w.heap.size w w' ∧ w'.heap.size = w.heap.size + 3 ∧ Paint C (colNew C w.heap.size) w w' := by
  have HT := Lib.hid (tape_new w)
  have hmk : ∀ W, (Instr.makeMap 54 none).run Tryz.prog W = .ok (.map (some W.heap.size)) (W.alloc (.map #[] 0)) := fun W => rfl
  have HX : Hid (∀ W, W = w.alloc (.cells #[.slice none 0 0, .int .i64 0, .int .i64 0] 77) → W.heap.size = w.heap.size + 1) := Lib.hid fun W h => by subst h; simp
  go_enter Tryz.func5, Tryz.ntmps5
  go_wp2_with fail
  (with_reducible refine HT.out.mono ?_)
  rintro r w1 ⟨rfl, hw1⟩
  have hs1 := HX.out w1 hw1
  have h1 : w1.heap[w.heap.size]? = some (.cells #[.slice none 0 0, .int .i64 0, .int .i64 0] 77 (0, 0)) := by rw [hw1]; exact heap_alloc_new w _
  have hb1 : Below w.heap.size w w1 := by rw [hw1]; exact (Below.refl _ _).alloc (Nat.le_refl _) _
  have HF := Lib.hid (⟨hs1, h1, hb1⟩ : _ ∧ _ ∧ _)
  clear hw1 h1 hb1
  go_wp2_with fail
  go_ret
  obtain ⟨hs1, h1, hb1⟩ := HF.out
  obtain ⟨W2, hW2⟩ : ∃ W2, w1.alloc (.map #[] 0) = W2 := ⟨_, rfl⟩
  have hs2 : W2.heap.size = w.heap.size + 2 := by rw [← hW2]; simp; omega
  rw [hW2]
  have k0 : (W2.alloc (.cells #[.pointer (some ⟨w.heap.size, 0, none⟩), .map (some (w.heap.size + 1)), .slice none 0 0, .slice none 0 0, .int .i64 0, .int .i64 0] 57)).heap[w.heap.size]? = some (.cells #[.slice none 0 0, .int .i64 0, .int .i64 0] 77 (0, 0)) := by
    rw [heap_alloc_old _ _ (by omega), ← hW2, heap_alloc_old _ _ (by omega)]; exact h1
  have k1 : (W2.alloc (.cells #[.pointer (some ⟨w.heap.size, 0, none⟩), .map (some (w.heap.size + 1)), .slice none 0 0, .slice none 0 0, .int .i64 0, .int .i64 0] 57)).heap[w.heap.size + 1]? = W2.heap[w.heap.size + 1]? := heap_alloc_old _ _ (by omega)
  have k2 : (W2.alloc (.cells #[.pointer (some ⟨w.heap.size, 0, none⟩), .map (some (w.heap.size + 1)), .slice none 0 0, .slice none 0 0, .int .i64 0, .int .i64 0] 57)).heap[w.heap.size + 2]? = some (.cells #[.pointer (some ⟨w.heap.size, 0, none⟩), .map (some (w.heap.size + 1)), .slice none 0 0, .slice none 0 0, .int .i64 0, .int .i64 0] 57 (0, 0)) := by
    have := heap_alloc_new W2 (.cells #[.pointer (some ⟨w.heap.size, 0, none⟩), .map (some (w.heap.size + 1)), .slice none 0 0, .slice none 0 0, .int .i64 0, .int .i64 0] 57)
    rw [hs2] at this; exact this
  have hb2 : Below w.heap.size w W2 := by rw [← hW2]; exact hb1.alloc hb1.size _
  have hpm : PMap Tryz.prog 3 W2 (w.heap.size + 1) 0 (fun _ => none) := by
    have := PMap.made w1 Tryz.prog 3
    rw [hs1, hW2] at this; exact this
  have hsz : (W2.alloc (.cells #[.pointer (some ⟨w.heap.size, 0, none⟩), .map (some (w.heap.size + 1)), .slice none 0 0, .slice none 0 0, .int .i64 0, .int .i64 0] 57)).heap.size = w.heap.size + 3 := by simp; omega
  have hpt : Paint C (colNew C w.heap.size) w (W2.alloc (.cells #[.pointer (some ⟨w.heap.size, 0, none⟩), .map (some (w.heap.size + 1)), .slice none 0 0, .slice none 0 0, .int .i64 0, .int .i64 0] 57)) :=
    ⟨fun k hk => by unfold colNew; rw [if_neg (by omega), if_neg (by omega), if_neg (by omega)], fun k hk => by unfold colNew; rw [if_neg (by omega), if_neg (by omega), if_neg (by omega)]; exact ht k (by omega)⟩
  have fin : WAt (colNew C w.heap.size) (W2.alloc (.cells #[.pointer (some ⟨w.heap.size, 0, none⟩), .map (some (w.heap.size + 1)), .slice none 0 0, .slice none 0 0, .int .i64 0, .int .i64 0] 57)) (w.heap.size + 2) w.heap.size (w.heap.size + 1) (fun _ => none) (.slice none 0 0) (.slice none 0 0) wst0 0 0 0 := by
    refine ⟨hpt.top, k2, by simp [colNew], ⟨by omega, by omega, Nat.le_refl _, Nat.le_refl _, by simp [wst0], .slice none 0 0, k0, ⟨rfl, .inl ⟨rfl, rfl⟩⟩⟩, by simp [colNew], row_of k0 (fun k hk => (by cases hk)), hpm.keepB k1, by simp [colNew], QRow.nil _ _ _ _, fun k hk => (by cases hk), QRow.nil _ _ _ _, fun k hk => (by cases hk), fun k x hx => (by cases hx), fun _ _ => rfl, fun k j b hk => (by cases hk), fun k hk => (by cases hk)⟩
  refine ⟨?_, ?_, ?_, ?_, ?_⟩
  · first | rfl | (rw [hs2]; rfl)
  · first | exact fin | (rw [← hs1]; exact fin)
  · exact hb2.alloc (by omega) _
  · first | exact hsz | simpa using hsz
  · first | exact hpt | simpa using hpt

theorem nsim_first {f : Int → Option WN} {o : List Int} {rs : List RNd} {l : List WEv} {N : Int} (h : NSim f o rs l N) : NSim f (wfirst f o) rs l N := by
  refine ⟨by rw [wfirst_live]; exact h.live, h.good, h.inc.sublist (wfirst_sub f o), fun k hk => h.below k ((wfirst_sub f o).subset hk), fun k hk => ?_⟩
  have h1 := h.inO k hk
  cases hx : f k with
  | none => exact absurd hx hk
  | some x =>
    have : (k, x) ∈ live f (wfirst f o) := by rw [wfirst_live]; exact live_mem.2 ⟨h1, hx⟩
    exact (live_mem.1 this).1
theorem WSim.first {s : WSt} {m : RSt} (h : WSim s m) : WSim { s with order := wfirst s.nodes s.order } m :=
  ⟨h.next, h.last, h.opened, h.nn, h.some', h.opn, h.all, nsim_first h.nodes⟩
theorem wheld_first (s : WSt) : wheld s = (match wfirst s.nodes s.order with | [] => 0 | k :: _ => match s.nodes k with | none => 0 | some x => s.last - x.frm) := by
  unfold wheld
  rw [← wfirst_live]
  have hi := wfirst_idem s.nodes s.order
  cases ho : wfirst s.nodes s.order with
  | nil => rfl
  | cons k o =>
    rw [ho] at hi
    cases hx : s.nodes k with
    | none =>
      simp only [wfirst, hx] at hi
      have := (wfirst_sub s.nodes o).length_le
      rw [hi] at this; simp at this; omega
    | some x => simp only [live_cons, hx]
set_option maxRecDepth 1000000 in
set_option maxHeartbeats 4000000 in
theorem held_any {C : Nat → Nat} {w : World} {wb tb mb : Nat} {fp : Int → Option Nat} {ov lv : Value} {s : WSt} {first front n : Nat} (h : WAt C w wb tb mb fp ov lv s first front n) (hol : s.order.length ≤ 1048576) :
    Calls Tryz.prog 8 #[.pointer (some ⟨wb, 0, none⟩)] w fun r w' => r = .returned (.int .i64 (IntKind.i64.wrap (wheld s))) ∧ (∃ ov', WAt C w' wb tb mb fp ov' lv { s with order := wfirst s.nodes s.order } first front n) ∧ Mv C 1 7 w w' ∧ w'.heap.size = w.heap.size := by
  have HF := Lib.hid (first_any h hol)
  have hwh := wheld_first s
  obtain ⟨R, hR⟩ : ∃ R, IntKind.i64.wrap (wheld s) = R := ⟨_, rfl⟩
  rw [hR]
  rw [hwh] at hR
  clear h hwh
  cases ho : wfirst s.nodes s.order with
  | nil =>
    rw [ho] at HF hR
    simp only at hR
    have hR0 : R = 0 := by rw [← hR]; rfl
    subst hR0
    clear hR
    have e0 : headP fp ([] : List Int) = none := rfl
    simp only [e0, ptrVal, Option.map_none] at HF
    go_enter Tryz.func8, Tryz.ntmps8
    go_wp2_with fail
    (with_reducible refine HF.out.mono ?_)
    rintro r w1 ⟨rfl, ⟨ov1, hW1⟩, hM1, hs1⟩
    have HX := Lib.hid (⟨hW1, hM1, hs1⟩ : _ ∧ _ ∧ _)
    clear hW1 hM1 hs1
    go_wp2_with fail
    go_ret
    exact ⟨rfl, ⟨_, HX.out.1⟩, HX.out.2.1, HX.out.2.2⟩
  | cons k o =>
    rw [ho] at HF hR
    simp only at hR
    have e0 : headP fp (k :: o) = fp k := rfl
    rw [e0] at HF
    cases hx : s.nodes k with
    | none =>
      have hi := wfirst_idem s.nodes s.order
      rw [ho] at hi
      simp only [wfirst, hx] at hi
      have := (wfirst_sub s.nodes o).length_le
      rw [hi] at this; simp at this; omega
    | some x =>
      rw [hx] at hR
      simp only at hR
      cases hp : fp k with
      | none =>
        rw [hp] at HF
        go_enter Tryz.func8, Tryz.ntmps8
        go_wp2_with fail
        (with_reducible refine HF.out.mono ?_)
        rintro r w1 ⟨rfl, ⟨ov1, hW1⟩, hM1, hs1⟩
        exfalso
        obtain ⟨nb, e1, _⟩ := hW1.nds k x hx
        rw [hp] at e1; cases e1
      | some nb =>
        rw [hp] at HF
        simp only [ptrVal, Option.map_some] at HF
        have HXP := Lib.hid (⟨hx, hp⟩ : _ ∧ _)
        clear hx hp
        go_enter Tryz.func8, Tryz.ntmps8
        go_wp2_with fail
        (with_reducible refine HF.out.mono ?_)
        rintro r w1 ⟨rfl, ⟨ov1, hW1⟩, hM1, hs1⟩
        obtain ⟨nb', e1, e2, e3⟩ := hW1.nds k x HXP.out.1
        have e1' : nb' = nb := by rw [HXP.out.2] at e1; injection e1 with e1; exact e1.symm
        subst e1'
        have n2 : w1.cell? ⟨nb', 2, none⟩ = some (.int .i64 x.frm) := by rw [cell_heap e3]; rfl
        obtain ⟨_, _, _, _, _, m5⟩ := hW1.cells
        simp only at m5
        have HX := Lib.hid (⟨hW1, hM1, hs1⟩ : _ ∧ _ ∧ _)
        clear hW1 hM1 hs1 e1 e2 e3
        generalize x.frm = xf at *
        go_wp2_with fail
        go_quiet (fail)
        go_wp2_with fail
        go_ret
        exact ⟨by rw [← hR]; rfl, ⟨_, HX.out.1.drewN _⟩, HX.out.2.1.drewN _, HX.out.2.2⟩
theorem QRow.at1 {w : World} {e : TypeId} {v : Value} {n : Nat} {xs : List Value} (h : QRow w e 1 v n xs) : ∃ a c, v = .slice a n c ∧ n ≤ c ∧ xs.length = n ∧ ∀ i (hi : i < xs.length), ∃ g off, a = some ⟨g, off, none⟩ ∧ g < w.heap.size ∧ w.cell? ⟨g, off + i, none⟩ = some xs[i] := by
  have hl : xs.length = n := by have := h.1; omega
  cases n with
  | zero =>
    obtain ⟨a, c, rfl, hc⟩ := h.slice
    exact ⟨a, c, rfl, hc, hl, fun i hi => by omega⟩
  | succ n =>
    obtain ⟨g, off, c, rfl, hc, hg, _, hcell⟩ := h.here
    exact ⟨_, c, rfl, hc, hl, fun i hi => ⟨g, off, rfl, hg, hcell i _ (List.getElem?_eq_getElem hi)⟩⟩
/-- an owned row of numbers, in new blocks -/
def IntsNew (w w' : World) (v : Value) (l : List Int) : Prop := w'.ownsRow w.heap.size 3 1 v l.length (l.map (.int .i64)) ∧ Below w.heap.size w w'
theorem live_snoc (f : Int → Option WN) (o : List Int) (k : Int) : live f (o ++ [k]) = live f o ++ (match f k with | none => [] | some x => [(k, x)]) := by
  rw [live_append, live_cons, live_nil]
  cases f k <;> rfl
set_option maxRecDepth 1000000 in
set_option maxHeartbeats 4000000 in
theorem waiting_any {C : Nat → Nat} {w : World} {wb tb mb : Nat} {fp : Int → Option Nat} {ov lv : Value} {s : WSt} {first front n : Nat} (h : WAt C w wb tb mb fp ov lv s first front n) (hol : s.order.length ≤ 1048576) :
    Calls Tryz.prog 9 #[.pointer (some ⟨wb, 0, none⟩)] w fun r w' => ∃ a m c, r = .returned (.slice a m c) ∧ m = (wwaiting s).length ∧ IntsNew w w' (.slice a m c) (wwaiting s) := by
  obtain ⟨i0, hi, hz0, hz1, hz2⟩ := info_parts infoInt
  obtain ⟨_, m1, m2, _, _, _⟩ := h.cells
  obtain ⟨oa, oc, rfl, hoc, hxl, hcell⟩ := h.ord.at1
  obtain ⟨N, hN⟩ : ∃ N, s.order.length = N := ⟨_, rfl⟩
  rw [hN] at m2 hoc hol
  have HH := Lib.hid h
  have HC := Lib.hid hcell
  have HN := Lib.hid hN
  clear h hxl hcell hN
  go_enter Tryz.func9, Tryz.ntmps9
  go_wp2_with fail
  go_loopw [3, 13] (fun ov iv wr => ∃ (i : Nat) (out : List Int) (a : Option Addr) (c m : Nat), iv = .int .i64 i ∧ i ≤ N ∧ ov = .slice a m c ∧ m ≤ i ∧ Hid (out = (live s.nodes (s.order.take i)).map (·.1) ∧ m = out.length ∧ IntsNew w wr (.slice a m c) out)) (fun _ iv _ => N - (intOf iv).toNat)
  case atStart => exact ⟨0, [], none, 0, 0, rfl, Nat.zero_le _, rfl, Nat.le_refl _, Lib.hid ⟨rfl, rfl, World.ownsRow_nil _ _ _ _, Below.refl _ _⟩⟩
  case round =>
    obtain ⟨i, out, a, c, m, rfl, hi', rfl, hmi, HR⟩ := hrel
    have hbr := HR.out.2.2.2
    by_cases hin : i < N
    · have hil : i < s.order.length := by rw [HN.out]; exact hin
      obtain ⟨g, off, rfl, hgl, hk⟩ := HC.out i (by simpa using hil)
      simp only [List.getElem_map] at hk
      have k0 := (hbr.cell (p := ⟨g, off + i, none⟩) hgl).trans hk
      have hW := HH.out.below hbr
      have hkw : Wf s.order[i] := HH.out.wfo _ (List.getElem_mem hil)
      have hpm : PMap Tryz.prog 3 wr mb n fp := hW.map
      have hls : live s.nodes (s.order.take (i + 1)) = live s.nodes (s.order.take i) ++ (match s.nodes s.order[i] with | none => [] | some x => [(s.order[i], x)]) := by
        rw [List.take_succ_eq_append_getElem hil, live_snoc]
      obtain ⟨_, m1', _, _, _, _⟩ := hW.cells
      have hnon := HH.out.non s.order[i]
      have hnds := hW.nds s.order[i]
      have i1 : (0 : Int) ≤ (i : Int) := by omega
      have i2 : (i : Int) < (N : Int) := by omega
      have ew : IntKind.i64.wrap ((i : Int) + 1) = (i : Int) + 1 := IntWalk.i64_in _ (by omega)
      generalize s.order[i] = y at *
      cases hx : s.nodes y with
      | none =>
        have hlk : (Instr.lookup 54 (.map (some mb)) (.int .i64 y) false).run Tryz.prog wr = .ok (.pointer none) wr := by
          have e := hpm.look undInt undMap (zeroPN _) y (keyInt hkw)
          rw [hnon hx] at e; exact e
        rw [hx] at hls
        simp only [List.append_nil] at hls
        have HLS := Lib.hid hls
        clear hk hW hpm hls hnon hnds hx hkw hbr
        go_wp2_with fail
        go_roundw
        case rel => exact ⟨i + 1, out, a, c, m, by go_num, by omega, rfl, by omega, Lib.hid ⟨by rw [HLS.out]; exact HR.out.1, HR.out.2⟩⟩
        case measure => simp [intOf]; omega
      | some x =>
        obtain ⟨nb, e1, _, _⟩ := hnds x hx
        have hlk : (Instr.lookup 54 (.map (some mb)) (.int .i64 y) false).run Tryz.prog wr = .ok (.pointer (some ⟨nb, 0, none⟩)) wr := by
          have e := hpm.look undInt undMap (zeroPN _) y (keyInt hkw)
          rw [e1] at e; exact e
        rw [hx] at hls
        simp only at hls
        have HLS := Lib.hid hls
        have HOW : Hid (wr.ownsRow w.heap.size 3 1 (.slice a m c) out.length (out.map (.int .i64)) ∧ out.length + 1 ≤ 4294967296) := Lib.hid ⟨HR.out.2.2.1, by have := HR.out.2.1; omega⟩
        clear hk hW hpm hls hnon hnds hx hkw hbr e1
        go_wp2_with (at_builtin; go_must ((refine wpList_app wr (by rfl) _ _ 28 (by rfl) w.heap.size 3 i0 (.int .i64 0) 1 8 Tryz.underlying28 hi hz0 hz1 hz2 (by rfl) (by decide) (.slice a m c) out.length _ (by rfl) HOW.out.1 _ rfl 1 [.int .i64 y] (by rfl) (by rfl) (by intro u hu; simp only [List.mem_cons, List.not_mem_nil, or_false] at hu; subst hu; rfl) HOW.out.2 (by decide) HR.out.2.2.2.size (fun v7 w7 hown7 hap7 => ?_))))
        have hb7 : Below w.heap.size w w7 := (HR.out.2.2.2.alloc HR.out.2.2.2.size _).trans (hap7.below (by have := HR.out.2.2.2.size; simp; omega) (fun j hj' => (HOW.out.1.lt j hj').1))
        obtain ⟨a7, c7, rfl, _, _, _⟩ := own_slice hown7
        have HN8 : Hid (IntsNew w w7 (.slice a7 (out.length + 1) c7) (out ++ [y])) := Lib.hid ⟨by rw [List.length_append, List.map_append]; exact hown7, hb7⟩
        clear hb7 hown7 hap7
        go_wp2_with fail
        go_roundw
        case rel => exact ⟨i + 1, out ++ [y], a7, c7, out.length + 1, by go_num, by omega, rfl, by have := HR.out.2.1; omega, Lib.hid ⟨by rw [HLS.out, List.map_append, ← HR.out.1]; rfl, by simp, HN8.out⟩⟩
        case measure => simp [intOf]; omega
    · have hik : i = N := by omega
      subst hik
      have htk : s.order.take i = s.order := List.take_of_length_le (by rw [HN.out]; exact Nat.le_refl _)
      have HF : Hid (out = wwaiting s) := Lib.hid (by rw [HR.out.1, htk]; rfl)
      clear htk hbr
      go_wp2_with fail
      go_ret
      exact ⟨a, m, c, rfl, by rw [← HF.out]; exact HR.out.2.1, by rw [← HF.out]; exact HR.out.2.2⟩
theorem held_nil (w : World) : Calls Tryz.prog 8 #[.pointer none] w fun r w' => r = .returned (.int .i64 0) ∧ w' = w := by
  go_enter Tryz.func8, Tryz.ntmps8
  go_wp2_with fail
  go_ret
  exact ⟨rfl, rfl⟩
theorem waiting_nil (w : World) : Calls Tryz.prog 9 #[.pointer none] w fun r w' => r = .returned (.slice none 0 0) ∧ w' = w := by
  go_enter Tryz.func9, Tryz.ntmps9
  go_wp2_with fail
  go_ret
  exact ⟨rfl, rfl⟩
set_option maxRecDepth 1000000 in
theorem take_nil (kind num dep fr tt : Int) (name text : List UInt8) (A : Option Addr) (m c : Nat) (v : Value) (w : World) : Calls Tryz.prog 7 #[.pointer none, .agg (evC kind num dep name A m c text fr tt), v] w fun r w' => r = .returned (.tuple #[.slice none 0 0, .int .i64 1]) ∧ Below w.heap.size w w' := by
  have HB : Hid (∀ o, Below w.heap.size w (w.alloc o)) := Lib.hid fun o => (Below.refl _ _).alloc (Nat.le_refl _) o
  unfold evC
  go_enter Tryz.func7, Tryz.ntmps7
  go_wp2_with fail
  go_ret2
  exact ⟨rfl, HB.out _⟩
set_option maxRecDepth 1000000 in
set_option maxHeartbeats 4000000 in
theorem take_bad {C : Nat → Nat} {w : World} {wb tb mb : Nat} {fp : Int → Option Nat} {ov lv : Value} {s : WSt} {first front n : Nat} (h : WAt C w wb tb mb fp ov lv s first front n)
    (kind num dep fr tt : Int) (name text : List UInt8) (A : Option Addr) (m c : Nat) (pc : List UInt8) (hop : s.opn.length ≤ 1048576)
    (a : Option Addr) (k cv : Nat) (vs : List (Int × Int)) (hV : VsAt w a k vs) (hk : k ≤ 1048576) (hwf : ∀ v ∈ vs, Wf v.1)
    (hg : ¬ (wcomes s ⟨kind, num, fr, tt, pc⟩ = true ∧ gfit (fun j => (s.nodes j).map (·.truth)) ⟨kind, num, fr, tt, pc⟩ none vs = true)) :
    Calls Tryz.prog 7 #[.pointer (some ⟨wb, 0, none⟩), .agg (evC kind num dep name A m c text fr tt), .slice a k cv] w fun r w' => r = .returned (.tuple #[.slice none 0 0, .int .i64 6]) ∧ Below w.heap.size w w' := by
  have HB : Hid (∀ o, Below w.heap.size w (w.alloc o)) := Lib.hid fun o => (Below.refl _ _).alloc (Nat.le_refl _) o
  have hcm := fun W (hb : Below w.heap.size w W) => comes_any (h.below hb) kind num dep fr tt name text A m c pc hop
  have hft := fun W (hb : Below w.heap.size w W) => fit_any (h.below hb) kind num dep fr tt name text A m c pc a k cv vs (hV.below hb) hk hwf
  cases hc : wcomes s ⟨kind, num, fr, tt, pc⟩ with
  | false =>
    simp only [hc] at hcm
    have HCM := Lib.hid hcm
    clear hcm hft hc hg h hV hwf
    unfold evC at *
    go_enter Tryz.func7, Tryz.ntmps7
    go_wp2_with fail
    (with_reducible refine (HCM.out _ (HB.out _)).mono ?_)
    rintro r w2 ⟨rfl, hb2⟩
    have HB2 := Lib.hid ((HB.out _).trans (hb2.mono (HB.out _).size))
    clear hb2
    go_wp2_with fail
    go_ret2
    exact ⟨rfl, HB2.out⟩
  | true =>
    have hf : gfit (fun j => (s.nodes j).map (·.truth)) ⟨kind, num, fr, tt, pc⟩ none vs = false := by
      cases hf : gfit (fun j => (s.nodes j).map (·.truth)) ⟨kind, num, fr, tt, pc⟩ none vs with
      | false => rfl
      | true => exact absurd ⟨hc, hf⟩ hg
    simp only [hc] at hcm
    simp only [hf] at hft
    have HCM := Lib.hid hcm
    have HFT := Lib.hid hft
    have HBX : Hid (∀ W, Below (w.alloc (.cells (evC kind num dep name A m c text fr tt) 36)).heap.size (w.alloc (.cells (evC kind num dep name A m c text fr tt) 36)) W → W.heap[w.heap.size]? = some (.cells (evC kind num dep name A m c text fr tt) 36 (0, 0))) := Lib.hid fun W hb => (hb.block _ (by simp)).trans (heap_alloc_new w _)
    clear hcm hft hc hf hg h hV hwf
    unfold evC at *
    go_enter Tryz.func7, Tryz.ntmps7
    go_wp2_with fail
    (with_reducible refine (HCM.out _ (HB.out _)).mono ?_)
    rintro r w2 ⟨rfl, hb2⟩
    obtain ⟨q0, q1, q2, q3, q4, q5, q6, q7⟩ := box_cells (HBX.out _ hb2)
    have HB2 := Lib.hid ((HB.out _).trans (hb2.mono (HB.out _).size))
    clear hb2
    go_wp2_with fail
    (with_reducible refine (HFT.out _ HB2.out).mono ?_)
    rintro r w3 ⟨rfl, hb3⟩
    have HB3 := Lib.hid (HB2.out.trans (hb3.mono HB2.out.size))
    clear hb3
    go_wp2_with fail
    go_ret2
    exact ⟨rfl, HB3.out⟩
end Go.Proofs.YtmnloeolacmemaaGreat

/-
  strings that are given by the list of their bytes.
-/
namespace Go.Proofs.YtmnloeolacmemaaGreat
open Go.RowKit

def digS (l : List UInt8) : ByteArray := ⟨l.toArray⟩
theorem digS_add (l m : List UInt8) : digS l ++ digS m = digS (l ++ m) := by
  apply ByteArray.ext
  simp [digS]
theorem digS_size (l : List UInt8) : (digS l).size = l.length := by simp [digS, ByteArray.size]
theorem run_cat {P : Program} (a b : List UInt8) (ha : a.length ≤ 8388608) (hb : b.length ≤ 8388608) (w : World) : (Op.stringOp .add (digS a) (digS b)).run P w = .ok (.string (digS (a ++ b))) w := by
  rw [run_string_add (P := P) w _ _ (by rw [digS_size]; omega) (by rw [digS_size]; omega), digS_add]
end Go.Proofs.YtmnloeolacmemaaGreat

/-
  append of a whole row of one-cell values, wherever it lies (nil, too), onto a row that is owned.
-/
namespace Go.Proofs.YtmnloeolacmemaaGreat
open Go.RowKit

/-- what an owned row's block does not touch -/
theorem wpList_app_sl {P : Program} (w : World) {ops : Array Oper} {rest : List Oper} {o : Oper} {a : Act} {Q : Exit → Act → World → Prop} (hgd : o.guard = none) (s x : Operand) (t : TypeId)
    (ho : o.op = .call { callee := .builtin .append, args := #[s, x], argTypes := #[t, t] })
    (base : Nat) (e : TypeId) (i : TypeInfo) (z : Value) (bytes : Nat) (ht : P.underlying t = some (.slice e)) (hi : P.info? e = some i) (hz : i.zero = some z)
    (hsize : i.size = 1) (hby : i.bytes = bytes) (hzs : z.cells.size = 1)
    (v : Value) (n : Nat) (xs : List Value) (hs : a.eval s = v) (hown : w.ownsRow base e 1 v n xs)
    (A : Option Addr) (m c : Nat) (news : List Value) (hx : a.eval x = .slice A m c) (hl : Sl w A m news) (h1 : ∀ u ∈ news, u.oneCell' = true)
    (hn : n + m ≤ 4294967296) (hbb : bytes ≤ 16384) (hbase : base ≤ w.heap.size)
    (h : ∀ v' w', w'.ownsRow base e 1 v' (n + m) (xs ++ news) → w.grownBy w' v.ownBlock → wpList P ops Q rest (a.put o.dst v') w') :
    wpList P ops Q (o :: rest) a w := by
  have hb : (n + m) * bytes ≤ 140737488355328 := Nat.le_trans (Nat.mul_le_mul hn hbb) (by decide)
  rcases A with _ | ad
  · -- nothing is appended
    have hnews : news = [] := by
      rcases news with _ | ⟨u, us⟩
      · rfl
      · obtain ⟨_, _, he, _⟩ := hl.cell 0 (by simp)
        cases he
    subst hnews
    have hm : m = 0 := hl.len
    subst hm
    obtain ⟨av, cv, rfl, _⟩ := own_sl hown
    refine wpList_plain hgd fun K hK' => ?_
    have hle : n ≤ cv := by
      rcases hown.2 with ⟨e1, e2⟩ | ⟨g, cap, cur, e1, _, _, h5, _⟩
      · injection e1 with _ e3 e4; omega
      · injection e1 with _ _ e4; omega
    have hrun := run_append_nothing (P := P) w t t o.type e i ht hi av n cv hle _ (Src.ofNil (P := P) (size := i.size) w ht c)
    unfold Oper.wp
    simp [execOp, ho, resolve, invoke, builtin, hs, hx, hrun, Result.andThen]
    exact hK' _ _ (h _ _ (by simpa using hown) ⟨rfl, rfl, rfl, Nat.le_refl _, fun _ _ _ => rfl⟩)
  · refine wpList_append_own (P := P) w hgd s x t ho base e i z 1 bytes ht hi hz hsize hby hzs (by decide) v n xs hs hown ad m c news hx (by have := hl.len; omega) ?_ h1 (by unfold maxLen; omega) hb hbase fun v' w' h2 h3 _ => h v' w' h2 h3
    intro j u hj
    obtain ⟨hj1, hj2⟩ := List.getElem?_eq_some_iff.1 hj
    obtain ⟨b, off, he, _, hc⟩ := hl.cell j hj1
    injection he with he
    subst he
    rw [Addr.add_lit, hc, hj2]
end Go.Proofs.YtmnloeolacmemaaGreat

/-
  gimletref05: written, Text, Value.
-/
namespace Go.Proofs.YtmnloeolacmemaaGreat
open Go.RowKit

theorem keys_small : ∀ p ∈ textPs ++ valuePs, p.2.size ≤ 6 := by decide
/-- a byte's form behind j of the pairs -/
def formJ (ps : List (UInt8 × ByteArray)) (c : UInt8) (j : Nat) : List UInt8 := (ps.take j).foldl (fun f p => if c.toNat = p.1.toNat then p.2.data.toList else f) [c]
theorem formJ_succ (ps : List (UInt8 × ByteArray)) (c : UInt8) (j : Nat) (h : j < ps.length) : formJ ps c (j + 1) = if c.toNat = ps[j].1.toNat then ps[j].2.data.toList else formJ ps c j := by
  unfold formJ
  rw [List.take_succ_eq_append_getElem h, List.foldl_append]
  rfl
theorem formJ_text (c : UInt8) : formJ textPs c 4 = form textPs c := by
  have : ∀ c : UInt8, formJ textPs c 4 = form textPs c := by
    intro c
    have h : ∀ n : Fin 256, formJ textPs (UInt8.ofNat n) 4 = form textPs (UInt8.ofNat n) := by decide +kernel
    have := h ⟨c.toNat, c.toNat_lt⟩
    simpa using this
  exact this c
theorem formJ_value (c : UInt8) : formJ valuePs c 6 = form valuePs c := by
  have h : ∀ n : Fin 256, formJ valuePs (UInt8.ofNat n) 6 = form valuePs (UInt8.ofNat n) := by decide +kernel
  have := h ⟨c.toNat, c.toNat_lt⟩
  simpa using this
/-- how long a byte's form may be -/
theorem form_text_len (c : UInt8) : (form textPs c).length ≤ 6 := by
  have h : ∀ n : Fin 256, (form textPs (UInt8.ofNat n)).length ≤ 6 := by decide +kernel
  have := h ⟨c.toNat, c.toNat_lt⟩
  simpa using this
theorem form_value_len5 (c : UInt8) : (form valuePs c).length ≤ 6 := by
  have h : ∀ n : Fin 256, (form valuePs (UInt8.ofNat n)).length ≤ 6 := by decide +kernel
  have := h ⟨c.toNat, c.toNat_lt⟩
  simpa using this
theorem replL_len (ps : List (UInt8 × ByteArray)) (hf : ∀ c, (form ps c).length ≤ 6) (l : List UInt8) : (replL ps l).length ≤ 6 * l.length := by
  induction l with
  | nil => simp [replL]
  | cons b l ih =>
    have := hf b
    simp only [replL, List.flatMap_cons, List.length_append, List.length_cons] at *
    omega

theorem str_at' (l : List UInt8) (k : Nat) (h : k < l.length) : (digS l).data.toList[k]? = some l[k] := by simp [digS, h]
/-- the forms in memory -/
def FormsAt (w : World) (b : Nat) (ps : List (UInt8 × ByteArray)) : Prop := ∀ j, (h : j < ps.length) → w.cell? ⟨b, j, none⟩ = some (.string (digS ps[j].2.data.toList))

set_option maxRecDepth 100000 in
set_option maxHeartbeats 4000000 in
theorem written_any (ps : List (UInt8 × ByteArray)) (m : Nat) (hm : ps.length = m) (hm6 : m ≤ 6) (hfj : ∀ c, formJ ps c m = form ps c) (hf : ∀ c, (form ps c).length ≤ 6)
    (l : List UInt8) (n : Nat) (hl : l.length = n) (hn : n ≤ 1048576) (b : Nat) (w : World) (hF : FormsAt w b ps) :
    Calls Tryz.prog 41 #[.string (digS l), .string (digS (ps.map (·.1))), .slice (some ⟨b, 0, none⟩) m m] w fun e w' => e = .returned (.string (digS (replL ps l))) ∧ Below w.heap.size w w' := by
  have hsz : (digS l).size = n := by rw [digS_size, hl]
  have hszb : (digS (ps.map (·.1))).size = m := by rw [digS_size, List.length_map, hm]
  have HL := Lib.hid hl
  have HM := Lib.hid hm
  have HFJ := Lib.hid hfj
  have HF := Lib.hid hf
  have HFA := Lib.hid hF
  clear hl hm hfj hf hF
  go_enter Tryz.func41, Tryz.ntmps41
  go_wp2_with fail
  go_loopw [7, 8, 9, 10] (fun ox ix _ _ wr => ∃ i : Nat, ix = .int .i64 i ∧ i ≤ n ∧ ox = .string (digS (replL ps (l.take i))) ∧ ∃ d, wr = w.drewN d) (fun _ ix _ _ _ => n - (intOf ix).toNat)
  case atStart => exact ⟨0, rfl, Nat.zero_le _, rfl, 0, rfl⟩
  case round =>
    obtain ⟨i, rfl, hi, rfl, d, rfl⟩ := hrel
    by_cases hin : i < n
    · have hil : i < l.length := by rw [HL.out]; exact hin
      have hxs : (digS l).extract i (i + 1) = digS [l[i]] := by
        rw [digS, ByteArray.extract_mk, show i + 1 - i = 1 by omega, List.drop_eq_getElem_cons hil]; rfl
      have hlc : (l.take i).length ≤ 1048576 := by rw [List.length_take]; omega
      have hcat : ∀ W, (Op.stringOp .add (digS (replL ps (l.take i))) (digS (form ps l[i]))).run Tryz.prog W = .ok (.string (digS (replL ps (l.take (i + 1))))) W := by
        intro W
        have h1 := replL_len ps HF.out (l.take i)
        have h2 := HF.out l[i]
        rw [run_cat _ _ (by omega) (by omega), List.take_succ_eq_append_getElem hil, replL_snoc]
      have HC := Lib.hid hcat
      have hx := fun W => run_index_str (P := Tryz.prog) 9 Tryz.underlying9 (digS l) i l[i] (str_at' l i hil) W
      have hc256 : l[i].toNat < 256 := l[i].toNat_lt
      clear hcat hlc
      generalize l[i] = c at *
      go_wp2_with fail
      clear hxs
      go_loopw [9, 10] (fun fx jx wr => ∃ j : Nat, jx = .int .i64 j ∧ j ≤ m ∧ fx = .string (digS (formJ ps c j)) ∧ ∃ d, wr = w.drewN d) (fun _ jx _ => m - (intOf jx).toNat)
      case atStart => exact ⟨0, rfl, Nat.zero_le _, rfl, _, rfl⟩
      case round =>
        obtain ⟨j, rfl, hj, rfl, d2, rfl⟩ := hrel
        by_cases hjm : j < m
        · have hjl : j < ps.length := by rw [HM.out]; exact hjm
          have e0 := HFA.out j hjl
          have hfs := formJ_succ ps c j hjl
          have hy := fun W => run_index_str (P := Tryz.prog) 9 Tryz.underlying9 (digS (ps.map (·.1))) j ps[j].1 (by rw [show (digS (ps.map (·.1))).data.toList = ps.map (·.1) by simp [digS]]; simp [hjl]) W
          have hk256 : ps[j].1.toNat < 256 := ps[j].1.toNat_lt
          generalize ps[j] = q at *
          obtain ⟨k, s⟩ := q
          simp only at e0 hfs hy hk256
          by_cases hck : c.toNat = k.toNat
          · rw [if_pos hck] at hfs
            have HFS := Lib.hid hfs
            have ht : ((c.toNat : Int) == (k.toNat : Int)) = true := by simp [hck]
            clear hfs hck
            go_wp2_with fail
            go_quiet (fail)
            go_wp2_with fail
            go_roundw
            case rel => exact ⟨j + 1, by go_num, by omega, by rw [HFS.out], _, rfl⟩
            case measure => simp [intOf]; omega
          · rw [if_neg hck] at hfs
            have HFS := Lib.hid hfs
            have ht : ((c.toNat : Int) == (k.toNat : Int)) = false := by simp; omega
            clear hfs hck
            go_wp2_with fail
            go_quiet (fail)
            go_wp2_with fail
            go_roundw
            case rel => exact ⟨j + 1, by go_num, by omega, by rw [HFS.out], _, rfl⟩
            case measure => simp [intOf]; omega
        · have hfj : formJ ps c j = form ps c := by rw [show j = m by omega]; exact HFJ.out c
          rw [hfj]
          clear hfj
          have hcat := HC.out
          go_wp2_with fail
          go_roundw
          case rel => exact ⟨i + 1, by go_num, by omega, rfl, _, rfl⟩
          case measure => simp [intOf]; omega
    · have he : l.take i = l := by rw [List.take_of_length_le (by rw [HL.out]; omega)]
      rw [he]
      clear he
      go_wp2_with fail
      go_ret
      exact ⟨rfl, Below.drewN (Below.refl _ _) _⟩

set_option maxRecDepth 100000 in
set_option maxHeartbeats 1000000 in
theorem Text5_any (l : List UInt8) (hn : l.length ≤ 1048576) (w : World) :
    Calls Tryz.prog 37 #[.string (digS l)] w fun e w' => e = .returned (.string (digS (replL textPs l))) ∧ Below w.heap.size w w' := by
  have HW : Hid (∀ w1 : World, FormsAt w1 w.heap.size textPs → Calls Tryz.prog 41 #[.string (digS l), .string ⟨#[38, 60, 62, 13]⟩, .slice (some ⟨w.heap.size, 0, none⟩) 4 4] w1 fun e w' => e = .returned (.string (digS (replL textPs l))) ∧ Below w1.heap.size w1 w') :=
    Lib.hid (fun w1 h => written_any textPs 4 rfl (by decide) formJ_text form_text_len l _ rfl hn w.heap.size w1 h)
  clear hn
  go_enter Tryz.func37, Tryz.ntmps37
  go_wp2_with fail
  (with_reducible refine (HW.out _ ?_).mono ?_)
  · intro j hj
    rw [cell_heap (heap_alloc_new w _)]
    have hj' : j < 4 := hj
    iterate 4 (rcases j with _ | j; · rfl)
    omega
  rintro e w1 ⟨rfl, hb⟩
  have hb1 := ((Below.refl w.heap.size w).alloc (Nat.le_refl _) _).trans (hb.mono (by simp))
  go_wp2_with fail
  go_ret
  exact ⟨rfl, hb1⟩

set_option maxRecDepth 100000 in
set_option maxHeartbeats 1000000 in
theorem Value5_any (l : List UInt8) (hn : l.length ≤ 1048576) (w : World) :
    Calls Tryz.prog 36 #[.string (digS l)] w fun e w' => e = .returned (.string (digS (replL valuePs l))) ∧ Below w.heap.size w w' := by
  have HW : Hid (∀ w1 : World, FormsAt w1 w.heap.size valuePs → Calls Tryz.prog 41 #[.string (digS l), .string ⟨#[38, 60, 34, 9, 10, 13]⟩, .slice (some ⟨w.heap.size, 0, none⟩) 6 6] w1 fun e w' => e = .returned (.string (digS (replL valuePs l))) ∧ Below w1.heap.size w1 w') :=
    Lib.hid (fun w1 h => written_any valuePs 6 rfl (by decide) formJ_value form_value_len5 l _ rfl hn w.heap.size w1 h)
  clear hn
  go_enter Tryz.func36, Tryz.ntmps36
  go_wp2_with fail
  (with_reducible refine (HW.out _ ?_).mono ?_)
  · intro j hj
    rw [cell_heap (heap_alloc_new w _)]
    have hj' : j < 6 := hj
    iterate 6 (rcases j with _ | j; · rfl)
    omega
  rintro e w1 ⟨rfl, hb⟩
  have hb1 := ((Below.refl w.heap.size w).alloc (Nat.le_refl _) _).trans (hb.mono (by simp))
  go_wp2_with fail
  go_ret
  exact ⟨rfl, hb1⟩
end Go.Proofs.YtmnloeolacmemaaGreat
