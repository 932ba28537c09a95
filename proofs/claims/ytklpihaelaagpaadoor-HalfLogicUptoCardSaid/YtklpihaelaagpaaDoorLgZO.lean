/-
  HalfLogic, where what it reads is of bulk at most 1048576: for every such argument the law returns true, and it reads as before: the row's statement and its card. Condition: the bulk bound of the statement itself.
-/
import Derived.Test.YtklpihaelaagpaaDoorLgC
import Derived.Test.YtklpihaelaagpaaDoorLgD
import Derived.Test.YtklpihaelaagpaaDoorCards
import Derived.Test.YtklpihaelaagpaaDoorTie
import Derived.Deep.DeepHandedRow
import Derived.Deep.DeepWitnessRowRef
import Derived.Lib.LaidTab
import Derived.JoinedCond
import Derived.SliceStrings
import Derived.Carry
import Derived.Test.YtklpihaelaagpaaDoorLgN
import Derived.PinnedBridge
import Derived.Stop.LaidErr
import Derived.Test.YtklpihaelaagpaaDoorLgZN
import Derived.ChangeMaps5
namespace Go.Proofs.YtklpihaelaagpaaDoor
open Go.RowKit

section
variable {H : Type} {enc : TypeId × Value → H} {w : World} {base : Nat} {sp : Nat → Bool} {held : Bool}

theorem list_of {α : Type} (n : Nat) (P : Nat → α → Prop) (h : ∀ i, i < n → ∃ x, P i x) : ∃ l : List α, l.length = n ∧ ∀ i, (hi : i < l.length) → P i l[i] := by
  refine ⟨List.ofFn (n := n) fun i => Classical.choose (h i.1 i.2), by simp, fun i hi => ?_⟩
  have hi' : i < n := by simpa using hi
  rw [List.getElem_ofFn]
  exact Classical.choose_spec (h i hi')
theorem bulk_pos (d : DataW H) : 1 ≤ Rows.uptoBulk d := by
  cases d with
  | lit l => cases l <;> simp [Rows.uptoBulk]
  | _ => simp [Rows.uptoBulk]
theorem bulkAll_len (l : List (DataW H)) : l.length ≤ Rows.uptoBulkAll l := by
  induction l with
  | nil => simp
  | cons d l ih => have := bulk_pos d; simp only [Rows.uptoBulkAll, List.length_cons]; omega
theorem rows_open {α : Type} {P : World → α → List Value → Prop} {S E : TypeId} {k fuel : Nat} (hS : Tryd.prog.underlying S = some (.slice E)) (hE : Tryd.prog.cellsOf E = k) (hk : 0 < k) {cs : List Value} {x : DataW H × List MemPlace}
    (h : DataW.trod enc Tryd.prog w base sp held fuel S cs = some x) (hel : ∀ (m : Nat) (es : List Value) (y : DataW H × List MemPlace), DataW.trod enc Tryd.prog w base sp held m E es = some y → Rows.uptoBulk y.1 + 1 ≤ Rows.uptoBulk x.1 → ∃ z : α, P w z es) :
    ∃ a c, ∃ l : List α, cs = [.slice a l.length c] ∧ l.length ≤ c ∧ l.length ≤ Rows.uptoBulk x.1 ∧ RowP P k w a l := by
  obtain ⟨a, n, c, elems, rfl, hnc, hen, hor, hat⟩ := slice_read hS hE hk h
  have hle : ∀ i, (hi : i < elems.length) → Rows.uptoBulk elems[i].1 + 1 ≤ Rows.uptoBulk x.1 := fun i hi => by
    rcases hor with h0 | ⟨rest, h0⟩
    · subst h0; simp at hi
    · rw [h0]
      have := bulk_le (l := elems.map (·.1)) (i := i) (d := elems[i].1) (by rw [List.getElem?_map, List.getElem?_eq_getElem hi]; rfl)
      simp only [Rows.uptoBulk]; omega
  have hln : elems.length ≤ Rows.uptoBulk x.1 := by
    rcases hor with h0 | ⟨rest, h0⟩
    · subst h0; simp
    · rw [h0]
      have := bulkAll_len (elems.map (·.1))
      rw [List.length_map] at this
      simp only [Rows.uptoBulk]; omega
  obtain ⟨l, hl, hat2⟩ := list_of (α := α) elems.length (fun i z => ∃ b o ecs, a = some ⟨b, o, none⟩ ∧ b < w.heap.size ∧ ecs.length = k ∧ (∀ j, j < k → w.cell? ⟨b, o + i * k + j, none⟩ = ecs[j]?) ∧ P w z ecs) (fun i hi => by
    obtain ⟨b, o, m, ecs, h1, h2, h3, h4, h5⟩ := hat i hi
    obtain ⟨z, hz⟩ := hel m ecs _ h5 (hle i hi)
    exact ⟨z, b, o, ecs, h1, h2, h3, h4, hz⟩)
  subst hen
  refine ⟨a, c, l, by rw [hl], by omega, by omega, fun i hi => ?_⟩
  obtain ⟨b, o, ecs, h1, h2, h3, h4, h5⟩ := hat2 i hi
  exact ⟨b, o, ecs, h1, h2, h3, h4, h5⟩

theorem step_desc : ∃ f0 f1 f2 f3, Tryd.prog.underlying 48 = some (.struct #[f0, f1, f2, f3]) ∧ (f0.type = 45 ∧ f1.type = 46 ∧ f2.type = 9 ∧ f3.type = 24) ∧ (f0.offset = 0 ∧ f1.offset = 1 ∧ f2.offset = 2 ∧ f3.offset = 3) := by
  refine ⟨_, _, _, _, Tryd.underlying48, ⟨rfl, rfl, rfl, rfl⟩, ⟨rfl, rfl, rfl, rfl⟩⟩
theorem expr_desc : ∃ f0 f1 f2 f3 f4 f5 f6, Tryd.prog.underlying 30 = some (.struct #[f0, f1, f2, f3, f4, f5, f6]) ∧ (f0.type = 23 ∧ f1.type = 24 ∧ f2.type = 27 ∧ f3.type = 9 ∧ f4.type = 28 ∧ f5.type = 9 ∧ f6.type = 3) ∧
    (f0.offset = 0 ∧ f1.offset = 1 ∧ f2.offset = 2 ∧ f3.offset = 3 ∧ f4.offset = 4 ∧ f5.offset = 5 ∧ f6.offset = 6) := by
  refine ⟨_, _, _, _, _, _, _, Tryd.underlying30, ⟨rfl, rfl, rfl, rfl, rfl, rfl, rfl⟩, ⟨rfl, rfl, rfl, rfl, rfl, rfl, rfl⟩⟩
theorem path_desc : ∃ f0, Tryd.prog.underlying 27 = some (.struct #[f0]) ∧ f0.type = 25 ∧ f0.offset = 0 := by
  refine ⟨_, Tryd.underlying27, rfl, rfl⟩
theorem cellsAxis1 : Tryd.prog.cellsOf 45 = 1 := by kernel_rfl
theorem cellsTest1 : Tryd.prog.cellsOf 46 = 1 := by kernel_rfl
theorem cellsOp1 : Tryd.prog.cellsOf 23 = 1 := by kernel_rfl
theorem cellsCmp1 : Tryd.prog.cellsOf 28 = 1 := by kernel_rfl
theorem cellsExprs1 : Tryd.prog.cellsOf 24 = 1 := by kernel_rfl
theorem cellsSteps1 : Tryd.prog.cellsOf 25 = 1 := by kernel_rfl
theorem cellsPath1 : Tryd.prog.cellsOf 27 = 1 := by kernel_rfl
theorem cellsStep : Tryd.prog.cellsOf 48 = 4 := by kernel_rfl
theorem cellsExpr : Tryd.prog.cellsOf 30 = 7 := by kernel_rfl
theorem w64_of {n : Int} (h : (Lit.int .i64 n).wf = true) : W64 n := by
  simp [Lit.wf, IntKind.min, IntKind.max, IntKind.signed, IntKind.bits] at h
  unfold W64
  omega

set_option maxRecDepth 100000 in
set_option maxHeartbeats 1000000 in
theorem step_open {K fuel : Nat} (ih : ∀ (m : Nat) (es : List Value) (y : DataW H × List MemPlace), DataW.trod enc Tryd.prog w base sp held m 30 es = some y → Rows.uptoBulk y.1 ≤ K → ∃ z, XAt K w z es) {cs : List Value} {x : DataW H × List MemPlace}
    (h : DataW.trod enc Tryd.prog w base sp held fuel 48 cs = some x) (hK : Rows.uptoBulk x.1 ≤ K + 1) (hM : Rows.uptoBulk x.1 ≤ 1048576) : ∃ s, StepAt (XAt K) w s cs := by
  obtain ⟨f0, f1, f2, f3, hu, ⟨t0, t1, t2, t3⟩, ⟨o0, o1, o2, o3⟩⟩ := step_desc
  obtain ⟨xs, m, _, hx, hl, hxl, hat⟩ := DataW.trod_struct hu h
  have h0 := hat 0 f0 rfl
  have h1 := hat 1 f1 rfl
  have h2 := hat 2 f2 rfl
  have h3 := hat 3 f3 rfl
  clear hat
  rw [t0, o0, cellsAxis1] at h0
  rw [t1, o1, cellsTest1] at h1
  rw [t2, o2, cellsStr1] at h2
  rw [t3, o3, cellsExprs1] at h3
  rw [cellsStep] at hl
  have hxl4 : xs.length = 4 := hxl
  match xs, hxl4 with
  | [p0, p1, p2, p3], _ =>
    match cs, hl with
    | [c0, c1, c2, c3], _ =>
      rw [hx] at hK hM
      simp only [List.map_cons, List.map_nil, Rows.uptoBulk, Rows.uptoBulkAll] at hK hM
      obtain ⟨n0, e0, y0, w0⟩ := DataW.trod_int Tryd.underlying45 h0
      obtain ⟨n1, e1, y1, w1⟩ := DataW.trod_int Tryd.underlying46 h1
      obtain ⟨s2, e2, y2, _⟩ := DataW.trod_string Tryd.underlying9 h2
      have hp3 := h3
      simp only [List.getElem?_cons_succ, List.getElem?_cons_zero] at hp3
      obtain ⟨a, c, l, e3, hlc, hlb, hrow⟩ := rows_open (α := PX) (P := XAt K) Tryd.underlying24 cellsExpr (by decide) hp3 (fun m es y hy hb => ih m es y hy (by omega))
      simp at e0 e1 e2 e3 y0 y1 y2
      subst e0 e1 e2 e3 y0 y1 y2
      simp only [Rows.uptoBulk] at hK hM
      refine ⟨.mk n0 n1 s2.data.toList l, a, c, by simp [PS.axis, PS.test, PS.name, PS.wher, strL_of], hlc, w64_of w0, w64_of w1, ?_, ?_, hrow⟩
      · show s2.data.toList.length ≤ _; omega
      · show l.length ≤ _; omega
theorem path_open {K fuel : Nat} (ih : ∀ (m : Nat) (es : List Value) (y : DataW H × List MemPlace), DataW.trod enc Tryd.prog w base sp held m 30 es = some y → Rows.uptoBulk y.1 ≤ K → ∃ z, XAt K w z es) {cs : List Value} {x : DataW H × List MemPlace}
    (h : DataW.trod enc Tryd.prog w base sp held fuel 27 cs = some x) (hK : Rows.uptoBulk x.1 ≤ K + 2) (hM : Rows.uptoBulk x.1 ≤ 1048576) : ∃ a c, ∃ l : List PS, cs = [.slice a l.length c] ∧ l.length ≤ c ∧ l.length ≤ 1048576 ∧ SsAt K w a l := by
  obtain ⟨f0, hu, t0, o0⟩ := path_desc
  obtain ⟨xs, m, _, hx, hl, hxl, hat⟩ := DataW.trod_struct hu h
  have h0 := hat 0 f0 rfl
  clear hat
  rw [t0, o0, cellsSteps1] at h0
  rw [cellsPath1] at hl
  have hxl1 : xs.length = 1 := hxl
  match xs, hxl1 with
  | [p0], _ =>
    match cs, hl with
    | [c0], _ =>
      rw [hx] at hK hM
      simp only [List.map_cons, List.map_nil, Rows.uptoBulk, Rows.uptoBulkAll] at hK hM
      have hp0 := h0
      simp only [List.getElem?_cons_zero, List.drop_zero, List.take_succ_cons, List.take_zero] at hp0
      obtain ⟨a, c, l, e0, hlc, hlb, hrow⟩ := rows_open (α := PS) (P := StepAt (XAt K)) Tryd.underlying25 cellsStep (by decide) hp0 (fun m es y hy hb => step_open ih hy (by omega) (by omega))
      exact ⟨a, c, l, e0, hlc, by omega, hrow⟩

set_option maxRecDepth 100000 in
set_option maxHeartbeats 1000000 in
theorem expr_open : ∀ (K fuel : Nat) (cs : List Value) (x : DataW H × List MemPlace), DataW.trod enc Tryd.prog w base sp held fuel 30 cs = some x → Rows.uptoBulk x.1 ≤ K → K ≤ 1048576 → ∃ z, XAt K w z cs := by
  intro K
  induction K with
  | zero => intro fuel cs x _ h0 _; have := bulk_pos x.1; omega
  | succ K ih =>
    intro fuel cs x h hK hM
    obtain ⟨f0, f1, f2, f3, f4, f5, f6, hu, ⟨t0, t1, t2, t3, t4, t5, t6⟩, ⟨o0, o1, o2, o3, o4, o5, o6⟩⟩ := expr_desc
    obtain ⟨xs, m, _, hx, hl, hxl, hat⟩ := DataW.trod_struct hu h
    have h0 := hat 0 f0 rfl
    have h1 := hat 1 f1 rfl
    have h2 := hat 2 f2 rfl
    have h3 := hat 3 f3 rfl
    have h4 := hat 4 f4 rfl
    have h5 := hat 5 f5 rfl
    have h6 := hat 6 f6 rfl
    clear hat
    rw [t0, o0, cellsOp1] at h0
    rw [t1, o1, cellsExprs1] at h1
    rw [t2, o2, cellsPath1] at h2
    rw [t3, o3, cellsStr1] at h3
    rw [t4, o4, cellsCmp1] at h4
    rw [t5, o5, cellsStr1] at h5
    rw [t6, o6, cellsInt1] at h6
    rw [cellsExpr] at hl
    have hxl7 : xs.length = 7 := hxl
    match xs, hxl7 with
    | [p0, p1, p2, p3, p4, p5, p6], _ =>
      match cs, hl with
      | [c0, c1, c2, c3, c4, c5, c6], _ =>
        rw [hx] at hK
        simp only [List.map_cons, List.map_nil, Rows.uptoBulk, Rows.uptoBulkAll] at hK
        have ih' : ∀ (m : Nat) (es : List Value) (y : DataW H × List MemPlace), DataW.trod enc Tryd.prog w base sp held m 30 es = some y → Rows.uptoBulk y.1 ≤ K → ∃ z, XAt K w z es := fun m es y hy hb => ih m es y hy hb (by omega)
        obtain ⟨n0, e0, y0, w0⟩ := DataW.trod_int Tryd.underlying23 h0
        have hp1 := h1
        have hp2 := h2
        simp only [List.getElem?_cons_succ, List.getElem?_cons_zero] at hp1 hp2
        obtain ⟨a, c, l, e1, hlc, hlb, hrow⟩ := rows_open (α := PX) (P := XAt K) Tryd.underlying24 cellsExpr (by decide) hp1 (fun m es y hy hb => ih' m es y hy (by omega))
        obtain ⟨p, d, l2, e2, hlc2, hlb2, hrow2⟩ := path_open ih' hp2 (by omega) (by omega)
        obtain ⟨s3, e3, y3, _⟩ := DataW.trod_string Tryd.underlying9 h3
        obtain ⟨n4, e4, y4, w4⟩ := DataW.trod_int Tryd.underlying28 h4
        obtain ⟨s5, e5, y5, _⟩ := DataW.trod_string Tryd.underlying9 h5
        obtain ⟨n6, e6, y6, w6⟩ := DataW.trod_int Tryd.underlying3 h6
        simp at e0 e1 e2 e3 e4 e5 e6 y0 y3 y4 y5 y6
        subst e0 e1 e2 e3 e4 e5 e6 y0 y3 y4 y5 y6
        simp only [Rows.uptoBulk] at hK
        refine ⟨.mk n0 l l2 s3.data.toList n4 s5.data.toList n6, a, c, p, d, by simp [PX.op, PX.args, PX.path, PX.attr, PX.cmp, PX.text, PX.num, strL_of], hlc, hlc2, w64_of w0, w64_of w4, w64_of w6, ?_, ?_, ?_, ?_, hrow, hrow2⟩
        · show s3.data.toList.length ≤ _; omega
        · show s5.data.toList.length ≤ _; omega
        · show l.length ≤ _; omega
        · show l2.length ≤ _; omega
end
end Go.Proofs.YtklpihaelaagpaaDoor

namespace Go.Proofs.YtklpihaelaagpaaDoor
open Go.ChangeShapes Go.WideShapes Go.ChangeAt Go.RowKit

theorem own' : ownKnob Tryd.prog.godebug = none := by kernel_rfl
theorem laidOut : laidOutB Tryd.prog = true := by kernel_rfl
theorem cellsU8 : Tryd.prog.cellsOf 5 = 1 := by kernel_rfl

theorem bulk_one {H : Type} (d : DataW H) : 1 ≤ Rows.uptoBulk d := by
  cases d with
  | lit l => cases l <;> simp [Rows.uptoBulk]
  | nil => simp [Rows.uptoBulk]
  | ptr d => simp [Rows.uptoBulk]
  | slice elems spare => simp [Rows.uptoBulk]
  | agg parts => simp [Rows.uptoBulk]
  | iface t d => simp [Rows.uptoBulk]
  | map entries => simp [Rows.uptoBulk]
  | held h => simp [Rows.uptoBulk]
theorem bulk_length {H : Type} (l : List (DataW H)) : l.length ≤ Rows.uptoBulkAll l := by
  induction l with
  | nil => simp [Rows.uptoBulkAll]
  | cons x r ih => have := bulk_one x; simp only [Rows.uptoBulkAll, List.length_cons]; omega

set_option maxRecDepth 100000 in
theorem bytes_open {H : Type} {enc : TypeId × Value → H} {W : World} {base : Nat} {v : Value} {d : DataW H} {p : List MemPlace} (hv : Value.okWide Tryd.prog W .any base 112 v) (h : DataW.Trod enc Tryd.prog W 0 (fun _ => true) true 112 v d p) :
    ∃ a n c l, v = .slice a n c ∧ Sl W a n (u8s l) ∧ n ≤ c ∧ n ≤ Rows.uptoBulk d := by
  obtain ⟨a0, len, cap, rfl⟩ := okWide_slice Tryd.underlying112 hv
  obtain ⟨fuel, hf⟩ := h
  rcases open_ints Tryd.underlying112 Tryd.underlying5 cellsU8 hf with ⟨hcs, hx⟩ | ⟨a, len', cap', zs, hcs, _, hl, hm, hz, hx, hcell, hwz⟩
  · simp [Value.cells] at hcs
    obtain ⟨rfl, rfl, rfl⟩ := hcs
    exact ⟨none, 0, 0, [], rfl, ⟨rfl, fun i hi => by simp [u8s] at hi⟩, Nat.le_refl _, Nat.zero_le _⟩
  · simp [Value.cells] at hcs
    obtain ⟨rfl, rfl, rfl⟩ := hcs
    simp only [if_true] at hz
    simp only [Prod.mk.injEq] at hx
    obtain ⟨rfl, -⟩ := hx
    have hlen : ((zs.take len).map fun z => UInt8.ofNat z.toNat).length = len := by rw [List.length_map, List.length_take]; omega
    refine ⟨some a, len, cap, (zs.take len).map fun z => UInt8.ofNat z.toNat, rfl, ⟨by rw [u8s_length, hlen], fun i hi => ?_⟩, hl, ?_⟩
    · rw [u8s_length, hlen] at hi
      have hc := hcell i (by omega)
      obtain ⟨b, o, sp⟩ := a
      have hsp : sp = none := by
        have := World.cell?_spot (hcell 0 (by omega))
        simpa [Addr.add] using this
      subst hsp
      rw [Addr.add_lit] at hc
      refine ⟨b, o, rfl, ?_, ?_⟩
      · rcases Nat.lt_or_ge b W.heap.size with h | h
        · exact h
        · simp [World.cell?, Array.getElem?_eq_none h] at hc
      · have hi2 : i < zs.length := by omega
        have hw := hwz zs[i] (List.getElem_mem hi2)
        rw [hc]
        have hr : 0 ≤ zs[i] ∧ zs[i] < 256 := by
          simp only [Lit.wf, Bool.and_eq_true, decide_eq_true_eq] at hw
          have e1 : IntKind.u8.min = 0 := by decide
          have e2 : IntKind.u8.max = 255 := by decide
          omega
        simp only [u8s, List.getElem_map, List.getElem_take, List.getD_eq_getElem?_getD, List.getElem?_eq_getElem hi2, Option.getD_some]
        congr 2
        rw [UInt8.toNat_ofNat']
        omega
    · have h1 := bulk_length (H := H) (lits .u8 (zs.take len))
      have h2 : (lits (H := H) .u8 (zs.take len)).length = len := by simp [lits]; omega
      simp only [Rows.uptoBulk]
      omega

def flat' (l : List (Int × Int)) : Array Value := (l.flatMap fun p => [.int .i32 p.1, .int .i32 p.2]).toArray
noncomputable def laidWorld (os : Os) : World :=
  let N := (World.settled Tryd.prog os).heap.size
  let w0 := World.holding Tryd.prog os ⟨#[.cells (flat' (rng 0)) 120, .cells (flat' (rng 1)) 120, .cells (flat' (rng 2)) 120, .cells (flat' (rng 3)) 120, .cells (flat' (rng 4)) 120, .cells (flat' (rng 5)) 120], #[], []⟩
  { w0 with heap := w0.heap.modify 2 fun
      | .cells _ t frozen => .cells #[.slice (some ⟨N, 0, none⟩) 5 5, .slice (some ⟨N + 1, 0, none⟩) 3 3, .slice (some ⟨N + 2, 0, none⟩) 15 15, .slice (some ⟨N + 3, 0, none⟩) 18 18, .slice (some ⟨N + 4, 0, none⟩) 1 1, .slice (some ⟨N + 5, 0, none⟩) 3 3] t frozen
      | o => o }
theorem laid_met (os : Os) (args : Array Value) : laidMet Tryd.prog [("gimlet/chars.ranges", Rows.laid_gimlet_chars_ranges)] ((laidWorld os).forCall (fun _ _ => 0) ⟨#[], args, []⟩).memory :=
  laidMet_of_run' 8 (by kernel_rfl) (by kernel_rfl)
theorem laid_same : (Rows.laid_gimlet_chars_ranges : DataW Unit) = rngData := by kernel_rfl
end Go.Proofs.YtklpihaelaagpaaDoor

namespace Go.Proofs.YtklpihaelaagpaaDoor
open Go.ChangeShapes Go.WideShapes Go.ChangeAt Go.RowKit

noncomputable def laidWorld3 (os : Os) : World :=
  let N := (World.settled Tryd.prog os).heap.size
  let w0 := World.holding Tryd.prog os ⟨#[.cells (flat' (rng 0)) 120, .cells (flat' (rng 1)) 120, .cells (flat' (rng 2)) 120, .cells (flat' (rng 3)) 120, .cells (flat' (rng 4)) 120, .cells (flat' (rng 5)) 120], #[], []⟩
  { w0 with heap := ((w0.heap.modify 2 fun
      | .cells _ t frozen => .cells #[.slice (some ⟨N, 0, none⟩) 5 5, .slice (some ⟨N + 1, 0, none⟩) 3 3, .slice (some ⟨N + 2, 0, none⟩) 15 15, .slice (some ⟨N + 3, 0, none⟩) 18 18, .slice (some ⟨N + 4, 0, none⟩) 1 1, .slice (some ⟨N + 5, 0, none⟩) 3 3] t frozen
      | o => o).modify 0 fun
      | .cells _ t frozen => .cells ((List.range 256).map fun b => Value.int .u8 (Lib.firstT b)).toArray t frozen
      | o => o).modify 1 fun
      | .cells _ t frozen => .cells ((List.range 16).flatMap fun i => [Value.int .u8 (Lib.accLo i), Value.int .u8 (Lib.accHi i)]).toArray t frozen
      | o => o }
set_option maxRecDepth 100000 in
theorem laid_met3 (os : Os) (args : Array Value) : laidMet Tryd.prog [("unicode/utf8.acceptRanges", Rows.laid_unicode_utf8_acceptRanges), ("gimlet/chars.ranges", Rows.laid_gimlet_chars_ranges), ("unicode/utf8.first", Rows.laid_unicode_utf8_first)] ((laidWorld3 os).forCall (fun _ _ => 0) ⟨#[], args, []⟩).memory :=
  laidMet_of_run' 8 (by kernel_rfl) (by kernel_rfl)
theorem acc_same : (Rows.laid_unicode_utf8_acceptRanges : DataW Unit) = Lib.acceptData := by kernel_rfl
theorem first_same : Rows.laid_unicode_utf8_first = Lib.firstData := Pinned.utf8First_eq
theorem u8extra : U8Extra Tryd.prog validRen := ⟨by kernel_rfl, by kernel_rfl, by kernel_rfl, by kernel_rfl, by kernel_rfl, by kernel_rfl, by kernel_rfl⟩
theorem at_laid3 {W : World} (hL : laidMet Tryd.prog [("unicode/utf8.acceptRanges", Rows.laid_unicode_utf8_acceptRanges), ("gimlet/chars.ranges", Rows.laid_gimlet_chars_ranges), ("unicode/utf8.first", Rows.laid_unicode_utf8_first)] W) : RangesAt W 2 ∧ Lib.Utf8Tabs 0 1 W := by
  refine ⟨?_, ?_⟩
  · have h := hL.tail
    rw [laid_same] at h
    exact ranges_of_laid h
  · rw [acc_same, first_same] at hL
    exact utf8Tabs_of_readsT u8types u8extra (Lib.laidMet.reads hL (.tail _ (.tail _ (.head _)))) (Lib.laidMet.reads hL (.head _))
end Go.Proofs.YtklpihaelaagpaaDoor

namespace Go.Proofs.YtklpihaelaagpaaDoor.halfLogic
open Go.ChangeShapes Go.WideShapes Go.ChangeAt Go.RowKit
open Go.ChangeMaps (open_string shut_string)

theorem at_laid {W : World} (hL : laidMetH Tryd.prog Rows.halfLogicUptoRow.laid W) : RangesAt W 2 ∧ Lib.Utf8Tabs 0 1 W := at_laid3 hL

set_option maxRecDepth 100000 in
theorem contract (H : Type) (enc : TypeId × Value → H) (W : World) (base : Nat) (args : Array Value) (ds gs : List (DataW H)) (before : List MemPlace)
    (hval : ∀ (j : Nat) t v, Tryd.f3.params[j]? = some t → args[j]? = some v → Value.okWide Tryd.prog W .any base t v)
    (hW : DataW.Whole enc Tryd.prog Tryd.f3.params.toList Rows.halfLogicSpec.vars false W args.toList ds gs before) (hk : Rows.uptoSmall H (ds ++ gs) = true) (hL : laidMetH Tryd.prog Rows.halfLogicUptoRow.laid W) :
    Calls Tryd.prog 3 args W fun e W' => ∃ v, e = .returned v ∧ Rows.halfLogicSpec.post enc Tryd.prog Tryd.f3 false true false false W args v W' := by
  have hW' := hW
  obtain ⟨p, q, hA0, hV, rfl, hfz, hnd⟩ := hW
  have hA : DataW.TrodAll enc Tryd.prog W 0 (fun _ => true) true Tryd.f3.params.toList args.toList ds p := hA0
  rw [Tryd.params3] at hA hval
  obtain ⟨v0, vs0, d0, ds0, p0, q0, hargs, rfl, rfl, h0, r0⟩ := trodAll_cons hA
  obtain ⟨v1, vs1, d1, ds1, p1, q1, rfl, rfl, rfl, h1, r1⟩ := trodAll_cons r0
  obtain ⟨v2, vs2, d2, ds2, p2, q2, rfl, rfl, rfl, h2, r2⟩ := trodAll_cons r1
  obtain ⟨rfl, rfl, rfl⟩ := trodAll_nil r2
  obtain rfl : args = #[v0, v1, v2] := by cases args; simp_all
  obtain ⟨rfl, rfl⟩ := trodVars_none hV
  obtain ⟨a0, n0, c0, rfl⟩ := okWide_slice Tryd.underlying22 (hval 0 22 v0 rfl rfl)
  have hO0 : EvsAt W a0 n0 (evsOf d0) ∧ wtEs (evsOf d0) ≤ Rows.uptoBulk d0 := by
    obtain ⟨fuel, hf⟩ := h0
    obtain ⟨a9, n9, c9, hcs, hnc, hO, hw⟩ := evs_read hf
    simp [Value.cells] at hcs
    obtain ⟨rfl, rfl, rfl⟩ := hcs
    exact ⟨hO, hw⟩
  obtain ⟨ca1, rfl, hsz1⟩ := okWide_struct Tryd.underlying30 (hval 1 30 v1 rfl rfl)
  obtain ⟨cl1, rfl⟩ : ∃ l : List Value, ca1 = l.toArray := ⟨ca1.toList, by simp⟩
  have hO1 : Rows.uptoBulk d1 ≤ 1048574 → ∃ z : PX, XAt 1048574 W z cl1 := fun hbb => by
    obtain ⟨fuel, hf⟩ := h1
    exact expr_open 1048574 fuel _ _ hf hbb (by decide)
  obtain ⟨ca2, rfl, hsz2⟩ := okWide_struct Tryd.underlying30 (hval 2 30 v2 rfl rfl)
  obtain ⟨cl2, rfl⟩ : ∃ l : List Value, ca2 = l.toArray := ⟨ca2.toList, by simp⟩
  have hO2 : Rows.uptoBulk d2 ≤ 1048574 → ∃ z : PX, XAt 1048574 W z cl2 := fun hbb => by
    obtain ⟨fuel, hf⟩ := h2
    exact expr_open 1048574 fuel _ _ hf hbb (by decide)
  clear hA0
  simp only [List.append_nil] at hW' hk
  have hb : Rows.uptoBulkAll [d0, d1, d2] ≤ 1048576 := of_decide_eq_true hk
  simp only [Rows.uptoBulkAll] at hb
  have hbe0 : Rows.uptoBulk d0 ≤ 1048576 := by omega
  have hbe1 : Rows.uptoBulk d1 ≤ 1048574 := by have := bulk_pos d0; have := bulk_pos d2; omega
  have hbe2 : Rows.uptoBulk d2 ≤ 1048574 := by have := bulk_pos d0; have := bulk_pos d1; omega
  have hlt0 : ∀ x ∈ p0, x.block < W.heap.size := fun x hx => hW'.lt x (by simp [hx])
  have hlt1 : ∀ x ∈ p1, x.block < W.heap.size := fun x hx => hW'.lt x (by simp [hx])
  have hlt2 : ∀ x ∈ p2, x.block < W.heap.size := fun x hx => hW'.lt x (by simp [hx])
  obtain ⟨x1, hx1⟩ := hO1 hbe1
  obtain ⟨x2, hx2⟩ := hO2 hbe2
  obtain ⟨hev, hwt⟩ := hO0
  refine (halfLogic_of (f := 1048573) (by decide) a0 n0 c0 (evsOf d0) x1 x2 cl1 cl2 W ⟨(at_laid hL).1, (at_laid hL).2⟩ hev (Nat.le_trans hwt hbe0) hx1 hx2).mono fun e W' ⟨he, bel⟩ => ?_
  subst he
  refine ⟨_, rfl, _, _, _, [], p0 ++ (p1 ++ (p2 ++ [])), [], hW', ?_, ?_, rfl, bel.frame _, fun h => by cases h⟩
  · exact trodAll_cons_mk (shut_bool Tryd.underlying4 _) trodAll_mk0
  · exact trodAll_cons_mk (Below.trod laidOut (by kernel_rfl) (of_decide_eq_true (by kernel_rfl)) h0 bel hlt0) (trodAll_cons_mk (Below.trod laidOut (by kernel_rfl) (of_decide_eq_true (by kernel_rfl)) h1 bel hlt1) (trodAll_cons_mk (Below.trod laidOut (by kernel_rfl) (of_decide_eq_true (by kernel_rfl)) h2 bel hlt2) trodAll_mk0))

theorem reads (os : Os) {H : Type} (enc : TypeId × Value → H) : ∃ places, DataW.whole enc Tryd.prog ((laidWorld3 os).forCall (fun _ _ => 0) ⟨#[], #[.slice none 0 0, .agg #[.int .i64 0, .slice none 0 0, .slice none 0 0, .string .empty, .int .i64 0, .string .empty, .int .i64 0], .agg #[.int .i64 0, .slice none 0 0, .slice none 0 0, .string .empty, .int .i64 0, .string .empty, .int .i64 0]], []⟩).memory Tryd.f3.params.toList Rows.halfLogicSpec.vars false (#[.slice none 0 0, .agg #[.int .i64 0, .slice none 0 0, .slice none 0 0, .string .empty, .int .i64 0, .string .empty, .int .i64 0], .agg #[.int .i64 0, .slice none 0 0, .slice none 0 0, .string .empty, .int .i64 0, .string .empty, .int .i64 0]] : Array Value).toList 8 = some ([.nil, .agg [.lit (.int .i64 0), .nil, .agg [.nil], .lit (.string []), .lit (.int .i64 0), .lit (.string []), .lit (.int .i64 0)], .agg [.lit (.int .i64 0), .nil, .agg [.nil], .lit (.string []), .lit (.int .i64 0), .lit (.string []), .lit (.int .i64 0)]], [], places) :=
  ⟨[], by kernel_rfl⟩

set_option maxRecDepth 100000 in
theorem lifted (os : Os) (started : os.Started) (H : Type) (enc : TypeId × Value → H) (F : Stop.Interp) :
    ReturnsInHanded {} Tryd.checked os 3 .any ((Rows.OpenSpec.upto Rows.halfLogicSpec).preRow enc Tryd.prog Tryd.f3 Rows.halfLogicUptoRow.domain false Rows.halfLogicUptoRow.laid) (((Rows.OpenSpec.upto Rows.halfLogicSpec).at F).post enc Tryd.prog Tryd.f3 false true false false) := by
  obtain ⟨places, hx⟩ := reads os enc
  refine returnsInHanded_of_row (C := Tryd.checked) (s := Rows.OpenSpec.upto Rows.halfLogicSpec) own' started (by kernel_rfl) Tryd.func3
    (witness_row_atRef (enc := enc) (C := Tryd.checked) false (laidWorld3 os) #[.slice none 0 0, .agg #[.int .i64 0, .slice none 0 0, .slice none 0 0, .string .empty, .int .i64 0, .string .empty, .int .i64 0], .agg #[.int .i64 0, .slice none 0 0, .slice none 0 0, .string .empty, .int .i64 0, .string .empty, .int .i64 0]] rfl (by kernel_rfl) (by kernel_rfl) (by kernel_rfl)
      (OpenSpec.preRow_of_cond 8 hx (by kernel_rfl) (fun k hk => by cases hk; kernel_rfl) (by kernel_rfl) (laid_met3 os _))) ?_
  intro W base args ds gs before hval hW _ hcond _ hL _ _
  exact contract H enc W base args ds gs before hval hW (hcond _ rfl) hL

theorem proved : Rows.HalfLogicUptoSaid :=
  OpenClaim.holds_of_cond 3 Tryd.f3 rfl rfl rfl rfl rfl rfl rfl ⟨rfl, rfl, rfl, rfl, rfl⟩ rfl rfl rfl rfl rfl (by kernel_rfl) Tryd.func3 (by kernel_rfl)
    (of_decide_eq_true (by kernel_rfl)) (by unfold Func.isWrapper; first | (rw [if_pos (by decide +kernel)]; kernel_rfl) | (rw [if_neg (by decide +kernel)]; exact ⟨rfl, rfl⟩))
    (fun os started H enc _ F => by rw [OpenClaim.pre_eq_preRow]; exact lifted os started H enc F)

theorem plain (f : FuncId) (fn : Func) (hf : Tryd.pinned.checked.prog.funcNamed "gimlet/gimletlaw15.HalfLogic" = some f) (hfn : Tryd.pinned.checked.prog.funcs[f]? = some fn) :
    false = Tryd.pinned.checked.prog.looks [] ∧ ∀ (j : Nat) t, fn.params[j]? = some t → Tryd.pinned.checked.prog.wantsStandIn t = false := by
  obtain rfl : f = 3 := Option.some.inj ((show Tryd.prog.funcNamed "gimlet/gimletlaw15.HalfLogic" = some 3 by kernel_rfl).symm.trans hf) |>.symm
  obtain rfl : fn = Tryd.f3 := (Option.some.inj (Tryd.func3.symm.trans hfn)).symm
  refine ⟨by kernel_rfl, fun j t ht => ?_⟩
  rw [Tryd.params3] at ht
  have hm := Array.mem_of_getElem? ht
  obtain rfl | rfl : t = 22 ∨ t = 30 := by simpa using hm
  · exact (show Tryd.prog.wantsStandIn 22 = false by kernel_rfl)
  · exact (show Tryd.prog.wantsStandIn 30 = false by kernel_rfl)

theorem card : Rows.HalfLogicUptoCardSaid :=
  Claim7.holds_tied_plain_at .later [] _ _ _ _ proved (fun _ h => by cases h) (by kernel_rfl) (fun _ h => by cases h) halfLogicUpto_row_tie rfl ⟨rfl, rfl⟩ (by kernel_rfl) rfl plain (by kernel_rfl)
#print axioms card
end Go.Proofs.YtklpihaelaagpaaDoor.halfLogic
