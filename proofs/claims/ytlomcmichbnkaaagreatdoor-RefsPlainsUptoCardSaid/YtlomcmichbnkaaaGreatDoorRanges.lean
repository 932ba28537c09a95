/-
  The classes' ranges as the variable chars.ranges is laid: what a world holds that reads so.
-/
import Derived.Test.YtlomcmichbnkaaaGreatDoorProg
import Derived.Test.YtlomcmichbnkaaaGreatDoorGenA
import Derived.Lib.LaidTab
import Derived.ProofKit
import Derived.OpenShut
import Derived.Deep.MidRow
namespace Go.Proofs.YtlomcmichbnkaaaGreatDoor
open Go.RowKit Go.Lib

/-- the classes' ranges: 0 allowed, 1 blank, 2 name's start, 3 name's rest, 4 digit, 5 hex digit -/
def rngs : List (List (Int × Int)) :=
  [[(9, 10), (13, 13), (32, 55295), (57344, 65533), (65536, 1114111)],
   [(9, 10), (13, 13), (32, 32)],
   [(65, 90), (95, 95), (97, 122), (192, 214), (216, 246), (248, 767), (880, 893), (895, 8191), (8204, 8205), (8304, 8591), (11264, 12271), (12289, 55295), (63744, 64975), (65008, 65533), (65536, 983039)],
   [(45, 46), (48, 57), (65, 90), (95, 95), (97, 122), (183, 183), (192, 214), (216, 246), (248, 893), (895, 8191), (8204, 8205), (8255, 8256), (8304, 8591), (11264, 12271), (12289, 55295), (63744, 64975), (65008, 65533), (65536, 983039)],
   [(48, 57)],
   [(48, 57), (65, 70), (97, 102)]]
def rng (c : Nat) : List (Int × Int) := rngs.getD c []
def rngData {H : Type} : DataW H := .agg (rngs.map fun l => .slice (l.map fun p => .agg [.lit (.int .i32 p.1), .lit (.int .i32 p.2)]) [])

/-- the ranges lie in w, in the variable's block g -/
structure RangesAt (w : World) (g : Nat) : Prop where
  lt : g < w.heap.size
  at' : ∀ c, c < 6 → ∃ b o cap, w.cell? ⟨g, c, none⟩ = some (.slice (some ⟨b, o, none⟩) (rng c).length cap) ∧ b < w.heap.size ∧
    ∀ i, (h : i < (rng c).length) → w.cell? ⟨b, o + i * 2, none⟩ = some (.int .i32 ((rng c)[i]).1) ∧ w.cell? ⟨b, o + i * 2 + 1, none⟩ = some (.int .i32 ((rng c)[i]).2)
theorem RangesAt.below {w w' : World} {g : Nat} (h : RangesAt w g) (hb : Below w.heap.size w w') : RangesAt w' g :=
  ⟨Nat.lt_of_lt_of_le h.lt hb.size, fun c hc => by
    obtain ⟨b, o, cap, h1, h2, h3⟩ := h.at' c hc
    refine ⟨b, o, cap, (hb.cell (p := ⟨g, c, none⟩) h.lt).trans h1, Nat.lt_of_lt_of_le h2 hb.size, fun i hi => ?_⟩
    obtain ⟨h4, h5⟩ := h3 i hi
    exact ⟨(hb.cell (p := ⟨b, o + i * 2, none⟩) h2).trans h4, (hb.cell (p := ⟨b, o + i * 2 + 1, none⟩) h2).trans h5⟩⟩

theorem span_desc : ∃ f0 f1, Tryz.prog.underlying 63 = some (.struct #[f0, f1]) ∧ f0.type = 21 ∧ f1.type = 21 ∧ f0.offset = 0 ∧ f1.offset = 1 := by
  refine ⟨_, _, Tryz.underlying63, rfl, rfl, rfl, rfl⟩
theorem cellsSpan : Tryz.prog.cellsOf 63 = 2 := by kernel_rfl
theorem cellsI32 : Tryz.prog.cellsOf 21 = 1 := by kernel_rfl
theorem cellsSpans : Tryz.prog.cellsOf 60 = 1 := by kernel_rfl
theorem cellsArr : Tryz.prog.cellsOf 102 = 6 := by kernel_rfl

section
variable {H : Type} {enc : TypeId × Value → H} {w : World} {base : Nat} {sp : Nat → Bool} {held : Bool} {fuel : Nat}

theorem span_read {cs : List Value} {p : Int × Int} {q : List MemPlace}
    (h : DataW.trod enc Tryz.prog w base sp held fuel 63 cs = some (.agg [.lit (.int .i32 p.1), .lit (.int .i32 p.2)], q)) : cs = [.int .i32 p.1, .int .i32 p.2] := by
  obtain ⟨f0, f1, hu, t0, t1, o0, o1⟩ := span_desc
  obtain ⟨y0, y1, n, hx, hl, h0, h1⟩ := Go.ChangeShapes.trod_struct2 hu h
  rw [t0, o0] at h0
  rw [t1, o1] at h1
  rw [cellsSpan] at hl
  rw [cellsI32] at h0 h1
  match cs, hl with
  | [c0, c1], _ =>
    obtain ⟨n0, e0, rfl, _⟩ := DataW.trod_int Tryz.underlying21 h0
    obtain ⟨n1, e1, rfl, _⟩ := DataW.trod_int Tryz.underlying21 h1
    simp at e0 e1
    subst e0
    subst e1
    simp only [Prod.mk.injEq, DataW.agg.injEq, List.cons.injEq, DataW.lit.injEq, Lit.int.injEq, and_true, true_and] at hx
    rw [hx.1.1, hx.1.2]

theorem spans_read {cs : List Value} {l : List (Int × Int)} {q : List MemPlace} (hl : 0 < l.length)
    (h : DataW.trod enc Tryz.prog w base sp held fuel 60 cs = some (.slice (l.map fun p => .agg [.lit (.int .i32 p.1), .lit (.int .i32 p.2)]) [], q)) :
    ∃ b o cap, cs = [.slice (some ⟨b, o, none⟩) l.length cap] ∧ b < w.heap.size ∧ ∀ i, (h : i < l.length) → w.cell? ⟨b, o + i * 2, none⟩ = some (.int .i32 (l[i]).1) ∧ w.cell? ⟨b, o + i * 2 + 1, none⟩ = some (.int .i32 (l[i]).2) := by
  rcases DataW.trod_slice Tryz.underlying60 h with ⟨_, hx⟩ | ⟨a, len, cap, elems, rest, n, _, rfl, hx, _, _, _, hel, hat, _, _⟩
  · simp at hx
  · simp only [Prod.mk.injEq, DataW.slice.injEq] at hx
    have hx1 := hx.1.1
    have hlen : len = l.length := by
      have := congrArg List.length hx1
      simp at this
      omega
    have each : ∀ i, (h : i < l.length) → w.cells? base (a.add (i * 2)) 2 = some [.int .i32 (l[i]).1, .int .i32 (l[i]).2] := by
      intro i hi
      have h1 := hat i (by omega)
      rw [cellsSpan] at h1
      have h2 : elems[i]? = some elems[i] := List.getElem?_eq_getElem (by omega)
      rw [h2, Option.bind_eq_some_iff] at h1
      obtain ⟨cs', hcs, hr⟩ := h1
      have h3 : (elems.map (·.1))[i]? = some elems[i].1 := by rw [List.getElem?_map, h2]; rfl
      rw [← hx1, List.getElem?_map, List.getElem?_eq_getElem hi] at h3
      simp only [Option.map_some, Option.some.injEq] at h3
      have h4 := span_read (p := l[i]) (q := elems[i].2) (by rw [hr, h3])
      rw [hcs, h4]
    have e0 := each 0 hl
    obtain ⟨_, _, hc0⟩ := World.cells?_some e0
    have hc0' := hc0 0 (by omega)
    obtain ⟨b, o, spt⟩ := a
    have hspt : spt = none := by
      have := World.cell?_spot hc0'
      simpa [Addr.add] using this
    subst hspt
    refine ⟨b, o, cap, by rw [hlen], ?_, fun i hi => ?_⟩
    · have := World.cells?_block e0 (by omega)
      simpa [Addr.add] using this
    · obtain ⟨_, _, hc⟩ := World.cells?_some (each i hi)
      have k0 := hc 0 (by omega)
      have k1 := hc 1 (by omega)
      rw [Addr.add_mid, Addr.add_mid] at k0 k1
      exact ⟨k0, k1⟩

theorem ranges_read {cs : List Value} {q : List MemPlace} (h : DataW.trod enc Tryz.prog w base sp held fuel 102 cs = some (rngData, q)) :
    cs.length = 6 ∧ ∀ c, c < 6 → ∃ b o cap, cs[c]? = some (.slice (some ⟨b, o, none⟩) (rng c).length cap) ∧ b < w.heap.size ∧
      ∀ i, (h : i < (rng c).length) → w.cell? ⟨b, o + i * 2, none⟩ = some (.int .i32 ((rng c)[i]).1) ∧ w.cell? ⟨b, o + i * 2 + 1, none⟩ = some (.int .i32 ((rng c)[i]).2) := by
  obtain ⟨xs, m, _, hx, hl, hxl, hat⟩ := DataW.trod_array Tryz.underlying102 h
  rw [cellsArr] at hl
  refine ⟨hl, fun c hc => ?_⟩
  have h1 := hat c hc
  rw [cellsSpans, List.getElem?_eq_getElem (by omega), Nat.mul_one] at h1
  have hx1 : xs.map (·.1) = rngs.map fun l => .slice (l.map fun p => .agg [.lit (.int .i32 p.1), .lit (.int .i32 p.2)]) [] := by
    simp only [Prod.mk.injEq, rngData, DataW.agg.injEq] at hx
    exact hx.1.symm
  have hr : rngs[c]? = some (rng c) := by
    unfold rng
    rw [List.getD, List.getElem?_eq_getElem (show c < rngs.length from hc)]
    rfl
  have h3 : (xs.map (·.1))[c]? = some (xs[c]'(by omega)).1 := by rw [List.getElem?_map, List.getElem?_eq_getElem (by omega)]; rfl
  rw [hx1, List.getElem?_map, hr] at h3
  simp only [Option.map_some, Option.some.injEq] at h3
  have hpos : 0 < (rng c).length := by
    have : ∀ c, c < 6 → 0 < (rng c).length := by decide
    exact this c hc
  obtain ⟨b, o, cap, h4, h5⟩ := spans_read (l := rng c) (q := (xs[c]'(by omega)).2) hpos (by rw [h1, h3])
  refine ⟨b, o, cap, ?_, h5⟩
  have h6 : (cs.drop c).take 1 = [cs[c]'(by omega)] := by
    rw [List.drop_eq_getElem_cons (by omega)]; rfl
  rw [h6] at h4
  rw [List.getElem?_eq_getElem (by omega)]
  simpa using h4
end

theorem gRanges : Tryz.prog.globalNamed "gimlet/chars.ranges" = some 2 := by kernel_rfl
theorem gRangesType : (Tryz.prog.globals[2]?).map (·.type) = some 102 := by kernel_rfl
/-- out of the list of laid variables, where the ranges stand first -/
theorem ranges_of_laid {W : World} {r : List (String × DataW Unit)} (h : laidMet Tryz.prog (("gimlet/chars.ranges", rngData) :: r) W) : RangesAt W 2 := by
  obtain ⟨ps, hl, _, _⟩ := h
  obtain ⟨g, t, cs, fuel, p, q, hn, hy, hv, hr, _, _⟩ := hl
  rw [gRanges] at hn
  injection hn with hn
  subst hn
  rw [gRangesType] at hy
  injection hy with hy
  subst hy
  obtain ⟨hlen, hat⟩ := ranges_read hr
  unfold World.var? at hv
  rw [gRanges] at hv
  simp only [Option.bind_some] at hv
  split at hv
  · rename_i c e fz heq
    injection hv with hv
    subst hv
    refine ⟨heap_lt heq, fun k hk => ?_⟩
    obtain ⟨b, o, cap, h1, h2, h3⟩ := hat k hk
    exact ⟨b, o, cap, by rw [cell_heap heq, ← h1]; simp, h2, h3⟩
  · cases hv
end Go.Proofs.YtlomcmichbnkaaaGreatDoor
