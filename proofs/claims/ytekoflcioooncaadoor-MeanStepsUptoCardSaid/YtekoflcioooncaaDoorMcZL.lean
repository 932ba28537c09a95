/-
  (asked).holds and (asked).steps, to any depth.
-/
import Derived.Test.YtekoflcioooncaaDoorMcZH
import Derived.Test.YtekoflcioooncaaDoorMcY
import Derived.Test.YtekoflcioooncaaDoorMcZI
import Derived.Test.YtekoflcioooncaaDoorMcZK
import Derived.Test.YtekoflcioooncaaDoorMcC
import Derived.Test.YtekoflcioooncaaDoorCards
import Derived.Test.YtekoflcioooncaaDoorTie
import Derived.Deep.DeepHandedRow
import Derived.Deep.DeepWitnessRowRef
import Derived.Lib.LaidTab
import Derived.JoinedCond
import Derived.SliceStrings
import Derived.Carry
import Derived.Test.YtekoflcioooncaaDoorMcH
import Derived.PinnedBridge
import Derived.Stop.LaidErr
import Derived.Test.YtekoflcioooncaaDoorMcZF
import Derived.Test.YtekoflcioooncaaDoorMcZG
import Derived.ChangeMaps5
namespace Go.Proofs.YtekoflcioooncaaDoor
open Go.RowKit

section
variable {L : Nat} {f : Nat → Nat} {p : Nat → Int}
theorem lam_of (h : AxF L f p) (i : Nat) (hi : i < L) : ∀ j, i ≤ j → j ≤ f i → f j ≤ f i := by
  intro j
  induction j using Nat.strongRecOn with
  | _ j ih =>
    intro hij hjf
    by_cases e : i = j
    · rw [e]; exact Nat.le_refl _
    · have hr := h.rng i hi
      have hp := par_ge h i hi j (by omega) hjf
      have hl := (h.plt j (by omega)).2
      have hin := h.ins j (by omega)
      obtain ⟨q, hq⟩ : ∃ q : Nat, p j = (q : Int) := ⟨(p j).toNat, by omega⟩
      have hhi : hiP L f (p j) = f q + 1 := by rw [hq]; unfold hiP; rw [if_neg (by omega), Int.toNat_natCast]
      rw [hhi] at hin
      have := ih q (by omega) (by omega) (by omega)
      omega
/-- the last place in a node -/
def lstOf (L : Nat) (f : Nat → Nat) (b : Nat) : Nat := if b = 0 then L else if b - 1 < L then f (b - 1) + 1 else b
theorem lstOf_lam (h : AxF L f p) (a b : Nat) (h1 : a ≤ b) (h2 : b ≤ lstOf L f a) : lstOf L f b ≤ lstOf L f a := by
  unfold lstOf at h2 ⊢
  by_cases ea : a = 0
  · rw [if_pos ea] at h2 ⊢
    by_cases eb : b = 0
    · rw [if_pos eb]; exact Nat.le_refl _
    · rw [if_neg eb, if_pos (by omega)]
      have := h.rng (b - 1) (by omega)
      omega
  · rw [if_neg ea] at h2 ⊢
    rw [if_neg (by omega : ¬ b = 0)]
    by_cases hL : a - 1 < L
    · rw [if_pos hL] at h2 ⊢
      have := h.rng (a - 1) hL
      rw [if_pos (by omega)]
      have := lam_of h (a - 1) hL (b - 1) (by omega) (by omega)
      omega
    · rw [if_neg hL] at h2 ⊢
      have : b = a := by omega
      subst this
      rw [if_neg hL]; exact Nat.le_refl _
theorem mem_rngL {a b : Nat} {x : Int} : x ∈ rngL a b ↔ (a : Int) ≤ x ∧ x < (b : Int) := by
  refine ⟨fun h => by obtain ⟨i, rfl, h1, h2⟩ := rngL_mem h; omega, fun h => ?_⟩
  unfold rngL
  refine List.mem_map.2 ⟨x.toNat, ?_, by omega⟩
  rw [List.mem_range'_1]; omega
end
theorem axOK_of {evs : List Ev} (h : wholeB evs = true) : AxOK (treePT evs) (lstOf (nodesB evs).length (lastN evs)) := by
  have hx := axF_of h
  refine ⟨fun n a x hxm => alongM_in hx.rng n a x hxm, fun j k hj a ha => ?_, fun a b h1 h2 => lstOf_lam hx a b h1 h2⟩
  have hj' : j ≤ (nodesB evs).length := hj
  have hd : a = 1 ∨ a = 2 := by unfold deepA at ha; simpa using ha
  have hhi : (hiOf (nodesB evs).length (lastN evs) ((j : Int) - 1) : Nat) = lstOf (nodesB evs).length (lastN evs) j := by
    unfold hiOf lstOf
    by_cases e : j = 0
    · rw [if_pos (by omega), if_pos e]
    · rw [if_neg (by omega), if_neg e, if_pos (by omega), show ((j : Int) - 1).toNat = j - 1 by omega]
  show ((k : Int) - 1) ∈ alongM (nodesB evs).length (lastN evs) ((j : Int) - 1) a ↔ _
  rw [← alongR_eq hx]
  unfold alongR DReach
  rw [if_neg (by omega), hhi, show ((j : Int) - 1 + 1).toNat = j by omega, filt_all (fun y _ => by unfold keepR; rcases hd with rfl | rfl <;> simp), List.mem_append, mem_rngL]
  rcases hd with rfl | rfl
  · rw [if_neg (by omega)]
    simp
    omega
  · rw [if_pos (by omega)]
    simp
    omega
/-- steps, where holds is known -/
theorem steps_of {f tb : Nat} {evs : List Ev} (HX : HoldX tb evs f) : StepX tb evs f := fun g0 n c a fr ss w hq hn hfn hrow h hml hgd =>
  steps_any (holdP (treePT evs) f) g0 n c a fr ss w hq hn hfn hrow h hml (axOK_of hq.whole) hgd fun v l la lc W hv1 hv2 hqW hx hl hg => all_of HX v l la lc W hv1 hv2 hqW hx hl hg
theorem holds_all (tb : Nat) (evs : List Ev) : ∀ f, HoldX tb evs f
  | 0 => fun v x cs W _ _ _ _ hg => by cases hg
  | f + 1 => fun v x cs W hv1 hv2 hq h hg => by
    have HX := holds_all tb evs f
    have hop : x.op = 0 ∨ x.op = 1 ∨ x.op = 2 ∨ x.op = 3 := by
      by_cases h3 : x.op = 3
      · exact .inr (.inr (.inr h3))
      · rcases (goodXB_args hg h3).1 with h | h | ⟨h, _⟩
        · exact .inl h
        · exact .inr (.inl h)
        · exact .inr (.inr (.inl h))
    rcases hop with h0 | h1 | h2 | h3
    · exact holdsAnd_any HX v x cs W hv1 hv2 hq h hg h0
    · exact holdsOr_any HX v x cs W hv1 hv2 hq h hg h1
    · exact holdsNot_any HX v x cs W hv1 hv2 hq h hg h2
    · exact holdsSome_any (steps_of HX) v x cs W hv1 hv2 hq h hg h3
theorem steps_all (f tb : Nat) (evs : List Ev) : StepX tb evs f := steps_of (holds_all tb evs f)
end Go.Proofs.YtekoflcioooncaaDoor

/-
  The frame of a law over chars.ranges: what the bound gives of a []byte; a world for the witness, the ranges laid in it.
-/
namespace Go.Proofs.YtekoflcioooncaaDoor
open Go.ChangeShapes Go.WideShapes Go.ChangeAt Go.RowKit

theorem own' : ownKnob Tryd.prog.godebug = none := by kernel_rfl
theorem laidOut : laidOutB Tryd.prog = true := by kernel_rfl
theorem cellsU8 : Tryd.prog.cellsOf 5 = 1 := by kernel_rfl

theorem bulk_one {H : Type} (d : DataW H) : 1 ≤ Rows.uptoBulk d := by
  cases d with
  | lit l => cases l <;> simp [Rows.uptoBulk]
  | nil => simp [Rows.uptoBulk]
  | ptr d => simp [Rows.uptoBulk]
  | slice elems spare => simp [Rows.uptoBulk]
  | agg parts => simp [Rows.uptoBulk]
  | iface t d => simp [Rows.uptoBulk]
  | map entries => simp [Rows.uptoBulk]
  | held h => simp [Rows.uptoBulk]
theorem bulk_length {H : Type} (l : List (DataW H)) : l.length ≤ Rows.uptoBulkAll l := by
  induction l with
  | nil => simp [Rows.uptoBulkAll]
  | cons x r ih => have := bulk_one x; simp only [Rows.uptoBulkAll, List.length_cons]; omega

set_option maxRecDepth 100000 in
/-- a []byte that came in -/
theorem bytes_open {H : Type} {enc : TypeId × Value → H} {W : World} {base : Nat} {v : Value} {d : DataW H} {p : List MemPlace} (hv : Value.okWide Tryd.prog W .any base 148 v) (h : DataW.Trod enc Tryd.prog W 0 (fun _ => true) true 148 v d p) :
    ∃ a n c l, v = .slice a n c ∧ Sl W a n (u8s l) ∧ n ≤ c ∧ n ≤ Rows.uptoBulk d := by
  obtain ⟨a0, len, cap, rfl⟩ := okWide_slice Tryd.underlying148 hv
  obtain ⟨fuel, hf⟩ := h
  rcases open_ints Tryd.underlying148 Tryd.underlying5 cellsU8 hf with ⟨hcs, hx⟩ | ⟨a, len', cap', zs, hcs, _, hl, hm, hz, hx, hcell, hwz⟩
  · simp [Value.cells] at hcs
    obtain ⟨rfl, rfl, rfl⟩ := hcs
    exact ⟨none, 0, 0, [], rfl, ⟨rfl, fun i hi => by simp [u8s] at hi⟩, Nat.le_refl _, Nat.zero_le _⟩
  · simp [Value.cells] at hcs
    obtain ⟨rfl, rfl, rfl⟩ := hcs
    simp only [if_true] at hz
    simp only [Prod.mk.injEq] at hx
    obtain ⟨rfl, -⟩ := hx
    have hlen : ((zs.take len).map fun z => UInt8.ofNat z.toNat).length = len := by rw [List.length_map, List.length_take]; omega
    refine ⟨some a, len, cap, (zs.take len).map fun z => UInt8.ofNat z.toNat, rfl, ⟨by rw [u8s_length, hlen], fun i hi => ?_⟩, hl, ?_⟩
    · rw [u8s_length, hlen] at hi
      have hc := hcell i (by omega)
      obtain ⟨b, o, sp⟩ := a
      have hsp : sp = none := by
        have := World.cell?_spot (hcell 0 (by omega))
        simpa [Addr.add] using this
      subst hsp
      rw [Addr.add_lit] at hc
      refine ⟨b, o, rfl, ?_, ?_⟩
      · rcases Nat.lt_or_ge b W.heap.size with h | h
        · exact h
        · simp [World.cell?, Array.getElem?_eq_none h] at hc
      · have hi2 : i < zs.length := by omega
        have hw := hwz zs[i] (List.getElem_mem hi2)
        rw [hc]
        have hr : 0 ≤ zs[i] ∧ zs[i] < 256 := by
          simp only [Lit.wf, Bool.and_eq_true, decide_eq_true_eq] at hw
          have e1 : IntKind.u8.min = 0 := by decide
          have e2 : IntKind.u8.max = 255 := by decide
          omega
        simp only [u8s, List.getElem_map, List.getElem_take, List.getD_eq_getElem?_getD, List.getElem?_eq_getElem hi2, Option.getD_some]
        congr 2
        rw [UInt8.toNat_ofNat']
        omega
    · have h1 := bulk_length (H := H) (lits .u8 (zs.take len))
      have h2 : (lits (H := H) .u8 (zs.take len)).length = len := by simp [lits]; omega
      simp only [Rows.uptoBulk]
      omega

/-- the spans' cells -/
def flat' (l : List (Int × Int)) : Array Value := (l.flatMap fun p => [.int .i32 p.1, .int .i32 p.2]).toArray
noncomputable def laidWorld (os : Os) : World :=
  let N := (World.settled Tryd.prog os).heap.size
  let w0 := World.holding Tryd.prog os ⟨#[.cells (flat' (rng 0)) 139, .cells (flat' (rng 1)) 139, .cells (flat' (rng 2)) 139, .cells (flat' (rng 3)) 139, .cells (flat' (rng 4)) 139, .cells (flat' (rng 5)) 139], #[], []⟩
  { w0 with heap := w0.heap.modify 2 fun
      | .cells _ t frozen => .cells #[.slice (some ⟨N, 0, none⟩) 5 5, .slice (some ⟨N + 1, 0, none⟩) 3 3, .slice (some ⟨N + 2, 0, none⟩) 15 15, .slice (some ⟨N + 3, 0, none⟩) 18 18, .slice (some ⟨N + 4, 0, none⟩) 1 1, .slice (some ⟨N + 5, 0, none⟩) 3 3] t frozen
      | o => o }
theorem laid_met (os : Os) (args : Array Value) : laidMet Tryd.prog [("gimlet/chars.ranges", Rows.laid_gimlet_chars_ranges)] ((laidWorld os).forCall (fun _ _ => 0) ⟨#[], args, []⟩).memory :=
  laidMet_of_run' 8 (by kernel_rfl) (by kernel_rfl)
theorem laid_same : (Rows.laid_gimlet_chars_ranges : DataW Unit) = rngData := by kernel_rfl
end Go.Proofs.YtekoflcioooncaaDoor

/-
  The frame of a law over chars.ranges and the two tables of unicode/utf8: a world for the witness, the variables laid in it.
-/
namespace Go.Proofs.YtekoflcioooncaaDoor
open Go.ChangeShapes Go.WideShapes Go.ChangeAt Go.RowKit

noncomputable def laidWorld3 (os : Os) : World :=
  let N := (World.settled Tryd.prog os).heap.size
  let w0 := World.holding Tryd.prog os ⟨#[.cells (flat' (rng 0)) 139, .cells (flat' (rng 1)) 139, .cells (flat' (rng 2)) 139, .cells (flat' (rng 3)) 139, .cells (flat' (rng 4)) 139, .cells (flat' (rng 5)) 139], #[], []⟩
  { w0 with heap := ((w0.heap.modify 2 fun
      | .cells _ t frozen => .cells #[.slice (some ⟨N, 0, none⟩) 5 5, .slice (some ⟨N + 1, 0, none⟩) 3 3, .slice (some ⟨N + 2, 0, none⟩) 15 15, .slice (some ⟨N + 3, 0, none⟩) 18 18, .slice (some ⟨N + 4, 0, none⟩) 1 1, .slice (some ⟨N + 5, 0, none⟩) 3 3] t frozen
      | o => o).modify 0 fun
      | .cells _ t frozen => .cells ((List.range 256).map fun b => Value.int .u8 (Lib.firstT b)).toArray t frozen
      | o => o).modify 1 fun
      | .cells _ t frozen => .cells ((List.range 16).flatMap fun i => [Value.int .u8 (Lib.accLo i), Value.int .u8 (Lib.accHi i)]).toArray t frozen
      | o => o }
set_option maxRecDepth 100000 in
theorem laid_met3 (os : Os) (args : Array Value) : laidMet Tryd.prog [("unicode/utf8.acceptRanges", Rows.laid_unicode_utf8_acceptRanges), ("gimlet/chars.ranges", Rows.laid_gimlet_chars_ranges), ("unicode/utf8.first", Rows.laid_unicode_utf8_first)] ((laidWorld3 os).forCall (fun _ _ => 0) ⟨#[], args, []⟩).memory :=
  laidMet_of_run' 8 (by kernel_rfl) (by kernel_rfl)
theorem acc_same : (Rows.laid_unicode_utf8_acceptRanges : DataW Unit) = Lib.acceptData := by kernel_rfl
theorem first_same : Rows.laid_unicode_utf8_first = Lib.firstData := Pinned.utf8First_eq
theorem u8extra : U8Extra Tryd.prog validRen := ⟨by kernel_rfl, by kernel_rfl, by kernel_rfl, by kernel_rfl, by kernel_rfl, by kernel_rfl, by kernel_rfl⟩
theorem at_laid3 {W : World} (hL : laidMet Tryd.prog [("unicode/utf8.acceptRanges", Rows.laid_unicode_utf8_acceptRanges), ("gimlet/chars.ranges", Rows.laid_gimlet_chars_ranges), ("unicode/utf8.first", Rows.laid_unicode_utf8_first)] W) : RangesAt W 2 ∧ Lib.Utf8Tabs 0 1 W := by
  refine ⟨?_, ?_⟩
  · have h := hL.tail
    rw [laid_same] at h
    exact ranges_of_laid h
  · rw [acc_same, first_same] at hL
    exact utf8Tabs_of_readsT u8types u8extra (Lib.laidMet.reads hL (.tail _ (.tail _ (.head _)))) (Lib.laidMet.reads hL (.head _))
end Go.Proofs.YtekoflcioooncaaDoor

/-
  MeanCompared, where what it reads is of bulk at most 1048576: for every such argument the law returns true, and it reads as before: the row's statement and its card. Condition: the bulk bound of the statement itself.
-/
namespace Go.Proofs.YtekoflcioooncaaDoor.meanCompared
open Go.ChangeShapes Go.WideShapes Go.ChangeAt Go.RowKit
open Go.ChangeMaps (open_string shut_string)

theorem at_laid {W : World} (hL : laidMetH Tryd.prog Rows.meanComparedUptoRow.laid W) : RangesAt W 2 ∧ Lib.Utf8Tabs 0 1 W := at_laid3 hL

set_option maxRecDepth 100000 in
theorem contract (H : Type) (enc : TypeId × Value → H) (W : World) (base : Nat) (args : Array Value) (ds gs : List (DataW H)) (before : List MemPlace)
    (hval : ∀ (j : Nat) t v, Tryd.f4.params[j]? = some t → args[j]? = some v → Value.okWide Tryd.prog W .any base t v)
    (hW : DataW.Whole enc Tryd.prog Tryd.f4.params.toList Rows.meanComparedSpec.vars false W args.toList ds gs before) (hk : Rows.uptoSmall H (ds ++ gs) = true) (hL : laidMetH Tryd.prog Rows.meanComparedUptoRow.laid W) :
    Calls Tryd.prog 4 args W fun e W' => ∃ v, e = .returned v ∧ Rows.meanComparedSpec.post enc Tryd.prog Tryd.f4 false true false false W args v W' := by
  have hW' := hW
  obtain ⟨p, q, hA0, hV, rfl, hfz, hnd⟩ := hW
  have hA : DataW.TrodAll enc Tryd.prog W 0 (fun _ => true) true Tryd.f4.params.toList args.toList ds p := hA0
  rw [Tryd.params4] at hA hval
  obtain ⟨v0, vs0, d0, ds0, p0, q0, hargs, rfl, rfl, h0, r0⟩ := trodAll_cons hA
  obtain ⟨rfl, rfl, rfl⟩ := trodAll_nil r0
  obtain rfl : args = #[v0] := by cases args; simp_all
  obtain ⟨rfl, rfl⟩ := trodVars_none hV
  obtain ⟨ca0, rfl, hsz0⟩ := okWide_struct Tryd.underlying45 (hval 0 45 v0 rfl rfl)
  obtain ⟨cl0, rfl⟩ : ∃ l : List Value, ca0 = l.toArray := ⟨ca0.toList, by simp⟩
  have hO0 : Rows.uptoBulk d0 ≤ 1048576 → ∃ (s t : List UInt8) (c n : Int), cl0 = [.string (strL s), .string (strL t), .int .i64 c, .int .i64 n] ∧ s.length ≤ 1048576 ∧ t.length ≤ 1048576 := fun hbb => by
    obtain ⟨fuel, hf⟩ := h0
    exact pair_open hf hbb
  clear hA0
  simp only [List.append_nil] at hW' hk
  have hb : Rows.uptoBulkAll [d0] ≤ 1048576 := of_decide_eq_true hk
  simp only [Rows.uptoBulkAll] at hb
  have hbe0 : Rows.uptoBulk d0 ≤ 1048576 := by omega
  have hlt0 : ∀ x ∈ p0, x.block < W.heap.size := fun x hx => hW'.lt x (by simp [hx])
  obtain ⟨s0, t0, c0, n0, rfl, hs0, ht0⟩ := hO0 hbe0
  refine (meanCompared_of steps_all s0 t0 c0 n0 W ⟨(at_laid hL).1, (at_laid hL).2⟩ hs0 ht0).mono fun e W' ⟨he, bel⟩ => ?_
  subst he
  refine ⟨_, rfl, _, _, _, [], p0 ++ [], [], hW', ?_, ?_, rfl, bel.frame _, fun h => by cases h⟩
  · exact trodAll_cons_mk (shut_bool Tryd.underlying4 _) trodAll_mk0
  · exact trodAll_cons_mk (Below.trod laidOut (by kernel_rfl) (of_decide_eq_true (by kernel_rfl)) h0 bel hlt0) trodAll_mk0

theorem reads (os : Os) {H : Type} (enc : TypeId × Value → H) : ∃ places, DataW.whole enc Tryd.prog ((laidWorld3 os).forCall (fun _ _ => 0) ⟨#[], #[.agg #[.string .empty, .string .empty, .int .i64 0, .int .i64 0]], []⟩).memory Tryd.f4.params.toList Rows.meanComparedSpec.vars false (#[.agg #[.string .empty, .string .empty, .int .i64 0, .int .i64 0]] : Array Value).toList 8 = some ([.agg [.lit (.string []), .lit (.string []), .lit (.int .i64 0), .lit (.int .i64 0)]], [], places) :=
  ⟨[], by kernel_rfl⟩

set_option maxRecDepth 100000 in
theorem lifted (os : Os) (started : os.Started) (H : Type) (enc : TypeId × Value → H) (F : Stop.Interp) :
    ReturnsInHanded {} Tryd.checked os 4 .any ((Rows.OpenSpec.upto Rows.meanComparedSpec).preRow enc Tryd.prog Tryd.f4 Rows.meanComparedUptoRow.domain false Rows.meanComparedUptoRow.laid) (((Rows.OpenSpec.upto Rows.meanComparedSpec).at F).post enc Tryd.prog Tryd.f4 false true false false) := by
  obtain ⟨places, hx⟩ := reads os enc
  refine returnsInHanded_of_row (C := Tryd.checked) (s := Rows.OpenSpec.upto Rows.meanComparedSpec) own' started (by kernel_rfl) Tryd.func4
    (witness_row_atRef (enc := enc) (C := Tryd.checked) false (laidWorld3 os) #[.agg #[.string .empty, .string .empty, .int .i64 0, .int .i64 0]] rfl (by kernel_rfl) (by kernel_rfl) (by kernel_rfl)
      (OpenSpec.preRow_of_cond 8 hx (by kernel_rfl) (fun k hk => by cases hk; kernel_rfl) (by kernel_rfl) (laid_met3 os _))) ?_
  intro W base args ds gs before hval hW _ hcond _ hL _ _
  exact contract H enc W base args ds gs before hval hW (hcond _ rfl) hL

theorem proved : Rows.MeanComparedUptoSaid :=
  OpenClaim.holds_of_cond 4 Tryd.f4 rfl rfl rfl rfl rfl rfl rfl ⟨rfl, rfl, rfl, rfl, rfl⟩ rfl rfl rfl rfl rfl (by kernel_rfl) Tryd.func4 (by kernel_rfl)
    (of_decide_eq_true (by kernel_rfl)) (by unfold Func.isWrapper; first | (rw [if_pos (by decide +kernel)]; kernel_rfl) | (rw [if_neg (by decide +kernel)]; exact ⟨rfl, rfl⟩))
    (fun os started H enc _ F => by rw [OpenClaim.pre_eq_preRow]; exact lifted os started H enc F)

theorem plain (f : FuncId) (fn : Func) (hf : Tryd.pinned.checked.prog.funcNamed "gimlet/gimletlaw12.MeanCompared" = some f) (hfn : Tryd.pinned.checked.prog.funcs[f]? = some fn) :
    false = Tryd.pinned.checked.prog.looks [] ∧ ∀ (j : Nat) t, fn.params[j]? = some t → Tryd.pinned.checked.prog.wantsStandIn t = false := by
  obtain rfl : f = 4 := Option.some.inj ((show Tryd.prog.funcNamed "gimlet/gimletlaw12.MeanCompared" = some 4 by kernel_rfl).symm.trans hf) |>.symm
  obtain rfl : fn = Tryd.f4 := (Option.some.inj (Tryd.func4.symm.trans hfn)).symm
  refine ⟨by kernel_rfl, fun j t ht => ?_⟩
  rw [Tryd.params4] at ht
  have hm := Array.mem_of_getElem? ht
  obtain rfl : t = 45 := by simpa using hm
  exact (show Tryd.prog.wantsStandIn 45 = false by kernel_rfl)

theorem card : Rows.MeanComparedUptoCardSaid :=
  Claim7.holds_tied_plain_at .later [] _ _ _ _ proved (fun _ h => by cases h) (by kernel_rfl) (fun _ h => by cases h) meanComparedUpto_row_tie rfl ⟨rfl, rfl⟩ (by kernel_rfl) rfl plain (by kernel_rfl)
#print axioms card
end Go.Proofs.YtekoflcioooncaaDoor.meanCompared
