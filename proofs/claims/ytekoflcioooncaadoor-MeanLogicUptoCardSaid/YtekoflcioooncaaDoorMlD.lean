/-
  MeanLogic, where what it reads is of bulk at most 1048576: for every such argument the law returns true, and it reads as before: the row's statement and its card. Condition: the bulk bound of the statement itself.
-/
import Derived.Test.YtekoflcioooncaaDoorMlC
import Derived.Test.YtekoflcioooncaaDoorMcZG
import Derived.Test.YtekoflcioooncaaDoorMcZL
import Derived.ChangeMaps5
namespace Go.Proofs.YtekoflcioooncaaDoor.meanLogic
open Go.ChangeShapes Go.WideShapes Go.ChangeAt Go.RowKit
open Go.ChangeMaps (open_string shut_string)

theorem at_laid {W : World} (hL : laidMetH Tryd.prog Rows.meanLogicUptoRow.laid W) : RangesAt W 2 ∧ Lib.Utf8Tabs 0 1 W := at_laid3 hL

set_option maxRecDepth 100000 in
theorem contract (H : Type) (enc : TypeId × Value → H) (W : World) (base : Nat) (args : Array Value) (ds gs : List (DataW H)) (before : List MemPlace)
    (hval : ∀ (j : Nat) t v, Tryd.f7.params[j]? = some t → args[j]? = some v → Value.okWide Tryd.prog W .any base t v)
    (hW : DataW.Whole enc Tryd.prog Tryd.f7.params.toList Rows.meanLogicSpec.vars false W args.toList ds gs before) (hk : Rows.uptoSmall H (ds ++ gs) = true) (hL : laidMetH Tryd.prog Rows.meanLogicUptoRow.laid W) :
    Calls Tryd.prog 7 args W fun e W' => ∃ v, e = .returned v ∧ Rows.meanLogicSpec.post enc Tryd.prog Tryd.f7 false true false false W args v W' := by
  have hW' := hW
  obtain ⟨p, q, hA0, hV, rfl, hfz, hnd⟩ := hW
  have hA : DataW.TrodAll enc Tryd.prog W 0 (fun _ => true) true Tryd.f7.params.toList args.toList ds p := hA0
  rw [Tryd.params7] at hA hval
  obtain ⟨v0, vs0, d0, ds0, p0, q0, hargs, rfl, rfl, h0, r0⟩ := trodAll_cons hA
  obtain ⟨v1, vs1, d1, ds1, p1, q1, rfl, rfl, rfl, h1, r1⟩ := trodAll_cons r0
  obtain ⟨v2, vs2, d2, ds2, p2, q2, rfl, rfl, rfl, h2, r2⟩ := trodAll_cons r1
  obtain ⟨rfl, rfl, rfl⟩ := trodAll_nil r2
  obtain rfl : args = #[v0, v1, v2] := by cases args; simp_all
  obtain ⟨rfl, rfl⟩ := trodVars_none hV
  obtain ⟨a0, n0, c0, rfl⟩ := okWide_slice Tryd.underlying22 (hval 0 22 v0 rfl rfl)
  have hO0 : EvsAt W a0 n0 (evsOf d0) ∧ wtEs (evsOf d0) ≤ Rows.uptoBulk d0 := by
    obtain ⟨fuel, hf⟩ := h0
    obtain ⟨a9, n9, c9, hcs, hnc, hO, hw⟩ := evs_read hf
    simp [Value.cells] at hcs
    obtain ⟨rfl, rfl, rfl⟩ := hcs
    exact ⟨hO, hw⟩
  obtain ⟨ca1, rfl, hsz1⟩ := okWide_struct Tryd.underlying61 (hval 1 61 v1 rfl rfl)
  obtain ⟨cl1, rfl⟩ : ∃ l : List Value, ca1 = l.toArray := ⟨ca1.toList, by simp⟩
  have hO1 : Rows.uptoBulk d1 ≤ 1048574 → ∃ z : PX, XAt 1048574 W z cl1 := fun hbb => by
    obtain ⟨fuel, hf⟩ := h1
    exact expr_open 1048574 fuel _ _ hf hbb (by decide)
  obtain ⟨ca2, rfl, hsz2⟩ := okWide_struct Tryd.underlying61 (hval 2 61 v2 rfl rfl)
  obtain ⟨cl2, rfl⟩ : ∃ l : List Value, ca2 = l.toArray := ⟨ca2.toList, by simp⟩
  have hO2 : Rows.uptoBulk d2 ≤ 1048574 → ∃ z : PX, XAt 1048574 W z cl2 := fun hbb => by
    obtain ⟨fuel, hf⟩ := h2
    exact expr_open 1048574 fuel _ _ hf hbb (by decide)
  clear hA0
  simp only [List.append_nil] at hW' hk
  have hb : Rows.uptoBulkAll [d0, d1, d2] ≤ 1048576 := of_decide_eq_true hk
  simp only [Rows.uptoBulkAll] at hb
  have hbe0 : Rows.uptoBulk d0 ≤ 1048576 := by omega
  have hbe1 : Rows.uptoBulk d1 ≤ 1048574 := by have := bulk_pos d0; have := bulk_pos d2; omega
  have hbe2 : Rows.uptoBulk d2 ≤ 1048574 := by have := bulk_pos d0; have := bulk_pos d1; omega
  have hlt0 : ∀ x ∈ p0, x.block < W.heap.size := fun x hx => hW'.lt x (by simp [hx])
  have hlt1 : ∀ x ∈ p1, x.block < W.heap.size := fun x hx => hW'.lt x (by simp [hx])
  have hlt2 : ∀ x ∈ p2, x.block < W.heap.size := fun x hx => hW'.lt x (by simp [hx])
  obtain ⟨x1, hx1⟩ := hO1 hbe1
  obtain ⟨x2, hx2⟩ := hO2 hbe2
  obtain ⟨hev, hwt⟩ := hO0
  refine (meanLogic_of (f := 1048573) (by decide) a0 n0 c0 (evsOf d0) x1 x2 cl1 cl2 W ⟨(at_laid hL).1, (at_laid hL).2⟩ hev (Nat.le_trans hwt hbe0) hx1 hx2).mono fun e W' ⟨he, bel⟩ => ?_
  subst he
  refine ⟨_, rfl, _, _, _, [], p0 ++ (p1 ++ (p2 ++ [])), [], hW', ?_, ?_, rfl, bel.frame _, fun h => by cases h⟩
  · exact trodAll_cons_mk (shut_bool Tryd.underlying4 _) trodAll_mk0
  · exact trodAll_cons_mk (Below.trod laidOut (by kernel_rfl) (of_decide_eq_true (by kernel_rfl)) h0 bel hlt0) (trodAll_cons_mk (Below.trod laidOut (by kernel_rfl) (of_decide_eq_true (by kernel_rfl)) h1 bel hlt1) (trodAll_cons_mk (Below.trod laidOut (by kernel_rfl) (of_decide_eq_true (by kernel_rfl)) h2 bel hlt2) trodAll_mk0))

theorem reads (os : Os) {H : Type} (enc : TypeId × Value → H) : ∃ places, DataW.whole enc Tryd.prog ((laidWorld3 os).forCall (fun _ _ => 0) ⟨#[], #[.slice none 0 0, .agg #[.int .i64 0, .slice none 0 0, .slice none 0 0, .string .empty, .int .i64 0, .string .empty, .int .i64 0], .agg #[.int .i64 0, .slice none 0 0, .slice none 0 0, .string .empty, .int .i64 0, .string .empty, .int .i64 0]], []⟩).memory Tryd.f7.params.toList Rows.meanLogicSpec.vars false (#[.slice none 0 0, .agg #[.int .i64 0, .slice none 0 0, .slice none 0 0, .string .empty, .int .i64 0, .string .empty, .int .i64 0], .agg #[.int .i64 0, .slice none 0 0, .slice none 0 0, .string .empty, .int .i64 0, .string .empty, .int .i64 0]] : Array Value).toList 8 = some ([.nil, .agg [.lit (.int .i64 0), .nil, .agg [.nil], .lit (.string []), .lit (.int .i64 0), .lit (.string []), .lit (.int .i64 0)], .agg [.lit (.int .i64 0), .nil, .agg [.nil], .lit (.string []), .lit (.int .i64 0), .lit (.string []), .lit (.int .i64 0)]], [], places) :=
  ⟨[], by kernel_rfl⟩

set_option maxRecDepth 100000 in
theorem lifted (os : Os) (started : os.Started) (H : Type) (enc : TypeId × Value → H) (F : Stop.Interp) :
    ReturnsInHanded {} Tryd.checked os 7 .any ((Rows.OpenSpec.upto Rows.meanLogicSpec).preRow enc Tryd.prog Tryd.f7 Rows.meanLogicUptoRow.domain false Rows.meanLogicUptoRow.laid) (((Rows.OpenSpec.upto Rows.meanLogicSpec).at F).post enc Tryd.prog Tryd.f7 false true false false) := by
  obtain ⟨places, hx⟩ := reads os enc
  refine returnsInHanded_of_row (C := Tryd.checked) (s := Rows.OpenSpec.upto Rows.meanLogicSpec) own' started (by kernel_rfl) Tryd.func7
    (witness_row_atRef (enc := enc) (C := Tryd.checked) false (laidWorld3 os) #[.slice none 0 0, .agg #[.int .i64 0, .slice none 0 0, .slice none 0 0, .string .empty, .int .i64 0, .string .empty, .int .i64 0], .agg #[.int .i64 0, .slice none 0 0, .slice none 0 0, .string .empty, .int .i64 0, .string .empty, .int .i64 0]] rfl (by kernel_rfl) (by kernel_rfl) (by kernel_rfl)
      (OpenSpec.preRow_of_cond 8 hx (by kernel_rfl) (fun k hk => by cases hk; kernel_rfl) (by kernel_rfl) (laid_met3 os _))) ?_
  intro W base args ds gs before hval hW _ hcond _ hL _ _
  exact contract H enc W base args ds gs before hval hW (hcond _ rfl) hL

theorem proved : Rows.MeanLogicUptoSaid :=
  OpenClaim.holds_of_cond 7 Tryd.f7 rfl rfl rfl rfl rfl rfl rfl ⟨rfl, rfl, rfl, rfl, rfl⟩ rfl rfl rfl rfl rfl (by kernel_rfl) Tryd.func7 (by kernel_rfl)
    (of_decide_eq_true (by kernel_rfl)) (by unfold Func.isWrapper; first | (rw [if_pos (by decide +kernel)]; kernel_rfl) | (rw [if_neg (by decide +kernel)]; exact ⟨rfl, rfl⟩))
    (fun os started H enc _ F => by rw [OpenClaim.pre_eq_preRow]; exact lifted os started H enc F)

theorem plain (f : FuncId) (fn : Func) (hf : Tryd.pinned.checked.prog.funcNamed "gimlet/gimletlaw12.MeanLogic" = some f) (hfn : Tryd.pinned.checked.prog.funcs[f]? = some fn) :
    false = Tryd.pinned.checked.prog.looks [] ∧ ∀ (j : Nat) t, fn.params[j]? = some t → Tryd.pinned.checked.prog.wantsStandIn t = false := by
  obtain rfl : f = 7 := Option.some.inj ((show Tryd.prog.funcNamed "gimlet/gimletlaw12.MeanLogic" = some 7 by kernel_rfl).symm.trans hf) |>.symm
  obtain rfl : fn = Tryd.f7 := (Option.some.inj (Tryd.func7.symm.trans hfn)).symm
  refine ⟨by kernel_rfl, fun j t ht => ?_⟩
  rw [Tryd.params7] at ht
  have hm := Array.mem_of_getElem? ht
  obtain rfl | rfl : t = 22 ∨ t = 61 := by simpa using hm
  · exact (show Tryd.prog.wantsStandIn 22 = false by kernel_rfl)
  · exact (show Tryd.prog.wantsStandIn 61 = false by kernel_rfl)

theorem card : Rows.MeanLogicUptoCardSaid :=
  Claim7.holds_tied_plain_at .later [] _ _ _ _ proved (fun _ h => by cases h) (by kernel_rfl) (fun _ h => by cases h) meanLogicUpto_row_tie rfl ⟨rfl, rfl⟩ (by kernel_rfl) rfl plain (by kernel_rfl)
#print axioms card
end Go.Proofs.YtekoflcioooncaaDoor.meanLogic
