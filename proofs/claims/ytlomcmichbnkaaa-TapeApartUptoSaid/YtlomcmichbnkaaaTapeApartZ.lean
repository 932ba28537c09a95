/-
  TapeApart, where what it reads is of bulk at most 1048576: for every such argument the law returns true, and it reads as before. Condition: the bulk bound of the statement itself.
-/
import Derived.Test.YtlomcmichbnkaaaRows
import Derived.Test.YtlomcmichbnkaaaLawApart
import Derived.ProofKit
import Derived.OpenShut
import Derived.JoinedCond
import Derived.Carry
import Derived.ChangeMaps5
namespace Go.Proofs.Ytlomcmichbnkaaa.tapeApart
open Go.ChangeShapes Go.WideShapes Go.ChangeAt Go.RowKit
open Go.ChangeMaps (open_string shut_string)

theorem own : ownKnob Try.prog.godebug = none := by kernel_rfl
theorem laidOut : laidOutB Try.prog = true := by kernel_rfl

section
variable {H : Type} {enc : TypeId × Value → H} {w : World} {base : Nat} {sp : Nat → Bool} {held : Bool} {fuel : Nat}
theorem two_desc : ∃ f0 f1 f2 f3, Try.prog.underlying 27 = some (.struct #[f0, f1, f2, f3]) ∧ (f0.type = 25 ∧ f1.type = 25 ∧ f2.type = 3 ∧ f3.type = 3) ∧ (f0.offset = 0 ∧ f1.offset = 8 ∧ f2.offset = 16 ∧ f3.offset = 17) := by
  refine ⟨_, _, _, _, Try.underlying27, ⟨rfl, rfl, rfl, rfl⟩, ⟨rfl, rfl, rfl, rfl⟩⟩
theorem cellsTwo : Try.prog.cellsOf 27 = 18 := by kernel_rfl
set_option maxRecDepth 100000 in
set_option maxHeartbeats 1000000 in
theorem two_read {cs : List Value} {x : DataW H × List MemPlace} (h : DataW.trod enc Try.prog w base sp held fuel 27 cs = some x) :
    ∃ (e f : Ev) (from' to' : Int) (A B : Option Addr) (m c m2 c2 : Nat), cs = [.int .i64 e.kind, .int .i64 e.num, .int .i64 e.dep, .string (strL e.name), .slice A m c, .string (strL e.text), .int .i64 e.fr, .int .i64 e.tt, .int .i64 f.kind, .int .i64 f.num, .int .i64 f.dep, .string (strL f.name), .slice B m2 c2, .string (strL f.text), .int .i64 f.fr, .int .i64 f.tt, .int .i64 from', .int .i64 to'] ∧
      m ≤ c ∧ m2 ≤ c2 ∧ AttrsAt w A m e.ats ∧ AttrsAt w B m2 f.ats ∧ wtE e ≤ Rows.uptoBulk x.1 ∧ wtE f ≤ Rows.uptoBulk x.1 := by
  obtain ⟨f0, f1, f2, f3, hu, ⟨t0, t1, t2, t3⟩, ⟨o0, o1, o2, o3⟩⟩ := two_desc
  obtain ⟨xs, m, _, hx, hl, hxl, hat⟩ := DataW.trod_struct hu h
  have h0 := hat 0 f0 rfl
  have h1 := hat 1 f1 rfl
  have h2 := hat 2 f2 rfl
  have h3 := hat 3 f3 rfl
  clear hat
  rw [t0, o0, cellsEv] at h0
  rw [t1, o1, cellsEv] at h1
  rw [t2, o2, cellsInt1] at h2
  rw [t3, o3, cellsInt1] at h3
  rw [cellsTwo] at hl
  have hxl4 : xs.length = 4 := hxl
  match xs, hxl4 with
  | [p0, p1, p2, p3], _ =>
    match cs, hl with
    | [c0, c1, c2, c3, c4, c5, c6, c7, d0, d1, d2, d3, d4, d5, d6, d7, g0, g1], _ =>
      obtain ⟨⟨A, m', c', e3, hmc, hA⟩, hw, _⟩ := event_read h0
      obtain ⟨⟨B, m2', c2', e4, hmc2, hB⟩, hw2, _⟩ := event_read h1
      obtain ⟨n2, e2, y2, _⟩ := DataW.trod_int Try.underlying3 h2
      obtain ⟨n3, e5, y3, _⟩ := DataW.trod_int Try.underlying3 h3
      simp at e2 e5
      subst e2 e5
      refine ⟨evOf p0.1, evOf p1.1, n2, n3, A, B, m', c', m2', c2', ?_, hmc, hmc2, hA, hB, ?_, ?_⟩
      · have e6 : ∀ (e f : Ev) (A B : Option Addr) (m c m2 c2 : Nat) (from' to' : Int), (evC e.kind e.num e.dep e.name A m c e.text e.fr e.tt).toList ++ (evC f.kind f.num f.dep f.name B m2 c2 f.text f.fr f.tt).toList ++ ([.int .i64 from', .int .i64 to'] : List Value) = [.int .i64 e.kind, .int .i64 e.num, .int .i64 e.dep, .string (strL e.name), .slice A m c, .string (strL e.text), .int .i64 e.fr, .int .i64 e.tt, .int .i64 f.kind, .int .i64 f.num, .int .i64 f.dep, .string (strL f.name), .slice B m2 c2, .string (strL f.text), .int .i64 f.fr, .int .i64 f.tt, .int .i64 from', .int .i64 to'] := fun _ _ _ _ _ _ _ _ _ _ => rfl
        rw [← e6, ← e3, ← e4]; rfl
      · rw [hx]; simp only [List.map_cons, List.map_nil, Rows.uptoBulk, Rows.uptoBulkAll]; omega
      · rw [hx]; simp only [List.map_cons, List.map_nil, Rows.uptoBulk, Rows.uptoBulkAll]; omega
end
set_option maxRecDepth 100000 in
set_option maxHeartbeats 4000000 in
theorem contract (H : Type) (enc : TypeId × Value → H) (W : World) (base : Nat) (args : Array Value) (ds gs : List (DataW H)) (before : List MemPlace)
    (hval : ∀ (j : Nat) t v, Try.f3.params[j]? = some t → args[j]? = some v → Value.okWide Try.prog W .any base t v)
    (hW : DataW.Whole enc Try.prog Try.f3.params.toList Rows.tapeApartSpec.vars false W args.toList ds gs before) (hk : Rows.uptoSmall H (ds ++ gs) = true) :
    Calls Try.prog 3 args W fun e W' => ∃ v, e = .returned v ∧ Rows.tapeApartSpec.post enc Try.prog Try.f3 false true false false W args v W' := by
  have hW' := hW
  obtain ⟨p, q, hA0, hV, rfl, hfz, hnd⟩ := hW
  have hA : DataW.TrodAll enc Try.prog W 0 (fun _ => true) true Try.f3.params.toList args.toList ds p := hA0
  rw [Try.params3] at hA hval
  obtain ⟨v0, vs0, d0, ds0, p0, q0, hargs, rfl, rfl, h0, r0⟩ := trodAll_cons hA
  obtain ⟨rfl, rfl, rfl⟩ := trodAll_nil r0
  obtain rfl : args = #[v0] := by cases args; simp_all
  obtain ⟨rfl, rfl⟩ := trodVars_none hV
  have hv0 := hval 0 27 v0 rfl rfl
  clear hA0
  simp only [List.append_nil] at hW' hk
  have hb : Rows.uptoBulkAll [d0] ≤ 1048576 := of_decide_eq_true hk
  simp only [Rows.uptoBulkAll] at hb
  have hlt0 : ∀ x ∈ p0, x.block < W.heap.size := fun x hx => hW'.lt x (by simp [hx])
  obtain ⟨fuel0, hf0⟩ := h0
  have h0 : DataW.Trod enc Try.prog W 0 (fun _ => true) true 27 v0 d0 p0 := ⟨fuel0, hf0⟩
  obtain ⟨e, f, from', to', A, B, m, c, m2, c2, hcs, hmc, hmc2, hA', hB', hwe, hwf⟩ := two_read hf0
  have hwe' : wtE e ≤ Rows.uptoBulk d0 := hwe
  have hwf' : wtE f ≤ Rows.uptoBulk d0 := hwf
  obtain ⟨arr, rfl⟩ : ∃ arr, v0 = .agg arr := by
    cases v0 <;> first | exact ⟨_, rfl⟩ | (exfalso; have := congrArg List.length hcs; simp [Value.cells] at this)
  obtain rfl : arr = #[.int .i64 e.kind, .int .i64 e.num, .int .i64 e.dep, .string (strL e.name), .slice A m c, .string (strL e.text), .int .i64 e.fr, .int .i64 e.tt, .int .i64 f.kind, .int .i64 f.num, .int .i64 f.dep, .string (strL f.name), .slice B m2 c2, .string (strL f.text), .int .i64 f.fr, .int .i64 f.tt, .int .i64 from', .int .i64 to'] := Array.toList_inj.1 hcs
  refine (tapeApart_any e.kind e.num e.dep e.fr e.tt e.name e.text e.ats A m c f.kind f.num f.dep f.fr f.tt f.name f.text f.ats B m2 c2 from' to' W hA' hmc hB' hmc2 (by show wtE e ≤ _; omega) (by show wtE f ≤ _; omega)).mono fun e W' ⟨he, bel⟩ => ?_
  subst he
  refine ⟨_, rfl, _, _, _, [], p0 ++ [], [], hW', ?_, ?_, rfl, bel.frame _, fun h => by cases h⟩
  · exact trodAll_cons_mk (shut_bool Try.underlying4 _) trodAll_mk0
  · exact trodAll_cons_mk (Below.trod laidOut (by kernel_rfl) (of_decide_eq_true (by kernel_rfl)) h0 bel hlt0) trodAll_mk0

set_option maxRecDepth 100000 in
theorem lifted (os : Os) (started : os.Started) (H : Type) (enc : TypeId × Value → H) (F : Stop.Interp) :
    ReturnsInHanded {} Try.checked os 3 .any ((Rows.OpenSpec.upto Rows.tapeApartSpec).pre6 enc Try.prog Try.f3 Rows.tapeApartUptoRow.domain false) (((Rows.OpenSpec.upto Rows.tapeApartSpec).at F).post enc Try.prog Try.f3 false true false false) := by
  refine returnsInHanded_of_cond (C := Try.checked) (s := Rows.OpenSpec.upto Rows.tapeApartSpec) (k := Rows.uptoSmall) rfl own started (by kernel_rfl) Try.func3
    (OpenSpec.witness (enc := enc) (C := Try.checked) (s := Rows.OpenSpec.upto Rows.tapeApartSpec) (k := Rows.uptoSmall) rfl false ⟨#[], #[.agg #[.int .i64 0, .int .i64 0, .int .i64 0, .string .empty, .slice none 0 0, .string .empty, .int .i64 0, .int .i64 0, .int .i64 0, .int .i64 0, .int .i64 0, .string .empty, .slice none 0 0, .string .empty, .int .i64 0, .int .i64 0, .int .i64 0, .int .i64 0]], []⟩ 8 (by kernel_rfl) (by kernel_rfl) (by kernel_rfl)
      (x := ([.agg [.agg [.lit (.int .i64 0), .lit (.int .i64 0), .lit (.int .i64 0), .lit (.string []), .nil, .lit (.string []), .lit (.int .i64 0), .lit (.int .i64 0)], .agg [.lit (.int .i64 0), .lit (.int .i64 0), .lit (.int .i64 0), .lit (.string []), .nil, .lit (.string []), .lit (.int .i64 0), .lit (.int .i64 0)], .lit (.int .i64 0), .lit (.int .i64 0)]], [], [])) (by kernel_rfl) rfl (by kernel_rfl)) ?_
  intro W base args ds gs before hval hW _ hk _
  exact contract H enc W base args ds gs before hval hW hk

theorem proved : Rows.TapeApartUptoSaid :=
  OpenClaim.holds_of_cond 3 Try.f3 rfl rfl rfl rfl rfl rfl rfl ⟨rfl, rfl, rfl, rfl, rfl⟩ rfl rfl rfl rfl rfl (by kernel_rfl) Try.func3 (by kernel_rfl)
    (of_decide_eq_true (by kernel_rfl)) (by unfold Func.isWrapper; first | (rw [if_pos (by decide +kernel)]; kernel_rfl) | (rw [if_neg (by decide +kernel)]; exact ⟨rfl, rfl⟩))
    (fun os started H enc _ F => lifted os started H enc F)
#print axioms proved
end Go.Proofs.Ytlomcmichbnkaaa.tapeApart
