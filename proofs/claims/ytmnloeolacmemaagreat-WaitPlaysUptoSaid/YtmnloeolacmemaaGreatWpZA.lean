/-
  The law's awake.
-/
import Derived.Test.YtmnloeolacmemaaGreatWpY
import Derived.Test.YtmnloeolacmemaaGreatWpZ
import Derived.Test.YtmnloeolacmemaaGreatRows
import Derived.ProofKit
import Derived.OpenShut
import Derived.JoinedCond
import Derived.Carry
import Derived.ChangeMaps5
namespace Go.Proofs.YtmnloeolacmemaaGreat
open Go.RowKit

def aE1 : Ev := ⟨0, 0, 1, [97], [], [], 0, 3⟩
def aE2 : Ev := ⟨1, 1, 2, [], [], [120], 3, 8⟩
def rst0 : RSt := ⟨[], [], 0, 0, false, []⟩
def aS1 : WSt := (wtake wst0 (wOf aE1) []).2
def aS2 : WSt := (wtake aS1 (wOf aE2) [(1, 2)]).2
theorem aw1 : (wtake wst0 (wOf aE1) []).1 = ([], 0) := by kernel_rfl
theorem aw2 : (wtake aS1 (wOf aE2) [(1, 2)]).1 = ([(1, [120])], 0) := by kernel_rfl
theorem aw3 : wheld aS2 = 0 := by kernel_rfl
theorem aw4 : aS1.order.length = 0 ∧ aS1.opn.length = 1 ∧ aS1.next = 1 ∧ aS1.all.length = 3 ∧ aS2.order.length = 0 := by
  refine ⟨?_, ?_, ?_, ?_, ?_⟩ <;> kernel_rfl
theorem aw5 : wtE aE1 ≤ 1048576 ∧ wtE aE2 ≤ 1048576 ∧ (evOut aE1).length = 3 ∧ (evOut aE2).length = 1 := by
  refine ⟨by decide, by decide, ?_, ?_⟩ <;> kernel_rfl
set_option maxRecDepth 1000000 in
set_option maxHeartbeats 4000000 in
theorem awake_any (w : World) : Calls Tryz.prog 4 #[] w fun r w' => r = .returned (.bool true) ∧ Below w.heap.size w w' := by
  have HN := Lib.hid (wait_new (C := fun _ => 0) (w := w) (fun _ _ => rfl))
  obtain ⟨S, hS⟩ : ∃ S, w.heap.size = S := ⟨_, rfl⟩
  rw [hS] at HN
  rw [hS]
  have HS := Lib.hid hS
  go_enter Tryz.func4, Tryz.ntmps4
  go_wp2_with fail
  (with_reducible refine HN.out.mono ?_)
  rintro r w1 ⟨rfl, hW1, hb1, hs1, hp1⟩
  have HC0 : Hid (∀ k, k < S → colNew (fun _ => 0) S k = 0) := Lib.hid fun k hk => by unfold colNew; rw [if_neg (by omega), if_neg (by omega), if_neg (by omega)]
  obtain ⟨C1, hC1⟩ : ∃ C1, colNew (fun _ => 0) S = C1 := ⟨_, rfl⟩
  rw [hC1] at hW1 HC0
  have HB1 : Hid (Below S w w1 ∧ S ≤ w1.heap.size) := Lib.hid ⟨hb1, by omega⟩
  have HT1 : Hid (Calls Tryz.prog 7 #[.pointer (some ⟨S + 2, 0, none⟩), .agg #[.int .i64 0, .int .i64 0, .int .i64 1, .string ⟨#[97]⟩, .slice none 0 0, .string ⟨#[]⟩, .int .i64 0, .int .i64 3], .slice none 0 0] w1 fun r w' => ∃ front', WFront (rtake rst0 (wOf aE1) []).2 front' ∧ RetTake C1 w1 (S + 2) S (S + 1) 0 0 [] 0 aS1 front' r w') := Lib.hid (by
    obtain ⟨f, hf, hc⟩ := take_any hW1 (m := rst0) wsim_new wfront_new aE1 none 0 0 ⟨rfl, fun i hi => absurd hi (Nat.not_lt_zero _)⟩ (Nat.le_refl _) aw5.1 (by unfold Wf; decide) (by rw [aw5.2.2.1]; decide) none 0 0 [] ⟨rfl, fun i hi => absurd hi (Nat.not_lt_zero _)⟩ (fun _ h => by cases h) (fun _ h => by cases h) (by decide) (by decide) (by decide) ⟨by decide, by decide⟩
    rw [aw1] at hc
    exact hc.mono fun r w' h => ⟨f, hf, h⟩)
  clear hW1 hb1 hs1 hp1 hC1
  go_wp2_with fail
  (with_reducible refine HT1.out.mono ?_)
  rintro r w2 ⟨f2, hf2, C2, fp2, ov2, lv2, first2, ia2, ic2, n2, rfl, hW2, hI2, hM2, hP2, hn2⟩
  have HB2 : Hid (Below S w w2 ∧ S ≤ w2.heap.size ∧ ∀ k, k < S → C2 k = 0) := Lib.hid ⟨⟨hM2.os.trans HB1.out.1.os, hM2.tape.trans HB1.out.1.tape, hM2.output.trans HB1.out.1.output, Nat.le_trans HB1.out.1.size hM2.size, fun k hk => (hM2.block k (Nat.lt_of_lt_of_le hk HB1.out.2) (by rw [HC0.out k hk]; omega)).trans (HB1.out.1.block k hk)⟩, Nat.le_trans HB1.out.2 hM2.size, fun k hk => (hP2.old k (Nat.lt_of_lt_of_le hk HB1.out.2)).trans (HC0.out k hk)⟩
  have HT2 : Hid (∀ W, W = w2.alloc (.cells #[.int .i64 1, .int .i64 2] 49) → Calls Tryz.prog 7 #[.pointer (some ⟨S + 2, 0, none⟩), .agg #[.int .i64 1, .int .i64 1, .int .i64 2, .string ⟨#[]⟩, .slice none 0 0, .string ⟨#[120]⟩, .int .i64 3, .int .i64 8], .slice (some ⟨w2.heap.size, 0, none⟩) 1 1] W fun r w' => ∃ front' m', WFront m' front' ∧ RetTake C2 W (S + 2) S (S + 1) n2 1 [(1, [120])] 0 aS2 front' r w') := Lib.hid (by
    rintro W rfl
    have hbl : Below w2.heap.size w2 (w2.alloc (.cells #[.int .i64 1, .int .i64 2] 49)) := (Below.refl _ _).alloc (Nat.le_refl _) _
    have hcl : (w2.alloc (.cells #[.int .i64 1, .int .i64 2] 49)).heap[w2.heap.size]? = some (.cells #[.int .i64 1, .int .i64 2] 49 (0, 0)) := heap_alloc_new w2 _
    have g := aw4
    obtain ⟨f, hf, hc⟩ := take_any (hW2.below hbl) (take_same wsim_new (wOf aE1) []).2 hf2 aE2 none 0 0 ⟨rfl, fun i hi => absurd hi (Nat.not_lt_zero _)⟩ (Nat.le_refl _) aw5.2.1 (by unfold Wf; decide) (by have h1 : (wtake wst0 (wOf aE1) []).2.all.length = 3 := g.2.2.2.1; rw [aw5.2.2.2]; show aS1.all.length + 1 ≤ _; rw [g.2.2.2.1]; decide)
      (some ⟨w2.heap.size, 0, none⟩) 1 1 [(1, 2)] ⟨rfl, fun i hi => by
        have hi0 : i = 0 := by simp at hi; omega
        subst hi0
        exact ⟨w2.heap.size, 0, rfl, heap_lt hcl, by rw [cell_heap hcl]; rfl, by rw [cell_heap hcl]; rfl⟩⟩ (fun ad h => by cases h; exact hW2.top _ (Nat.le_refl _)) (fun v hv => by rw [List.mem_singleton.1 hv]; unfold Wf; decide) (by show aS1.opn.length + 1 ≤ _; rw [g.2.1]; decide) (by show aS1.order.length + 1 ≤ _; rw [g.1]; decide) (by omega) ⟨by show 0 ≤ aS1.next; rw [g.2.2.1]; decide, by show aS1.next + 1 ≤ _; rw [g.2.2.1]; decide⟩
    rw [aw2] at hc
    exact hc.mono fun r w' h => ⟨f, _, hf, h⟩)
  clear hW2 hI2 hM2 hP2 hn2 hf2
  go_wp2_with fail
  (with_reducible refine (HT2.out _ rfl).mono ?_)
  rintro r w3 ⟨f3, m3, hf3, C3, fp3, ov3, lv3, first3, ia3, ic3, n3, rfl, hW3, hI3, hM3, hP3, hn3⟩
  have hsz : (w2.alloc (.cells #[.int .i64 1, .int .i64 2] 49)).heap.size = w2.heap.size + 1 := by simp
  have HB3 : Hid (Below S w w3 ∧ S ≤ w3.heap.size ∧ ∀ k, k < S → C3 k = 0) := Lib.hid (by
    have hbl : Below S w (w2.alloc (.cells #[.int .i64 1, .int .i64 2] 49)) := HB2.out.1.alloc HB2.out.2.1 _
    have hss := HB2.out.2.1
    exact ⟨⟨hM3.os.trans hbl.os, hM3.tape.trans hbl.tape, hM3.output.trans hbl.output, Nat.le_trans hbl.size hM3.size, fun k hk => (hM3.block k (by omega) (by rw [HB2.out.2.2 k hk]; omega)).trans (hbl.block k hk)⟩, by have := hM3.size; omega, fun k hk => (hP3.old k (by omega)).trans (HB2.out.2.2 k hk)⟩)
  obtain ⟨a', c', e1, h1, h2, h3⟩ := own_slice hI3.own
  injection e1 with e1 _ _
  subst e1
  obtain ⟨ad, rfl⟩ : ∃ ad, ia3 = some ad := by
    cases ia3 with
    | none => exact absurd (h2 rfl) (by decide)
    | some ad => exact ⟨ad, rfl⟩
  obtain ⟨g, rfl, _, _, _, hc3⟩ := h3 _ rfl
  have x0 : w3.cell? ⟨g, 0, none⟩ = some (.int .i64 1) := hc3 0 _ rfl
  have x1 : w3.cell? ⟨g, 1, none⟩ = some (.string ⟨#[120]⟩) := hc3 1 _ rfl
  have HHD : Hid (Calls Tryz.prog 8 #[.pointer (some ⟨S + 2, 0, none⟩)] w3 fun r w' => r = .returned (.int .i64 0) ∧ (∃ ov', WAt C3 w' (S + 2) S (S + 1) fp3 ov' lv3 { aS2 with order := wfirst aS2.nodes aS2.order } first3 f3 n3) ∧ Mv C3 1 7 w3 w' ∧ w'.heap.size = w3.heap.size) := Lib.hid (by
    have := held_any hW3 (by rw [aw4.2.2.2.2]; decide)
    rw [aw3] at this
    exact this)
  clear hW3 hI3 hM3 hP3 hn3 hf3 h1 h2 h3 hc3 hsz
  simp only [List.length_cons, List.length_nil, Nat.zero_add] at *
  go_wp2_with fail
  (with_reducible refine HHD.out.mono ?_)
  rintro r w4 ⟨rfl, _, hM4, _⟩
  have HB4 : Hid (Below S w w4) := Lib.hid ⟨hM4.os.trans HB3.out.1.os, hM4.tape.trans HB3.out.1.tape, hM4.output.trans HB3.out.1.output, Nat.le_trans HB3.out.1.size hM4.size, fun k hk => (hM4.block k (Nat.lt_of_lt_of_le hk HB3.out.2.1) (by rw [HB3.out.2.2 k hk]; omega)).trans (HB3.out.1.block k hk)⟩
  clear hM4
  go_wp2_with fail
  go_ret
  exact ⟨rfl, HB4.out⟩
end Go.Proofs.YtmnloeolacmemaaGreat

/-
  A script of events and verdicts, as it comes in.
-/
namespace Go.Proofs.YtmnloeolacmemaaGreat
open Go.RowKit

structure OpR where
  e : Ev
  vs : List (Int × Int)
  fx : Bool
def wtR (o : OpR) : Nat := wtE o.e + o.vs.length + 2
/-- how much a script weighs -/
def wtRs (l : List OpR) : Nat := (l.map wtR).sum
theorem wtRs_take (l : List OpR) (k : Nat) (h : k < l.length) : wtRs (l.take (k + 1)) = wtRs (l.take k) + wtR l[k] := by
  unfold wtRs
  rw [List.take_succ_eq_append_getElem h, List.map_append, List.sum_append]
  rfl
theorem wtRs_le (l : List OpR) (k : Nat) : wtRs (l.take k) ≤ wtRs l := by
  have e : wtRs l = wtRs (l.take k) + wtRs (l.drop k) := by
    unfold wtRs
    rw [← List.sum_append, ← List.map_append, List.take_append_drop]
  omega
theorem wtRs_len (l : List OpR) : l.length ≤ wtRs l := by
  unfold wtRs
  induction l with
  | nil => simp
  | cons x r ih => simp only [List.map_cons, List.sum_cons, List.length_cons, wtR]; omega
/-- what is known of an op whose cells are cs -/
def OpIs (w : World) (cs : List Value) (o : OpR) : Prop :=
  ∃ A m c va vn vc, cs = (opC o.e A m c va vn vc o.fx).toList ∧ m ≤ c ∧ vn ≤ vc ∧ AttrsAt w A m o.e.ats ∧ VsAt w va vn o.vs ∧ (∀ v ∈ o.vs, Wf v.1) ∧ Wf o.e.num
/-- the script in memory -/
def OpsAt (w : World) (a : Option Addr) (n : Nat) (ops : List OpR) : Prop :=
  n = ops.length ∧ ∀ i, (h : i < ops.length) → ∃ b o cs, a = some ⟨b, o, none⟩ ∧ b < w.heap.size ∧ OpIs w cs ops[i] ∧ ∀ j, j < 10 → w.cell? ⟨b, o + i * 10 + j, none⟩ = cs[j]?

section
variable {H : Type} {enc : TypeId × Value → H} {w : World} {base : Nat} {sp : Nat → Bool} {held : Bool} {fuel : Nat}
def verdOf : DataW H → Int × Int
  | .agg [.lit (.int _ a), .lit (.int _ b)] => (a, b)
  | _ => (0, 0)
theorem verd_desc : ∃ f0 f1, Tryz.prog.underlying 49 = some (.struct #[f0, f1]) ∧ f0.type = 3 ∧ f1.type = 47 ∧ f0.offset = 0 ∧ f1.offset = 1 := by
  refine ⟨_, _, Tryz.underlying49, rfl, rfl, rfl, rfl⟩
theorem cellsVerd : Tryz.prog.cellsOf 49 = 2 := by kernel_rfl
theorem cellsTruth1 : Tryz.prog.cellsOf 47 = 1 := by kernel_rfl
theorem cellsVerds1 : Tryz.prog.cellsOf 37 = 1 := by kernel_rfl
theorem cellsBool1 : Tryz.prog.cellsOf 4 = 1 := by kernel_rfl
set_option maxRecDepth 100000 in
theorem verd_read {cs : List Value} {x : DataW H × List MemPlace} (h : DataW.trod enc Tryz.prog w base sp held fuel 49 cs = some x) :
    cs = [.int .i64 (verdOf x.1).1, .int .i64 (verdOf x.1).2] ∧ Wf (verdOf x.1).1 ∧ 1 ≤ Rows.uptoBulk x.1 := by
  obtain ⟨f0, f1, hu, t0, t1, o0, o1⟩ := verd_desc
  obtain ⟨xs, m, _, hx, hl, hxl, hat⟩ := DataW.trod_struct hu h
  have h0 := hat 0 f0 rfl
  have h1 := hat 1 f1 rfl
  rw [t0, o0, cellsInt1] at h0
  rw [t1, o1, cellsTruth1] at h1
  rw [cellsVerd] at hl
  have hxl2 : xs.length = 2 := hxl
  rw [getL (show 0 < xs.length by omega)] at h0
  rw [getL (show 1 < xs.length by omega)] at h1
  obtain ⟨n0, e0, y0, w0⟩ := DataW.trod_int Tryz.underlying3 h0
  obtain ⟨n1, e1, y1, w1⟩ := DataW.trod_int Tryz.underlying47 h1
  match xs, hxl2 with
  | [p0, p1], _ =>
    match cs, hl with
    | [c0, c1], _ =>
      simp at e0 e1 y0 y1
      subst e0 e1 y0 y1
      rw [hx]
      simp only [List.map_cons, List.map_nil, verdOf, Rows.uptoBulk, Rows.uptoBulkAll]
      exact ⟨trivial, w0, by omega⟩
theorem vs_le (l : List (DataW H)) (h : ∀ i, (hi : i < l.length) → 1 ≤ Rows.uptoBulk l[i]) : l.length ≤ Rows.uptoBulkAll l := by
  induction l with
  | nil => simp
  | cons x r ih =>
    have h0 := h 0 (by simp)
    have := ih (fun i hi => by have := h (i + 1) (by simpa using hi); simpa using this)
    simp only [List.length_cons, Rows.uptoBulkAll, List.getElem_cons_zero] at *
    omega
def verdsOf : DataW H → List (Int × Int)
  | .slice l _ => l.map verdOf
  | _ => []
theorem verds_read {cs : List Value} {x : DataW H × List MemPlace} (h : DataW.trod enc Tryz.prog w base sp held fuel 37 cs = some x) :
    ∃ a n c, cs = [.slice a n c] ∧ n ≤ c ∧ VsAt w a n (verdsOf x.1) ∧ (∀ v ∈ verdsOf x.1, Wf v.1) ∧ (verdsOf x.1).length ≤ Rows.uptoBulk x.1 := by
  obtain ⟨a, n, c, elems, rfl, hnc, hel, hx, hat⟩ := slice_read Tryz.underlying37 cellsVerd (by decide) h
  have hw := vs_le (elems.map (·.1)) (fun i hi => by
    rw [List.length_map] at hi
    obtain ⟨_, _, m, ecs, _, _, _, _, hr⟩ := hat i hi
    rw [List.getElem_map]
    exact (verd_read hr).2.2)
  have key : VsAt w a n (elems.map fun e => verdOf e.1) := by
    refine ⟨by rw [List.length_map, hel], fun i hi => ?_⟩
    rw [List.length_map] at hi
    obtain ⟨b, o, m, ecs, e, hb, _, hc, hr⟩ := hat i hi
    obtain ⟨hcs, _⟩ := verd_read hr
    have c0 := hc 0 (by decide)
    have c1 := hc 1 (by decide)
    rw [hcs] at c0 c1
    rw [List.getElem_map]
    exact ⟨b, o, e, hb, c0, c1⟩
  have kwf : ∀ v ∈ elems.map (fun e => verdOf e.1), Wf v.1 := by
    intro v hv
    obtain ⟨i, hi, rfl⟩ := List.getElem_of_mem hv
    rw [List.length_map] at hi
    obtain ⟨_, _, m, ecs, _, _, _, _, hr⟩ := hat i hi
    rw [List.getElem_map]
    exact (verd_read hr).2.1
  refine ⟨a, n, c, rfl, hnc, ?_⟩
  rcases hx with rfl | ⟨rest, hx⟩
  · obtain rfl : n = 0 := by simpa using hel.symm
    rcases DataW.trod_slice Tryz.underlying37 h with ⟨_, hx⟩ | ⟨a2, len, cap, elems, rest, m, _, e, hx, _, _, _, hel2, _, _, _⟩
    · rw [hx]; exact ⟨⟨rfl, fun i hi => by simp [verdsOf] at hi⟩, fun v hv => by simp [verdsOf] at hv, by simp [verdsOf]⟩
    · simp at e
      have : elems = [] := List.eq_nil_of_length_eq_zero (by omega)
      subst this
      rw [hx]; exact ⟨⟨rfl, fun i hi => by simp [verdsOf] at hi⟩, fun v hv => by simp [verdsOf] at hv, by simp [verdsOf]⟩
  · rw [hx]
    simp only [verdsOf, List.map_map] at hw ⊢
    refine ⟨key, kwf, ?_⟩
    simp only [Rows.uptoBulk]
    simp only [List.length_map] at hw ⊢
    omega
/-- an event's number is the machine's -/
theorem event_num {cs : List Value} {x : DataW H × List MemPlace} (h : DataW.trod enc Tryz.prog w base sp held fuel 36 cs = some x) : Wf (evOf x.1).num := by
  obtain ⟨f0, f1, f2, f3, f4, f5, f6, f7, hu, ⟨t0, t1, t2, t3, t4, t5, t6, t7⟩, ⟨o0, o1, o2, o3, o4, o5, o6, o7⟩⟩ := ev_desc
  obtain ⟨xs, m, _, hx, hl, hxl, hat⟩ := DataW.trod_struct hu h
  have h0 := hat 0 f0 rfl
  have h1 := hat 1 f1 rfl
  have h2 := hat 2 f2 rfl
  have h3 := hat 3 f3 rfl
  have h5 := hat 5 f5 rfl
  have h6 := hat 6 f6 rfl
  have h7 := hat 7 f7 rfl
  clear hat
  rw [t0, o0, cellsKind1] at h0
  rw [t1, o1, cellsInt1] at h1
  rw [t2, o2, cellsInt1] at h2
  rw [t3, o3, cellsStr1] at h3
  rw [t5, o5, cellsStr1] at h5
  rw [t6, o6, cellsInt1] at h6
  rw [t7, o7, cellsInt1] at h7
  rw [cellsEv] at hl
  have hxl8 : xs.length = 8 := hxl
  match xs, hxl8 with
  | [p0, p1, p2, p3, p4, p5, p6, p7], _ =>
    match cs, hl with
    | [c0, c1, c2, c3, c4, c5, c6, c7], _ =>
      obtain ⟨n0, e0, y0, w0⟩ := DataW.trod_int Tryz.underlying33 h0
      obtain ⟨n1, e1, y1, w1⟩ := DataW.trod_int Tryz.underlying3 h1
      obtain ⟨n2, e2, y2, _⟩ := DataW.trod_int Tryz.underlying3 h2
      obtain ⟨s3, e3, y3, _⟩ := DataW.trod_string Tryz.underlying9 h3
      obtain ⟨s5, e5, y5, _⟩ := DataW.trod_string Tryz.underlying9 h5
      obtain ⟨n6, e6, y6, _⟩ := DataW.trod_int Tryz.underlying3 h6
      obtain ⟨n7, e7, y7, _⟩ := DataW.trod_int Tryz.underlying3 h7
      subst y0 y1 y2 y3 y5 y6 y7
      rw [hx]
      simp only [List.map_cons, List.map_nil, evOf]
      exact w1
def opOf : DataW H → OpR
  | .agg [d, v, .lit (.bool b)] => ⟨evOf d, verdsOf v, b⟩
  | _ => ⟨⟨0, 0, 0, [], [], [], 0, 0⟩, [], false⟩
theorem op_desc : ∃ f0 f1 f2, Tryz.prog.underlying 39 = some (.struct #[f0, f1, f2]) ∧ (f0.type = 36 ∧ f1.type = 37 ∧ f2.type = 4) ∧ (f0.offset = 0 ∧ f1.offset = 8 ∧ f2.offset = 9) := by
  refine ⟨_, _, _, Tryz.underlying39, ⟨rfl, rfl, rfl⟩, ⟨rfl, rfl, rfl⟩⟩
theorem cellsOp : Tryz.prog.cellsOf 39 = 10 := by kernel_rfl
set_option maxRecDepth 100000 in
set_option maxHeartbeats 1000000 in
theorem op_read {cs : List Value} {x : DataW H × List MemPlace} (h : DataW.trod enc Tryz.prog w base sp held fuel 39 cs = some x) :
    OpIs w cs (opOf x.1) ∧ wtR (opOf x.1) ≤ Rows.uptoBulk x.1 := by
  obtain ⟨f0, f1, f2, hu, ⟨t0, t1, t2⟩, ⟨o0, o1, o2⟩⟩ := op_desc
  obtain ⟨xs, m, _, hx, hl, hxl, hat⟩ := DataW.trod_struct hu h
  have h0 := hat 0 f0 rfl
  have h1 := hat 1 f1 rfl
  have h2 := hat 2 f2 rfl
  clear hat
  rw [t0, o0, cellsEv] at h0
  rw [t1, o1, cellsVerds1] at h1
  rw [t2, o2, cellsBool1] at h2
  rw [cellsOp] at hl
  have hxl3 : xs.length = 3 := hxl
  match xs, hxl3 with
  | [p0, p1, p2], _ =>
    match cs, hl with
    | [c0, c1, c2, c3, c4, c5, c6, c7, c8, c9], _ =>
      obtain ⟨⟨A, m', c', e0, hmc, hA⟩, hw, _⟩ := event_read h0
      have hnum := event_num h0
      obtain ⟨va, vn, vc, e1, hvc, hV, hvw, hwv⟩ := verds_read h1
      obtain ⟨b2, e2, y2⟩ := DataW.trod_bool Tryz.underlying4 h2
      simp at e1 e2
      subst e1 e2
      subst y2
      rw [hx]
      simp only [List.map_cons, List.map_nil, opOf, wtR, Rows.uptoBulk, Rows.uptoBulkAll]
      refine ⟨⟨A, m', c', va, vn, vc, ?_, hmc, hvc, hA, hV, hvw, hnum⟩, ?_⟩
      · have e3 : [c0, c1, c2, c3, c4, c5, c6, c7] = (evC (evOf p0.1).kind (evOf p0.1).num (evOf p0.1).dep (evOf p0.1).name A m' c' (evOf p0.1).text (evOf p0.1).fr (evOf p0.1).tt).toList := e0
        simp only [evC, List.cons.injEq, and_true] at e3
        obtain ⟨rfl, rfl, rfl, rfl, rfl, rfl, rfl, rfl⟩ := e3
        rfl
      · have hw' : wtE (evOf p0.1) ≤ Rows.uptoBulk p0.1 := hw
        have hwv' : (verdsOf p1.1).length ≤ Rows.uptoBulk p1.1 := hwv
        omega
def opsOf : DataW H → List OpR
  | .slice l _ => l.map opOf
  | _ => []
theorem wtRs_bulk (l : List (DataW H)) (h : ∀ i, (hi : i < l.length) → wtR (opOf l[i]) ≤ Rows.uptoBulk l[i]) : wtRs (l.map opOf) ≤ Rows.uptoBulkAll l := by
  induction l with
  | nil => simp [wtRs, Rows.uptoBulkAll]
  | cons x r ih =>
    have h0 := h 0 (by simp)
    have := ih (fun i hi => by have := h (i + 1) (by simpa using hi); simpa using this)
    simp only [wtRs, List.map_cons, List.sum_cons, Rows.uptoBulkAll, List.getElem_cons_zero] at *
    omega
theorem ops_read {cs : List Value} {x : DataW H × List MemPlace} (h : DataW.trod enc Tryz.prog w base sp held fuel 22 cs = some x) :
    ∃ a n c, cs = [.slice a n c] ∧ n ≤ c ∧ OpsAt w a n (opsOf x.1) ∧ wtRs (opsOf x.1) ≤ Rows.uptoBulk x.1 := by
  obtain ⟨a, n, c, elems, rfl, hnc, hel, hx, hat⟩ := slice_read Tryz.underlying22 cellsOp (by decide) h
  have hw := wtRs_bulk (elems.map (·.1)) (fun i hi => by
    rw [List.length_map] at hi
    obtain ⟨_, _, m, ecs, _, _, _, _, hr⟩ := hat i hi
    rw [List.getElem_map]
    exact (op_read hr).2)
  have key : OpsAt w a n (elems.map fun e => opOf e.1) := by
    refine ⟨by rw [List.length_map, hel], fun i hi => ?_⟩
    rw [List.length_map] at hi
    obtain ⟨b, o, m, ecs, e, hb, _, hc, hr⟩ := hat i hi
    rw [List.getElem_map]
    exact ⟨b, o, ecs, e, hb, (op_read hr).1, hc⟩
  refine ⟨a, n, c, rfl, hnc, ?_⟩
  rcases hx with rfl | ⟨rest, hx⟩
  · obtain rfl : n = 0 := by simpa using hel.symm
    rcases DataW.trod_slice Tryz.underlying22 h with ⟨_, hx⟩ | ⟨a2, len, cap, elems, rest, m, _, e, hx, _, _, _, hel2, _, _, _⟩
    · rw [hx]; exact ⟨⟨rfl, fun i hi => by simp [opsOf] at hi⟩, by simp [opsOf, wtRs]⟩
    · simp at e
      have : elems = [] := List.eq_nil_of_length_eq_zero (by omega)
      subst this
      rw [hx]; exact ⟨⟨rfl, fun i hi => by simp [opsOf] at hi⟩, by simp [opsOf, wtRs]⟩
  · rw [hx]
    simp only [opsOf, List.map_map] at hw ⊢
    refine ⟨key, ?_⟩
    simp only [Rows.uptoBulk]
    have e : (List.map (opOf ∘ fun x => x.1) elems) = elems.map fun e => opOf e.1 := rfl
    omega
end
end Go.Proofs.YtmnloeolacmemaaGreat

/-
  gimletlaw22.WaitPlays is true.
-/
namespace Go.Proofs.YtmnloeolacmemaaGreat
open Go.RowKit

/-- both sides at the beginning -/
theorem both_new {w w2 W : World} {C : Nat → Nat} {wb tb pm : Nat} {fp : Int → Option Nat} (hW : WAt C w2 wb tb pm fp (.slice none 0 0) (.slice none 0 0) wst0 0 0 0) (hbl : Below w.heap.size w w2) (hc0 : ∀ k, k < w.heap.size → C k = 0)
    (hWW : W = w2.alloc (.cells #[.slice none 0 0, .slice none 0 0, .int .i64 0, .int .i64 0, .bool false, .slice none 0 0] 31)) :
    BothAt w.heap.size w wb w2.heap.size 0 (fun k => if k = w2.heap.size then 7 else C k) W tb pm fp (.slice none 0 0) (.slice none 0 0) 0 0 0 (.slice none 0 0) (.slice none 0 0) (.slice none 0 0) [] wst0 rst0 := by
  have hb : Below w2.heap.size w2 W := by rw [hWW]; exact (Below.refl _ _).alloc (Nat.le_refl _) _
  have hs : W.heap.size = w2.heap.size + 1 := by rw [hWW]; simp
  have hn : W.heap[w2.heap.size]? = some (.cells #[.slice none 0 0, .slice none 0 0, .int .i64 0, .int .i64 0, .bool false, .slice none 0 0] 31 (0, 0)) := by rw [hWW]; exact heap_alloc_new w2 _
  have hC : ∀ k, C k ≠ 0 → (fun k => if k = w2.heap.size then 7 else C k) k = C k := fun k hk => by
    have : k ≠ w2.heap.size := fun e => hk (by rw [e]; exact hW.top _ (Nat.le_refl _))
    simp only [if_neg this]
  have ht : ∀ k, W.heap.size ≤ k → (fun k => if k = w2.heap.size then 7 else C k) k = 0 := fun k hk => by
    have h1 : k ≠ w2.heap.size := by omega
    simp only [if_neg h1]; exact hW.top k (by omega)
  refine { W := (hW.below hb).colours hC ht, R := ⟨ht, hn, by simp, QRow.nil _ _ _ _, fun k hk => (by cases hk), QRow.nil _ _ _ _, fun k hk => (by cases hk), QRow.nil _ _ _ _, fun k hk => (by cases hk), fun r hr => (by cases hr), rfl⟩, sim := wsim_new, fr := wfront_new, ats := fun r hr => (by cases hr), ok := fun r hr => (by cases hr), wf := fun r hr => (by cases hr), nam := fun r hr => (by cases hr), len := Nat.le_refl _, nn := Nat.le_refl _, ord := Nat.le_refl _, opn := Nat.le_refl _, nx := Int.le_refl _, all := Nat.le_refl _, c0 := fun k hk => ?_, bel := hbl.trans (hb.mono hbl.size), sz := Nat.le_refl _ }
  have h1 : k ≠ w2.heap.size := by have := hbl.size; omega
  simp only [if_neg h1]; exact hc0 k hk
set_option maxRecDepth 1000000 in
set_option maxHeartbeats 4000000 in
theorem waitPlays_any (a : Option Addr) (n c : Nat) (ops : List OpR) (w : World) (hO : OpsAt w a n ops) (hw : wtRs ops ≤ 1048576) :
    Calls Tryz.prog 3 #[.slice a n c] w fun e w' => e = .returned (.bool true) ∧ Below w.heap.size w w' := by
  have hln := wtRs_len ops
  have hn0 := hO.1
  have HN0 : Hid (n ≤ 1048576 ∧ n = ops.length) := Lib.hid ⟨by omega, hO.1⟩
  have HO := Lib.hid hO
  have HW := Lib.hid hw
  have HAW := Lib.hid (awake_any w)
  clear hO hw hln hn0
  go_enter Tryz.func3, Tryz.ntmps3
  go_wp2_with fail
  (with_reducible refine HAW.out.mono ?_)
  rintro e w1 ⟨rfl, hb1⟩
  have HB1 := Lib.hid hb1
  have HNW := Lib.hid (wait_new (C := fun _ => 0) (w := w1) (fun _ _ => rfl))
  clear hb1
  go_wp2_with fail
  (with_reducible refine HNW.out.mono ?_)
  rintro e w2 ⟨rfl, hW2, hb2, hs2, hp2⟩
  have HBN : Hid (∀ W, W = w2.alloc (.cells #[.slice none 0 0, .slice none 0 0, .int .i64 0, .int .i64 0, .bool false, .slice none 0 0] 31) → ∃ C' fp' ov' lv' first' front' n' ev' rov' nv' l' s' m', BothAt w.heap.size w (w1.heap.size + 2) w2.heap.size 0 C' W w1.heap.size (w1.heap.size + 1) fp' ov' lv' first' front' n' ev' rov' nv' l' s' m') := Lib.hid fun W hW => by
    have hs := HB1.out.size
    exact ⟨_, _, _, _, _, _, _, _, _, _, _, _, _, both_new hW2 (HB1.out.trans (hb2.mono hs)) (fun k hk => by unfold colNew; rw [if_neg (by omega), if_neg (by omega), if_neg (by omega)]) hW⟩
  clear hW2 hb2 hs2 hp2
  go_wp2_with fail
  go_loopw [5] (fun iv wr => ∃ i : Nat, iv = .int .i64 i ∧ i ≤ n ∧ Hid (∃ C' fp' ov' lv' first' front' n' ev' rov' nv' l' s' m', BothAt w.heap.size w (w1.heap.size + 2) w2.heap.size (wtRs (ops.take i)) C' wr w1.heap.size (w1.heap.size + 1) fp' ov' lv' first' front' n' ev' rov' nv' l' s' m')) (fun iv _ => n - (intOf iv).toNat)
  case atStart => exact ⟨0, rfl, Nat.zero_le _, Lib.hid (HBN.out _ rfl)⟩
  case round =>
    obtain ⟨i, rfl, hi', HB⟩ := hrel
    by_cases hin : i < n
    · have hil : i < ops.length := by rw [← HN0.out.2]; exact hin
      obtain ⟨b, off, cs, rfl, hlt, ⟨A, m, c', va, vn, vc, rfl, hmc, hvc, hA, hV, hvw, hnum⟩, hcell⟩ := HO.out.2 i hil
      obtain ⟨C', fp', ov', lv', first', front', n', ev', rov', nv', l', s', m', hbt⟩ := HB.out
      have hb := hbt.bel
      have z0 := (hb.cell (p := ⟨b, off + i * 10 + 0, none⟩) hlt).trans (hcell 0 (by decide))
      have z1 := (hb.cell (p := ⟨b, off + i * 10 + 1, none⟩) hlt).trans (hcell 1 (by decide))
      have z2 := (hb.cell (p := ⟨b, off + i * 10 + 2, none⟩) hlt).trans (hcell 2 (by decide))
      have z3 := (hb.cell (p := ⟨b, off + i * 10 + 3, none⟩) hlt).trans (hcell 3 (by decide))
      have z4 := (hb.cell (p := ⟨b, off + i * 10 + 4, none⟩) hlt).trans (hcell 4 (by decide))
      have z5 := (hb.cell (p := ⟨b, off + i * 10 + 5, none⟩) hlt).trans (hcell 5 (by decide))
      have z6 := (hb.cell (p := ⟨b, off + i * 10 + 6, none⟩) hlt).trans (hcell 6 (by decide))
      have z7 := (hb.cell (p := ⟨b, off + i * 10 + 7, none⟩) hlt).trans (hcell 7 (by decide))
      have z8 := (hb.cell (p := ⟨b, off + i * 10 + 8, none⟩) hlt).trans (hcell 8 (by decide))
      have z9 := (hb.cell (p := ⟨b, off + i * 10 + 9, none⟩) hlt).trans (hcell 9 (by decide))
      have hq := wtRs_take ops i hil
      have hqt : wtRs (ops.take (i + 1)) ≤ 1048576 := Nat.le_trans (wtRs_le ops (i + 1)) HW.out
      have hON := one_any hbt ops[i].e A m c' hA hmc va vn vc ops[i].vs hV hvc hvw ops[i].fx hnum (by rw [hq] at hqt; unfold wtR at hqt; omega)
      have hq2 : wtRs (ops.take i) + (wtE ops[i].e + ops[i].vs.length + 2) = wtRs (ops.take (i + 1)) := by rw [hq]; rfl
      rw [hq2] at hON
      have HON := Lib.hid hON
      clear hON hq2 hq hqt hbt hb hcell hA hV hvw hnum hmc hvc
      generalize ops[i] = op at *
      obtain ⟨⟨ek, en, ed, ena, eat, etx, efr, ett⟩, vs, fx⟩ := op
      simp only [opC, List.getElem?_cons_zero, List.getElem?_cons_succ, Nat.add_zero] at z0 z1 z2 z3 z4 z5 z6 z7 z8 z9 HON
      have i1 : (0 : Int) ≤ (i : Int) := by omega
      have i2 : (i : Int) < (n : Int) := by omega
      have ew : IntKind.i64.wrap ((i : Int) + 1) = (i : Int) + 1 := IntWalk.i64_in _ (by have := HN0.out.1; omega)
      go_wp2_with fail
      (with_reducible refine HON.out.mono ?_)
      rintro e w3 ⟨rfl, h3⟩
      have H3 := Lib.hid h3
      clear h3
      go_wp2_with fail
      go_roundw
      case rel => exact ⟨i + 1, by go_num, by omega, H3⟩
      case measure => simp [intOf]; omega
    · have hik : i = n := by omega
      subst hik
      have HTN : Hid (∀ W, Calls Tryz.prog 7 #[.pointer none, .agg #[.int .i64 0, .int .i64 0, .int .i64 0, .string ⟨#[]⟩, .slice none 0 0, .string ⟨#[]⟩, .int .i64 0, .int .i64 0], .slice none 0 0] W fun r w' => r = .returned (.tuple #[.slice none 0 0, .int .i64 1]) ∧ Below W.heap.size W w') := Lib.hid (fun W => take_nil 0 0 0 0 0 [] [] none 0 0 (.slice none 0 0) W)
      have HHN := Lib.hid held_nil
      have HWN := Lib.hid waiting_nil
      unfold evC at *
      have HBL : Hid (Below w.heap.size w wr) := Lib.hid (by obtain ⟨_, _, _, _, _, _, _, _, _, _, _, _, _, hbt⟩ := HB.out; exact hbt.bel)
      go_wp2_with fail
      (with_reducible refine (HTN.out _).mono ?_)
      rintro e w4 ⟨rfl, hb4⟩
      have HB4 : Hid (Below w.heap.size w w4) := Lib.hid (HBL.out.trans (hb4.mono HBL.out.size))
      clear hb4
      go_wp2_with fail
      (with_reducible refine (HHN.out _).mono ?_)
      rintro e w' ⟨rfl, hw'⟩
      subst w'
      go_wp2_with fail
      (with_reducible refine (HWN.out _).mono ?_)
      rintro e w' ⟨rfl, hw'⟩
      subst w'
      go_wp2_with fail
      go_ret
      exact ⟨rfl, HB4.out⟩
end Go.Proofs.YtmnloeolacmemaaGreat

/-
  WaitPlays, where what it reads is of bulk at most 1048576: for every such argument the law returns true, and it reads as before. Condition: the bulk bound of the statement itself.
-/
namespace Go.Proofs.YtmnloeolacmemaaGreat.waitPlays
open Go.ChangeShapes Go.WideShapes Go.ChangeAt Go.RowKit
open Go.ChangeMaps (open_string shut_string)

theorem own : ownKnob Tryz.prog.godebug = none := by kernel_rfl
theorem laidOut : laidOutB Tryz.prog = true := by kernel_rfl

set_option maxRecDepth 100000 in
theorem contract (H : Type) (enc : TypeId × Value → H) (W : World) (base : Nat) (args : Array Value) (ds gs : List (DataW H)) (before : List MemPlace)
    (hval : ∀ (j : Nat) t v, Tryz.f3.params[j]? = some t → args[j]? = some v → Value.okWide Tryz.prog W .any base t v)
    (hW : DataW.Whole enc Tryz.prog Tryz.f3.params.toList Rows.waitPlaysSpec.vars false W args.toList ds gs before) (hk : Rows.uptoSmall H (ds ++ gs) = true) :
    Calls Tryz.prog 3 args W fun e W' => ∃ v, e = .returned v ∧ Rows.waitPlaysSpec.post enc Tryz.prog Tryz.f3 false true false false W args v W' := by
  have hW' := hW
  obtain ⟨p, q, hA0, hV, rfl, hfz, hnd⟩ := hW
  have hA : DataW.TrodAll enc Tryz.prog W 0 (fun _ => true) true Tryz.f3.params.toList args.toList ds p := hA0
  rw [Tryz.params3] at hA hval
  obtain ⟨v0, vs0, d0, ds0, p0, q0, hargs, rfl, rfl, h0, r0⟩ := trodAll_cons hA
  obtain ⟨rfl, rfl, rfl⟩ := trodAll_nil r0
  obtain rfl : args = #[v0] := by cases args; simp_all
  obtain ⟨rfl, rfl⟩ := trodVars_none hV
  have hv0 := hval 0 22 v0 rfl rfl
  clear hA0
  simp only [List.append_nil] at hW' hk
  have hb : Rows.uptoBulkAll [d0] ≤ 1048576 := of_decide_eq_true hk
  simp only [Rows.uptoBulkAll] at hb
  have hlt0 : ∀ x ∈ p0, x.block < W.heap.size := fun x hx => hW'.lt x (by simp [hx])
  obtain ⟨a0, n0, c0, rfl⟩ := okWide_slice Tryz.underlying22 hv0
  obtain ⟨fuel0, hf0⟩ := h0
  obtain ⟨a1, n1, c1, hcs, hnc, hO, hw⟩ := ops_read hf0
  simp [Value.cells] at hcs
  obtain ⟨rfl, rfl, rfl⟩ := hcs

  have hw' : wtRs (opsOf d0) ≤ Rows.uptoBulk d0 := hw
  have hO' : OpsAt W a0 n0 (opsOf d0) := hO
  have h0 : DataW.Trod enc Tryz.prog W 0 (fun _ => true) true 22 (.slice a0 n0 c0) d0 p0 := ⟨fuel0, hf0⟩
  refine (waitPlays_any a0 n0 c0 (opsOf d0) W hO' (by omega)).mono fun e W' ⟨he, bel⟩ => ?_
  subst he
  refine ⟨_, rfl, _, _, _, [], p0 ++ [], [], hW', ?_, ?_, rfl, bel.frame _, fun h => by cases h⟩
  · exact trodAll_cons_mk (shut_bool Tryz.underlying4 _) trodAll_mk0
  · exact trodAll_cons_mk (Below.trod laidOut (by kernel_rfl) (of_decide_eq_true (by kernel_rfl)) h0 bel hlt0) trodAll_mk0

set_option maxRecDepth 100000 in
theorem lifted (os : Os) (started : os.Started) (H : Type) (enc : TypeId × Value → H) (F : Stop.Interp) :
    ReturnsInHanded {} Tryz.checked os 3 .any ((Rows.OpenSpec.upto Rows.waitPlaysSpec).pre6 enc Tryz.prog Tryz.f3 Rows.waitPlaysUptoRow.domain false) (((Rows.OpenSpec.upto Rows.waitPlaysSpec).at F).post enc Tryz.prog Tryz.f3 false true false false) := by
  refine returnsInHanded_of_cond (C := Tryz.checked) (s := Rows.OpenSpec.upto Rows.waitPlaysSpec) (k := Rows.uptoSmall) rfl own started (by kernel_rfl) Tryz.func3
    (OpenSpec.witness (enc := enc) (C := Tryz.checked) (s := Rows.OpenSpec.upto Rows.waitPlaysSpec) (k := Rows.uptoSmall) rfl false ⟨#[], #[.slice none 0 0], []⟩ 8 (by kernel_rfl) (by kernel_rfl) (by kernel_rfl)
      (x := ([.nil], [], [])) (by kernel_rfl) rfl (by kernel_rfl)) ?_
  intro W base args ds gs before hval hW _ hk _
  exact contract H enc W base args ds gs before hval hW hk

theorem proved : Rows.WaitPlaysUptoSaid :=
  OpenClaim.holds_of_cond 3 Tryz.f3 rfl rfl rfl rfl rfl rfl rfl ⟨rfl, rfl, rfl, rfl, rfl⟩ rfl rfl rfl rfl rfl (by kernel_rfl) Tryz.func3 (by kernel_rfl)
    (of_decide_eq_true (by kernel_rfl)) (by unfold Func.isWrapper; first | (rw [if_pos (by decide +kernel)]; kernel_rfl) | (rw [if_neg (by decide +kernel)]; exact ⟨rfl, rfl⟩))
    (fun os started H enc _ F => lifted os started H enc F)
#print axioms proved
end Go.Proofs.YtmnloeolacmemaaGreat.waitPlays
