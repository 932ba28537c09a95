/-
  A script of calls of a tape, as it comes in.
-/
import Derived.Test.YthmngbbhbjkgkaaOpenE
namespace Go.Proofs.Ythmngbbhbjkgkaa
open Go.RowKit

structure Op21 where
  kind : Int
  a : Int
  b : Int
  ev : Ev
def opC (o : Op21) (A : Option Addr) (n c : Nat) : List Value := [.int .i64 o.kind, .int .i64 o.a, .int .i64 o.b] ++ (evC o.ev.kind o.ev.num o.ev.dep o.ev.name A n c o.ev.text o.ev.fr o.ev.tt).toList
/-- how much a script weighs -/
def wtO (l : List Op21) : Nat := (l.map fun o => wtE o.ev + 1).sum
theorem wtO_take (l : List Op21) (k : Nat) (h : k < l.length) : wtO (l.take (k + 1)) = wtO (l.take k) + (wtE l[k].ev + 1) := by
  unfold wtO
  rw [List.take_succ_eq_append_getElem h, List.map_append, List.sum_append]
  rfl
theorem wtO_le (l : List Op21) (k : Nat) : wtO (l.take k) ≤ wtO l := by
  have e : wtO l = wtO (l.take k) + wtO (l.drop k) := by
    unfold wtO
    rw [← List.sum_append, ← List.map_append, List.take_append_drop]
  omega
/-- the script in memory -/
def OpsAt (w : World) (a : Option Addr) (n : Nat) (ops : List Op21) : Prop :=
  n = ops.length ∧ ∀ i, (h : i < ops.length) → ∃ b o A m c, a = some ⟨b, o, none⟩ ∧ b < w.heap.size ∧ m ≤ c ∧ AttrsAt w A m ops[i].ev.ats ∧ ∀ j, j < 11 → w.cell? ⟨b, o + i * 11 + j, none⟩ = (opC ops[i] A m c)[j]?
theorem OpsAt.below {w w' : World} {a : Option Addr} {n : Nat} {ops : List Op21} (h : OpsAt w a n ops) (hb : Below w.heap.size w w') : OpsAt w' a n ops :=
  ⟨h.1, fun i hi => by
    obtain ⟨b, o, A, m, c, e, hlt, hmc, hA, hc⟩ := h.2 i hi
    exact ⟨b, o, A, m, c, e, Nat.lt_of_lt_of_le hlt hb.size, hmc, hA.below hb, fun j hj => (hb.cell (p := ⟨b, o + i * 11 + j, none⟩) hlt).trans (hc j hj)⟩⟩

section
variable {H : Type} {enc : TypeId × Value → H} {w : World} {base : Nat} {sp : Nat → Bool} {held : Bool} {fuel : Nat}
def opOf : DataW H → Op21
  | .agg [.lit (.int _ k), .lit (.int _ a), .lit (.int _ b), d] => ⟨k, a, b, evOf d⟩
  | _ => ⟨0, 0, 0, ⟨0, 0, 0, [], [], [], 0, 0⟩⟩
theorem op_desc : ∃ f0 f1 f2 f3, Try.prog.underlying 33 = some (.struct #[f0, f1, f2, f3]) ∧ (f0.type = 3 ∧ f1.type = 3 ∧ f2.type = 3 ∧ f3.type = 31) ∧ (f0.offset = 0 ∧ f1.offset = 1 ∧ f2.offset = 2 ∧ f3.offset = 3) := by
  refine ⟨_, _, _, _, Try.underlying33, ⟨rfl, rfl, rfl, rfl⟩, ⟨rfl, rfl, rfl, rfl⟩⟩
theorem cellsOp : Try.prog.cellsOf 33 = 11 := by kernel_rfl
set_option maxRecDepth 100000 in
set_option maxHeartbeats 1000000 in
theorem op_read {cs : List Value} {x : DataW H × List MemPlace} (h : DataW.trod enc Try.prog w base sp held fuel 33 cs = some x) :
    (∃ A m c, cs = opC (opOf x.1) A m c ∧ m ≤ c ∧ AttrsAt w A m (opOf x.1).ev.ats) ∧ wtE (opOf x.1).ev + 1 ≤ Rows.uptoBulk x.1 := by
  obtain ⟨f0, f1, f2, f3, hu, ⟨t0, t1, t2, t3⟩, ⟨o0, o1, o2, o3⟩⟩ := op_desc
  obtain ⟨xs, m, _, hx, hl, hxl, hat⟩ := DataW.trod_struct hu h
  have h0 := hat 0 f0 rfl
  have h1 := hat 1 f1 rfl
  have h2 := hat 2 f2 rfl
  have h3 := hat 3 f3 rfl
  clear hat
  rw [t0, o0, cellsInt1] at h0
  rw [t1, o1, cellsInt1] at h1
  rw [t2, o2, cellsInt1] at h2
  rw [t3, o3, cellsEv] at h3
  rw [cellsOp] at hl
  have hxl4 : xs.length = 4 := hxl
  match xs, hxl4 with
  | [p0, p1, p2, p3], _ =>
    match cs, hl with
    | [c0, c1, c2, c3, c4, c5, c6, c7, c8, c9, c10], _ =>
      obtain ⟨n0, e0, y0, _⟩ := DataW.trod_int Try.underlying3 h0
      obtain ⟨n1, e1, y1, _⟩ := DataW.trod_int Try.underlying3 h1
      obtain ⟨n2, e2, y2, _⟩ := DataW.trod_int Try.underlying3 h2
      obtain ⟨⟨A, m', c', e3, hmc, hA⟩, hw, _⟩ := event_read h3
      simp at e0 e1 e2
      subst e0 e1 e2
      subst y0 y1 y2
      rw [hx]
      simp only [List.map_cons, List.map_nil, opOf, Rows.uptoBulk, Rows.uptoBulkAll]
      refine ⟨⟨A, m', c', ?_, hmc, hA⟩, by omega⟩
      unfold opC
      rw [← e3]
      rfl
def opsOf : DataW H → List Op21
  | .slice l _ => l.map opOf
  | _ => []
theorem wtO_le_bulk (l : List (DataW H)) (h : ∀ i, (hi : i < l.length) → wtE (opOf l[i]).ev + 1 ≤ Rows.uptoBulk l[i]) : wtO (l.map opOf) ≤ Rows.uptoBulkAll l := by
  induction l with
  | nil => simp [wtO, Rows.uptoBulkAll]
  | cons x r ih =>
    have h0 := h 0 (by simp)
    have := ih (fun i hi => by have := h (i + 1) (by simpa using hi); simpa using this)
    simp only [wtO, List.map_cons, List.sum_cons, Rows.uptoBulkAll, List.getElem_cons_zero] at *
    omega
theorem ops_read {cs : List Value} {x : DataW H × List MemPlace} (h : DataW.trod enc Try.prog w base sp held fuel 22 cs = some x) :
    ∃ a n c, cs = [.slice a n c] ∧ n ≤ c ∧ OpsAt w a n (opsOf x.1) ∧ wtO (opsOf x.1) ≤ Rows.uptoBulk x.1 := by
  obtain ⟨a, n, c, elems, rfl, hnc, hel, hx, hat⟩ := slice_read Try.underlying22 cellsOp (by decide) h
  have hw := wtO_le_bulk (elems.map (·.1)) (fun i hi => by
    rw [List.length_map] at hi
    obtain ⟨_, _, m, ecs, _, _, _, _, hr⟩ := hat i hi
    rw [List.getElem_map]
    exact (op_read hr).2)
  have key : OpsAt w a n (elems.map fun e => opOf e.1) := by
    refine ⟨by rw [List.length_map, hel], fun i hi => ?_⟩
    rw [List.length_map] at hi
    obtain ⟨b, o, m, ecs, e, hb, _, hc, hr⟩ := hat i hi
    obtain ⟨⟨A, m', c', hcs, hmc, hA⟩, _⟩ := op_read hr
    rw [List.getElem_map]
    exact ⟨b, o, A, m', c', e, hb, hmc, hA, fun j hj => by rw [hc j hj, hcs]⟩
  refine ⟨a, n, c, rfl, hnc, ?_⟩
  rcases hx with rfl | ⟨rest, hx⟩
  · obtain rfl : n = 0 := by simpa using hel.symm
    rcases DataW.trod_slice Try.underlying22 h with ⟨_, hx⟩ | ⟨a2, len, cap, elems, rest, m, _, e, hx, _, _, _, hel2, _, _, _⟩
    · rw [hx]; exact ⟨⟨rfl, fun i hi => by simp [opsOf] at hi⟩, by simp [opsOf, wtO]⟩
    · simp at e
      have : elems = [] := List.eq_nil_of_length_eq_zero (by omega)
      subst this
      rw [hx]; exact ⟨⟨rfl, fun i hi => by simp [opsOf] at hi⟩, by simp [opsOf, wtO]⟩
  · rw [hx]
    simp only [opsOf, List.map_map] at hw ⊢
    refine ⟨key, ?_⟩
    simp only [Rows.uptoBulk]
    have e : (List.map (opOf ∘ fun x => x.1) elems) = elems.map fun e => opOf e.1 := rfl
    omega
end
end Go.Proofs.Ythmngbbhbjkgkaa
