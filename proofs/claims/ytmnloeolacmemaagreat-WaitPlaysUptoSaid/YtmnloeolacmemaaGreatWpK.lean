/-
  Openers: what came in and reads as slices, attributes, events; how long they are, by the statement's own measure.
-/
import Derived.Test.YtmnloeolacmemaaGreatRows
import Derived.Test.YtmnloeolacmemaaGreatWpE
import Derived.ChangeArms
import Derived.DataReads
import Derived.Deep.MidRow
import Derived.Test.YtmnloeolacmemaaGreatWpH
import Derived.Test.YtmnloeolacmemaaGreatWpI
import Derived.Test.YtmnloeolacmemaaGreatWpJ
namespace Go.Proofs.YtmnloeolacmemaaGreat
open Go.RowKit

section
variable {H : Type} {enc : TypeId × Value → H} {w : World} {base : Nat} {sp : Nat → Bool} {held : Bool} {fuel : Nat}

theorem bulk_le {l : List (DataW H)} {i : Nat} {d : DataW H} (h : l[i]? = some d) : Rows.uptoBulk d ≤ Rows.uptoBulkAll l := by
  induction l generalizing i with
  | nil => simp at h
  | cons x r ih =>
    simp only [Rows.uptoBulkAll]
    cases i with
    | zero => simp only [List.getElem?_cons_zero, Option.some.injEq] at h; subst h; omega
    | succ i => have := ih (i := i) (by simpa using h); omega

/-- a slice that came in: its elements, cell by cell -/
theorem slice_read {S E : TypeId} {k : Nat} (hS : Tryz.prog.underlying S = some (.slice E)) (hE : Tryz.prog.cellsOf E = k) (hk : 0 < k) {cs : List Value} {x : DataW H × List MemPlace}
    (h : DataW.trod enc Tryz.prog w base sp held fuel S cs = some x) :
    ∃ a n c, ∃ (elems : List (DataW H × List MemPlace)), cs = [.slice a n c] ∧ n ≤ c ∧ elems.length = n ∧ (elems = [] ∨ ∃ rest, x.1 = .slice (elems.map (·.1)) rest) ∧
      ∀ i, (hi : i < elems.length) → ∃ b o m ecs, a = some ⟨b, o, none⟩ ∧ b < w.heap.size ∧ ecs.length = k ∧ (∀ j, j < k → w.cell? ⟨b, o + i * k + j, none⟩ = ecs[j]?) ∧ DataW.trod enc Tryz.prog w base sp held m E ecs = some elems[i] := by
  rcases DataW.trod_slice hS h with ⟨rfl, _⟩ | ⟨a, len, cap, elems, rest, m, _, rfl, hx, _, hlc, _, hel, hat, _, _⟩
  · exact ⟨none, 0, 0, [], rfl, Nat.le_refl _, rfl, .inl rfl, fun i hi => by simp at hi⟩
  · refine ⟨some a, len, cap, elems, rfl, hlc, hel, .inr ⟨_, by rw [hx]⟩, fun i hi => ?_⟩
    have h1 := hat i (by omega)
    rw [hE, List.getElem?_eq_getElem hi, Option.bind_eq_some_iff] at h1
    obtain ⟨ecs, hcs, hr⟩ := h1
    obtain ⟨_, hl, hc⟩ := World.cells?_some hcs
    obtain ⟨b, o, spt⟩ := a
    have hspt : spt = none := by
      have h0 := hat 0 (by omega)
      rw [hE, List.getElem?_eq_getElem (show 0 < elems.length by omega), Option.bind_eq_some_iff] at h0
      obtain ⟨ecs0, hcs0, _⟩ := h0
      obtain ⟨_, hl0, hc0⟩ := World.cells?_some hcs0
      have hc00 := hc0 0 hk
      rw [List.getElem?_eq_getElem (by omega)] at hc00
      have := World.cell?_spot hc00
      simpa [Addr.add] using this
    subst hspt
    refine ⟨b, o, m, ecs, rfl, ?_, hl, fun j hj => ?_, hr⟩
    · have := World.cells?_block hcs hk
      simp only [Addr.add] at this
      split at this <;> simpa using this
    · have := hc j hj
      rw [Addr.add_lit, Addr.add_lit] at this
      exact this

def attrOf : DataW H → List UInt8 × List UInt8
  | .agg [.lit (.string a), .lit (.string b)] => (a, b)
  | _ => ([], [])
/-- how much attributes weigh -/
def wtA (l : List (List UInt8 × List UInt8)) : Nat := (l.map fun p => p.1.length + p.2.length + 1).sum
theorem attr_desc : ∃ f0 f1, Tryz.prog.underlying 63 = some (.struct #[f0, f1]) ∧ f0.type = 9 ∧ f1.type = 9 ∧ f0.offset = 0 ∧ f1.offset = 1 := by
  refine ⟨_, _, Tryz.underlying63, rfl, rfl, rfl, rfl⟩
theorem cellsAttr : Tryz.prog.cellsOf 63 = 2 := by kernel_rfl
theorem cellsStr1 : Tryz.prog.cellsOf 9 = 1 := by kernel_rfl
theorem cellsInt1 : Tryz.prog.cellsOf 3 = 1 := by kernel_rfl
theorem cellsKind1 : Tryz.prog.cellsOf 33 = 1 := by kernel_rfl
theorem cellsAttrs1 : Tryz.prog.cellsOf 34 = 1 := by kernel_rfl
theorem cellsEv : Tryz.prog.cellsOf 36 = 8 := by kernel_rfl
theorem getL {α : Type} {l : List α} {i : Nat} (hl : i < l.length) : l[i]? = some l[i] := List.getElem?_eq_getElem hl

set_option maxRecDepth 100000 in
theorem attr_read {cs : List Value} {x : DataW H × List MemPlace} (h : DataW.trod enc Tryz.prog w base sp held fuel 63 cs = some x) :
    cs = [.string (strL (attrOf x.1).1), .string (strL (attrOf x.1).2)] ∧ (attrOf x.1).1.length + (attrOf x.1).2.length + 1 ≤ Rows.uptoBulk x.1 := by
  obtain ⟨f0, f1, hu, t0, t1, o0, o1⟩ := attr_desc
  obtain ⟨xs, m, _, hx, hl, hxl, hat⟩ := DataW.trod_struct hu h
  have h0 := hat 0 f0 rfl
  have h1 := hat 1 f1 rfl
  rw [t0, o0, cellsStr1] at h0
  rw [t1, o1, cellsStr1] at h1
  rw [cellsAttr] at hl
  have hxl2 : xs.length = 2 := hxl
  rw [getL (show 0 < xs.length by omega)] at h0
  rw [getL (show 1 < xs.length by omega)] at h1
  obtain ⟨s0, e0, y0, _⟩ := DataW.trod_string Tryz.underlying9 h0
  obtain ⟨s1, e1, y1, _⟩ := DataW.trod_string Tryz.underlying9 h1
  match xs, hxl2 with
  | [p0, p1], _ =>
    match cs, hl with
    | [c0, c1], _ =>
      simp at e0 e1 y0 y1
      subst e0 e1 y0 y1
      rw [hx]
      simp only [List.map_cons, List.map_nil, attrOf, strL_of, Rows.uptoBulk, Rows.uptoBulkAll]
      exact ⟨trivial, by omega⟩

theorem wtA_le (l : List (DataW H)) (h : ∀ i, (hi : i < l.length) → (attrOf l[i]).1.length + (attrOf l[i]).2.length + 1 ≤ Rows.uptoBulk l[i]) : wtA (l.map attrOf) ≤ Rows.uptoBulkAll l := by
  induction l with
  | nil => simp [wtA, Rows.uptoBulkAll]
  | cons x r ih =>
    have h0 := h 0 (by simp)
    have := ih (fun i hi => by have := h (i + 1) (by simpa using hi); simpa using this)
    simp only [wtA, List.map_cons, List.sum_cons, Rows.uptoBulkAll, List.getElem_cons_zero] at *
    omega
def attrsOf : DataW H → List (List UInt8 × List UInt8)
  | .slice l _ => l.map attrOf
  | _ => []
theorem attrs_read {cs : List Value} {x : DataW H × List MemPlace} (h : DataW.trod enc Tryz.prog w base sp held fuel 34 cs = some x) :
    ∃ a n c, cs = [.slice a n c] ∧ n ≤ c ∧ AttrsAt w a n (attrsOf x.1) ∧ wtA (attrsOf x.1) ≤ Rows.uptoBulk x.1 := by
  obtain ⟨a, n, c, elems, rfl, hnc, hel, hx, hat⟩ := slice_read Tryz.underlying34 cellsAttr (by decide) h
  have hw := wtA_le (elems.map (·.1)) (fun i hi => by
    rw [List.length_map] at hi
    obtain ⟨_, _, m, ecs, _, _, _, _, hr⟩ := hat i hi
    rw [List.getElem_map]
    exact (attr_read hr).2)
  have key : AttrsAt w a n (elems.map fun e => attrOf e.1) := by
    refine ⟨by rw [List.length_map, hel], fun i hi => ?_⟩
    rw [List.length_map] at hi
    obtain ⟨b, o, m, ecs, e, hb, _, hc, hr⟩ := hat i hi
    obtain ⟨hcs, _⟩ := attr_read hr
    have c0 := hc 0 (by decide)
    have c1 := hc 1 (by decide)
    rw [hcs] at c0 c1
    rw [List.getElem_map]
    exact ⟨b, o, e, hb, c0, c1⟩
  refine ⟨a, n, c, rfl, hnc, ?_⟩
  rcases hx with rfl | ⟨rest, hx⟩
  · have : attrsOf x.1 = [] ∨ True := .inr trivial
    obtain rfl : n = 0 := by simpa using hel.symm
    rcases DataW.trod_slice Tryz.underlying34 h with ⟨_, hx⟩ | ⟨a2, len, cap, elems, rest, m, _, e, hx, _, _, _, hel2, _, _, _⟩
    · rw [hx]; exact ⟨⟨rfl, fun i hi => by simp [attrsOf] at hi⟩, by simp [attrsOf, wtA]⟩
    · simp at e
      have : elems = [] := List.eq_nil_of_length_eq_zero (by omega)
      subst this
      rw [hx]; exact ⟨⟨rfl, fun i hi => by simp [attrsOf] at hi⟩, by simp [attrsOf, wtA]⟩
  · rw [hx]
    simp only [attrsOf, List.map_map] at hw ⊢
    refine ⟨key, ?_⟩
    simp only [Rows.uptoBulk]
    have e : (List.map (attrOf ∘ fun x => x.1) elems) = elems.map fun e => attrOf e.1 := rfl
    omega

/-- an event, as data -/
structure Ev where
  kind : Int
  num : Int
  dep : Int
  name : List UInt8
  ats : List (List UInt8 × List UInt8)
  text : List UInt8
  fr : Int
  tt : Int
def evOf : DataW H → Ev
  | .agg [.lit (.int _ kind), .lit (.int _ num), .lit (.int _ dep), .lit (.string name), d, .lit (.string text), .lit (.int _ fr), .lit (.int _ tt)] => ⟨kind, num, dep, name, attrsOf d, text, fr, tt⟩
  | _ => ⟨0, 0, 0, [], [], [], 0, 0⟩
def wtE (e : Ev) : Nat := e.name.length + e.text.length + wtA e.ats + 1
/-- an event's cells in memory -/
def EvCells (w : World) (cs : List Value) (e : Ev) : Prop := ∃ a n c, cs = (evC e.kind e.num e.dep e.name a n c e.text e.fr e.tt).toList ∧ n ≤ c ∧ AttrsAt w a n e.ats
theorem ev_desc : ∃ f0 f1 f2 f3 f4 f5 f6 f7, Tryz.prog.underlying 36 = some (.struct #[f0, f1, f2, f3, f4, f5, f6, f7]) ∧
    (f0.type = 33 ∧ f1.type = 3 ∧ f2.type = 3 ∧ f3.type = 9 ∧ f4.type = 34 ∧ f5.type = 9 ∧ f6.type = 3 ∧ f7.type = 3) ∧
    (f0.offset = 0 ∧ f1.offset = 1 ∧ f2.offset = 2 ∧ f3.offset = 3 ∧ f4.offset = 4 ∧ f5.offset = 5 ∧ f6.offset = 6 ∧ f7.offset = 7) := by
  refine ⟨_, _, _, _, _, _, _, _, Tryz.underlying36, ⟨rfl, rfl, rfl, rfl, rfl, rfl, rfl, rfl⟩, ⟨rfl, rfl, rfl, rfl, rfl, rfl, rfl, rfl⟩⟩

set_option maxRecDepth 100000 in
set_option maxHeartbeats 1000000 in
theorem event_read {cs : List Value} {x : DataW H × List MemPlace} (h : DataW.trod enc Tryz.prog w base sp held fuel 36 cs = some x) :
    EvCells w cs (evOf x.1) ∧ wtE (evOf x.1) ≤ Rows.uptoBulk x.1 ∧ (Lit.int .i64 (evOf x.1).kind).wf = true := by
  obtain ⟨f0, f1, f2, f3, f4, f5, f6, f7, hu, ⟨t0, t1, t2, t3, t4, t5, t6, t7⟩, ⟨o0, o1, o2, o3, o4, o5, o6, o7⟩⟩ := ev_desc
  obtain ⟨xs, m, _, hx, hl, hxl, hat⟩ := DataW.trod_struct hu h
  have h0 := hat 0 f0 rfl
  have h1 := hat 1 f1 rfl
  have h2 := hat 2 f2 rfl
  have h3 := hat 3 f3 rfl
  have h4 := hat 4 f4 rfl
  have h5 := hat 5 f5 rfl
  have h6 := hat 6 f6 rfl
  have h7 := hat 7 f7 rfl
  clear hat
  rw [t0, o0, cellsKind1] at h0
  rw [t1, o1, cellsInt1] at h1
  rw [t2, o2, cellsInt1] at h2
  rw [t3, o3, cellsStr1] at h3
  rw [t4, o4, cellsAttrs1] at h4
  rw [t5, o5, cellsStr1] at h5
  rw [t6, o6, cellsInt1] at h6
  rw [t7, o7, cellsInt1] at h7
  rw [cellsEv] at hl
  have hxl8 : xs.length = 8 := hxl
  match xs, hxl8 with
  | [p0, p1, p2, p3, p4, p5, p6, p7], _ =>
    match cs, hl with
    | [c0, c1, c2, c3, c4, c5, c6, c7], _ =>
      obtain ⟨n0, e0, y0, w0⟩ := DataW.trod_int Tryz.underlying33 h0
      obtain ⟨n1, e1, y1, _⟩ := DataW.trod_int Tryz.underlying3 h1
      obtain ⟨n2, e2, y2, _⟩ := DataW.trod_int Tryz.underlying3 h2
      obtain ⟨s3, e3, y3, _⟩ := DataW.trod_string Tryz.underlying9 h3
      obtain ⟨a, n, c, e4, hnc, hA, hw⟩ := attrs_read h4
      obtain ⟨s5, e5, y5, _⟩ := DataW.trod_string Tryz.underlying9 h5
      obtain ⟨n6, e6, y6, _⟩ := DataW.trod_int Tryz.underlying3 h6
      obtain ⟨n7, e7, y7, _⟩ := DataW.trod_int Tryz.underlying3 h7
      simp at e0 e1 e2 e3 e4 e5 e6 e7
      subst e0 e1 e2 e3 e4 e5 e6 e7
      subst y0 y1 y2 y3 y5 y6 y7
      rw [hx]
      simp only [List.map_cons, List.map_nil, evOf, wtE, Rows.uptoBulk, Rows.uptoBulkAll]
      refine ⟨⟨a, n, c, by simp [evC, strL_of], hnc, hA⟩, by omega, w0⟩
end
theorem EvCells.below {w w' : World} {cs : List Value} {e : Ev} (h : EvCells w cs e) (hb : Below w.heap.size w w') : EvCells w' cs e := by
  obtain ⟨a, n, c, h1, h2, h3⟩ := h
  exact ⟨a, n, c, h1, h2, h3.below hb⟩
theorem wtA_mem (l : List (List UInt8 × List UInt8)) : ∀ p ∈ l, p.1.length + p.2.length + 1 ≤ wtA l := by
  induction l with
  | nil => intro p hp; cases hp
  | cons q l ih =>
    intro p hp
    simp only [wtA, List.map_cons, List.sum_cons]
    rcases List.mem_cons.1 hp with rfl | hp
    · omega
    · have := ih p hp; simp only [wtA] at this; omega
theorem wtA_length (l : List (List UInt8 × List UInt8)) : l.length ≤ wtA l := by
  induction l with
  | nil => simp [wtA]
  | cons q l ih => simp only [wtA, List.map_cons, List.sum_cons, List.length_cons] at *; omega
/-- what an event adds -/
def evOut (e : Ev) : List UInt8 := eventW e.kind e.name e.ats e.text
theorem textL_len (l : List UInt8) : (replL textPs l).length ≤ 6 * l.length := by
  induction l with
  | nil => simp [replL]
  | cons b l ih =>
    have h : ∀ n : Fin 256, (form textPs (UInt8.ofNat n)).length ≤ 6 := by decide +kernel
    have hb := h ⟨b.toNat, b.toNat_lt⟩
    simp only [UInt8.ofNat_toNat] at hb
    simp only [replL, List.flatMap_cons, List.length_append, List.length_cons] at *
    omega
theorem evOut_len (e : Ev) : (evOut e).length ≤ 8 * wtE e := by
  have ha : ∀ l : List (List UInt8 × List UInt8), (l.flatMap attrW).length ≤ 8 * wtA l := by
    intro l
    induction l with
    | nil => simp [wtA]
    | cons p l ih =>
      have := replL_vlen p.2
      simp only [wtA, List.flatMap_cons, List.length_append, List.map_cons, List.sum_cons, attrW, List.length_cons, List.length_nil] at *
      omega
  have h1 := ha e.ats
  have h2 := textL_len e.text
  unfold evOut eventW wtE
  split
  · simp only [List.length_append, List.length_cons, List.length_nil]; omega
  · split
    · omega
    · split
      · simp only [List.length_append, List.length_cons, List.length_nil]; omega
      · simp
/-- canon.Event at an event in memory -/
theorem Event_cells {w : World} {cs : List Value} {e : Ev} (h : EvCells w cs e) (hw : wtE e ≤ 1048576) :
    Calls Tryz.prog 27 #[.agg cs.toArray] w fun r w' => r = .returned (.string (strL (evOut e))) ∧ Below w.heap.size w w' := by
  obtain ⟨a, n, c, rfl, _, h3⟩ := h
  unfold wtE at hw
  have hn : n ≤ 1048576 := by have := wtA_length e.ats; have := h3.1; omega
  exact Event_any e.kind e.num e.dep e.fr e.tt e.name e.text a n c e.ats w h3 hn (by omega) (by omega) (fun p hp => by have := wtA_mem e.ats p hp; omega)
end Go.Proofs.YtmnloeolacmemaaGreat

/-
  A row of events, as it comes in.
-/
namespace Go.Proofs.YtmnloeolacmemaaGreat
open Go.RowKit

/-- an event's cells, as a list -/
def evL (e : Ev) (A : Option Addr) (m c : Nat) : List Value := (evC e.kind e.num e.dep e.name A m c e.text e.fr e.tt).toList
/-- how much events weigh -/
def wtEs (l : List Ev) : Nat := (l.map wtE).sum
theorem wtE_pos (e : Ev) : 1 ≤ wtE e := by unfold wtE; omega
theorem wtEs_length (l : List Ev) : l.length ≤ wtEs l := by
  induction l with
  | nil => simp [wtEs]
  | cons x r ih => have := wtE_pos x; simp only [wtEs, List.map_cons, List.sum_cons, List.length_cons] at *; omega
theorem wtEs_mem (l : List Ev) (i : Nat) (h : i < l.length) : wtE l[i] ≤ wtEs l := by
  induction l generalizing i with
  | nil => simp at h
  | cons x r ih =>
    simp only [wtEs, List.map_cons, List.sum_cons]
    rcases i with _ | i
    · simp only [List.getElem_cons_zero]; omega
    · have := ih i (by simpa using h); simp only [List.getElem_cons_succ]; simp only [wtEs] at this; omega
/-- events in memory -/
def EvsAt (w : World) (a : Option Addr) (n : Nat) (evs : List Ev) : Prop :=
  n = evs.length ∧ ∀ i, (h : i < evs.length) → ∃ b o A m c, a = some ⟨b, o, none⟩ ∧ b < w.heap.size ∧ m ≤ c ∧ AttrsAt w A m evs[i].ats ∧ ∀ j, j < 8 → w.cell? ⟨b, o + i * 8 + j, none⟩ = (evL evs[i] A m c)[j]?
theorem EvsAt.below {w w' : World} {a : Option Addr} {n : Nat} {evs : List Ev} (h : EvsAt w a n evs) (hb : Below w.heap.size w w') : EvsAt w' a n evs :=
  ⟨h.1, fun i hi => by
    obtain ⟨b, o, A, m, c, e, hlt, hmc, hA, hc⟩ := h.2 i hi
    exact ⟨b, o, A, m, c, e, Nat.lt_of_lt_of_le hlt hb.size, hmc, hA.below hb, fun j hj => (hb.cell (p := ⟨b, o + i * 8 + j, none⟩) hlt).trans (hc j hj)⟩⟩

section
variable {H : Type} {enc : TypeId × Value → H} {w : World} {base : Nat} {sp : Nat → Bool} {held : Bool} {fuel : Nat}
def evsOf : DataW H → List Ev
  | .slice l _ => l.map evOf
  | _ => []
theorem wtEs_le (l : List (DataW H)) (h : ∀ i, (hi : i < l.length) → wtE (evOf l[i]) ≤ Rows.uptoBulk l[i]) : wtEs (l.map evOf) ≤ Rows.uptoBulkAll l := by
  induction l with
  | nil => simp [wtEs, Rows.uptoBulkAll]
  | cons x r ih =>
    have h0 := h 0 (by simp)
    have := ih (fun i hi => by have := h (i + 1) (by simpa using hi); simpa using this)
    simp only [wtEs, List.map_cons, List.sum_cons, Rows.uptoBulkAll, List.getElem_cons_zero] at *
    omega
theorem evs_read {cs : List Value} {x : DataW H × List MemPlace} (h : DataW.trod enc Tryz.prog w base sp held fuel 27 cs = some x) :
    ∃ a n c, cs = [.slice a n c] ∧ n ≤ c ∧ EvsAt w a n (evsOf x.1) ∧ wtEs (evsOf x.1) ≤ Rows.uptoBulk x.1 := by
  obtain ⟨a, n, c, elems, rfl, hnc, hel, hx, hat⟩ := slice_read Tryz.underlying27 cellsEv (by decide) h
  have hw := wtEs_le (elems.map (·.1)) (fun i hi => by
    rw [List.length_map] at hi
    obtain ⟨_, _, m, ecs, _, _, _, _, hr⟩ := hat i hi
    rw [List.getElem_map]
    exact (event_read hr).2.1)
  have key : EvsAt w a n (elems.map fun e => evOf e.1) := by
    refine ⟨by rw [List.length_map, hel], fun i hi => ?_⟩
    rw [List.length_map] at hi
    obtain ⟨b, o, m, ecs, e, hb, _, hc, hr⟩ := hat i hi
    obtain ⟨⟨A, m', c', hcs, hmc, hA⟩, _⟩ := event_read hr
    rw [List.getElem_map]
    exact ⟨b, o, A, m', c', e, hb, hmc, hA, fun j hj => by rw [hc j hj, hcs]; rfl⟩
  refine ⟨a, n, c, rfl, hnc, ?_⟩
  rcases hx with rfl | ⟨rest, hx⟩
  · obtain rfl : n = 0 := by simpa using hel.symm
    rcases DataW.trod_slice Tryz.underlying27 h with ⟨_, hx⟩ | ⟨a2, len, cap, elems, rest, m, _, e, hx, _, _, _, hel2, _, _, _⟩
    · rw [hx]; exact ⟨⟨rfl, fun i hi => by simp [evsOf] at hi⟩, by simp [evsOf, wtEs]⟩
    · simp at e
      have : elems = [] := List.eq_nil_of_length_eq_zero (by omega)
      subst this
      rw [hx]; exact ⟨⟨rfl, fun i hi => by simp [evsOf] at hi⟩, by simp [evsOf, wtEs]⟩
  · rw [hx]
    simp only [evsOf, List.map_map] at hw ⊢
    refine ⟨key, ?_⟩
    simp only [Rows.uptoBulk]
    have e : (List.map (evOf ∘ fun x => x.1) elems) = elems.map fun e => evOf e.1 := rfl
    omega
end
end Go.Proofs.YtmnloeolacmemaaGreat

/-
  Package wait in memory: the blocks of a Wait, each in its colour; what a call may turn.
-/
namespace Go.Proofs.YtmnloeolacmemaaGreat
open Go.RowKit

/-- nothing has turned but blocks whose colour lies from lo on, below hi -/
structure Mv (C : Nat → Nat) (lo hi : Nat) (w w' : World) : Prop where
  os : w'.os = w.os
  tape : w'.tape = w.tape
  output : w'.output = w.output
  size : w.heap.size ≤ w'.heap.size
  block : ∀ k, k < w.heap.size → ¬ (lo ≤ C k ∧ C k < hi) → w'.heap[k]? = w.heap[k]?
/-- the colours of the old blocks stay; what is not there has none -/
structure Paint (C C' : Nat → Nat) (w w' : World) : Prop where
  old : ∀ k, k < w.heap.size → C' k = C k
  top : ∀ k, w'.heap.size ≤ k → C' k = 0
/-- the new blocks get a colour -/
def paint (C : Nat → Nat) (w w' : World) (c : Nat) : Nat → Nat := fun k => if w.heap.size ≤ k ∧ k < w'.heap.size then c else C k
theorem paint_old (C : Nat → Nat) (w w' : World) (c : Nat) {k : Nat} (h : k < w.heap.size) : paint C w w' c k = C k := by unfold paint; rw [if_neg (by omega)]
theorem paint_new (C : Nat → Nat) (w w' : World) (c : Nat) {k : Nat} (h : w.heap.size ≤ k) (h' : k < w'.heap.size) : paint C w w' c k = c := by unfold paint; rw [if_pos ⟨h, h'⟩]
theorem Paint.mk' {C : Nat → Nat} {w w' : World} (c : Nat) (ht : ∀ k, w.heap.size ≤ k → C k = 0) (hs : w.heap.size ≤ w'.heap.size) : Paint C (paint C w w' c) w w' :=
  ⟨fun _ h => paint_old C w w' c h, fun k h => by unfold paint; rw [if_neg (by omega)]; exact ht k (by omega)⟩
theorem Paint.refl {C : Nat → Nat} {w w' : World} (ht : ∀ k, w.heap.size ≤ k → C k = 0) (hs : w.heap.size ≤ w'.heap.size) : Paint C C w w' := ⟨fun _ _ => rfl, fun k h => ht k (by omega)⟩
theorem Paint.trans {C C' C'' : Nat → Nat} {a b c : World} (h : Paint C C' a b) (hs : a.heap.size ≤ b.heap.size) (k : Paint C' C'' b c) : Paint C C'' a c :=
  ⟨fun i hi => (k.old i (by omega)).trans (h.old i hi), k.top⟩
section
variable {C C' : Nat → Nat} {lo hi : Nat} {w w' : World}
theorem Mv.refl (C : Nat → Nat) (lo hi : Nat) (w : World) : Mv C lo hi w w := ⟨rfl, rfl, rfl, Nat.le_refl _, fun _ _ _ => rfl⟩
theorem Mv.trans {a b c : World} (h : Mv C lo hi a b) (k : Mv C lo hi b c) : Mv C lo hi a c :=
  ⟨k.os.trans h.os, k.tape.trans h.tape, k.output.trans h.output, Nat.le_trans h.size k.size, fun i h1 h2 => (k.block i (Nat.lt_of_lt_of_le h1 h.size) h2).trans (h.block i h1 h2)⟩
theorem Mv.recol (h : Mv C lo hi w w') {v : World} (hs : v.heap.size = w.heap.size) (hp : ∀ k, k < v.heap.size → C' k = C k) : Mv C' lo hi w w' :=
  ⟨h.os, h.tape, h.output, h.size, fun i h1 h2 => h.block i h1 (by rw [← hp i (by omega)]; exact h2)⟩
/-- two steps, the colours turned between them -/
theorem Mv.andThen {a b c : World} (h : Mv C lo hi a b) (hp : Paint C C' a b) (k : Mv C' lo hi b c) : Mv C lo hi a c :=
  ⟨k.os.trans h.os, k.tape.trans h.tape, k.output.trans h.output, Nat.le_trans h.size k.size, fun i h1 h2 => (k.block i (Nat.lt_of_lt_of_le h1 h.size) (by rw [hp.old i h1]; exact h2)).trans (h.block i h1 h2)⟩
theorem Mv.below (h : Below w.heap.size w w') : Mv C lo hi w w' := ⟨h.os, h.tape, h.output, h.size, fun k hk _ => h.block k hk⟩
theorem Mv.drewN (h : Mv C lo hi w w') (n : Nat) : Mv C lo hi w (w'.drewN n) := ⟨h.os, h.tape, h.output, h.size, h.block⟩
theorem Mv.set (h : Mv C lo hi w w') {b : Nat} (hb : lo ≤ C b ∧ C b < hi) (i : Nat) (v : Value) : Mv C lo hi w (w'.setCell ⟨b, i, none⟩ v) :=
  ⟨h.os, h.tape, h.output, by simp [World.setCell]; exact h.size, fun k h1 h2 => (Below.heap_setCell _ _ _ _ (fun e => h2 (by have e' : k = b := e; rw [e']; exact hb))).trans (h.block k h1 h2)⟩
theorem Mv.alloc (h : Mv C lo hi w w') (o : Obj) : Mv C lo hi w (w'.alloc o) :=
  ⟨h.os, h.tape, h.output, by simp; have := h.size; omega, fun k h1 h2 => (heap_alloc_old _ _ (Nat.lt_of_lt_of_le h1 h.size)).trans (h.block k h1 h2)⟩
theorem Mv.grown {row : Option Nat} (h : w.grownBy w' row) (hr : ∀ k, row = some k → lo ≤ C k ∧ C k < hi) : Mv C lo hi w w' :=
  ⟨h.os, h.tape, h.output, h.size, fun k h1 h2 => h.block k h1 (fun e => h2 (hr k e.symm))⟩
theorem Mv.movT {tb : Nat} (h : MovT tb w w') (h1 : lo ≤ C tb ∧ C tb < hi) (h2 : ∀ k, TapeRow w tb k → lo ≤ C k ∧ C k < hi) : Mv C lo hi w w' :=
  ⟨h.os, h.tape, h.output, h.size, fun k hk hn => h.block k hk (fun e => hn (e ▸ h1)) (fun e => hn (h2 k e))⟩
theorem Mv.wider (h : Mv C lo hi w w') {lo' hi' : Nat} (h1 : lo' ≤ lo) (h2 : hi ≤ hi') : Mv C lo' hi' w w' := ⟨h.os, h.tape, h.output, h.size, fun k hk hn => h.block k hk (fun ⟨a, b⟩ => hn ⟨by omega, by omega⟩)⟩
end

theorem TapeAt.keepRow {w w' : World} {R tb : Nat} {all : List UInt8} {first front : Nat} (h : TapeAt w R tb all first front) (hs : w.heap.size ≤ w'.heap.size) (h1 : w'.heap[tb]? = w.heap[tb]?) (h2 : ∀ k, TapeRow w tb k → w'.heap[k]? = w.heap[k]?) : TapeAt w' R tb all first front := by
  obtain ⟨a1, a2, a3, a4, a5, v, a6, a7⟩ := h
  exact ⟨a1, Nat.le_trans a2 hs, a3, a4, a5, v, h1.trans a6, own_block a7 (fun k hk => h2 k (row_mk a6 hk))⟩
theorem TapeAt.rowlt {w : World} {R tb : Nat} {all : List UInt8} {first front : Nat} (h : TapeAt w R tb all first front) {k : Nat} (hk : TapeRow w tb k) : k < w.heap.size := by
  obtain ⟨_, _, _, _, _, v, a6, a7⟩ := h
  exact row_of a6 (fun j hj => (a7.lt j hj).2) k hk
theorem PMap.keepB {P : Program} {k : TypeId} {w w' : World} {b n : Nat} {f : Int → Option Nat} (h : PMap P k w b n f) (hb : w'.heap[b]? = w.heap[b]?) : PMap P k w' b n f := by
  obtain ⟨D, ⟨es, clock, h1, h2⟩, hf⟩ := h
  exact ⟨D, ⟨es, clock, hb.trans h1, h2⟩, hf⟩
theorem QRow.lt {w : World} {e : TypeId} {size : Nat} {v : Value} {n : Nat} {xs : List Value} (h : QRow w e size v (n + 1) xs) : ∀ k, v.ownBlock = some k → k < w.heap.size := by
  obtain ⟨g, off, c, rfl, _, hl, _⟩ := h.here
  intro k hk
  have : g = k := by simpa [Value.ownBlock] using hk
  omega

/-- an integer as the machine has it -/
def Wf (x : Int) : Prop := (Lit.int .i64 x).wf = true
/-- a node of the program's, in block b -/
def NodeIs (w : World) (b : Nat) (x : WN) : Prop := w.heap[b]? = some (.cells #[.int .i64 x.truth, .bool x.whole, .int .i64 x.frm, .int .i64 x.bgn, .int .i64 x.fin] 70 (0, 0))
def opnV (l : List (Int × Int)) : List Value := l.flatMap fun p => [.int .i64 p.1, .int .i64 p.2]
/-- a Wait in block wb: its tape's, its map's block, where its nodes lie, the slices of order and of open -/
structure WAt (C : Nat → Nat) (w : World) (wb tb mb : Nat) (fp : Int → Option Nat) (ov lv : Value) (s : WSt) (first front n : Nat) : Prop where
  top : ∀ k, w.heap.size ≤ k → C k = 0
  blk : w.heap[wb]? = some (.cells #[.pointer (some ⟨tb, 0, none⟩), .map (some mb), ov, lv, .int .i64 s.next, .int .i64 s.last] 57 (0, 0))
  cw : C wb = 1
  tp : TapeAt w (tb + 1) tb s.all first front
  ct : C tb = 2
  crow : ∀ k, TapeRow w tb k → C k = 2
  map : PMap Tryz.prog 3 w mb n fp
  cm : C mb = 3
  ord : QRow w 3 1 ov s.order.length (s.order.map (.int .i64))
  co : ∀ k, ov.ownBlock = some k → C k = 4
  opn : QRow w 72 2 lv s.opn.length (opnV s.opn)
  cl : ∀ k, lv.ownBlock = some k → C k = 5
  nds : ∀ k x, s.nodes k = some x → ∃ b, fp k = some b ∧ C b = 6 ∧ NodeIs w b x
  non : ∀ k, s.nodes k = none → fp k = none
  inj : ∀ k j b, fp k = some b → fp j = some b → k = j
  wfo : ∀ k ∈ s.order, Wf k
section
variable {C C' : Nat → Nat} {w w' : World} {wb tb mb : Nat} {fp : Int → Option Nat} {ov lv : Value} {s : WSt} {first front n : Nat}
theorem WAt.lt0 (h : WAt C w wb tb mb fp ov lv s first front n) {k : Nat} (hk : C k ≠ 0) : k < w.heap.size := by
  rcases Nat.lt_or_ge k w.heap.size with h1 | h1
  · exact h1
  · exact absurd (h.top k h1) hk
/-- nothing of it has turned -/
theorem WAt.keep (h : WAt C w wb tb mb fp ov lv s first front n) (hp : Paint C C' w w') (hs : w.heap.size ≤ w'.heap.size) (hb : ∀ k, k < w.heap.size → 1 ≤ C k → C k < 7 → w'.heap[k]? = w.heap[k]?) : WAt C' w' wb tb mb fp ov lv s first front n := by
  have l : ∀ {k : Nat}, C k ≠ 0 → k < w.heap.size := fun hk => h.lt0 hk
  have e : ∀ {k c : Nat}, C k = c → 1 ≤ c → c < 7 → C' k = c ∧ w'.heap[k]? = w.heap[k]? := fun {k c} hk h1 h2 => ⟨(hp.old k (l (by omega))).trans hk, hb k (l (by omega)) (by omega) (by omega)⟩
  have e1 := e h.cw (by decide) (by decide)
  have e2 := e h.ct (by decide) (by decide)
  have e3 := e h.cm (by decide) (by decide)
  have er : ∀ k, TapeRow w' tb k → TapeRow w tb k := by
    obtain ⟨_, _, _, _, _, v, a6, _⟩ := h.tp
    exact row_of (e2.2.trans a6) (fun k hk => row_mk a6 hk)
  refine ⟨hp.top, e1.2.trans h.blk, e1.1, h.tp.keepRow hs e2.2 (fun k hk => (e (h.crow k hk) (by decide) (by decide)).2), e2.1, fun k hk => (e (h.crow k (er k hk)) (by decide) (by decide)).1, h.map.keepB e3.2, e3.1,
    h.ord.keep (fun k hk => (e (h.co k hk) (by decide) (by decide)).2), fun k hk => (e (h.co k hk) (by decide) (by decide)).1, h.opn.keep (fun k hk => (e (h.cl k hk) (by decide) (by decide)).2), fun k hk => (e (h.cl k hk) (by decide) (by decide)).1,
    fun k x hx => ?_, h.non, h.inj, h.wfo⟩
  obtain ⟨b, b1, b2, b3⟩ := h.nds k x hx
  have eb := e b2 (by decide) (by decide)
  exact ⟨b, b1, eb.1, eb.2.trans b3⟩
theorem WAt.below (h : WAt C w wb tb mb fp ov lv s first front n) (hb : Below w.heap.size w w') : WAt C w' wb tb mb fp ov lv s first front n :=
  h.keep (Paint.refl h.top hb.size) hb.size (fun k hk _ _ => hb.block k hk)
/-- the cells of the block -/
theorem WAt.cells (h : WAt C w wb tb mb fp ov lv s first front n) : w.cell? ⟨wb, 0, none⟩ = some (.pointer (some ⟨tb, 0, none⟩)) ∧ w.cell? ⟨wb, 1, none⟩ = some (.map (some mb)) ∧ w.cell? ⟨wb, 2, none⟩ = some ov ∧ w.cell? ⟨wb, 3, none⟩ = some lv ∧ w.cell? ⟨wb, 4, none⟩ = some (.int .i64 s.next) ∧ w.cell? ⟨wb, 5, none⟩ = some (.int .i64 s.last) := by
  simp only [cell_heap h.blk]
  exact ⟨rfl, rfl, rfl, rfl, rfl, rfl⟩
theorem WAt.froz (h : WAt C w wb tb mb fp ov lv s first front n) (i : Nat) : w.frozen? ⟨wb, i, none⟩ = false := frozen_heap h.blk
end
theorem undInt : Tryz.prog.underlying 3 = some (.int .i64) := Tryz.underlying3
theorem undMap : Tryz.prog.underlying 54 = some (.map 3 68) := Tryz.underlying54
theorem infoPN : (Tryz.prog.info? 68).map (·.zero) = some (some (.pointer none)) := by kernel_rfl
theorem zeroPN (w : World) : (zeroValue 68).run Tryz.prog w = .ok (.pointer none) w := by
  obtain ⟨i, hi, hz⟩ := Option.map_eq_some_iff.1 infoPN
  simp [zeroValue, run_typeInfo' hi, hz, Result.andThen]
theorem keyInt {x : Int} (h : Wf x) : keyOf Tryz.prog 3 (.int .i64 x) = some (.int .i64 x) := by
  have h' : (Lit.int .i64 x).wf = true := h
  simp [keyOf, mapKey, h']
/-! the map's operations as steps of a region that draws -/
section
variable {P : Program} {ops : Array Oper} {o : Oper} {a : Act} {w : World} {K : Act → World → Prop} {Q : Exit → Act → World → Prop} {E : Prop}
theorem step_lookup_ptr (hg : o.guard = none) (m x : Operand) (t : TypeId) (hop : o.op = Op.lookup t m x false)
    (k e : TypeId) (hk : P.underlying k = some (.int .i64)) (ht : P.underlying t = some (.map k e)) (hz : (zeroValue e).run P w = .ok (.pointer none) w) (b n : Nat) (f : Int → Option Nat)
    (hm : a.eval m = .map (some b)) (h : PMap P k w b n f) (y : Int) (hx : a.eval x = .int .i64 y) (hkey : keyOf P k (.int .i64 y) = some (.int .i64 y)) (pv : Value) (hpv : ptrVal (f y) = pv)
    (hK : K (a.put o.dst pv) w) : if Region.wanted o (yielded ops a.tmps) = true then Oper.wp P o a w K Q else E := by
  have hw : Region.wanted o (yielded ops a.tmps) = true := by simp [Region.wanted, hg]
  rw [if_pos hw]
  subst hpv
  have hrun := h.look hk ht hz y hkey
  unfold Oper.wp
  simp [execOp, hop, hm, hx, hrun, Result.andThen]
  exact hK
theorem step_mapUpdate_ptr (hg : o.guard = none) (m x v : Operand) (t : TypeId) (hop : o.op = Op.mapUpdate t m x v)
    (k e : TypeId) (hk : P.underlying k = some (.int .i64)) (ht : P.underlying t = some (.map k e)) (b n : Nat) (hn : n < maxLen) (f : Int → Option Nat)
    (hm : a.eval m = .map (some b)) (h : PMap P k w b n f) (y : Int) (hx : a.eval x = .int .i64 y) (c : Nat) (hv : a.eval v = ptrVal (some c)) (hkey : keyOf P k (.int .i64 y) = some (.int .i64 y))
    (hK : ∀ w', PMap P k w' b (n + 1) (fun z => if z = y then some c else f z) → w.mapTurned w' b → K (a.put o.dst undef) w') : if Region.wanted o (yielded ops a.tmps) = true then Oper.wp P o a w K Q else E := by
  have hw : Region.wanted o (yielded ops a.tmps) = true := by simp [Region.wanted, hg]
  rw [if_pos hw]
  obtain ⟨w', hrun, r1, r2⟩ := h.store hk ht hn y hkey c
  unfold Oper.wp
  simp [execOp, hop, hm, hx, hv, hrun, Result.andThen]
  exact hK w' r1 r2
theorem step_delete_ptr (hg : o.guard = none) (m x : Operand) (t k : TypeId) (hop : o.op = Op.call { callee := Callee.builtin Builtin.delete, args := #[m, x], argTypes := #[t, k] })
    (e : TypeId) (hk : P.underlying k = some (.int .i64)) (ht : P.underlying t = some (.map k e)) (b n : Nat) (f : Int → Option Nat)
    (hm : a.eval m = .map (some b)) (h : PMap P k w b n f) (y : Int) (hx : a.eval x = .int .i64 y) (hkey : keyOf P k (.int .i64 y) = some (.int .i64 y))
    (hK : ∀ w', PMap P k w' b n (fun z => if z = y then none else f z) → w.mapTurned w' b → K (a.put o.dst (.tuple #[])) w') : if Region.wanted o (yielded ops a.tmps) = true then Oper.wp P o a w K Q else E := by
  have hw : Region.wanted o (yielded ops a.tmps) = true := by simp [Region.wanted, hg]
  rw [if_pos hw]
  obtain ⟨w', hrun, r1, r2⟩ := h.drop hk ht y hkey o.type
  unfold Oper.wp execOp
  simp only [hop, resolve, invoke, builtin, Sem.run_bind, Sem.run_pure, Result.andThen_ok, List.map_toArray, List.map_cons, List.map_nil, hm, hx, hrun]
  exact hK w' r1 r2
end
end Go.Proofs.YtmnloeolacmemaaGreat
