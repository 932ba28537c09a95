/-
  Openers: what came in and reads as slices, attributes, events; how long they are, by the statement's own measure.
-/
import Derived.Test.YtlomcmichbnkaaaRows
import Derived.Test.YtlomcmichbnkaaaCanonE
import Derived.ChangeArms
import Derived.DataReads
import Derived.Deep.MidRow
namespace Go.Proofs.Ytlomcmichbnkaaa
open Go.RowKit

section
variable {H : Type} {enc : TypeId × Value → H} {w : World} {base : Nat} {sp : Nat → Bool} {held : Bool} {fuel : Nat}

theorem bulk_le {l : List (DataW H)} {i : Nat} {d : DataW H} (h : l[i]? = some d) : Rows.uptoBulk d ≤ Rows.uptoBulkAll l := by
  induction l generalizing i with
  | nil => simp at h
  | cons x r ih =>
    simp only [Rows.uptoBulkAll]
    cases i with
    | zero => simp only [List.getElem?_cons_zero, Option.some.injEq] at h; subst h; omega
    | succ i => have := ih (i := i) (by simpa using h); omega

/-- a slice that came in: its elements, cell by cell -/
theorem slice_read {S E : TypeId} {k : Nat} (hS : Try.prog.underlying S = some (.slice E)) (hE : Try.prog.cellsOf E = k) (hk : 0 < k) {cs : List Value} {x : DataW H × List MemPlace}
    (h : DataW.trod enc Try.prog w base sp held fuel S cs = some x) :
    ∃ a n c, ∃ (elems : List (DataW H × List MemPlace)), cs = [.slice a n c] ∧ n ≤ c ∧ elems.length = n ∧ (elems = [] ∨ ∃ rest, x.1 = .slice (elems.map (·.1)) rest) ∧
      ∀ i, (hi : i < elems.length) → ∃ b o m ecs, a = some ⟨b, o, none⟩ ∧ b < w.heap.size ∧ ecs.length = k ∧ (∀ j, j < k → w.cell? ⟨b, o + i * k + j, none⟩ = ecs[j]?) ∧ DataW.trod enc Try.prog w base sp held m E ecs = some elems[i] := by
  rcases DataW.trod_slice hS h with ⟨rfl, _⟩ | ⟨a, len, cap, elems, rest, m, _, rfl, hx, _, hlc, _, hel, hat, _, _⟩
  · exact ⟨none, 0, 0, [], rfl, Nat.le_refl _, rfl, .inl rfl, fun i hi => by simp at hi⟩
  · refine ⟨some a, len, cap, elems, rfl, hlc, hel, .inr ⟨_, by rw [hx]⟩, fun i hi => ?_⟩
    have h1 := hat i (by omega)
    rw [hE, List.getElem?_eq_getElem hi, Option.bind_eq_some_iff] at h1
    obtain ⟨ecs, hcs, hr⟩ := h1
    obtain ⟨_, hl, hc⟩ := World.cells?_some hcs
    obtain ⟨b, o, spt⟩ := a
    have hspt : spt = none := by
      have h0 := hat 0 (by omega)
      rw [hE, List.getElem?_eq_getElem (show 0 < elems.length by omega), Option.bind_eq_some_iff] at h0
      obtain ⟨ecs0, hcs0, _⟩ := h0
      obtain ⟨_, hl0, hc0⟩ := World.cells?_some hcs0
      have hc00 := hc0 0 hk
      rw [List.getElem?_eq_getElem (by omega)] at hc00
      have := World.cell?_spot hc00
      simpa [Addr.add] using this
    subst hspt
    refine ⟨b, o, m, ecs, rfl, ?_, hl, fun j hj => ?_, hr⟩
    · have := World.cells?_block hcs hk
      simp only [Addr.add] at this
      split at this <;> simpa using this
    · have := hc j hj
      rw [Addr.add_lit, Addr.add_lit] at this
      exact this

def attrOf : DataW H → List UInt8 × List UInt8
  | .agg [.lit (.string a), .lit (.string b)] => (a, b)
  | _ => ([], [])
/-- how much attributes weigh -/
def wtA (l : List (List UInt8 × List UInt8)) : Nat := (l.map fun p => p.1.length + p.2.length + 1).sum
theorem attr_desc : ∃ f0 f1, Try.prog.underlying 50 = some (.struct #[f0, f1]) ∧ f0.type = 9 ∧ f1.type = 9 ∧ f0.offset = 0 ∧ f1.offset = 1 := by
  refine ⟨_, _, Try.underlying50, rfl, rfl, rfl, rfl⟩
theorem cellsAttr : Try.prog.cellsOf 50 = 2 := by kernel_rfl
theorem cellsStr1 : Try.prog.cellsOf 9 = 1 := by kernel_rfl
theorem cellsInt1 : Try.prog.cellsOf 3 = 1 := by kernel_rfl
theorem cellsKind1 : Try.prog.cellsOf 22 = 1 := by kernel_rfl
theorem cellsAttrs1 : Try.prog.cellsOf 23 = 1 := by kernel_rfl
theorem cellsEv : Try.prog.cellsOf 25 = 8 := by kernel_rfl
theorem getL {α : Type} {l : List α} {i : Nat} (hl : i < l.length) : l[i]? = some l[i] := List.getElem?_eq_getElem hl

set_option maxRecDepth 100000 in
theorem attr_read {cs : List Value} {x : DataW H × List MemPlace} (h : DataW.trod enc Try.prog w base sp held fuel 50 cs = some x) :
    cs = [.string (strL (attrOf x.1).1), .string (strL (attrOf x.1).2)] ∧ (attrOf x.1).1.length + (attrOf x.1).2.length + 1 ≤ Rows.uptoBulk x.1 := by
  obtain ⟨f0, f1, hu, t0, t1, o0, o1⟩ := attr_desc
  obtain ⟨xs, m, _, hx, hl, hxl, hat⟩ := DataW.trod_struct hu h
  have h0 := hat 0 f0 rfl
  have h1 := hat 1 f1 rfl
  rw [t0, o0, cellsStr1] at h0
  rw [t1, o1, cellsStr1] at h1
  rw [cellsAttr] at hl
  have hxl2 : xs.length = 2 := hxl
  rw [getL (show 0 < xs.length by omega)] at h0
  rw [getL (show 1 < xs.length by omega)] at h1
  obtain ⟨s0, e0, y0, _⟩ := DataW.trod_string Try.underlying9 h0
  obtain ⟨s1, e1, y1, _⟩ := DataW.trod_string Try.underlying9 h1
  match xs, hxl2 with
  | [p0, p1], _ =>
    match cs, hl with
    | [c0, c1], _ =>
      simp at e0 e1 y0 y1
      subst e0 e1 y0 y1
      rw [hx]
      simp only [List.map_cons, List.map_nil, attrOf, strL_of, Rows.uptoBulk, Rows.uptoBulkAll]
      exact ⟨trivial, by omega⟩

theorem wtA_le (l : List (DataW H)) (h : ∀ i, (hi : i < l.length) → (attrOf l[i]).1.length + (attrOf l[i]).2.length + 1 ≤ Rows.uptoBulk l[i]) : wtA (l.map attrOf) ≤ Rows.uptoBulkAll l := by
  induction l with
  | nil => simp [wtA, Rows.uptoBulkAll]
  | cons x r ih =>
    have h0 := h 0 (by simp)
    have := ih (fun i hi => by have := h (i + 1) (by simpa using hi); simpa using this)
    simp only [wtA, List.map_cons, List.sum_cons, Rows.uptoBulkAll, List.getElem_cons_zero] at *
    omega
def attrsOf : DataW H → List (List UInt8 × List UInt8)
  | .slice l _ => l.map attrOf
  | _ => []
theorem attrs_read {cs : List Value} {x : DataW H × List MemPlace} (h : DataW.trod enc Try.prog w base sp held fuel 23 cs = some x) :
    ∃ a n c, cs = [.slice a n c] ∧ n ≤ c ∧ AttrsAt w a n (attrsOf x.1) ∧ wtA (attrsOf x.1) ≤ Rows.uptoBulk x.1 := by
  obtain ⟨a, n, c, elems, rfl, hnc, hel, hx, hat⟩ := slice_read Try.underlying23 cellsAttr (by decide) h
  have hw := wtA_le (elems.map (·.1)) (fun i hi => by
    rw [List.length_map] at hi
    obtain ⟨_, _, m, ecs, _, _, _, _, hr⟩ := hat i hi
    rw [List.getElem_map]
    exact (attr_read hr).2)
  have key : AttrsAt w a n (elems.map fun e => attrOf e.1) := by
    refine ⟨by rw [List.length_map, hel], fun i hi => ?_⟩
    rw [List.length_map] at hi
    obtain ⟨b, o, m, ecs, e, hb, _, hc, hr⟩ := hat i hi
    obtain ⟨hcs, _⟩ := attr_read hr
    have c0 := hc 0 (by decide)
    have c1 := hc 1 (by decide)
    rw [hcs] at c0 c1
    rw [List.getElem_map]
    exact ⟨b, o, e, hb, c0, c1⟩
  refine ⟨a, n, c, rfl, hnc, ?_⟩
  rcases hx with rfl | ⟨rest, hx⟩
  · have : attrsOf x.1 = [] ∨ True := .inr trivial
    obtain rfl : n = 0 := by simpa using hel.symm
    rcases DataW.trod_slice Try.underlying23 h with ⟨_, hx⟩ | ⟨a2, len, cap, elems, rest, m, _, e, hx, _, _, _, hel2, _, _, _⟩
    · rw [hx]; exact ⟨⟨rfl, fun i hi => by simp [attrsOf] at hi⟩, by simp [attrsOf, wtA]⟩
    · simp at e
      have : elems = [] := List.eq_nil_of_length_eq_zero (by omega)
      subst this
      rw [hx]; exact ⟨⟨rfl, fun i hi => by simp [attrsOf] at hi⟩, by simp [attrsOf, wtA]⟩
  · rw [hx]
    simp only [attrsOf, List.map_map] at hw ⊢
    refine ⟨key, ?_⟩
    simp only [Rows.uptoBulk]
    have e : (List.map (attrOf ∘ fun x => x.1) elems) = elems.map fun e => attrOf e.1 := rfl
    omega

/-- an event, as data -/
structure Ev where
  kind : Int
  num : Int
  dep : Int
  name : List UInt8
  ats : List (List UInt8 × List UInt8)
  text : List UInt8
  fr : Int
  tt : Int
def evOf : DataW H → Ev
  | .agg [.lit (.int _ kind), .lit (.int _ num), .lit (.int _ dep), .lit (.string name), d, .lit (.string text), .lit (.int _ fr), .lit (.int _ tt)] => ⟨kind, num, dep, name, attrsOf d, text, fr, tt⟩
  | _ => ⟨0, 0, 0, [], [], [], 0, 0⟩
def wtE (e : Ev) : Nat := e.name.length + e.text.length + wtA e.ats + 1
/-- an event's cells in memory -/
def EvCells (w : World) (cs : List Value) (e : Ev) : Prop := ∃ a n c, cs = (evC e.kind e.num e.dep e.name a n c e.text e.fr e.tt).toList ∧ n ≤ c ∧ AttrsAt w a n e.ats
theorem ev_desc : ∃ f0 f1 f2 f3 f4 f5 f6 f7, Try.prog.underlying 25 = some (.struct #[f0, f1, f2, f3, f4, f5, f6, f7]) ∧
    (f0.type = 22 ∧ f1.type = 3 ∧ f2.type = 3 ∧ f3.type = 9 ∧ f4.type = 23 ∧ f5.type = 9 ∧ f6.type = 3 ∧ f7.type = 3) ∧
    (f0.offset = 0 ∧ f1.offset = 1 ∧ f2.offset = 2 ∧ f3.offset = 3 ∧ f4.offset = 4 ∧ f5.offset = 5 ∧ f6.offset = 6 ∧ f7.offset = 7) := by
  refine ⟨_, _, _, _, _, _, _, _, Try.underlying25, ⟨rfl, rfl, rfl, rfl, rfl, rfl, rfl, rfl⟩, ⟨rfl, rfl, rfl, rfl, rfl, rfl, rfl, rfl⟩⟩

set_option maxRecDepth 100000 in
set_option maxHeartbeats 1000000 in
theorem event_read {cs : List Value} {x : DataW H × List MemPlace} (h : DataW.trod enc Try.prog w base sp held fuel 25 cs = some x) :
    EvCells w cs (evOf x.1) ∧ wtE (evOf x.1) ≤ Rows.uptoBulk x.1 ∧ (Lit.int .i64 (evOf x.1).kind).wf = true := by
  obtain ⟨f0, f1, f2, f3, f4, f5, f6, f7, hu, ⟨t0, t1, t2, t3, t4, t5, t6, t7⟩, ⟨o0, o1, o2, o3, o4, o5, o6, o7⟩⟩ := ev_desc
  obtain ⟨xs, m, _, hx, hl, hxl, hat⟩ := DataW.trod_struct hu h
  have h0 := hat 0 f0 rfl
  have h1 := hat 1 f1 rfl
  have h2 := hat 2 f2 rfl
  have h3 := hat 3 f3 rfl
  have h4 := hat 4 f4 rfl
  have h5 := hat 5 f5 rfl
  have h6 := hat 6 f6 rfl
  have h7 := hat 7 f7 rfl
  clear hat
  rw [t0, o0, cellsKind1] at h0
  rw [t1, o1, cellsInt1] at h1
  rw [t2, o2, cellsInt1] at h2
  rw [t3, o3, cellsStr1] at h3
  rw [t4, o4, cellsAttrs1] at h4
  rw [t5, o5, cellsStr1] at h5
  rw [t6, o6, cellsInt1] at h6
  rw [t7, o7, cellsInt1] at h7
  rw [cellsEv] at hl
  have hxl8 : xs.length = 8 := hxl
  match xs, hxl8 with
  | [p0, p1, p2, p3, p4, p5, p6, p7], _ =>
    match cs, hl with
    | [c0, c1, c2, c3, c4, c5, c6, c7], _ =>
      obtain ⟨n0, e0, y0, w0⟩ := DataW.trod_int Try.underlying22 h0
      obtain ⟨n1, e1, y1, _⟩ := DataW.trod_int Try.underlying3 h1
      obtain ⟨n2, e2, y2, _⟩ := DataW.trod_int Try.underlying3 h2
      obtain ⟨s3, e3, y3, _⟩ := DataW.trod_string Try.underlying9 h3
      obtain ⟨a, n, c, e4, hnc, hA, hw⟩ := attrs_read h4
      obtain ⟨s5, e5, y5, _⟩ := DataW.trod_string Try.underlying9 h5
      obtain ⟨n6, e6, y6, _⟩ := DataW.trod_int Try.underlying3 h6
      obtain ⟨n7, e7, y7, _⟩ := DataW.trod_int Try.underlying3 h7
      simp at e0 e1 e2 e3 e4 e5 e6 e7
      subst e0 e1 e2 e3 e4 e5 e6 e7
      subst y0 y1 y2 y3 y5 y6 y7
      rw [hx]
      simp only [List.map_cons, List.map_nil, evOf, wtE, Rows.uptoBulk, Rows.uptoBulkAll]
      refine ⟨⟨a, n, c, by simp [evC, strL_of], hnc, hA⟩, by omega, w0⟩
end
theorem EvCells.below {w w' : World} {cs : List Value} {e : Ev} (h : EvCells w cs e) (hb : Below w.heap.size w w') : EvCells w' cs e := by
  obtain ⟨a, n, c, h1, h2, h3⟩ := h
  exact ⟨a, n, c, h1, h2, h3.below hb⟩
theorem wtA_mem (l : List (List UInt8 × List UInt8)) : ∀ p ∈ l, p.1.length + p.2.length + 1 ≤ wtA l := by
  induction l with
  | nil => intro p hp; cases hp
  | cons q l ih =>
    intro p hp
    simp only [wtA, List.map_cons, List.sum_cons]
    rcases List.mem_cons.1 hp with rfl | hp
    · omega
    · have := ih p hp; simp only [wtA] at this; omega
theorem wtA_length (l : List (List UInt8 × List UInt8)) : l.length ≤ wtA l := by
  induction l with
  | nil => simp [wtA]
  | cons q l ih => simp only [wtA, List.map_cons, List.sum_cons, List.length_cons] at *; omega
/-- what an event adds -/
def evOut (e : Ev) : List UInt8 := eventW e.kind e.name e.ats e.text
theorem textL_len (l : List UInt8) : (replL textPs l).length ≤ 6 * l.length := by
  induction l with
  | nil => simp [replL]
  | cons b l ih =>
    have h : ∀ n : Fin 256, (form textPs (UInt8.ofNat n)).length ≤ 6 := by decide +kernel
    have hb := h ⟨b.toNat, b.toNat_lt⟩
    simp only [UInt8.ofNat_toNat] at hb
    simp only [replL, List.flatMap_cons, List.length_append, List.length_cons] at *
    omega
theorem evOut_len (e : Ev) : (evOut e).length ≤ 8 * wtE e := by
  have ha : ∀ l : List (List UInt8 × List UInt8), (l.flatMap attrW).length ≤ 8 * wtA l := by
    intro l
    induction l with
    | nil => simp [wtA]
    | cons p l ih =>
      have := replL_vlen p.2
      simp only [wtA, List.flatMap_cons, List.length_append, List.map_cons, List.sum_cons, attrW, List.length_cons, List.length_nil] at *
      omega
  have h1 := ha e.ats
  have h2 := textL_len e.text
  unfold evOut eventW wtE
  split
  · simp only [List.length_append, List.length_cons, List.length_nil]; omega
  · split
    · omega
    · split
      · simp only [List.length_append, List.length_cons, List.length_nil]; omega
      · simp
/-- canon.Event at an event in memory -/
theorem Event_cells {w : World} {cs : List Value} {e : Ev} (h : EvCells w cs e) (hw : wtE e ≤ 1048576) :
    Calls Try.prog 8 #[.agg cs.toArray] w fun r w' => r = .returned (.string (strL (evOut e))) ∧ Below w.heap.size w w' := by
  obtain ⟨a, n, c, rfl, _, h3⟩ := h
  unfold wtE at hw
  have hn : n ≤ 1048576 := by have := wtA_length e.ats; have := h3.1; omega
  exact Event_any e.kind e.num e.dep e.fr e.tt e.name e.text a n c e.ats w h3 hn (by omega) (by omega) (fun p hp => by have := wtA_mem e.ats p hp; omega)
end Go.Proofs.Ytlomcmichbnkaaa
