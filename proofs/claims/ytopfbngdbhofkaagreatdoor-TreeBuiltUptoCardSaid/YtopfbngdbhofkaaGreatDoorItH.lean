/-
  Openers: what came in and reads as slices, attributes, events; how long they are, by the statement's own measure.
-/
import Derived.Test.YtopfbngdbhofkaaGreatDoorRows
import Derived.Test.YtopfbngdbhofkaaGreatDoorItG
import Derived.ChangeArms
import Derived.DataReads
import Derived.Deep.MidRow
import Derived.Test.YtopfbngdbhofkaaGreatDoorItF
namespace Go.Proofs.YtopfbngdbhofkaaGreatDoor
open Go.RowKit

section
variable {H : Type} {enc : TypeId × Value → H} {w : World} {base : Nat} {sp : Nat → Bool} {held : Bool} {fuel : Nat}

theorem bulk_le {l : List (DataW H)} {i : Nat} {d : DataW H} (h : l[i]? = some d) : Rows.uptoBulk d ≤ Rows.uptoBulkAll l := by
  induction l generalizing i with
  | nil => simp at h
  | cons x r ih =>
    simp only [Rows.uptoBulkAll]
    cases i with
    | zero => simp only [List.getElem?_cons_zero, Option.some.injEq] at h; subst h; omega
    | succ i => have := ih (i := i) (by simpa using h); omega

/-- a slice that came in: its elements, cell by cell -/
theorem slice_read {S E : TypeId} {k : Nat} (hS : Tryz.prog.underlying S = some (.slice E)) (hE : Tryz.prog.cellsOf E = k) (hk : 0 < k) {cs : List Value} {x : DataW H × List MemPlace}
    (h : DataW.trod enc Tryz.prog w base sp held fuel S cs = some x) :
    ∃ a n c, ∃ (elems : List (DataW H × List MemPlace)), cs = [.slice a n c] ∧ n ≤ c ∧ elems.length = n ∧ (elems = [] ∨ ∃ rest, x.1 = .slice (elems.map (·.1)) rest) ∧
      ∀ i, (hi : i < elems.length) → ∃ b o m ecs, a = some ⟨b, o, none⟩ ∧ b < w.heap.size ∧ ecs.length = k ∧ (∀ j, j < k → w.cell? ⟨b, o + i * k + j, none⟩ = ecs[j]?) ∧ DataW.trod enc Tryz.prog w base sp held m E ecs = some elems[i] := by
  rcases DataW.trod_slice hS h with ⟨rfl, _⟩ | ⟨a, len, cap, elems, rest, m, _, rfl, hx, _, hlc, _, hel, hat, _, _⟩
  · exact ⟨none, 0, 0, [], rfl, Nat.le_refl _, rfl, .inl rfl, fun i hi => by simp at hi⟩
  · refine ⟨some a, len, cap, elems, rfl, hlc, hel, .inr ⟨_, by rw [hx]⟩, fun i hi => ?_⟩
    have h1 := hat i (by omega)
    rw [hE, List.getElem?_eq_getElem hi, Option.bind_eq_some_iff] at h1
    obtain ⟨ecs, hcs, hr⟩ := h1
    obtain ⟨_, hl, hc⟩ := World.cells?_some hcs
    obtain ⟨b, o, spt⟩ := a
    have hspt : spt = none := by
      have h0 := hat 0 (by omega)
      rw [hE, List.getElem?_eq_getElem (show 0 < elems.length by omega), Option.bind_eq_some_iff] at h0
      obtain ⟨ecs0, hcs0, _⟩ := h0
      obtain ⟨_, hl0, hc0⟩ := World.cells?_some hcs0
      have hc00 := hc0 0 hk
      rw [List.getElem?_eq_getElem (by omega)] at hc00
      have := World.cell?_spot hc00
      simpa [Addr.add] using this
    subst hspt
    refine ⟨b, o, m, ecs, rfl, ?_, hl, fun j hj => ?_, hr⟩
    · have := World.cells?_block hcs hk
      simp only [Addr.add] at this
      split at this <;> simpa using this
    · have := hc j hj
      rw [Addr.add_lit, Addr.add_lit] at this
      exact this

def attrOf : DataW H → List UInt8 × List UInt8
  | .agg [.lit (.string a), .lit (.string b)] => (a, b)
  | _ => ([], [])
/-- how much attributes weigh -/
def wtA (l : List (List UInt8 × List UInt8)) : Nat := (l.map fun p => p.1.length + p.2.length + 1).sum
theorem attr_desc : ∃ f0 f1, Tryz.prog.underlying 63 = some (.struct #[f0, f1]) ∧ f0.type = 9 ∧ f1.type = 9 ∧ f0.offset = 0 ∧ f1.offset = 1 := by
  refine ⟨_, _, Tryz.underlying63, rfl, rfl, rfl, rfl⟩
theorem cellsAttr : Tryz.prog.cellsOf 63 = 2 := by kernel_rfl
theorem cellsStr1 : Tryz.prog.cellsOf 9 = 1 := by kernel_rfl
theorem cellsInt1 : Tryz.prog.cellsOf 3 = 1 := by kernel_rfl
theorem cellsKind1 : Tryz.prog.cellsOf 47 = 1 := by kernel_rfl
theorem cellsAttrs1 : Tryz.prog.cellsOf 48 = 1 := by kernel_rfl
theorem cellsEv : Tryz.prog.cellsOf 50 = 8 := by kernel_rfl
theorem getL {α : Type} {l : List α} {i : Nat} (hl : i < l.length) : l[i]? = some l[i] := List.getElem?_eq_getElem hl

set_option maxRecDepth 100000 in
theorem attr_read {cs : List Value} {x : DataW H × List MemPlace} (h : DataW.trod enc Tryz.prog w base sp held fuel 63 cs = some x) :
    cs = [.string (strL (attrOf x.1).1), .string (strL (attrOf x.1).2)] ∧ (attrOf x.1).1.length + (attrOf x.1).2.length + 1 ≤ Rows.uptoBulk x.1 := by
  obtain ⟨f0, f1, hu, t0, t1, o0, o1⟩ := attr_desc
  obtain ⟨xs, m, _, hx, hl, hxl, hat⟩ := DataW.trod_struct hu h
  have h0 := hat 0 f0 rfl
  have h1 := hat 1 f1 rfl
  rw [t0, o0, cellsStr1] at h0
  rw [t1, o1, cellsStr1] at h1
  rw [cellsAttr] at hl
  have hxl2 : xs.length = 2 := hxl
  rw [getL (show 0 < xs.length by omega)] at h0
  rw [getL (show 1 < xs.length by omega)] at h1
  obtain ⟨s0, e0, y0, _⟩ := DataW.trod_string Tryz.underlying9 h0
  obtain ⟨s1, e1, y1, _⟩ := DataW.trod_string Tryz.underlying9 h1
  match xs, hxl2 with
  | [p0, p1], _ =>
    match cs, hl with
    | [c0, c1], _ =>
      simp at e0 e1 y0 y1
      subst e0 e1 y0 y1
      rw [hx]
      simp only [List.map_cons, List.map_nil, attrOf, strL_of, Rows.uptoBulk, Rows.uptoBulkAll]
      exact ⟨trivial, by omega⟩

theorem wtA_le (l : List (DataW H)) (h : ∀ i, (hi : i < l.length) → (attrOf l[i]).1.length + (attrOf l[i]).2.length + 1 ≤ Rows.uptoBulk l[i]) : wtA (l.map attrOf) ≤ Rows.uptoBulkAll l := by
  induction l with
  | nil => simp [wtA, Rows.uptoBulkAll]
  | cons x r ih =>
    have h0 := h 0 (by simp)
    have := ih (fun i hi => by have := h (i + 1) (by simpa using hi); simpa using this)
    simp only [wtA, List.map_cons, List.sum_cons, Rows.uptoBulkAll, List.getElem_cons_zero] at *
    omega
def attrsOf : DataW H → List (List UInt8 × List UInt8)
  | .slice l _ => l.map attrOf
  | _ => []
theorem attrs_read {cs : List Value} {x : DataW H × List MemPlace} (h : DataW.trod enc Tryz.prog w base sp held fuel 48 cs = some x) :
    ∃ a n c, cs = [.slice a n c] ∧ n ≤ c ∧ AttrsAt w a n (attrsOf x.1) ∧ wtA (attrsOf x.1) ≤ Rows.uptoBulk x.1 := by
  obtain ⟨a, n, c, elems, rfl, hnc, hel, hx, hat⟩ := slice_read Tryz.underlying48 cellsAttr (by decide) h
  have hw := wtA_le (elems.map (·.1)) (fun i hi => by
    rw [List.length_map] at hi
    obtain ⟨_, _, m, ecs, _, _, _, _, hr⟩ := hat i hi
    rw [List.getElem_map]
    exact (attr_read hr).2)
  have key : AttrsAt w a n (elems.map fun e => attrOf e.1) := by
    refine ⟨by rw [List.length_map, hel], fun i hi => ?_⟩
    rw [List.length_map] at hi
    obtain ⟨b, o, m, ecs, e, hb, _, hc, hr⟩ := hat i hi
    obtain ⟨hcs, _⟩ := attr_read hr
    have c0 := hc 0 (by decide)
    have c1 := hc 1 (by decide)
    rw [hcs] at c0 c1
    rw [List.getElem_map]
    exact ⟨b, o, e, hb, c0, c1⟩
  refine ⟨a, n, c, rfl, hnc, ?_⟩
  rcases hx with rfl | ⟨rest, hx⟩
  · have : attrsOf x.1 = [] ∨ True := .inr trivial
    obtain rfl : n = 0 := by simpa using hel.symm
    rcases DataW.trod_slice Tryz.underlying48 h with ⟨_, hx⟩ | ⟨a2, len, cap, elems, rest, m, _, e, hx, _, _, _, hel2, _, _, _⟩
    · rw [hx]; exact ⟨⟨rfl, fun i hi => by simp [attrsOf] at hi⟩, by simp [attrsOf, wtA]⟩
    · simp at e
      have : elems = [] := List.eq_nil_of_length_eq_zero (by omega)
      subst this
      rw [hx]; exact ⟨⟨rfl, fun i hi => by simp [attrsOf] at hi⟩, by simp [attrsOf, wtA]⟩
  · rw [hx]
    simp only [attrsOf, List.map_map] at hw ⊢
    refine ⟨key, ?_⟩
    simp only [Rows.uptoBulk]
    have e : (List.map (attrOf ∘ fun x => x.1) elems) = elems.map fun e => attrOf e.1 := rfl
    omega

/-- an event, as data -/
structure Ev where
  kind : Int
  num : Int
  dep : Int
  name : List UInt8
  ats : List (List UInt8 × List UInt8)
  text : List UInt8
  fr : Int
  tt : Int
def evOf : DataW H → Ev
  | .agg [.lit (.int _ kind), .lit (.int _ num), .lit (.int _ dep), .lit (.string name), d, .lit (.string text), .lit (.int _ fr), .lit (.int _ tt)] => ⟨kind, num, dep, name, attrsOf d, text, fr, tt⟩
  | _ => ⟨0, 0, 0, [], [], [], 0, 0⟩
def wtE (e : Ev) : Nat := e.name.length + e.text.length + wtA e.ats + 1
/-- an event's cells in memory -/
def EvCells (w : World) (cs : List Value) (e : Ev) : Prop := ∃ a n c, cs = (evC e.kind e.num e.dep e.name a n c e.text e.fr e.tt).toList ∧ n ≤ c ∧ AttrsAt w a n e.ats
theorem ev_desc : ∃ f0 f1 f2 f3 f4 f5 f6 f7, Tryz.prog.underlying 50 = some (.struct #[f0, f1, f2, f3, f4, f5, f6, f7]) ∧
    (f0.type = 47 ∧ f1.type = 3 ∧ f2.type = 3 ∧ f3.type = 9 ∧ f4.type = 48 ∧ f5.type = 9 ∧ f6.type = 3 ∧ f7.type = 3) ∧
    (f0.offset = 0 ∧ f1.offset = 1 ∧ f2.offset = 2 ∧ f3.offset = 3 ∧ f4.offset = 4 ∧ f5.offset = 5 ∧ f6.offset = 6 ∧ f7.offset = 7) := by
  refine ⟨_, _, _, _, _, _, _, _, Tryz.underlying50, ⟨rfl, rfl, rfl, rfl, rfl, rfl, rfl, rfl⟩, ⟨rfl, rfl, rfl, rfl, rfl, rfl, rfl, rfl⟩⟩

set_option maxRecDepth 100000 in
set_option maxHeartbeats 1000000 in
theorem event_read {cs : List Value} {x : DataW H × List MemPlace} (h : DataW.trod enc Tryz.prog w base sp held fuel 50 cs = some x) :
    EvCells w cs (evOf x.1) ∧ wtE (evOf x.1) ≤ Rows.uptoBulk x.1 ∧ (Lit.int .i64 (evOf x.1).kind).wf = true := by
  obtain ⟨f0, f1, f2, f3, f4, f5, f6, f7, hu, ⟨t0, t1, t2, t3, t4, t5, t6, t7⟩, ⟨o0, o1, o2, o3, o4, o5, o6, o7⟩⟩ := ev_desc
  obtain ⟨xs, m, _, hx, hl, hxl, hat⟩ := DataW.trod_struct hu h
  have h0 := hat 0 f0 rfl
  have h1 := hat 1 f1 rfl
  have h2 := hat 2 f2 rfl
  have h3 := hat 3 f3 rfl
  have h4 := hat 4 f4 rfl
  have h5 := hat 5 f5 rfl
  have h6 := hat 6 f6 rfl
  have h7 := hat 7 f7 rfl
  clear hat
  rw [t0, o0, cellsKind1] at h0
  rw [t1, o1, cellsInt1] at h1
  rw [t2, o2, cellsInt1] at h2
  rw [t3, o3, cellsStr1] at h3
  rw [t4, o4, cellsAttrs1] at h4
  rw [t5, o5, cellsStr1] at h5
  rw [t6, o6, cellsInt1] at h6
  rw [t7, o7, cellsInt1] at h7
  rw [cellsEv] at hl
  have hxl8 : xs.length = 8 := hxl
  match xs, hxl8 with
  | [p0, p1, p2, p3, p4, p5, p6, p7], _ =>
    match cs, hl with
    | [c0, c1, c2, c3, c4, c5, c6, c7], _ =>
      obtain ⟨n0, e0, y0, w0⟩ := DataW.trod_int Tryz.underlying47 h0
      obtain ⟨n1, e1, y1, _⟩ := DataW.trod_int Tryz.underlying3 h1
      obtain ⟨n2, e2, y2, _⟩ := DataW.trod_int Tryz.underlying3 h2
      obtain ⟨s3, e3, y3, _⟩ := DataW.trod_string Tryz.underlying9 h3
      obtain ⟨a, n, c, e4, hnc, hA, hw⟩ := attrs_read h4
      obtain ⟨s5, e5, y5, _⟩ := DataW.trod_string Tryz.underlying9 h5
      obtain ⟨n6, e6, y6, _⟩ := DataW.trod_int Tryz.underlying3 h6
      obtain ⟨n7, e7, y7, _⟩ := DataW.trod_int Tryz.underlying3 h7
      simp at e0 e1 e2 e3 e4 e5 e6 e7
      subst e0 e1 e2 e3 e4 e5 e6 e7
      subst y0 y1 y2 y3 y5 y6 y7
      rw [hx]
      simp only [List.map_cons, List.map_nil, evOf, wtE, Rows.uptoBulk, Rows.uptoBulkAll]
      refine ⟨⟨a, n, c, by simp [evC, strL_of], hnc, hA⟩, by omega, w0⟩
end
theorem EvCells.below {w w' : World} {cs : List Value} {e : Ev} (h : EvCells w cs e) (hb : Below w.heap.size w w') : EvCells w' cs e := by
  obtain ⟨a, n, c, h1, h2, h3⟩ := h
  exact ⟨a, n, c, h1, h2, h3.below hb⟩
theorem wtA_mem (l : List (List UInt8 × List UInt8)) : ∀ p ∈ l, p.1.length + p.2.length + 1 ≤ wtA l := by
  induction l with
  | nil => intro p hp; cases hp
  | cons q l ih =>
    intro p hp
    simp only [wtA, List.map_cons, List.sum_cons]
    rcases List.mem_cons.1 hp with rfl | hp
    · omega
    · have := ih p hp; simp only [wtA] at this; omega
theorem wtA_length (l : List (List UInt8 × List UInt8)) : l.length ≤ wtA l := by
  induction l with
  | nil => simp [wtA]
  | cons q l ih => simp only [wtA, List.map_cons, List.sum_cons, List.length_cons] at *; omega
/-- what an event adds -/
def evOut (e : Ev) : List UInt8 := eventW e.kind e.name e.ats e.text
theorem textL_len (l : List UInt8) : (replL textPs l).length ≤ 6 * l.length := by
  induction l with
  | nil => simp [replL]
  | cons b l ih =>
    have h : ∀ n : Fin 256, (form textPs (UInt8.ofNat n)).length ≤ 6 := by decide +kernel
    have hb := h ⟨b.toNat, b.toNat_lt⟩
    simp only [UInt8.ofNat_toNat] at hb
    simp only [replL, List.flatMap_cons, List.length_append, List.length_cons] at *
    omega
theorem evOut_len (e : Ev) : (evOut e).length ≤ 8 * wtE e := by
  have ha : ∀ l : List (List UInt8 × List UInt8), (l.flatMap attrW).length ≤ 8 * wtA l := by
    intro l
    induction l with
    | nil => simp [wtA]
    | cons p l ih =>
      have := replL_vlen p.2
      simp only [wtA, List.flatMap_cons, List.length_append, List.map_cons, List.sum_cons, attrW, List.length_cons, List.length_nil] at *
      omega
  have h1 := ha e.ats
  have h2 := textL_len e.text
  unfold evOut eventW wtE
  split
  · simp only [List.length_append, List.length_cons, List.length_nil]; omega
  · split
    · omega
    · split
      · simp only [List.length_append, List.length_cons, List.length_nil]; omega
      · simp
/-- canon.Event at an event in memory -/
theorem Event_cells {w : World} {cs : List Value} {e : Ev} (h : EvCells w cs e) (hw : wtE e ≤ 1048576) :
    Calls Tryz.prog 48 #[.agg cs.toArray] w fun r w' => r = .returned (.string (strL (evOut e))) ∧ Below w.heap.size w w' := by
  obtain ⟨a, n, c, rfl, _, h3⟩ := h
  unfold wtE at hw
  have hn : n ≤ 1048576 := by have := wtA_length e.ats; have := h3.1; omega
  exact Event_any e.kind e.num e.dep e.fr e.tt e.name e.text a n c e.ats w h3 hn (by omega) (by omega) (fun p hp => by have := wtA_mem e.ats p hp; omega)
end Go.Proofs.YtopfbngdbhofkaaGreatDoor

/-
  The plain law of documents' events: which may come next.
-/
namespace Go.Proofs.YtopfbngdbhofkaaGreatDoor
open Go.RowKit

/-- names rising, values of allowed characters -/
def attrsB : Option (List UInt8) → List (List UInt8 × List UInt8) → Bool
  | _, [] => true
  | q, p :: r => nameB p.1 && textsB p.2 && (match q with | none => true | some q => Op.bytesLess q p.1) && attrsB (some p.1) r
/-- what has come so far: the open elements (the last one first), the next number, was the last one a text, how many events -/
structure BegS where
  opn : List (Int × Int × List UInt8)
  next : Int
  text : Bool
  cnt : Nat
def beg0 : BegS := ⟨[], 0, false, 0⟩
/-- may this event come next? -/
def begOk (s : BegS) (e : Ev) : Bool :=
  if e.kind = 0 then decide ((s.cnt = 0 ∨ s.opn ≠ []) ∧ e.num = s.next ∧ e.dep = (s.opn.length : Int) + 1 ∧ e.text = []) && nameB e.name && attrsB none e.ats
  else if e.kind = 1 then decide (s.opn ≠ [] ∧ e.num = s.next ∧ e.dep = (s.opn.length : Int) + 1 ∧ e.name = [] ∧ e.ats = [] ∧ e.text ≠ []) && textsB e.text && !s.text
  else if e.kind = 2 then decide (e.text = [] ∧ e.ats = [] ∧ s.opn.head? = some (e.num, e.dep, e.name))
  else false
def begNext (s : BegS) (e : Ev) : BegS :=
  ⟨if e.kind = 0 then (e.num, e.dep, e.name) :: s.opn else if e.kind = 2 then s.opn.tail else s.opn, if e.kind = 2 then s.next else s.next + 1, e.kind == 1, s.cnt + 1⟩
/-- of all events: what they come to, if all may come -/
def begAll : BegS → List Ev → Option BegS
  | s, [] => some s
  | s, e :: l => if begOk s e = true then begAll (begNext s e) l else none
/-- are they all of a document? -/
def wholeB (l : List Ev) : Bool := match begAll beg0 l with
  | some s => decide (l ≠ [] ∧ s.opn = [])
  | none => false
theorem begAll_snoc (s : BegS) (l : List Ev) (e : Ev) : begAll s (l ++ [e]) = (begAll s l).bind fun t => if begOk t e = true then some (begNext t e) else none := by
  induction l generalizing s with
  | nil => simp only [List.nil_append, begAll, Option.bind_some]
  | cons x l ih =>
    simp only [List.cons_append, begAll]
    split
    · exact ih _
    · rfl
theorem begAll_app (s : BegS) (l m : List Ev) : begAll s (l ++ m) = (begAll s l).bind fun t => begAll t m := by
  induction l generalizing s with
  | nil => rfl
  | cons x l ih =>
    simp only [List.cons_append, begAll]
    split
    · exact ih _
    · rfl
end Go.Proofs.YtopfbngdbhofkaaGreatDoor

/-
  The plain law of the nodes of a document's events: where each begins and ends.
-/
namespace Go.Proofs.YtopfbngdbhofkaaGreatDoor
open Go.RowKit

/-- a node: where its event stands, what it is in, the last one in it, behind which event it ends -/
structure Nd where
  pos : Nat
  par : Int
  last : Int
  fin : Nat
/-- what an event makes of the nodes -/
def ndNext (s : BegS) (nds : List Nd) (e : Ev) : List Nd :=
  if e.kind = 2 then nds.modify e.num.toNat (fun x => ⟨x.pos, x.par, (nds.length : Int) - 1, s.cnt + 1⟩)
  else nds ++ [⟨s.cnt, (s.opn.head?.map (·.1)).getD (-1), e.num, s.cnt + 1⟩]
def ndAll : BegS → List Nd → List Ev → List Nd
  | _, nds, [] => nds
  | s, nds, e :: l => ndAll (begNext s e) (ndNext s nds e) l
/-- the nodes of events -/
def nodesB (l : List Ev) : List Nd := ndAll beg0 [] l

structure NdInv (pre : List Ev) (s : BegS) (nds : List Nd) : Prop where
  cnt : s.cnt = pre.length
  nxt : s.next = (nds.length : Int)
  opn : ∀ x ∈ s.opn, 0 ≤ x.1 ∧ x.1 < s.next
  srt : s.opn.Pairwise (fun a b => b.1 < a.1)
  here : ∀ (n : Nat) (x : Nd), nds[n]? = some x → ∃ e, pre[x.pos]? = some e ∧ e.kind ≠ 2 ∧ e.num = (n : Int)
  beg : ∀ (j : Nat) (e : Ev), pre[j]? = some e → e.kind ≠ 2 → 0 ≤ e.num ∧ ∃ x, nds[e.num.toNat]? = some x ∧ x.pos = j
  fin : ∀ (j : Nat) (e : Ev), pre[j]? = some e → e.kind ≠ 0 → 0 ≤ e.num ∧ (∀ x ∈ s.opn, x.1 ≠ e.num) ∧ ∃ x, nds[e.num.toNat]? = some x ∧ x.fin = j + 1
  rng : ∀ (n : Nat) (x : Nd), nds[n]? = some x → x.pos < x.fin ∧ x.fin ≤ pre.length
theorem NdInv.start : NdInv [] beg0 [] :=
  ⟨rfl, rfl, fun x h => (by cases h), List.Pairwise.nil, fun n x h => (by cases h), fun j e h => (by cases h), fun j e h => (by cases h), fun n x h => (by cases h)⟩
theorem snoc_get {α : Type} {l : List α} {x y : α} {j : Nat} (h : (l ++ [x])[j]? = some y) : (j < l.length ∧ l[j]? = some y) ∨ (j = l.length ∧ y = x) := by
  rcases Nat.lt_trichotomy j l.length with h1 | h1 | h1
  · rw [List.getElem?_append_left h1] at h; exact .inl ⟨h1, h⟩
  · subst h1; simp at h; exact .inr ⟨rfl, h.symm⟩
  · rw [List.getElem?_append_right (by omega)] at h
    have : ([x] : List α)[j - l.length]? = none := List.getElem?_eq_none (by simp; omega)
    rw [this] at h; cases h
theorem get_lt {α : Type} {l : List α} {y : α} {j : Nat} (h : l[j]? = some y) : j < l.length := (List.getElem?_eq_some_iff.1 h).1
theorem get_snoc {α : Type} {l : List α} {x y : α} {j : Nat} (h : l[j]? = some y) : (l ++ [x])[j]? = some y := by rw [List.getElem?_append_left (get_lt h)]; exact h
theorem get_last {α : Type} (l : List α) (x : α) : (l ++ [x])[l.length]? = some x := by simp
/-- what begOk says of the number -/
theorem begOk_new {s : BegS} {e : Ev} (h : begOk s e = true) (hk : e.kind ≠ 2) : e.num = s.next ∧ (e.kind = 0 ∨ e.kind = 1) := by
  unfold begOk at h
  by_cases h0 : e.kind = 0
  · rw [if_pos h0] at h
    simp only [Bool.and_eq_true, decide_eq_true_eq] at h
    exact ⟨h.1.1.2.1, .inl h0⟩
  · by_cases h1 : e.kind = 1
    · rw [if_neg h0, if_pos h1] at h
      simp only [Bool.and_eq_true, decide_eq_true_eq] at h
      exact ⟨h.1.1.2.1, .inr h1⟩
    · rw [if_neg h0, if_neg h1, if_neg hk] at h
      cases h
theorem begOk_close {s : BegS} {e : Ev} (h : begOk s e = true) (hk : e.kind = 2) : s.opn.head? = some (e.num, e.dep, e.name) := by
  unfold begOk at h
  rw [if_neg (by omega), if_neg (by omega), if_pos hk] at h
  simp only [decide_eq_true_eq] at h
  exact h.2.2
theorem NdInv.step {pre : List Ev} {s : BegS} {nds : List Nd} {e : Ev} (h : NdInv pre s nds) (he : begOk s e = true) : NdInv (pre ++ [e]) (begNext s e) (ndNext s nds e) := by
  obtain ⟨h1, h2, h3, h4, h5, h6, h7, h8⟩ := h
  by_cases hk : e.kind = 2
  · have hh := begOk_close he hk
    obtain ⟨rest, hr⟩ : ∃ rest, s.opn = (e.num, e.dep, e.name) :: rest := by
      cases ho : s.opn with
      | nil => rw [ho] at hh; cases hh
      | cons a r => rw [ho] at hh; simp at hh; exact ⟨r, by rw [hh]⟩
    have hnum := h3 _ (by rw [hr]; exact List.mem_cons_self)
    simp only at hnum
    have hm : ∀ (n : Nat) (x : Nd), (ndNext s nds e)[n]? = some x → ∃ y, nds[n]? = some y ∧ x.pos = y.pos ∧ (x.fin = s.cnt + 1 ∨ x.fin = y.fin) := by
      intro n x hx
      unfold ndNext at hx
      rw [if_pos hk, List.getElem?_modify] at hx
      cases hy : nds[n]? with
      | none => rw [hy] at hx; simp at hx
      | some y =>
        rw [hy] at hx
        by_cases hn : e.num.toNat = n
        · simp [hn] at hx; subst hx; exact ⟨y, rfl, rfl, .inl rfl⟩
        · simp [hn] at hx; subst hx; exact ⟨y, rfl, rfl, .inr rfl⟩
    have hm2 : ∀ (n : Nat) (y : Nd), nds[n]? = some y → ∃ x, (ndNext s nds e)[n]? = some x ∧ x.pos = y.pos ∧ (n ≠ e.num.toNat → x.fin = y.fin) ∧ (n = e.num.toNat → x.fin = s.cnt + 1) := by
      intro n y hy
      unfold ndNext
      rw [if_pos hk, List.getElem?_modify, hy]
      by_cases hn : e.num.toNat = n
      · exact ⟨⟨y.pos, y.par, (nds.length : Int) - 1, s.cnt + 1⟩, by simp [hn], rfl, fun h => absurd hn.symm h, fun _ => rfl⟩
      · exact ⟨y, by simp [hn], rfl, fun _ => rfl, fun h => absurd h.symm hn⟩
    have hlen : (ndNext s nds e).length = nds.length := by unfold ndNext; rw [if_pos hk, List.length_modify]
    have hnx : (begNext s e).next = s.next := by unfold begNext; simp [hk]
    have hop : (begNext s e).opn = rest := by unfold begNext; simp [hk, hr]
    rw [hr] at h4
    have hp := List.pairwise_cons.1 h4
    refine ⟨by simp [begNext, h1], by rw [hnx, hlen]; exact h2, ?_, by rw [hop]; exact hp.2, ?_, ?_, ?_, ?_⟩
    · intro x hx
      rw [hop] at hx
      rw [hnx]
      exact h3 x (by rw [hr]; exact List.mem_cons_of_mem _ hx)
    · intro n x hx
      obtain ⟨y, hy, hp, _⟩ := hm n x hx
      obtain ⟨e', h', h''⟩ := h5 n y hy
      exact ⟨e', by rw [hp]; exact get_snoc h', h''⟩
    · intro j e' hj hk'
      rcases snoc_get hj with ⟨_, hj⟩ | ⟨_, rfl⟩
      · obtain ⟨ha, y, hy, hp⟩ := h6 j e' hj hk'
        obtain ⟨x, hx, hxp, _⟩ := hm2 _ y hy
        exact ⟨ha, x, hx, by rw [hxp, hp]⟩
      · exact absurd hk hk'
    · intro j e' hj hk'
      rcases snoc_get hj with ⟨_, hj⟩ | ⟨hjl, rfl⟩
      · obtain ⟨ha, hb, y, hy, hf⟩ := h7 j e' hj hk'
        obtain ⟨x, hx, _, hxf, _⟩ := hm2 _ y hy
        have hne := hb _ (by rw [hr]; exact List.mem_cons_self)
        simp only at hne
        exact ⟨ha, fun z hz => hb z (by rw [hr]; rw [hop] at hz; exact List.mem_cons_of_mem _ hz), x, hx, by rw [hxf (by omega), hf]⟩
      · have hlt : e'.num.toNat < nds.length := by omega
        obtain ⟨x, hx, _, _, hxf⟩ := hm2 _ _ (List.getElem?_eq_getElem hlt)
        refine ⟨hnum.1, fun z hz => ?_, x, hx, by rw [hxf rfl, h1, hjl]⟩
        rw [hop] at hz
        have := hp.1 z hz
        simp only at this
        omega
    · intro n x hx
      obtain ⟨y, hy, hp, hf⟩ := hm n x hx
      have := h8 n y hy
      rw [List.length_append, List.length_singleton]
      rcases hf with hf | hf <;> rw [hf, hp] <;> omega
  · obtain ⟨hn, hk01⟩ := begOk_new he hk
    have hnd : ndNext s nds e = nds ++ [⟨s.cnt, (s.opn.head?.map (·.1)).getD (-1), e.num, s.cnt + 1⟩] := by unfold ndNext; rw [if_neg hk]
    rw [hnd]
    have hnx : (begNext s e).next = s.next + 1 := by unfold begNext; simp [hk]
    have hen : e.num.toNat = nds.length := by omega
    have hop : ∀ x ∈ (begNext s e).opn, x ∈ s.opn ∨ (e.kind = 0 ∧ x.1 = e.num) := by
      intro x hx
      unfold begNext at hx
      simp only [hk, if_false] at hx
      by_cases h0 : e.kind = 0
      · rw [if_pos h0] at hx
        rcases List.mem_cons.1 hx with rfl | hx
        · exact .inr ⟨h0, rfl⟩
        · exact .inl hx
      · rw [if_neg h0] at hx; exact .inl hx
    refine ⟨by simp [begNext, h1], by rw [hnx, h2]; simp, ?_, ?_, ?_, ?_, ?_, ?_⟩
    · intro x hx
      rw [hnx]
      rcases hop x hx with h | ⟨_, h⟩
      · have := h3 x h; omega
      · omega
    · unfold begNext
      simp only [hk, if_false]
      by_cases h0 : e.kind = 0
      · rw [if_pos h0]
        exact List.pairwise_cons.2 ⟨fun z hz => by have := h3 z hz; simp only; omega, h4⟩
      · rw [if_neg h0]; exact h4
    · intro n x hx
      rcases snoc_get hx with ⟨_, hx⟩ | ⟨hn', rfl⟩
      · obtain ⟨e', h', h''⟩ := h5 n x hx
        exact ⟨e', get_snoc h', h''⟩
      · exact ⟨e, by simp only [h1]; exact get_last _ _, hk, by omega⟩
    · intro j e' hj hk'
      rcases snoc_get hj with ⟨_, hj⟩ | ⟨hjl, rfl⟩
      · obtain ⟨ha, y, hy, hp⟩ := h6 j e' hj hk'
        exact ⟨ha, y, get_snoc hy, hp⟩
      · exact ⟨by omega, _, by rw [hen]; exact get_last _ _, by simp only; omega⟩
    · intro j e' hj hk'
      rcases snoc_get hj with ⟨_, hj⟩ | ⟨hjl, rfl⟩
      · obtain ⟨ha, hb, y, hy, hf⟩ := h7 j e' hj hk'
        refine ⟨ha, fun z hz => ?_, y, get_snoc hy, hf⟩
        rcases hop z hz with h | ⟨_, h⟩
        · exact hb z h
        · have := get_lt hy; omega
      · refine ⟨by omega, fun z hz => ?_, _, by rw [hen]; exact get_last _ _, by simp only; omega⟩
        rcases hop z hz with h | ⟨h, _⟩
        · have := h3 z h; omega
        · exact absurd h hk'
    · intro n x hx
      rw [List.length_append, List.length_singleton]
      rcases snoc_get hx with ⟨_, hx⟩ | ⟨_, rfl⟩
      · have := h8 n x hx; omega
      · simp only; omega
theorem NdInv.all {pre : List Ev} {s : BegS} {nds : List Nd} (h : NdInv pre s nds) : ∀ (l : List Ev) {t : BegS}, begAll s l = some t → NdInv (pre ++ l) t (ndAll s nds l) := by
  intro l
  induction l generalizing pre s nds with
  | nil => intro t ht; simp only [begAll, Option.some.injEq] at ht; subst ht; simpa [ndAll] using h
  | cons e l ih =>
    intro t ht
    unfold begAll at ht
    split at ht
    · rename_i he
      have := ih (h.step he) ht
      simpa [ndAll] using this
    · cases ht
theorem nodesB_inv {l : List Ev} {t : BegS} (h : begAll beg0 l = some t) : NdInv l t (nodesB l) := by
  have := NdInv.start.all l h
  unfold nodesB
  simpa using this
theorem ndAll_snoc (s : BegS) (nds : List Nd) (l : List Ev) (e : Ev) {t : BegS} (h : begAll s l = some t) : ndAll s nds (l ++ [e]) = ndNext t (ndAll s nds l) e := by
  induction l generalizing s nds with
  | nil => simp only [begAll, Option.some.injEq] at h; subst h; rfl
  | cons x l ih =>
    unfold begAll at h
    split at h
    · exact ih _ _ h
    · cases h
/-- a beginning of events that may come may come -/
theorem begAll_take {s t : BegS} {l : List Ev} (h : begAll s l = some t) (i : Nat) : ∃ u, begAll s (l.take i) = some u := by
  have h2 := h
  rw [← List.take_append_drop i l, begAll_app] at h2
  cases h3 : begAll s (l.take i) with
  | none => rw [h3] at h2; cases h2
  | some u => exact ⟨u, rfl⟩
theorem begAll_at {s t : BegS} {l : List Ev} (h : begAll s l = some t) (i : Nat) (hi : i < l.length) {u : BegS} (hu : begAll s (l.take i) = some u) : begOk u l[i] = true ∧ begAll s (l.take (i + 1)) = some (begNext u l[i]) := by
  have h2 := h
  rw [← List.take_append_drop i l, begAll_app, hu, List.drop_eq_getElem_cons hi] at h2
  simp only [Option.bind_some, begAll] at h2
  split at h2
  · rename_i hok
    refine ⟨hok, ?_⟩
    rw [List.take_succ_eq_append_getElem hi, begAll_snoc, hu]
    simp [hok]
  · cases h2
/-- where a node of a beginning begins it begins in the whole -/
theorem nodesB_pos {l : List Ev} {t : BegS} (h : begAll beg0 l = some t) (i n : Nat) (x : Nd) (hx : (nodesB (l.take i))[n]? = some x) : ∃ y, (nodesB l)[n]? = some y ∧ y.pos = x.pos := by
  obtain ⟨u, hu⟩ := begAll_take h i
  obtain ⟨e, he, hk, hn⟩ := (nodesB_inv hu).here n x hx
  have he2 : l[x.pos]? = some e := by
    rw [List.getElem?_take] at he
    split at he
    · exact he
    · cases he
  obtain ⟨_, y, hy, hp⟩ := (nodesB_inv h).beg x.pos e he2 hk
  rw [hn, Int.toNat_natCast] at hy
  exact ⟨y, hy, hp⟩
end Go.Proofs.YtopfbngdbhofkaaGreatDoor

/-
  The plain law of the nodes of a document: where the last one in each lies.
-/
namespace Go.Proofs.YtopfbngdbhofkaaGreatDoor
open Go.RowKit

/-- each node's last is itself or behind it, and there -/
def NdLast (nds : List Nd) : Prop := ∀ (n : Nat) (x : Nd), nds[n]? = some x → (n : Int) ≤ x.last ∧ x.last < nds.length
theorem NdLast.step {pre : List Ev} {s : BegS} {nds : List Nd} {e : Ev} (hi : NdInv pre s nds) (h : NdLast nds) (he : begOk s e = true) : NdLast (ndNext s nds e) := by
  intro n x hx
  by_cases hk : e.kind = 2
  · have hh := begOk_close he hk
    obtain ⟨rest, hr⟩ : ∃ rest, s.opn = (e.num, e.dep, e.name) :: rest := by
      cases ho : s.opn with
      | nil => rw [ho] at hh; cases hh
      | cons a r => rw [ho] at hh; simp at hh; exact ⟨r, by rw [hh]⟩
    have hnum := hi.opn _ (by rw [hr]; exact List.mem_cons_self)
    simp only at hnum
    have hnx := hi.nxt
    have hlen : (ndNext s nds e).length = nds.length := by unfold ndNext; rw [if_pos hk, List.length_modify]
    rw [hlen]
    unfold ndNext at hx
    rw [if_pos hk, List.getElem?_modify] at hx
    cases hy : nds[n]? with
    | none => rw [hy] at hx; simp at hx
    | some y =>
      rw [hy] at hx
      have hnl := get_lt hy
      by_cases hn : e.num.toNat = n
      · simp [hn] at hx
        subst hx
        simp only
        omega
      · simp [hn] at hx
        subst hx
        exact h n y hy
  · have hnum := (begOk_new he hk).1
    have hnx := hi.nxt
    unfold ndNext at hx ⊢
    rw [if_neg hk] at hx ⊢
    rw [List.length_append]
    rcases snoc_get hx with ⟨_, hx⟩ | ⟨rfl, rfl⟩
    · have := h n x hx
      simp
      omega
    · simp
      omega
theorem NdLast.all {pre : List Ev} {s : BegS} {nds : List Nd} (hi : NdInv pre s nds) (h : NdLast nds) : ∀ (l : List Ev) {t : BegS}, begAll s l = some t → NdLast (ndAll s nds l) := by
  intro l
  induction l generalizing pre s nds with
  | nil => intro t _; exact h
  | cons e l ih =>
    intro t ht
    unfold begAll at ht
    split at ht
    · rename_i he
      exact ih (hi.step he) (h.step hi he) ht
    · cases ht
theorem nodesB_last {l : List Ev} {t : BegS} (h : begAll beg0 l = some t) : NdLast (nodesB l) :=
  NdLast.all NdInv.start (fun n x hx => by simp at hx) l h
/-- where node i ends -/
def lastN (evs : List Ev) (i : Nat) : Nat := ((nodesB evs)[i]?.map (·.last.toNat)).getD 0
theorem lastN_rng {l : List Ev} {t : BegS} (h : begAll beg0 l = some t) : ∀ i, i < (nodesB l).length → i ≤ lastN l i ∧ lastN l i < (nodesB l).length := by
  intro i hi
  have := nodesB_last h i _ (List.getElem?_eq_getElem hi)
  unfold lastN
  rw [List.getElem?_eq_getElem hi]
  simp only [Option.map_some, Option.getD_some]
  omega
theorem lastN_at {l : List Ev} {t : BegS} (h : begAll beg0 l = some t) {i : Nat} {x : Nd} (hx : (nodesB l)[i]? = some x) : ((lastN l i : Nat) : Int) = x.last := by
  have := nodesB_last h i x hx
  unfold lastN
  rw [hx]
  simp only [Option.map_some, Option.getD_some]
  omega
/-- the text of node i, if it is one -/
def ndTxt (evs : List Ev) (i : Nat) : List UInt8 := (((nodesB evs)[i]?.bind fun x => evs[x.pos]?).map (·.text)).getD []
theorem wholeB_some {l : List Ev} (h : wholeB l = true) : ∃ t, begAll beg0 l = some t ∧ l ≠ [] ∧ t.opn = [] := by
  unfold wholeB at h
  cases hst : begAll beg0 l with
  | none => rw [hst] at h; cases h
  | some st => rw [hst] at h; simp only [decide_eq_true_eq] at h; exact ⟨st, rfl, h⟩
theorem wholeB_pos {l : List Ev} (h : wholeB l = true) : 0 < (nodesB l).length := by
  obtain ⟨t, ht, hne, _⟩ := wholeB_some h
  have hinv := nodesB_inv ht
  obtain ⟨e, l', rfl⟩ := List.exists_cons_of_ne_nil hne
  have h0 : begOk beg0 e = true := by
    unfold begAll at ht
    split at ht
    · assumption
    · cases ht
  have hk : e.kind ≠ 2 := by
    intro hk
    have := begOk_close h0 hk
    simp [beg0] at this
  obtain ⟨_, x, hx, _⟩ := hinv.beg 0 e rfl hk
  have := get_lt hx
  omega
end Go.Proofs.YtopfbngdbhofkaaGreatDoor
