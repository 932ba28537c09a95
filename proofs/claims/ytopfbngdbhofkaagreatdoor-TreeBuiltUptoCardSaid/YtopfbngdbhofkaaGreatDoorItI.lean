/-
  What a round of a loop over an iterator keeps, but for some blocks.
-/
import Derived.Test.YtopfbngdbhofkaaGreatDoorItB
import Derived.RangeFuncNested
import Derived.RangeFuncBox
import Derived.RangeFuncLeaves
import Derived.Maps.AppendAt
import Derived.Deep.Upon
import Derived.Test.YtopfbngdbhofkaaGreatDoorItH
namespace Go.Proofs.YtopfbngdbhofkaaGreatDoor
open Go.RowKit

/-- below D nothing has turned but blocks of X -/
structure KpX (X : Nat → Prop) (D : Nat) (A B : World) : Prop where
  os : B.os = A.os
  tape : B.tape = A.tape
  output : B.output = A.output
  size : A.heap.size ≤ B.heap.size
  block : ∀ k, k < D → ¬ X k → B.heap[k]? = A.heap[k]?
theorem KpX.refl (X : Nat → Prop) (D : Nat) (A : World) : KpX X D A A := ⟨rfl, rfl, rfl, Nat.le_refl _, fun _ _ _ => rfl⟩
theorem KpX.trans {X : Nat → Prop} {D : Nat} {A B C : World} (h : KpX X D A B) (k : KpX X D B C) : KpX X D A C :=
  ⟨k.os.trans h.os, k.tape.trans h.tape, k.output.trans h.output, Nat.le_trans h.size k.size, fun i h1 h2 => (k.block i h1 h2).trans (h.block i h1 h2)⟩
theorem KpX.weak {X Y : Nat → Prop} {D E : Nat} {A B : World} (h : KpX X D A B) (hE : E ≤ D) (hX : ∀ k, k < E → X k → Y k) : KpX Y E A B :=
  ⟨h.os, h.tape, h.output, h.size, fun i h1 h2 => h.block i (by omega) (fun hx => h2 (hX i h1 hx))⟩
theorem KpX.of_below {X : Nat → Prop} {D : Nat} {A B : World} (h : Below D A B) : KpX X D A B := ⟨h.os, h.tape, h.output, h.size, fun i h1 _ => h.block i h1⟩
theorem KpX.below {X : Nat → Prop} {D E : Nat} {A B : World} (h : KpX X D A B) (hE : E ≤ D) (hX : ∀ k, k < E → ¬ X k) : Below E A B := ⟨h.os, h.tape, h.output, h.size, fun i h1 => h.block i (by omega) (hX i h1)⟩
theorem KpX.set {X : Nat → Prop} {D : Nat} {A B : World} (h : KpX X D A B) {b : Nat} (hb : X b) (j : Nat) (u : Value) : KpX X D A (B.setCell ⟨b, j, none⟩ u) :=
  ⟨h.os, h.tape, h.output, by simp [World.setCell]; exact h.size, fun k h1 h2 => (Below.heap_setCell _ _ _ _ (fun e => by have e' : k = b := e; subst e'; exact h2 hb)).trans (h.block k h1 h2)⟩
theorem KpX.grown {X : Nat → Prop} {D : Nat} {A B C : World} {row : Option Nat} (h : KpX X D A B) (hg : B.grownBy C row) (hD : D ≤ B.heap.size) (hr : ∀ k, row = some k → D ≤ k ∨ X k) : KpX X D A C :=
  ⟨hg.os.trans h.os, hg.tape.trans h.tape, hg.output.trans h.output, Nat.le_trans h.size hg.size, fun k h1 h2 => (hg.block k (by omega) (fun e => by rcases hr k e.symm with h3 | h3; omega; exact h2 h3)).trans (h.block k h1 h2)⟩
theorem KpX.alloc {X : Nat → Prop} {D : Nat} {A B : World} (h : KpX X D A B) (hD : D ≤ B.heap.size) (o : Obj) : KpX X D A (B.alloc o) :=
  h.grown (World.grownBy_alloc B o none) hD (fun k e => by cases e)
theorem kpX_b {X : Nat → Prop} {D : Nat} {w : World} (hn : D ≤ w.heap.size) (W : World) (l : Nat) (o o' : Obj) (hl : w.heap.size ≤ l) (h : W.heap[l]? = some o) (_ : o.isCells = false) (_ : o.isWalk = false) : KpX X D W (W.putObj l o') :=
  (KpX.refl X D W).grown (grownBy_putObj' W l o') (by have := (Array.getElem?_eq_some_iff.1 h).1; omega) (fun k e => by cases e; exact .inl (by omega))
theorem ownFrom_kpX {β : Type} {X : Nat → Prop} {D B : Nat} {w₀ : World} (hn : D ≤ w₀.heap.size) (hB : D ≤ B) : OwnFrom B (fun (_ : β) W => KpX X D w₀ W) :=
  fun _ _ _ _ hs hg hr => hs.grown hg (Nat.le_trans hn hs.size) (fun k e => .inl (Nat.le_trans hB (hr k e).1))
/-- behind an append to a boxed row -/
theorem boxApp {X : Nat → Prop} {W w1 : World} {D B : Nat} {t e : TypeId} {size : Nat} {v v' : Value} {k m : Nat} {xs ys : List Value} {tmp : Obj}
    (hv : Boxed W B t v) (hrow : W.ownsRow D e size v k xs) (hBD : B < D) (hX : X B) (hD : D ≤ W.heap.size) (hown' : w1.ownsRow D e size v' m ys) (hgrow : (W.alloc tmp).grownBy w1 v.ownBlock) :
    Boxed w1 B t v ∧ Boxed (w1.setCell ⟨B, 0, none⟩ v') B t v' ∧ (w1.setCell ⟨B, 0, none⟩ v').ownsRow D e size v' m ys ∧ KeepsOthers W (w1.setCell ⟨B, 0, none⟩ v') ∧ KpX X D W (w1.setCell ⟨B, 0, none⟩ v') := by
  have hne : some B ≠ v.ownBlock := fun e => by have := (hrow.lt B e.symm).1; omega
  have hne' : v'.ownBlock ≠ some B := fun e => by have := (hown'.lt B e).1; omega
  have hv1 : Boxed w1 B t v := (hv.alloc tmp).kept hgrow hne
  refine ⟨hv1, hv1.set v', hown'.kept (grownBy_setCell' w1 B v') (.inr hne'), ?_, ?_⟩
  · refine ((KeepsOthers.alloc W tmp).trans (KeepsOthers.of_grownBy hgrow fun j o ej hj => ?_)).trans (KeepsOthers.setCell _ _ _)
    rcases (hrow.alloc tmp).2 with ⟨rfl, _⟩ | ⟨g, cap, cur, rfl, _, hgb, _⟩
    · simp [Value.ownBlock] at ej
    · obtain rfl : g = j := by simpa [Value.ownBlock] using ej
      rw [hgb] at hj; cases hj; rfl
  · refine (((KpX.refl X D W).alloc hD tmp).grown hgrow (by simp; omega) (fun k e => ?_)).set hX _ _
    exact .inl (hrow.lt k e).1
end Go.Proofs.YtopfbngdbhofkaaGreatDoor

/-
  Owned rows of elements of several cells: append of a whole row, a row that shrinks, its cells.
-/
namespace Go.Proofs.YtopfbngdbhofkaaGreatDoor
open Go.RowKit

/-- an owned row is a slice, its cells lie at the block's head -/
theorem own_slice {w : World} {base : Nat} {e : TypeId} {size : Nat} {v : Value} {n : Nat} {xs : List Value} (h : w.ownsRow base e size v n xs) :
    ∃ a c, v = .slice a n c ∧ n ≤ c ∧ (a = none → n = 0) ∧ ∀ ad, a = some ad → ∃ g, ad = ⟨g, 0, none⟩ ∧ base ≤ g ∧ g < w.heap.size ∧ w.frozen? ⟨g, 0, none⟩ = false ∧ ∀ j u, xs[j]? = some u → w.cell? ⟨g, j, none⟩ = some u := by
  have hc := fun g hg => h.cells (g := g) hg
  have hl := h.lt
  have h0 := h
  obtain ⟨h1, h2⟩ := h
  rcases h2 with ⟨rfl, rfl⟩ | ⟨g, cap, cur, rfl, hg, hh, h5, r⟩
  · exact ⟨none, 0, rfl, Nat.le_refl _, fun _ => rfl, fun ad h => by cases h⟩
  · refine ⟨_, cap, rfl, h5, fun h => (by cases h), fun ad he => ⟨g, (by cases he; rfl), hg, (hl g rfl).2, frozen_heap hh, fun j u hj => ?_⟩⟩
    have := hc g rfl j u hj
    unfold Addr.add at this
    split at this
    · rename_i h; subst h; exact this
    · simpa using this
/-- the slice of an owned row that is not empty -/
theorem own_some {w : World} {base : Nat} {e : TypeId} {size : Nat} {v : Value} {n : Nat} {xs : List Value} (h : w.ownsRow base e size v (n + 1) xs) :
    ∃ g c, v = .slice (some ⟨g, 0, none⟩) (n + 1) c ∧ n + 1 ≤ c ∧ base ≤ g ∧ g < w.heap.size ∧ w.frozen? ⟨g, 0, none⟩ = false ∧ ∀ j u, xs[j]? = some u → w.cell? ⟨g, j, none⟩ = some u := by
  obtain ⟨a, c, rfl, h1, h2, h3⟩ := own_slice h
  cases a with
  | none => have := h2 rfl; omega
  | some ad =>
    obtain ⟨g, rfl, h4⟩ := h3 _ rfl
    exact ⟨g, c, rfl, h1, h4⟩
/-- the last one is left out: the slice is shorter, what is owned, too -/
theorem own_pop {w : World} {base : Nat} {e : TypeId} {size : Nat} {g c n : Nat} {xs ys : List Value} (h : w.ownsRow base e size (.slice (some ⟨g, 0, none⟩) (n + 1) c) (n + 1) (xs ++ ys)) (hx : xs.length = n * size) :
    w.ownsRow base e size (.slice (some ⟨g, 0, none⟩) n c) n xs := by
  obtain ⟨h1, h2⟩ := h
  rcases h2 with ⟨h0, _⟩ | ⟨g', cap', cur, hv, hg, hh, hn, hcap, hsz, htake⟩
  · cases h0
  · cases hv
    refine ⟨hx, .inr ⟨g, c, cur, rfl, hg, hh, by omega, hcap, hsz, ?_⟩⟩
    have h3 : (cur.toList.take ((n + 1) * size)).take (n * size) = (xs ++ ys).take (n * size) := by rw [htake]
    rw [List.take_take, Nat.min_eq_left (Nat.mul_le_mul_right _ (by omega))] at h3
    rw [h3, ← hx, List.take_left']
    rfl
/-- append of a whole row, wherever it lies (nil, too), onto a row that is owned -/
theorem wpList_app_row {P : Program} (w : World) {ops : Array Oper} {rest : List Oper} {o : Oper} {a : Act} {Q : Exit → Act → World → Prop} (hgd : o.guard = none) (s x : Operand) (t : TypeId)
    (ho : o.op = .call { callee := .builtin .append, args := #[s, x], argTypes := #[t, t] })
    (base : Nat) (e : TypeId) (i : TypeInfo) (z : Value) (size bytes : Nat) (ht : P.underlying t = some (.slice e)) (hi : P.info? e = some i) (hz : i.zero = some z)
    (hsize : i.size = size) (hby : i.bytes = bytes) (hzs : z.cells.size = size) (hsz : 0 < size)
    (v : Value) (n : Nat) (xs : List Value) (hs : a.eval s = v) (hown : w.ownsRow base e size v n xs)
    (A : Option Addr) (m c : Nat) (news : List Value) (hx : a.eval x = .slice A m c) (hl : news.length = m * size) (hc : ∀ ad, A = some ad → ∀ j u, news[j]? = some u → w.cell? (ad.add j) = some u) (hA : A = none → m = 0) (h1 : ∀ u ∈ news, u.oneCell' = true)
    (hn : n + m ≤ 4294967296) (hbb : bytes ≤ 16384) (hbase : base ≤ w.heap.size)
    (h : ∀ v' w', w'.ownsRow base e size v' (n + m) (xs ++ news) → App w w' v v' → wpList P ops Q rest (a.put o.dst v') w') :
    wpList P ops Q (o :: rest) a w := by
  have hb : (n + m) * bytes ≤ 140737488355328 := Nat.le_trans (Nat.mul_le_mul hn hbb) (by decide)
  rcases A with _ | ad
  · have hm := hA rfl
    subst hm
    have hnews : news = [] := List.eq_nil_of_length_eq_zero (by omega)
    subst hnews
    obtain ⟨av, cv, rfl, hle, _, _⟩ := own_slice hown
    refine wpList_plain hgd fun K hK' => ?_
    have hrun := run_append_nothing (P := P) w t t o.type e i ht hi av n cv hle _ (Src.ofNil (P := P) (size := i.size) w ht c)
    unfold Oper.wp
    simp [execOp, ho, resolve, invoke, builtin, hs, hx, hrun, Result.andThen]
    exact hK' _ _ (h _ _ (by simpa using hown) ⟨⟨rfl, rfl, rfl, Nat.le_refl _, fun _ _ _ => rfl⟩, .inl rfl⟩)
  · refine wpList_append_own_at (P := P) w hgd s x t ho base e i z size bytes ht hi hz hsize hby hzs hsz v n xs hs hown ad m c news hx hl (hc ad rfl) h1 (by unfold maxLen; omega) hb hbase fun v' w' h2 h3 _ h5 => h v' w' h2 ⟨h3, ?_⟩
    rcases h5 with h5 | h5
    · exact .inl h5
    · exact .inr ⟨_, h5, Nat.le_refl _⟩
end Go.Proofs.YtopfbngdbhofkaaGreatDoor

/-
  A row of events, as it comes in.
-/
namespace Go.Proofs.YtopfbngdbhofkaaGreatDoor
open Go.RowKit

/-- an event's cells, as a list -/
def evL (e : Ev) (A : Option Addr) (m c : Nat) : List Value := (evC e.kind e.num e.dep e.name A m c e.text e.fr e.tt).toList
/-- how much events weigh -/
def wtEs (l : List Ev) : Nat := (l.map wtE).sum
theorem wtE_pos (e : Ev) : 1 ≤ wtE e := by unfold wtE; omega
theorem wtEs_length (l : List Ev) : l.length ≤ wtEs l := by
  induction l with
  | nil => simp [wtEs]
  | cons x r ih => have := wtE_pos x; simp only [wtEs, List.map_cons, List.sum_cons, List.length_cons] at *; omega
theorem wtEs_mem (l : List Ev) (i : Nat) (h : i < l.length) : wtE l[i] ≤ wtEs l := by
  induction l generalizing i with
  | nil => simp at h
  | cons x r ih =>
    simp only [wtEs, List.map_cons, List.sum_cons]
    rcases i with _ | i
    · simp only [List.getElem_cons_zero]; omega
    · have := ih i (by simpa using h); simp only [List.getElem_cons_succ]; simp only [wtEs] at this; omega
/-- events in memory -/
def EvsAt (w : World) (a : Option Addr) (n : Nat) (evs : List Ev) : Prop :=
  n = evs.length ∧ ∀ i, (h : i < evs.length) → ∃ b o A m c, a = some ⟨b, o, none⟩ ∧ b < w.heap.size ∧ m ≤ c ∧ AttrsAt w A m evs[i].ats ∧ ∀ j, j < 8 → w.cell? ⟨b, o + i * 8 + j, none⟩ = (evL evs[i] A m c)[j]?
theorem EvsAt.below {w w' : World} {a : Option Addr} {n : Nat} {evs : List Ev} (h : EvsAt w a n evs) (hb : Below w.heap.size w w') : EvsAt w' a n evs :=
  ⟨h.1, fun i hi => by
    obtain ⟨b, o, A, m, c, e, hlt, hmc, hA, hc⟩ := h.2 i hi
    exact ⟨b, o, A, m, c, e, Nat.lt_of_lt_of_le hlt hb.size, hmc, hA.below hb, fun j hj => (hb.cell (p := ⟨b, o + i * 8 + j, none⟩) hlt).trans (hc j hj)⟩⟩

section
variable {H : Type} {enc : TypeId × Value → H} {w : World} {base : Nat} {sp : Nat → Bool} {held : Bool} {fuel : Nat}
def evsOf : DataW H → List Ev
  | .slice l _ => l.map evOf
  | _ => []
theorem wtEs_le (l : List (DataW H)) (h : ∀ i, (hi : i < l.length) → wtE (evOf l[i]) ≤ Rows.uptoBulk l[i]) : wtEs (l.map evOf) ≤ Rows.uptoBulkAll l := by
  induction l with
  | nil => simp [wtEs, Rows.uptoBulkAll]
  | cons x r ih =>
    have h0 := h 0 (by simp)
    have := ih (fun i hi => by have := h (i + 1) (by simpa using hi); simpa using this)
    simp only [wtEs, List.map_cons, List.sum_cons, Rows.uptoBulkAll, List.getElem_cons_zero] at *
    omega
theorem evs_read {cs : List Value} {x : DataW H × List MemPlace} (h : DataW.trod enc Tryz.prog w base sp held fuel 22 cs = some x) :
    ∃ a n c, cs = [.slice a n c] ∧ n ≤ c ∧ EvsAt w a n (evsOf x.1) ∧ wtEs (evsOf x.1) ≤ Rows.uptoBulk x.1 := by
  obtain ⟨a, n, c, elems, rfl, hnc, hel, hx, hat⟩ := slice_read Tryz.underlying22 cellsEv (by decide) h
  have hw := wtEs_le (elems.map (·.1)) (fun i hi => by
    rw [List.length_map] at hi
    obtain ⟨_, _, m, ecs, _, _, _, _, hr⟩ := hat i hi
    rw [List.getElem_map]
    exact (event_read hr).2.1)
  have key : EvsAt w a n (elems.map fun e => evOf e.1) := by
    refine ⟨by rw [List.length_map, hel], fun i hi => ?_⟩
    rw [List.length_map] at hi
    obtain ⟨b, o, m, ecs, e, hb, _, hc, hr⟩ := hat i hi
    obtain ⟨⟨A, m', c', hcs, hmc, hA⟩, _⟩ := event_read hr
    rw [List.getElem_map]
    exact ⟨b, o, A, m', c', e, hb, hmc, hA, fun j hj => by rw [hc j hj, hcs]; rfl⟩
  refine ⟨a, n, c, rfl, hnc, ?_⟩
  rcases hx with rfl | ⟨rest, hx⟩
  · obtain rfl : n = 0 := by simpa using hel.symm
    rcases DataW.trod_slice Tryz.underlying22 h with ⟨_, hx⟩ | ⟨a2, len, cap, elems, rest, m, _, e, hx, _, _, _, hel2, _, _, _⟩
    · rw [hx]; exact ⟨⟨rfl, fun i hi => by simp [evsOf] at hi⟩, by simp [evsOf, wtEs]⟩
    · simp at e
      have : elems = [] := List.eq_nil_of_length_eq_zero (by omega)
      subst this
      rw [hx]; exact ⟨⟨rfl, fun i hi => by simp [evsOf] at hi⟩, by simp [evsOf, wtEs]⟩
  · rw [hx]
    simp only [evsOf, List.map_map] at hw ⊢
    refine ⟨key, ?_⟩
    simp only [Rows.uptoBulk]
    have e : (List.map (evOf ∘ fun x => x.1) elems) = elems.map fun e => evOf e.1 := rfl
    omega
end
end Go.Proofs.YtopfbngdbhofkaaGreatDoor

/-
  tree.one: an event as new memory.
-/
namespace Go.Proofs.YtopfbngdbhofkaaGreatDoor
open Go.RowKit

theorem infoAttr : (Tryz.prog.info? 63).map (fun i => (i.zero, i.size, i.bytes)) = some (some (.agg #[.string ⟨#[]⟩, .string ⟨#[]⟩]), 2, 32) := by kernel_rfl
/-- the attributes' cells -/
def atC (ats : List (List UInt8 × List UInt8)) : List Value := ats.flatMap fun p => [.string (strL p.1), .string (strL p.2)]
theorem atC_length (ats : List (List UInt8 × List UInt8)) : (atC ats).length = ats.length * 2 := by
  induction ats with
  | nil => rfl
  | cons p r ih => unfold atC at *; simp only [List.flatMap_cons, List.length_append, List.length_cons, List.length_nil, ih]; omega
theorem atC_get : ∀ (ats : List (List UInt8 × List UInt8)) (i : Nat) (h : i < ats.length), (atC ats)[i * 2]? = some (.string (strL ats[i].1)) ∧ (atC ats)[i * 2 + 1]? = some (.string (strL ats[i].2))
  | p :: r, 0, _ => ⟨rfl, rfl⟩
  | p :: r, i + 1, h => by
    have := atC_get r i (by simpa using h)
    have e : atC (p :: r) = .string (strL p.1) :: .string (strL p.2) :: atC r := rfl
    rw [e, show (i + 1) * 2 = i * 2 + 1 + 1 by omega]
    simpa using this
theorem atC_one (ats : List (List UInt8 × List UInt8)) : ∀ u ∈ atC ats, u.oneCell' = true := by
  intro u hu
  obtain ⟨p, _, h⟩ := List.mem_flatMap.1 hu
  simp only [List.mem_cons, List.not_mem_nil, or_false] at h
  rcases h with rfl | rfl <;> rfl
theorem add_cell (b o j : Nat) : (⟨b, o, none⟩ : Addr).add j = ⟨b, o + j, none⟩ := by
  unfold Addr.add
  split
  · rename_i h; subst h; rfl
  · rfl
theorem AttrsAt.cells {w : World} {A : Option Addr} {m : Nat} {ats : List (List UInt8 × List UInt8)} (h : AttrsAt w A m ats) : ∀ ad, A = some ad → ∀ j u, (atC ats)[j]? = some u → w.cell? (ad.add j) = some u := by
  intro ad hA j u hj
  have hlt := (List.getElem?_eq_some_iff.1 hj).1
  rw [atC_length] at hlt
  obtain ⟨i, hij⟩ : ∃ i, j = i * 2 ∨ j = i * 2 + 1 := ⟨j / 2, by omega⟩
  have hi : i < ats.length := by omega
  obtain ⟨b, o, e, _, h1, h2⟩ := h.2 _ hi
  rw [hA] at e
  injection e with e
  subst e
  obtain ⟨g1, g2⟩ := atC_get ats _ hi
  rw [add_cell]
  rcases hij with rfl | rfl
  · rw [h1, ← g1, hj]
  · rw [← Nat.add_assoc, h2, ← g2, hj]
theorem AttrsAt.keep {w w' : World} {A : Option Addr} {m : Nat} {ats : List (List UInt8 × List UInt8)} (h : AttrsAt w A m ats) (hs : w.heap.size ≤ w'.heap.size) (hk : ∀ b o, A = some ⟨b, o, none⟩ → b < w.heap.size → w'.heap[b]? = w.heap[b]?) : AttrsAt w' A m ats :=
  ⟨h.1, fun i hi => by
    obtain ⟨b, o, e, hlt, h1, h2⟩ := h.2 i hi
    have hb := hk b o e hlt
    exact ⟨b, o, e, Nat.lt_of_lt_of_le hlt hs, by rw [← h1]; simp only [World.cell?, hb], by rw [← h2]; simp only [World.cell?, hb]⟩⟩
theorem AttrsAt.none {w : World} {A : Option Addr} {m : Nat} {ats : List (List UInt8 × List UInt8)} (h : AttrsAt w A m ats) (hA : A = none) : m = 0 := by
  rw [h.1]
  cases ats with
  | nil => rfl
  | cons p r => obtain ⟨b, o, e, _⟩ := h.2 0 (by simp); rw [hA] at e; cases e
/-- an owned row of attributes -/
theorem own_attrs {w : World} {base m : Nat} {e : TypeId} {v : Value} {ats : List (List UInt8 × List UInt8)} (h : w.ownsRow base e 2 v m (atC ats)) :
    ∃ a c, v = .slice a m c ∧ m ≤ c ∧ AttrsAt w a m ats ∧ ∀ ad, a = some ad → base ≤ ad.block := by
  have hm : m = ats.length := by have := h.1; rw [atC_length] at this; omega
  obtain ⟨a, c, rfl, h1, h2, h3⟩ := own_slice h
  refine ⟨a, c, rfl, h1, ⟨hm, fun i hi => ?_⟩, fun ad ha => ?_⟩
  · cases a with
    | none => have := h2 rfl; omega
    | some ad =>
      obtain ⟨g, rfl, hg, hl, _, hc⟩ := h3 _ rfl
      obtain ⟨g1, g2⟩ := atC_get ats i hi
      exact ⟨g, 0, rfl, hl, by rw [Nat.zero_add]; exact hc _ _ g1, by rw [Nat.zero_add]; exact hc _ _ g2⟩
  · obtain ⟨g, rfl, hg, _⟩ := h3 _ ha
    exact hg
theorem results_cell1 {P : Program} {fn : Func} {p : Tmp} {ty : TypeId} (h : fn.results = #[.cell p ty]) (tmps : Array Value) (w : World) :
    (results fn tmps).run P w = ((asAddr (tmps.getD p undef)).run P w).andThen fun a w₁ => (loadVar ty a).run P w₁ := by
  simp only [results, h]
  simp [Sem.run_bind, Result.andThen]
set_option maxRecDepth 1000000 in
set_option maxHeartbeats 4000000 in
theorem one_any (ek en ed efr ett : Int) (ename etext : List UInt8) (A : Option Addr) (m c : Nat) (ats : List (List UInt8 × List UInt8)) (w : World) (hA : AttrsAt w A m ats) (hm : m ≤ 1048576) :
    Calls Tryz.prog 37 #[.agg (evC ek en ed ename A m c etext efr ett)] w fun e w' => ∃ A' c', e = .returned (.agg (evC ek en ed ename A' m c' etext efr ett)) ∧ m ≤ c' ∧ AttrsAt w' A' m ats ∧ (∀ ad, A' = some ad → w.heap.size ≤ ad.block) ∧ Below w.heap.size w w' := by
  obtain ⟨i0, hi, hz0, hz1, hz2⟩ := info_parts infoAttr
  have HA := Lib.hid hA
  clear hA
  unfold evC
  generalize strL ename = N
  generalize strL etext = X
  have HB : Hid (∀ o o', Below w.heap.size w ((w.alloc o).alloc o')) := Lib.hid fun o o' => ((Below.refl w.heap.size w).alloc (Nat.le_refl _) o).alloc (by simp) o'
  have K1 : ∀ o o', ((w.alloc o).alloc o').heap[w.heap.size]? = some o := fun o o' => (Below.heap_alloc _ _ _ (by simp)).trans (heap_alloc_new w o)
  have K2 : ∀ o o', ((w.alloc o).alloc o').heap[w.heap.size + 1]? = some o' := fun o o' => by have := heap_alloc_new (w.alloc o) o'; simpa using this
  have K1 := Lib.hid K1
  have K2 := Lib.hid K2
  have KS : Hid (∀ o o', ((w.alloc o).alloc o').heap.size = w.heap.size + 2) := Lib.hid fun o o' => by simp
  go_enter Tryz.func37, Tryz.ntmps37
  go_wp2_with (at_builtin; go_must ((refine wpList_app_row _ (by rfl) _ _ 48 (by rfl) (w.heap.size + 2) 63 i0 (.agg #[.string ⟨#[]⟩, .string ⟨#[]⟩]) 2 32 Tryz.underlying48 hi hz0 hz1 hz2 (by rfl) (by decide) (.slice none 0 0) 0 [] (by rfl) (World.ownsRow_nil _ _ _ _) A m c (atC ats) (by rfl) (by rw [atC_length, HA.out.1]) (fun ad ha j u hj => (HA.out.below (HB.out _ _)).cells ad ha j u hj) (HA.out.none) (atC_one ats) (by omega) (by decide) (by rw [KS.out]; exact Nat.le_refl _) (fun v' w1 hown hap => ?_)); (obtain ⟨A', c', rfl, hmc, hA', hfr⟩ := own_attrs (by simpa using hown)); have k1 := (hap.keep (k := w.heap.size) (by rw [KS.out]; omega) (by intro h; cases h)).trans (K1.out _ _); have k2 := (hap.keep (k := w.heap.size + 1) (by rw [KS.out]; omega) (by intro h; cases h)).trans (K2.out _ _); have hbw := (HB.out _ _).trans (hap.below (B := w.heap.size) (by rw [KS.out]; omega) (fun k hk => by cases hk)); have hsz := hap.grown.size; rw [KS.out] at hsz; have c0 : w1.cell? ⟨w.heap.size, 0, none⟩ = some (.int .i64 ek) := (by rw [cell_heap k1]; rfl); have c1 : w1.cell? ⟨w.heap.size, 1, none⟩ = some (.int .i64 en) := (by rw [cell_heap k1]; rfl); have c2 : w1.cell? ⟨w.heap.size, 2, none⟩ = some (.int .i64 ed) := (by rw [cell_heap k1]; rfl); have c3 : w1.cell? ⟨w.heap.size, 3, none⟩ = some (.string N) := (by rw [cell_heap k1]; rfl); have c4 : w1.cell? ⟨w.heap.size, 4, none⟩ = some (.slice A m c) := (by rw [cell_heap k1]; rfl); have c5 : w1.cell? ⟨w.heap.size, 5, none⟩ = some (.string X) := (by rw [cell_heap k1]; rfl); have c6 : w1.cell? ⟨w.heap.size, 6, none⟩ = some (.int .i64 efr) := (by rw [cell_heap k1]; rfl); have c7 : w1.cell? ⟨w.heap.size, 7, none⟩ = some (.int .i64 ett) := (by rw [cell_heap k1]; rfl); have d0 : w1.cell? ⟨w.heap.size + 1, 0, none⟩ = some (.int .i64 0) := (by rw [cell_heap k2]; rfl); have d1 : w1.cell? ⟨w.heap.size + 1, 1, none⟩ = some (.int .i64 0) := (by rw [cell_heap k2]; rfl); have d2 : w1.cell? ⟨w.heap.size + 1, 2, none⟩ = some (.int .i64 0) := (by rw [cell_heap k2]; rfl); have d3 : w1.cell? ⟨w.heap.size + 1, 3, none⟩ = some (.string ⟨#[]⟩) := (by rw [cell_heap k2]; rfl); have d4 : w1.cell? ⟨w.heap.size + 1, 4, none⟩ = some (.slice none 0 0) := (by rw [cell_heap k2]; rfl); have d5 : w1.cell? ⟨w.heap.size + 1, 5, none⟩ = some (.string ⟨#[]⟩) := (by rw [cell_heap k2]; rfl); have d6 : w1.cell? ⟨w.heap.size + 1, 6, none⟩ = some (.int .i64 0) := (by rw [cell_heap k2]; rfl); have d7 : w1.cell? ⟨w.heap.size + 1, 7, none⟩ = some (.int .i64 0) := (by rw [cell_heap k2]; rfl); have f1 : ∀ j, w1.frozen? ⟨w.heap.size, j, none⟩ = false := fun j => frozen_heap k1; have f2 : ∀ j, w1.frozen? ⟨w.heap.size + 1, j, none⟩ = false := fun j => frozen_heap k2; clear hown hap k1 k2))
  (try simp only [Exit.inBlock, Exit.then])
  refine bodyPost_ret (v := .agg #[.int .i64 ek, .int .i64 en, .int .i64 ed, .string N, .slice A' m c', .string X, .int .i64 efr, .int .i64 ett]) ?_ rfl ⟨A', c', rfl, hmc, ?_, fun ad h => Nat.le_trans (Nat.le_add_right _ _) (hfr ad h), ?_⟩
  · rw [results_cell1 rfl]
    go_simp
  · refine hA'.keep (by simp [World.setCell]) fun b o h _ => ?_
    have hb := hfr _ h
    simp only at hb
    iterate 9 rw [Below.heap_setCell _ _ _ _ (by simp only; omega)]
  · iterate 9 refine Below.setCell ?_ (by simp only; omega) _
    exact hbw
end Go.Proofs.YtopfbngdbhofkaaGreatDoor
