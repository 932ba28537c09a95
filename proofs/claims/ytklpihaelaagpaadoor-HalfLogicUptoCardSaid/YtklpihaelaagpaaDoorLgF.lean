/-
  What is known by a beginning: three values, node by node; plain Lean.
-/
import Derived.Test.YtklpihaelaagpaaDoorLgC
import Derived.Test.YtklpihaelaagpaaDoorLgE
import Derived.Test.YtklpihaelaagpaaDoorLgB
namespace Go.Proofs.YtklpihaelaagpaaDoor
open Go.RowKit

def seenI (t : Int) : Int := if 0 ≤ t ∧ t ≤ 2 then t else 1
def andL (l : List Int) : Int := l.foldl (fun a t => min a (seenI t)) 2
def orL (l : List Int) : Int := l.foldl (fun a t => max a (seenI t)) 0
def notI (t : Int) : Int := 2 - seenI t
def truthI (b : Bool) : Int := if b then 2 else 0
def T3 (t : Int) : Prop := 0 ≤ t ∧ t ≤ 2
theorem seenI_3 (t : Int) : T3 (seenI t) := by unfold seenI T3; split <;> omega
theorem seenI_of {t : Int} (h : T3 t) : seenI t = t := if_pos h
theorem truthI_3 (b : Bool) : T3 (truthI b) := by unfold truthI T3; cases b <;> decide
theorem andL_3 (l : List Int) : T3 (andL l) := by
  have : ∀ (l : List Int) (a : Int), T3 a → T3 (l.foldl (fun a t => min a (seenI t)) a) := by
    intro l
    induction l with
    | nil => intro a h; exact h
    | cons t l ih => intro a h; exact ih _ (by show T3 (min a (seenI t)); have := seenI_3 t; unfold T3 at *; omega)
  exact this l 2 (by unfold T3; decide)
theorem orL_3 (l : List Int) : T3 (orL l) := by
  have : ∀ (l : List Int) (a : Int), T3 a → T3 (l.foldl (fun a t => max a (seenI t)) a) := by
    intro l
    induction l with
    | nil => intro a h; exact h
    | cons t l ih => intro a h; exact ih _ (by show T3 (max a (seenI t)); have := seenI_3 t; unfold T3 at *; omega)
  exact this l 0 (by unfold T3; decide)
theorem notI_3 (t : Int) : T3 (notI t) := by have := seenI_3 t; unfold notI T3 at *; omega
theorem andL_two {a b : Int} (ha : T3 a) (hb : T3 b) : andL [a, b] = min a b := by
  unfold andL
  simp only [List.foldl_cons, List.foldl_nil, seenI_of ha, seenI_of hb]
  unfold T3 at *; omega
theorem orL_two {a b : Int} (ha : T3 a) (hb : T3 b) : orL [a, b] = max a b := by
  unfold orL
  simp only [List.foldl_cons, List.foldl_nil, seenI_of ha, seenI_of hb]
  unfold T3 at *; omega
structure HN where
  ev : Ev
  kd : Int
  par : Int
  op : Bool
  txt : List UInt8
  bg : Nat
  en : Nat
def cmpT (v : List UInt8) (x : PX) : Int := truthI ((cmpB v x.cmp x.text x.num).getD false)
def testT (h : HN) (s : PS) : Int :=
  if s.test = 0 then truthI (decide (h.kd = 1) && decide (h.ev.name = s.name)) else if s.test = 1 then truthI (decide (h.kd = 1)) else if s.test = 2 then truthI (decide (h.kd = 2)) else 2
def earlyT (v : List UInt8) (x : PX) : Int :=
  let xs := runesOf (strL v)
  let ys := runesOf (strL x.text)
  if x.cmp = 0 then 2
  else if x.cmp = 1 then (if standsL ys xs 0 then 1 else 0)
  else if x.cmp = 2 then (if standsL ys xs 0 then 1 else 2)
  else if x.cmp = 3 then (if standsL xs ys 0 then 2 else if standsL ys xs 0 then 1 else 0)
  else if x.cmp = 5 then (if 0 ≤ findL xs ys then 2 else 1)
  else if x.cmp = 6 then (if x.num < (xs.length : Int) then 0 else 1)
  else if x.cmp = 7 then (if x.num < (xs.length : Int) then 2 else 1)
  else if x.cmp = 8 then (if x.num ≤ (xs.length : Int) then 0 else 1)
  else 1
def asksT (h : HN) (x : PX) : Int :=
  if x.attr ≠ [] then (match h.ev.ats.find? fun p => p.1 == x.attr with | none => 0 | some p => cmpT p.2 x)
  else if h.op then earlyT h.txt x else cmpT h.txt x
theorem earlyT_3 (v : List UInt8) (x : PX) : T3 (earlyT v x) := by
  unfold earlyT T3
  simp only
  repeat' split
  all_goals decide
theorem asksT_3 (h : HN) (x : PX) : T3 (asksT h x) := by
  unfold asksT
  split
  · split
    · unfold T3; decide
    · exact truthI_3 _
  · split
    · exact earlyT_3 _ _
    · exact truthI_3 _
theorem testT_3 (h : HN) (s : PS) : T3 (testT h s) := by
  unfold testT
  split
  · exact truthI_3 _
  · split
    · exact truthI_3 _
    · split
      · exact truthI_3 _
      · unfold T3; decide
def rowOf (n : Nat) (g : Nat → Int) : List Int := (List.range n).map g
theorem rowOf_len (n : Nat) (g : Nat → Int) : (rowOf n g).length = n := by simp [rowOf]
theorem rowOf_at (n : Nat) (g : Nat → Int) (k : Nat) (h : k < n) : (rowOf n g)[k]? = some (g k) := by unfold rowOf; rw [List.getElem?_map, List.getElem?_range h]; rfl
def R3 (l : List Int) : Prop := ∀ t ∈ l, T3 t
theorem rowOf_3 (n : Nat) (g : Nat → Int) (h : ∀ k, T3 (g k)) : R3 (rowOf n g) := fun t ht => by
  obtain ⟨k, _, rfl⟩ := List.mem_map.1 ht
  exact h k
theorem R3.at {l : List Int} (h : R3 l) (k : Nat) : T3 (l.getD k 0) := by
  rw [List.getD_eq_getElem?_getD]
  cases hk : l[k]? with
  | none => unfold T3; decide
  | some t => exact h t (List.mem_of_getElem? hk)
def metT (ex : PX → List Int) (hs : List HN) (s : PS) (beside : List Int) : List Int :=
  s.wher.foldl (fun out x => rowOf hs.length fun k => andL [out.getD k 0, (ex x).getD k 0]) (rowOf hs.length fun k => andL [(hs[k]?.map fun h => testT h s).getD 0, beside.getD k 0])
theorem metT_len (ex : PX → List Int) (hs : List HN) (s : PS) (b : List Int) : (metT ex hs s b).length = hs.length := by
  unfold metT
  have : ∀ (l : List PX) (o : List Int), o.length = hs.length → (l.foldl (fun out x => rowOf hs.length fun k => andL [out.getD k 0, (ex x).getD k 0]) o).length = hs.length := by
    intro l
    induction l with
    | nil => intro o h; exact h
    | cons x l ih => intro o h; exact ih _ (rowOf_len ..)
  exact this _ _ (rowOf_len ..)
theorem metT_3 (ex : PX → List Int) (hs : List HN) (s : PS) (b : List Int) : R3 (metT ex hs s b) := by
  unfold metT
  have : ∀ (l : List PX) (o : List Int), R3 o → R3 (l.foldl (fun out x => rowOf hs.length fun k => andL [out.getD k 0, (ex x).getD k 0]) o) := by
    intro l
    induction l with
    | nil => intro o h; exact h
    | cons x l ih => intro o h; exact ih _ (rowOf_3 _ _ fun k => andL_3 _)
  exact this _ _ (rowOf_3 _ _ fun k => andL_3 _)
def cdStep (hs : List HN) (here : List Int) (cd : List Int × List Int) (k : Nat) : List Int × List Int :=
  let p := ((hs[k]?.map fun (h : HN) => h.par).getD 0).toNat
  (cd.1.set p (orL [cd.1.getD p 0, here.getD k 0]), cd.2.set p (orL [cd.2.getD p 0, here.getD k 0, cd.2.getD k 0]))
def cdAll (hs : List HN) (here : List Int) (k : Nat) : List Int × List Int :=
  ((List.range' k (hs.length - k)).reverse).foldl (cdStep hs here) (rowOf hs.length fun k => if (hs[k]?.map fun (h : HN) => h.op).getD false then 1 else 0, rowOf hs.length fun k => if (hs[k]?.map fun (h : HN) => h.op).getD false then 1 else 0)
theorem cdAll_end (hs : List HN) (here : List Int) : cdAll hs here hs.length = (rowOf hs.length fun k => if (hs[k]?.map fun (h : HN) => h.op).getD false then 1 else 0, rowOf hs.length fun k => if (hs[k]?.map fun (h : HN) => h.op).getD false then 1 else 0) := by
  unfold cdAll; rw [Nat.sub_self]; rfl
theorem cdAll_step (hs : List HN) (here : List Int) (k : Nat) (h : k < hs.length) : cdAll hs here k = cdStep hs here (cdAll hs here (k + 1)) k := by
  unfold cdAll
  rw [show hs.length - k = (hs.length - (k + 1)) + 1 by omega, List.range'_succ, List.reverse_cons, List.foldl_append]
  rfl
theorem R3.set {l : List Int} (h : R3 l) (p : Nat) {t : Int} (ht : T3 t) : R3 (l.set p t) := fun u hu => by
  rcases List.mem_or_eq_of_mem_set hu with h1 | h1
  · exact h u h1
  · rw [h1]; exact ht
theorem cdAll_ok (hs : List HN) (here : List Int) : ∀ m k, k + m = hs.length → R3 (cdAll hs here k).1 ∧ R3 (cdAll hs here k).2 ∧ (cdAll hs here k).1.length = hs.length ∧ (cdAll hs here k).2.length = hs.length := by
  intro m
  induction m with
  | zero =>
    intro k h
    have : k = hs.length := by omega
    subst this
    rw [cdAll_end]
    have h3 : ∀ k : Nat, T3 (if (hs[k]?.map fun (h : HN) => h.op).getD false then 1 else 0) := fun k => by unfold T3; split <;> decide
    exact ⟨rowOf_3 _ _ h3, rowOf_3 _ _ h3, rowOf_len .., rowOf_len ..⟩
  | succ m ih =>
    intro k h
    obtain ⟨h1, h2, h3, h4⟩ := ih (k + 1) (by omega)
    rw [cdAll_step hs here k (by omega)]
    exact ⟨h1.set _ (orL_3 _), h2.set _ (orL_3 _), by unfold cdStep; simp [h3], by unfold cdStep; simp [h4]⟩
def backT (ex : PX → List Int) (hs : List HN) (s : PS) (rest : List Int) : List Int :=
  let here := metT ex hs s rest
  if s.axis = 3 then here
  else if s.axis = 0 then (cdAll hs here 1).1
  else if s.axis = 2 then rowOf hs.length fun k => orL [(cdAll hs here 1).2.getD k 0, here.getD k 0]
  else (cdAll hs here 1).2
theorem backT_ok (ex : PX → List Int) (hs : List HN) (hp : 1 ≤ hs.length) (s : PS) (b : List Int) : R3 (backT ex hs s b) ∧ (backT ex hs s b).length = hs.length := by
  obtain ⟨h1, h2, h3, h4⟩ := cdAll_ok hs (metT ex hs s b) (hs.length - 1) 1 (by omega)
  unfold backT
  simp only
  split
  · exact ⟨metT_3 _ _ _ _, metT_len ..⟩
  · split
    · exact ⟨h1, h3⟩
    · split
      · exact ⟨rowOf_3 _ _ fun k => orL_3 _, rowOf_len ..⟩
      · exact ⟨h2, h4⟩
def exprT (hs : List HN) : Nat → PX → List Int
  | 0, _ => []
  | f + 1, x =>
    if x.op = 3 then x.path.foldr (fun s out => backT (exprT hs f) hs s out) (rowOf hs.length fun k => (hs[k]?.map fun h => asksT h x).getD 0)
    else rowOf hs.length fun k => if x.op = 0 then andL (x.args.map fun y => (exprT hs f y).getD k 0) else if x.op = 1 then orL (x.args.map fun y => (exprT hs f y).getD k 0) else notI ((x.args.head?.map fun y => (exprT hs f y).getD k 0).getD 0)
theorem exprT_ok (hs : List HN) (hp : 1 ≤ hs.length) (f : Nat) (x : PX) : R3 (exprT hs (f + 1) x) ∧ (exprT hs (f + 1) x).length = hs.length := by
  unfold exprT
  split
  · generalize x.path = l
    induction l with
    | nil =>
      refine ⟨rowOf_3 _ _ fun k => ?_, rowOf_len ..⟩
      cases hs[k]? with
      | none => show T3 0; unfold T3; decide
      | some h => exact asksT_3 _ _
    | cons s l _ => exact backT_ok _ _ hp _ _
  · refine ⟨rowOf_3 _ _ fun k => ?_, rowOf_len ..⟩
    split
    · exact andL_3 _
    · split
      · exact orL_3 _
      · exact notI_3 _
end Go.Proofs.YtklpihaelaagpaaDoor

namespace Go.Proofs.YtklpihaelaagpaaDoor
open Go.RowKit

def evL (e : Ev) (A : Option Addr) (m c : Nat) : List Value := (evC e.kind e.num e.dep e.name A m c e.text e.fr e.tt).toList
def wtEs (l : List Ev) : Nat := (l.map wtE).sum
theorem wtE_pos (e : Ev) : 1 ≤ wtE e := by unfold wtE; omega
theorem wtEs_length (l : List Ev) : l.length ≤ wtEs l := by
  induction l with
  | nil => simp [wtEs]
  | cons x r ih => have := wtE_pos x; simp only [wtEs, List.map_cons, List.sum_cons, List.length_cons] at *; omega
theorem wtEs_mem (l : List Ev) (i : Nat) (h : i < l.length) : wtE l[i] ≤ wtEs l := by
  induction l generalizing i with
  | nil => simp at h
  | cons x r ih =>
    simp only [wtEs, List.map_cons, List.sum_cons]
    rcases i with _ | i
    · simp only [List.getElem_cons_zero]; omega
    · have := ih i (by simpa using h); simp only [List.getElem_cons_succ]; simp only [wtEs] at this; omega
def EvsAt (w : World) (a : Option Addr) (n : Nat) (evs : List Ev) : Prop :=
  n = evs.length ∧ ∀ i, (h : i < evs.length) → ∃ b o A m c, a = some ⟨b, o, none⟩ ∧ b < w.heap.size ∧ m ≤ c ∧ AttrsAt w A m evs[i].ats ∧ ∀ j, j < 8 → w.cell? ⟨b, o + i * 8 + j, none⟩ = (evL evs[i] A m c)[j]?
theorem EvsAt.below {w w' : World} {a : Option Addr} {n : Nat} {evs : List Ev} (h : EvsAt w a n evs) (hb : Below w.heap.size w w') : EvsAt w' a n evs :=
  ⟨h.1, fun i hi => by
    obtain ⟨b, o, A, m, c, e, hlt, hmc, hA, hc⟩ := h.2 i hi
    exact ⟨b, o, A, m, c, e, Nat.lt_of_lt_of_le hlt hb.size, hmc, hA.below hb, fun j hj => (hb.cell (p := ⟨b, o + i * 8 + j, none⟩) hlt).trans (hc j hj)⟩⟩

section
variable {H : Type} {enc : TypeId × Value → H} {w : World} {base : Nat} {sp : Nat → Bool} {held : Bool} {fuel : Nat}
def evsOf : DataW H → List Ev
  | .slice l _ => l.map evOf
  | _ => []
theorem wtEs_le (l : List (DataW H)) (h : ∀ i, (hi : i < l.length) → wtE (evOf l[i]) ≤ Rows.uptoBulk l[i]) : wtEs (l.map evOf) ≤ Rows.uptoBulkAll l := by
  induction l with
  | nil => simp [wtEs, Rows.uptoBulkAll]
  | cons x r ih =>
    have h0 := h 0 (by simp)
    have := ih (fun i hi => by have := h (i + 1) (by simpa using hi); simpa using this)
    simp only [wtEs, List.map_cons, List.sum_cons, Rows.uptoBulkAll, List.getElem_cons_zero] at *
    omega
theorem evs_read {cs : List Value} {x : DataW H × List MemPlace} (h : DataW.trod enc Tryd.prog w base sp held fuel 22 cs = some x) :
    ∃ a n c, cs = [.slice a n c] ∧ n ≤ c ∧ EvsAt w a n (evsOf x.1) ∧ wtEs (evsOf x.1) ≤ Rows.uptoBulk x.1 := by
  obtain ⟨a, n, c, elems, rfl, hnc, hel, hx, hat⟩ := slice_read Tryd.underlying22 cellsEv (by decide) h
  have hw := wtEs_le (elems.map (·.1)) (fun i hi => by
    rw [List.length_map] at hi
    obtain ⟨_, _, m, ecs, _, _, _, _, hr⟩ := hat i hi
    rw [List.getElem_map]
    exact (event_read hr).2.1)
  have key : EvsAt w a n (elems.map fun e => evOf e.1) := by
    refine ⟨by rw [List.length_map, hel], fun i hi => ?_⟩
    rw [List.length_map] at hi
    obtain ⟨b, o, m, ecs, e, hb, _, hc, hr⟩ := hat i hi
    obtain ⟨⟨A, m', c', hcs, hmc, hA⟩, _⟩ := event_read hr
    rw [List.getElem_map]
    exact ⟨b, o, A, m', c', e, hb, hmc, hA, fun j hj => by rw [hc j hj, hcs]; rfl⟩
  refine ⟨a, n, c, rfl, hnc, ?_⟩
  rcases hx with rfl | ⟨rest, hx⟩
  · obtain rfl : n = 0 := by simpa using hel.symm
    rcases DataW.trod_slice Tryd.underlying22 h with ⟨_, hx⟩ | ⟨a2, len, cap, elems, rest, m, _, e, hx, _, _, _, hel2, _, _, _⟩
    · rw [hx]; exact ⟨⟨rfl, fun i hi => by simp [evsOf] at hi⟩, by simp [evsOf, wtEs]⟩
    · simp at e
      have : elems = [] := List.eq_nil_of_length_eq_zero (by omega)
      subst this
      rw [hx]; exact ⟨⟨rfl, fun i hi => by simp [evsOf] at hi⟩, by simp [evsOf, wtEs]⟩
  · rw [hx]
    simp only [evsOf, List.map_map] at hw ⊢
    refine ⟨key, ?_⟩
    simp only [Rows.uptoBulk]
    have e : (List.map (evOf ∘ fun x => x.1) elems) = elems.map fun e => evOf e.1 := rfl
    omega
end
end Go.Proofs.YtklpihaelaagpaaDoor

namespace Go.Proofs.YtklpihaelaagpaaDoor
open Go.RowKit

def goodF (s : ByteArray) : Nat → Nat → Bool
  | 0, _ => true
  | f + 1, p => if p < s.size then !((Utf8.decode s p).1 == 65533 && (Utf8.decode s p).2 == 1) && goodF s f (p + (Utf8.decode s p).2) else true
theorem goodF_fuel (s : ByteArray) (f : Nat) : ∀ (g p : Nat), s.size - p ≤ f → s.size - p ≤ g → goodF s f p = goodF s g p := by
  induction f with
  | zero =>
    intro g p hf _
    cases g with
    | zero => rfl
    | succ g => simp only [goodF]; rw [if_neg (by omega)]
  | succ f ih =>
    intro g p hf hg
    cases g with
    | zero => simp only [goodF]; rw [if_neg (by omega)]
    | succ g =>
      simp only [goodF]
      by_cases h : p < s.size
      · have := width_pos s p h
        rw [if_pos h, if_pos h, ih g _ (by omega) (by omega)]
      · rw [if_neg h, if_neg h]
def goodAt (s : ByteArray) (p : Nat) : Bool := goodF s (s.size - p) p
theorem goodAt_step (s : ByteArray) (p : Nat) (h : p < s.size) : goodAt s p = (!((Utf8.decode s p).1 == 65533 && (Utf8.decode s p).2 == 1) && goodAt s (p + (Utf8.decode s p).2)) := by
  have hw := width_pos s p h
  unfold goodAt
  obtain ⟨f, hf⟩ : ∃ f, s.size - p = f + 1 := ⟨s.size - p - 1, by omega⟩
  rw [hf]
  simp only [goodF]
  rw [if_pos h, goodF_fuel s f (s.size - (p + (Utf8.decode s p).2)) _ (by omega) (by omega)]
theorem goodAt_end (s : ByteArray) (p : Nat) (h : ¬ p < s.size) : goodAt s p = true := by
  unfold goodAt
  rw [show s.size - p = 0 by omega]
  rfl

theorem bytesN_cons (s : ByteArray) (p : Nat) (h : p < s.size) : ∃ a x, bytesN s p = a :: x := ⟨_, _, get_nat s p h⟩
theorem cmp_bytes (s t : ByteArray) (f : Nat) : ∀ (p q : Nat), s.size - p ≤ f → goodAt s p = true → goodAt t q = true →
    cmpL (runesAt s p) (runesAt t q) = if natLess (bytesN s p) (bytesN t q) = true then -1 else if natLess (bytesN t q) (bytesN s p) = true then 1 else 0 := by
  induction f with
  | zero =>
    intro p q hf _ _
    rw [runesAt_end s p (by omega), bytesN_end s p (by omega)]
    by_cases h : q < t.size
    · obtain ⟨a, x, e⟩ := bytesN_cons t q h
      rw [runesAt_step t q h, e]; rfl
    · rw [runesAt_end t q h, bytesN_end t q h]; rfl
  | succ f ih =>
    intro p q hf hs ht
    by_cases h : p < s.size
    · by_cases k : q < t.size
      · rw [goodAt_step s p h] at hs
        rw [goodAt_step t q k] at ht
        simp only [Bool.and_eq_true, Bool.not_eq_true', Bool.and_eq_false_iff, beq_eq_false_iff_ne] at hs ht
        obtain ⟨c1, e1⟩ := decode_good s p h (by omega)
        obtain ⟨c2, e2⟩ := decode_good t q k (by omega)
        have hw := width_pos s p h
        have := ih (p + (Utf8.decode s p).2) (q + (Utf8.decode t q).2) (by omega) hs.2 ht.2
        rw [runesAt_step s p h, runesAt_step t q k, e1, e2]
        simp only [cmpL]
        generalize (Utf8.decode s p).1 = r at *
        generalize (Utf8.decode t q).1 = r' at *
        by_cases hlt : r < r'
        · rw [if_pos (by omega), encN_lt _ _ _ _ hlt]; rfl
        · by_cases hgt : r' < r
          · rw [if_neg (by omega), if_pos (by omega), encN_gt _ _ _ _ hgt, encN_lt _ _ _ _ hgt]; rfl
          · obtain rfl : r = r' := by omega
            rw [if_neg (by omega), if_neg (by omega), natLess_app, natLess_app]
            exact this
      · obtain ⟨a, x, e⟩ := bytesN_cons s p h
        rw [runesAt_step s p h, runesAt_end t q k, e, bytesN_end t q k]; rfl
    · rw [runesAt_end s p h, bytesN_end s p h]
      by_cases k : q < t.size
      · obtain ⟨a, x, e⟩ := bytesN_cons t q k
        rw [runesAt_step t q k, e]; rfl
      · rw [runesAt_end t q k, bytesN_end t q k]; rfl

theorem less_bytes (s t : ByteArray) : Op.bytesLess s.toList t.toList = natLess (bytesN s 0) (bytesN t 0) := by
  rw [bytesLess_nat, ByteArray.toList_eq, ByteArray.toList_eq]; simp [bytesN]
theorem cmp_less (s t : ByteArray) (hs : goodAt s 0 = true) (ht : goodAt t 0 = true) :
    cmpL (runesOf s) (runesOf t) = if Op.bytesLess s.toList t.toList = true then -1 else if Op.bytesLess t.toList s.toList = true then 1 else 0 := by
  rw [← runesAt_zero, ← runesAt_zero, less_bytes, less_bytes]
  exact cmp_bytes s t s.size 0 0 (by omega) hs ht
theorem goodF_valid (l : List UInt8) (f : Nat) : ∀ p, Lib.validGoD f (l.drop p) = true → l.length - p ≤ f → goodF (strU l) f p = true := by
  induction f with
  | zero => intro p _ _; rfl
  | succ f ih =>
    intro p h hf
    simp only [goodF, Lib.validGoD] at h ⊢
    by_cases hp : p < (strU l).size
    · rw [if_pos hp]
      have hne : l.drop p ≠ [] := by
        intro e
        have := congrArg List.length e
        rw [List.length_drop] at this
        rw [strU_size] at hp
        simp at this; omega
      rw [if_neg hne, decodeL_dec, decL_str] at h
      have hw := width_pos (strU l) p hp
      split at h
      · cases h
      · rename_i hg
        rw [List.drop_drop] at h
        rw [ih _ h (by omega)]
        simp only [Bool.and_true, Bool.not_eq_true', Bool.and_eq_false_iff, beq_eq_false_iff_ne]
        omega
    · rw [if_neg hp]
theorem good_valid (l : List UInt8) (h : Lib.validD l = true) : goodAt (strU l) 0 = true := by
  unfold goodAt
  rw [strU_size, Nat.sub_zero]
  exact goodF_valid l l.length 0 (by rw [List.drop_zero]; exact h) (by omega)
theorem name_valid (l : List UInt8) (h : nameB l = true) : Lib.validD l = true := by
  unfold nameB at h
  simp only [Bool.and_eq_true] at h
  exact h.2.2
theorem name_cmp (l m : List UInt8) (hl : nameB l = true) (hm : nameB m = true) :
    cmpL (runesOf (strU l)) (runesOf (strU m)) = if Op.bytesLess l m = true then -1 else if Op.bytesLess m l = true then 1 else 0 := by
  have h := cmp_less (strU l) (strU m) (good_valid l (name_valid l hl)) (good_valid m (name_valid m hm))
  rw [ByteArray.toList_eq, ByteArray.toList_eq, strU_data, strU_data] at h
  exact h
end Go.Proofs.YtklpihaelaagpaaDoor

namespace Go.Proofs.YtklpihaelaagpaaDoor
open Go.RowKit

def attrsB : Option (List UInt8) → List (List UInt8 × List UInt8) → Bool
  | _, [] => true
  | q, p :: r => nameB p.1 && textsB p.2 && (match q with | none => true | some q => Op.bytesLess q p.1) && attrsB (some p.1) r
structure BegS where
  opn : List (Int × Int × List UInt8)
  next : Int
  text : Bool
  cnt : Nat
def beg0 : BegS := ⟨[], 0, false, 0⟩
def begOk (s : BegS) (e : Ev) : Bool :=
  if e.kind = 0 then decide ((s.cnt = 0 ∨ s.opn ≠ []) ∧ e.num = s.next ∧ e.dep = (s.opn.length : Int) + 1 ∧ e.text = []) && nameB e.name && attrsB none e.ats
  else if e.kind = 1 then decide (s.opn ≠ [] ∧ e.num = s.next ∧ e.dep = (s.opn.length : Int) + 1 ∧ e.name = [] ∧ e.ats = [] ∧ e.text ≠ []) && textsB e.text && !s.text
  else if e.kind = 2 then decide (e.text = [] ∧ e.ats = [] ∧ s.opn.head? = some (e.num, e.dep, e.name))
  else false
def begNext (s : BegS) (e : Ev) : BegS :=
  ⟨if e.kind = 0 then (e.num, e.dep, e.name) :: s.opn else if e.kind = 2 then s.opn.tail else s.opn, if e.kind = 2 then s.next else s.next + 1, e.kind == 1, s.cnt + 1⟩
def begAll : BegS → List Ev → Option BegS
  | s, [] => some s
  | s, e :: l => if begOk s e = true then begAll (begNext s e) l else none
def wholeB (l : List Ev) : Bool := match begAll beg0 l with
  | some s => decide (l ≠ [] ∧ s.opn = [])
  | none => false
theorem begAll_snoc (s : BegS) (l : List Ev) (e : Ev) : begAll s (l ++ [e]) = (begAll s l).bind fun t => if begOk t e = true then some (begNext t e) else none := by
  induction l generalizing s with
  | nil => simp only [List.nil_append, begAll, Option.bind_some]
  | cons x l ih =>
    simp only [List.cons_append, begAll]
    split
    · exact ih _
    · rfl
theorem begAll_app (s : BegS) (l m : List Ev) : begAll s (l ++ m) = (begAll s l).bind fun t => begAll t m := by
  induction l generalizing s with
  | nil => rfl
  | cons x l ih =>
    simp only [List.cons_append, begAll]
    split
    · exact ih _
    · rfl
end Go.Proofs.YtklpihaelaagpaaDoor
