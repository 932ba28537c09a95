/-
  (asked).holds and (asked).steps, to any depth.
-/
import Derived.Test.YtekoflcioooncaaDoorMxY
import Derived.Test.YtekoflcioooncaaDoorMxZ
import Derived.Test.YtekoflcioooncaaDoorMxZA
import Derived.Test.YtekoflcioooncaaDoorMxZC
import Derived.Test.YtekoflcioooncaaDoorMxW
import Derived.Test.YtekoflcioooncaaDoorMxF
namespace Go.Proofs.YtekoflcioooncaaDoor
open Go.RowKit

section
variable {L : Nat} {f : Nat → Nat} {p : Nat → Int}
theorem lam_of (h : AxF L f p) (i : Nat) (hi : i < L) : ∀ j, i ≤ j → j ≤ f i → f j ≤ f i := by
  intro j
  induction j using Nat.strongRecOn with
  | _ j ih =>
    intro hij hjf
    by_cases e : i = j
    · rw [e]; exact Nat.le_refl _
    · have hr := h.rng i hi
      have hp := par_ge h i hi j (by omega) hjf
      have hl := (h.plt j (by omega)).2
      have hin := h.ins j (by omega)
      obtain ⟨q, hq⟩ : ∃ q : Nat, p j = (q : Int) := ⟨(p j).toNat, by omega⟩
      have hhi : hiP L f (p j) = f q + 1 := by rw [hq]; unfold hiP; rw [if_neg (by omega), Int.toNat_natCast]
      rw [hhi] at hin
      have := ih q (by omega) (by omega) (by omega)
      omega
def lstOf (L : Nat) (f : Nat → Nat) (b : Nat) : Nat := if b = 0 then L else if b - 1 < L then f (b - 1) + 1 else b
theorem lstOf_lam (h : AxF L f p) (a b : Nat) (h1 : a ≤ b) (h2 : b ≤ lstOf L f a) : lstOf L f b ≤ lstOf L f a := by
  unfold lstOf at h2 ⊢
  by_cases ea : a = 0
  · rw [if_pos ea] at h2 ⊢
    by_cases eb : b = 0
    · rw [if_pos eb]; exact Nat.le_refl _
    · rw [if_neg eb, if_pos (by omega)]
      have := h.rng (b - 1) (by omega)
      omega
  · rw [if_neg ea] at h2 ⊢
    rw [if_neg (by omega : ¬ b = 0)]
    by_cases hL : a - 1 < L
    · rw [if_pos hL] at h2 ⊢
      have := h.rng (a - 1) hL
      rw [if_pos (by omega)]
      have := lam_of h (a - 1) hL (b - 1) (by omega) (by omega)
      omega
    · rw [if_neg hL] at h2 ⊢
      have : b = a := by omega
      subst this
      rw [if_neg hL]; exact Nat.le_refl _
theorem mem_rngL {a b : Nat} {x : Int} : x ∈ rngL a b ↔ (a : Int) ≤ x ∧ x < (b : Int) := by
  refine ⟨fun h => by obtain ⟨i, rfl, h1, h2⟩ := rngL_mem h; omega, fun h => ?_⟩
  unfold rngL
  refine List.mem_map.2 ⟨x.toNat, ?_, by omega⟩
  rw [List.mem_range'_1]; omega
end
theorem axOK_of {evs : List Ev} (h : wholeB evs = true) : AxOK (treePT evs) (lstOf (nodesB evs).length (lastN evs)) := by
  have hx := axF_of h
  refine ⟨fun n a x hxm => alongM_in hx.rng n a x hxm, fun j k hj a ha => ?_, fun a b h1 h2 => lstOf_lam hx a b h1 h2⟩
  have hj' : j ≤ (nodesB evs).length := hj
  have hd : a = 1 ∨ a = 2 := by unfold deepA at ha; simpa using ha
  have hhi : (hiOf (nodesB evs).length (lastN evs) ((j : Int) - 1) : Nat) = lstOf (nodesB evs).length (lastN evs) j := by
    unfold hiOf lstOf
    by_cases e : j = 0
    · rw [if_pos (by omega), if_pos e]
    · rw [if_neg (by omega), if_neg e, if_pos (by omega), show ((j : Int) - 1).toNat = j - 1 by omega]
  show ((k : Int) - 1) ∈ alongM (nodesB evs).length (lastN evs) ((j : Int) - 1) a ↔ _
  rw [← alongR_eq hx]
  unfold alongR DReach
  rw [if_neg (by omega), hhi, show ((j : Int) - 1 + 1).toNat = j by omega, filt_all (fun y _ => by unfold keepR; rcases hd with rfl | rfl <;> simp), List.mem_append, mem_rngL]
  rcases hd with rfl | rfl
  · rw [if_neg (by omega)]
    simp
    omega
  · rw [if_pos (by omega)]
    simp
    omega
theorem steps_of {f tb : Nat} {evs : List Ev} (HX : HoldX tb evs f) : StepX tb evs f := fun g0 n c a fr ss w hq hn hfn hrow h hml hgd =>
  steps_any (holdP (treePT evs) f) g0 n c a fr ss w hq hn hfn hrow h hml (axOK_of hq.whole) hgd fun v l la lc W hv1 hv2 hqW hx hl hg => all_of HX v l la lc W hv1 hv2 hqW hx hl hg
theorem holds_all (tb : Nat) (evs : List Ev) : ∀ f, HoldX tb evs f
  | 0 => fun v x cs W _ _ _ _ hg => by cases hg
  | f + 1 => fun v x cs W hv1 hv2 hq h hg => by
    have HX := holds_all tb evs f
    have hop : x.op = 0 ∨ x.op = 1 ∨ x.op = 2 ∨ x.op = 3 := by
      by_cases h3 : x.op = 3
      · exact .inr (.inr (.inr h3))
      · rcases (goodXB_args hg h3).1 with h | h | ⟨h, _⟩
        · exact .inl h
        · exact .inr (.inl h)
        · exact .inr (.inr (.inl h))
    rcases hop with h0 | h1 | h2 | h3
    · exact holdsAnd_any HX v x cs W hv1 hv2 hq h hg h0
    · exact holdsOr_any HX v x cs W hv1 hv2 hq h hg h1
    · exact holdsNot_any HX v x cs W hv1 hv2 hq h hg h2
    · exact holdsSome_any (steps_of HX) v x cs W hv1 hv2 hq h hg h3
theorem steps_all (f tb : Nat) (evs : List Ev) : StepX tb evs f := steps_of (holds_all tb evs f)
end Go.Proofs.YtekoflcioooncaaDoor

namespace Go.Proofs.YtekoflcioooncaaDoor
open Go.RowKit

def Ris (l : List Int) : Prop := l.Pairwise (· < ·)
theorem mem_trueIdx {fr : List Bool} {x : Int} : x ∈ trueIdx fr ↔ ∃ k, k < fr.length ∧ fr[k]?.getD false = true ∧ x = (k : Int) - 1 := by
  unfold trueIdx
  rw [List.mem_filterMap]
  constructor
  · rintro ⟨k, hk, h⟩
    rw [List.mem_range] at hk
    split at h
    · rename_i h1; exact ⟨k, hk, h1, (Option.some.inj h).symm⟩
    · cases h
  · rintro ⟨k, hk, h1, rfl⟩
    exact ⟨k, List.mem_range.2 hk, by rw [if_pos h1]⟩
theorem ris_filterMap (fr : List Bool) : ∀ n, Ris ((List.range n).filterMap fun (k : Nat) => if fr[k]?.getD false then some ((k : Int) - 1) else none) ∧ ∀ x ∈ ((List.range n).filterMap fun (k : Nat) => if fr[k]?.getD false then some ((k : Int) - 1) else none), x < (n : Int) - 1 := by
  intro n
  induction n with
  | zero => exact ⟨List.Pairwise.nil, fun x h => by cases h⟩
  | succ n ih =>
    rw [List.range_succ, List.filterMap_append]
    have hs : ∀ x ∈ ([n].filterMap fun (k : Nat) => if fr[k]?.getD false then some ((k : Int) - 1) else none), x = (n : Int) - 1 := by
      intro x hx
      rw [List.mem_filterMap] at hx
      obtain ⟨k, hk, h⟩ := hx
      have : k = n := by simpa using hk
      subst this
      split at h
      · exact (Option.some.inj h).symm
      · cases h
    refine ⟨List.pairwise_append.2 ⟨ih.1, ?_, fun x hx y hy => by rw [hs y hy]; exact ih.2 x hx⟩, fun x hx => ?_⟩
    · rw [List.filterMap_cons]
      split
      · exact List.Pairwise.nil
      · exact List.Pairwise.cons (fun _ h => by cases h) List.Pairwise.nil
    · rcases List.mem_append.1 hx with h | h
      · have := ih.2 x h; omega
      · have := hs x h; omega
theorem ris_trueIdx (fr : List Bool) : Ris (trueIdx fr) := (ris_filterMap fr fr.length).1
theorem ris_ext : ∀ {l m : List Int}, Ris l → Ris m → (∀ x, x ∈ l ↔ x ∈ m) → l = m
  | [], [], _, _, _ => rfl
  | [], y :: m, _, _, h => by have := (h y).2 List.mem_cons_self; cases this
  | x :: l, [], _, _, h => by have := (h x).1 List.mem_cons_self; cases this
  | x :: l, y :: m, hl, hm, h => by
    obtain ⟨hx, hl2⟩ := List.pairwise_cons.1 hl
    obtain ⟨hy, hm2⟩ := List.pairwise_cons.1 hm
    have e : x = y := by
      rcases List.mem_cons.1 ((h x).1 List.mem_cons_self) with h1 | h1
      · exact h1
      · rcases List.mem_cons.1 ((h y).2 List.mem_cons_self) with h2 | h2
        · exact h2.symm
        · have := hx y h2; have := hy x h1; omega
    subst e
    rw [ris_ext hl2 hm2 fun z => ?_]
    constructor
    · intro hz
      rcases List.mem_cons.1 ((h z).1 (List.mem_cons_of_mem _ hz)) with h1 | h1
      · have := hx z hz; omega
      · exact h1
    · intro hz
      rcases List.mem_cons.1 ((h z).2 (List.mem_cons_of_mem _ hz)) with h1 | h1
      · have := hy z hz; omega
      · exact h1
theorem stepP_at (hold : Int → PX → Bool) (T : PT) (fr : List Bool) (s : PS) (k : Nat) : (stepP hold T fr s)[k]?.getD false = true ↔ k < fr.length ∧ (∃ j, j < fr.length ∧ fr[j]?.getD false = true ∧ ((k : Int) - 1) ∈ T.along ((j : Int) - 1) s.axis) ∧ meetsP T ((k : Int) - 1) s = true ∧ s.wher.all (hold ((k : Int) - 1)) = true := by
  unfold stepP
  rw [List.getElem?_map]
  rcases Nat.lt_or_ge k fr.length with h | h
  · rw [List.getElem?_range h]
    simp only [Option.map_some, Option.getD_some, Bool.and_eq_true, reachP_iff]
    exact ⟨fun ⟨a, b, c⟩ => ⟨h, a, b, c⟩, fun ⟨_, a, b, c⟩ => ⟨a, b, c⟩⟩
  · rw [List.getElem?_eq_none (by simpa using h)]
    exact ⟨fun h => (by cases h), fun ⟨h1, _⟩ => absurd h1 (by omega)⟩
theorem oneP_at (N : Nat) (n : Int) (k : Nat) : (oneP N n)[k]?.getD false = true ↔ k ≤ N ∧ (k : Int) = n + 1 := by
  unfold oneP
  rw [List.getElem?_map]
  rcases Nat.lt_or_ge k (N + 1) with h | h
  · rw [List.getElem?_range h]
    simp only [Option.map_some, Option.getD_some, decide_eq_true_eq]
    exact ⟨fun a => ⟨by omega, a⟩, fun a => a.2⟩
  · rw [List.getElem?_eq_none (by simpa using h)]
    exact ⟨fun h => (by cases h), fun ⟨h1, _⟩ => absurd h1 (by omega)⟩
theorem stepsP_cons (hold : Int → PX → Bool) (T : PT) (fr : List Bool) (s : PS) (ss : List PS) : stepsP hold T fr (s :: ss) = stepsP hold T (stepP hold T fr s) ss := rfl
theorem stepsP_app (hold : Int → PX → Bool) (T : PT) (fr : List Bool) (ss tt : List PS) : stepsP hold T fr (ss ++ tt) = stepsP hold T (stepsP hold T fr ss) tt := by unfold stepsP; rw [List.foldl_append]
theorem stepsP_lin (hold : Int → PX → Bool) (T : PT) (N : Nat) : ∀ (ss : List PS) (fr : List Bool), fr.length = N + 1 → ∀ k : Nat, ((stepsP hold T fr ss)[k]?.getD false = true ↔ ∃ j : Nat, j < fr.length ∧ fr[j]?.getD false = true ∧ (stepsP hold T (oneP N ((j : Int) - 1)) ss)[k]?.getD false = true) := by
  intro ss
  induction ss with
  | nil =>
    intro fr hl k
    show fr[k]?.getD false = true ↔ ∃ j : Nat, j < fr.length ∧ fr[j]?.getD false = true ∧ (oneP N ((j : Int) - 1))[k]?.getD false = true
    constructor
    · intro h
      have := fr_lt h
      exact ⟨k, this, h, (oneP_at ..).2 ⟨by omega, by omega⟩⟩
    · rintro ⟨j, h1, h2, h3⟩
      have := ((oneP_at ..).1 h3).2
      have e : k = j := by omega
      rw [e]; exact h2
  | cons s ss ih =>
    intro fr hl k
    rw [stepsP_cons, ih _ (by rw [stepP_len, hl]) k, stepP_len]
    constructor
    · rintro ⟨j', h1, h2, h3⟩
      obtain ⟨_, ⟨j, q1, q2, q3⟩, q4, q5⟩ := (stepP_at ..).1 h2
      refine ⟨j, q1, q2, ?_⟩
      rw [stepsP_cons, ih _ (by rw [stepP_len, oneP_len]) k, stepP_len, oneP_len]
      refine ⟨j', by omega, (stepP_at ..).2 ⟨by rw [oneP_len]; omega, ⟨j, by rw [oneP_len]; omega, (oneP_at ..).2 ⟨by omega, by omega⟩, q3⟩, q4, q5⟩, h3⟩
    · rintro ⟨j, q1, q2, h⟩
      rw [stepsP_cons, ih _ (by rw [stepP_len, oneP_len]) k, stepP_len, oneP_len] at h
      obtain ⟨j', h1, h2, h3⟩ := h
      obtain ⟨_, ⟨i, p1, p2, p3⟩, q4, q5⟩ := (stepP_at ..).1 h2
      have hi := ((oneP_at ..).1 p2).2
      have e : i = j := by omega
      subst e
      exact ⟨j', by omega, (stepP_at ..).2 ⟨by omega, ⟨i, q1, q2, p3⟩, q4, q5⟩, h3⟩
theorem mem_fromP {T : PT} {f : Nat} {n : Int} {ss : List PS} {x : Int} : x ∈ fromP T f n ss ↔ ∃ k : Nat, x = (k : Int) - 1 ∧ (stepsP (holdP T f) T (oneP T.N n) ss)[k]?.getD false = true := by
  unfold fromP
  rw [mem_trueIdx]
  constructor
  · rintro ⟨k, _, h, e⟩; exact ⟨k, e, h⟩
  · rintro ⟨k, e, h⟩; exact ⟨k, fr_lt h, h, e⟩
theorem ris_fromP (T : PT) (f : Nat) (n : Int) (ss : List PS) : Ris (fromP T f n ss) := ris_trueIdx _
theorem mem_from1 {T : PT} {f : Nat} {n : Int} {s : PS} {x : Int} (h1 : -1 ≤ n) (h2 : n < T.N) : x ∈ fromP T f n [s] ↔ -1 ≤ x ∧ x < T.N ∧ x ∈ T.along n s.axis ∧ meetsP T x s = true ∧ s.wher.all (holdP T f x) = true := by
  rw [mem_fromP]
  constructor
  · rintro ⟨k, rfl, h⟩
    obtain ⟨p1, ⟨j, p2, p3, p4⟩, p5, p6⟩ := (stepP_at ..).1 h
    rw [oneP_len] at p1
    have := ((oneP_at ..).1 p3).2
    rw [show (j : Int) - 1 = n by omega] at p4
    exact ⟨by omega, by omega, p4, p5, p6⟩
  · rintro ⟨p1, p2, p3, p4, p5⟩
    obtain ⟨k, rfl⟩ : ∃ k : Nat, x = (k : Int) - 1 := ⟨(x + 1).toNat, by omega⟩
    refine ⟨k, rfl, (stepP_at ..).2 ⟨by rw [oneP_len]; omega, ⟨(n + 1).toNat, by rw [oneP_len]; omega, (oneP_at ..).2 ⟨by omega, by omega⟩, ?_⟩, p4, p5⟩⟩
    rw [show (((n + 1).toNat : Nat) : Int) - 1 = n by omega]; exact p3
theorem mem_from_app {T : PT} {f : Nat} {n : Int} {ss tt : List PS} {x : Int} : x ∈ fromP T f n (ss ++ tt) ↔ ∃ y ∈ fromP T f n ss, x ∈ fromP T f y tt := by
  rw [mem_fromP]
  constructor
  · rintro ⟨k, rfl, h⟩
    rw [stepsP_app, stepsP_lin _ _ T.N _ _ (by rw [stepsP_len, oneP_len])] at h
    obtain ⟨j, _, q2, q3⟩ := h
    exact ⟨(j : Int) - 1, mem_fromP.2 ⟨j, rfl, q2⟩, mem_fromP.2 ⟨k, rfl, q3⟩⟩
  · rintro ⟨y, h1, h2⟩
    obtain ⟨j, rfl, q2⟩ := mem_fromP.1 h1
    obtain ⟨k, rfl, q3⟩ := mem_fromP.1 h2
    refine ⟨k, rfl, ?_⟩
    rw [stepsP_app, stepsP_lin _ _ T.N _ _ (by rw [stepsP_len, oneP_len])]
    exact ⟨j, fr_lt q2, q2, q3⟩
theorem from_self {evs : List Ev} {f : Nat} {n : Int} (h1 : -1 ≤ n) (h2 : n < (nodesB evs).length) (l : List PX) : fromP (treePT evs) f n [.mk 3 3 [] l] = if l.all (holdP (treePT evs) f n) then [n] else [] := by
  have hal : (treePT evs).along n 3 = [n] := alongM_self h1 h2
  have hm : ∀ x, x ∈ fromP (treePT evs) f n [.mk 3 3 [] l] ↔ x = n ∧ l.all (holdP (treePT evs) f n) = true := fun x => by
    rw [mem_from1 h1 h2]
    show _ ∧ _ ∧ x ∈ (treePT evs).along n 3 ∧ _ ∧ l.all (holdP (treePT evs) f x) = true ↔ _
    rw [hal, List.mem_singleton]
    constructor
    · rintro ⟨_, _, rfl, _, h⟩; exact ⟨rfl, h⟩
    · rintro ⟨rfl, h⟩; exact ⟨h1, h2, rfl, rfl, h⟩
  refine ris_ext (ris_fromP ..) (by split; exact List.Pairwise.cons (fun _ h => by cases h) List.Pairwise.nil; exact List.Pairwise.nil) fun x => ?_
  rw [hm]
  split
  · rename_i h; rw [List.mem_singleton]; exact ⟨fun a => a.1, fun a => ⟨a, h⟩⟩
  · rename_i h; exact ⟨fun a => absurd a.2 h, fun a => (by cases a)⟩
theorem some_exists {T : PT} {fr : List Bool} {x : PX} (ha : x.attr = []) (hc : x.cmp = 0) : someP T fr x = decide (0 < (trueIdx fr).length) := by
  have hcm : ∀ v, comparesP T v x = true := fun v => by
    unfold comparesP askedP
    rw [if_pos ha, hc]
    rfl
  cases hd : decide (0 < (trueIdx fr).length) with
  | true =>
    rw [decide_eq_true_eq] at hd
    obtain ⟨y, hy⟩ := List.exists_mem_of_length_pos hd
    obtain ⟨k, h1, h2, _⟩ := mem_trueIdx.1 hy
    unfold someP
    rw [List.any_eq_true]
    exact ⟨k, List.mem_range.2 h1, by rw [h2, hcm]; rfl⟩
  | false =>
    rw [decide_eq_false_iff_not] at hd
    cases hs : someP T fr x with
    | false => rfl
    | true =>
      unfold someP at hs
      rw [List.any_eq_true] at hs
      obtain ⟨k, h1, h2⟩ := hs
      rw [Bool.and_eq_true] at h2
      have := List.length_pos_of_mem (mem_trueIdx.2 ⟨k, List.mem_range.1 h1, h2.1, rfl⟩)
      exact absurd this hd

end Go.Proofs.YtekoflcioooncaaDoor

namespace Go.Proofs.YtekoflcioooncaaDoor
open Go.RowKit

theorem sum_nodup (g : Nat → Nat) : ∀ (n : Nat) (ks : List Nat), ks.Nodup → (∀ k ∈ ks, k < n) → (ks.map g).sum ≤ ((List.range n).map g).sum
  | 0, ks, _, h => by
    cases ks with
    | nil => simp
    | cons k r => have := h k List.mem_cons_self; omega
  | n + 1, ks, hn, h => by
    rw [List.range_succ, List.map_append, List.sum_append]
    simp only [List.map_cons, List.map_nil, List.sum_cons, List.sum_nil, Nat.add_zero]
    by_cases hm : n ∈ ks
    · have hp := List.perm_cons_erase hm
      have e : (ks.map g).sum = g n + ((ks.erase n).map g).sum := by
        rw [(hp.map g).sum_nat]; simp
      have := sum_nodup g n (ks.erase n) (hn.erase n) (fun k hk => by
        have h1 := h k (List.mem_of_mem_erase hk)
        have h2 : k ≠ n := fun e => by subst e; exact hn.not_mem_erase hk
        omega)
      omega
    · have := sum_nodup g n ks hn (fun k hk => by
        have h1 := h k hk
        have h2 : k ≠ n := fun e => by subst e; exact hm hk
        omega)
      omega
def txG (evs : List Ev) (p : Nat) : Nat := ((evs[p]?).map fun e => e.text.length).getD 0
theorem txG_sum (evs : List Ev) : ((List.range evs.length).map (txG evs)).sum ≤ wtEs evs := by
  have e : (List.range evs.length).map (txG evs) = evs.map (fun e => e.text.length) := by
    refine List.ext_getElem (by simp) fun i h1 h2 => ?_
    have hi : i < evs.length := by simpa using h2
    simp [txG, List.getElem?_eq_getElem hi]
  rw [e]
  unfold wtEs
  clear e
  induction evs with
  | nil => simp
  | cons x r ih => simp only [List.map_cons, List.sum_cons, wtE]; omega
def posN (evs : List Ev) (k : Nat) : Nat := ((nodesB evs)[k]?.map (·.pos)).getD 0
theorem txtR_bulk {evs : List Ev} (hw : wholeB evs = true) {i hi : Nat} (hhi : hi ≤ (nodesB evs).length) : (txtR evs i hi).length ≤ wtEs evs := by
  obtain ⟨t, ht, _, _⟩ := wholeB_some hw
  have hinv := NdInv.start.all evs ht
  rw [List.nil_append] at hinv
  have hk : ∀ k, k < (nodesB evs).length → ∃ e, evs[posN evs k]? = some e ∧ e.num = (k : Int) ∧ (ndTxt evs k).length = txG evs (posN evs k) := fun k hk => by
    have hx : (nodesB evs)[k]? = some (nodesB evs)[k] := List.getElem?_eq_getElem hk
    obtain ⟨e, he, _, hn⟩ := hinv.here k _ hx
    have hp : posN evs k = (nodesB evs)[k].pos := by unfold posN; rw [hx]; rfl
    refine ⟨e, by rw [hp]; exact he, hn, ?_⟩
    unfold ndTxt txG
    rw [hp, hx]
    simp [he]
  have hmem : ∀ k ∈ List.range' i (hi - i), k < (nodesB evs).length := fun k h => by rw [List.mem_range'_1] at h; omega
  have e : (txtR evs i hi).length = (((List.range' i (hi - i)).map (posN evs)).map (txG evs)).sum := by
    unfold txtR
    rw [List.length_flatMap, List.map_map]
    congr 1
    refine List.map_congr_left fun k h => ?_
    obtain ⟨_, _, _, h3⟩ := hk k (hmem k h)
    exact h3
  rw [e]
  refine Nat.le_trans (sum_nodup (txG evs) evs.length _ ?_ ?_) (txG_sum evs)
  · refine List.pairwise_map.2 (List.Pairwise.imp_of_mem ?_ (List.nodup_range' (step := 1) (Nat.zero_lt_one)))
    intro a b ha hb hab heq
    obtain ⟨e1, h1, h2, _⟩ := hk a (hmem a ha)
    obtain ⟨e2, k1, k2, _⟩ := hk b (hmem b hb)
    rw [heq, k1] at h1
    cases h1
    rw [h2] at k2
    exact hab (by omega)
  · intro p hp
    obtain ⟨k, h, rfl⟩ := List.mem_map.1 hp
    obtain ⟨e1, h1, _⟩ := hk k (hmem k h)
    exact (List.getElem?_eq_some_iff.1 h1).1
theorem evSmQ (e : Ev) (h : wtE e ≤ 1048576) : EvSm e := by
  unfold wtE at h
  have hA : ∀ (l : List (List UInt8 × List UInt8)), l.length ≤ wtA l ∧ ∀ p ∈ l, p.1.length ≤ wtA l ∧ p.2.length ≤ wtA l := by
    intro l
    induction l with
    | nil => exact ⟨Nat.le_refl _, fun p hp => by cases hp⟩
    | cons x r ih =>
      obtain ⟨h1, h2⟩ := ih
      have e : wtA (x :: r) = x.1.length + x.2.length + 1 + wtA r := by unfold wtA; simp
      refine ⟨by simp; omega, fun p hp => ?_⟩
      rcases List.mem_cons.1 hp with rfl | hp
      · omega
      · have := h2 p hp; omega
  obtain ⟨h1, h2⟩ := hA e.ats
  exact ⟨by omega, by omega, by omega, fun p hp => by have := h2 p hp; omega⟩
theorem evsSm {evs : List Ev} (h : wtEs evs ≤ 1048576) : ∀ e ∈ evs, EvSm e := fun e he => by
  obtain ⟨i, hi, rfl⟩ := List.getElem_of_mem he
  exact evSmQ _ (Nat.le_trans (wtEs_mem evs i hi) h)
theorem tq_of {w : World} {tb B : Nat} {evs : List Ev} (h : TreeAt w B tb evs) (hw : wholeB evs = true) (hwt : wtEs evs ≤ 1048576) (hL : (nodesB evs).length ≤ 1024) : TQ w tb evs := by
  refine ⟨⟨B, h⟩, hw, evsSm hwt, hL, fun v i h1 h2 => ?_⟩
  obtain ⟨t, ht, _, _⟩ := wholeB_some hw
  refine Nat.le_trans (txtR_bulk hw ?_) hwt
  unfold hiOf
  split
  · exact Nat.le_refl _
  · have := lastN_rng ht v.toNat (by omega); omega
end Go.Proofs.YtekoflcioooncaaDoor
