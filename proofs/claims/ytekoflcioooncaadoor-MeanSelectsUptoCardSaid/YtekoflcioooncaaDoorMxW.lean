/-
  The plain law of mean.steps' round over the nodes: what lies in a node that was gone through needn't be again.
  A node of number n is at place n + 1; last: the place of a node's last descendant (its own where it has none).
-/
import Derived.Test.YtekoflcioooncaaDoorMxV
import Derived.Test.YtekoflcioooncaaDoorMxP
import Derived.Test.YtekoflcioooncaaDoorMxT
namespace Go.Proofs.YtekoflcioooncaaDoor

def DReach (last : Nat → Nat) (slf : Bool) (j k : Nat) : Prop := (j < k ∧ k ≤ last j) ∨ (slf = true ∧ k = j)
structure CovInv (last : Nat → Nat) (slf : Bool) (fr : Nat → Bool) (i : Nat) (T : Nat → Prop) (c : Nat) : Prop where
  to' : ∀ k, T k ↔ ∃ j, j < i ∧ fr j = true ∧ DReach last slf j k
  cov : ∀ k, i ≤ k → k < c → ∃ j, j < i ∧ fr j = true ∧ k ≤ last j
theorem CovInv.start (last : Nat → Nat) (slf : Bool) (fr : Nat → Bool) : CovInv last slf fr 0 (fun _ => False) 0 :=
  ⟨fun _ => ⟨fun h => h.elim, fun ⟨_, h, _⟩ => absurd h (Nat.not_lt_zero _)⟩, fun _ _ h => absurd h (Nat.not_lt_zero _)⟩
theorem CovInv.skip {last : Nat → Nat} {slf : Bool} {fr : Nat → Bool} {i c : Nat} {T : Nat → Prop} (h : CovInv last slf fr i T c) (hf : fr i = false) : CovInv last slf fr (i + 1) T c := by
  refine ⟨fun k => (h.to' k).trans ⟨fun ⟨j, h1, h2⟩ => ⟨j, by omega, h2⟩, fun ⟨j, h1, h2, h3⟩ => ?_⟩, fun k h1 h2 => ?_⟩
  · have : j ≠ i := fun e => by rw [e, hf] at h2; cases h2
    exact ⟨j, by omega, h2, h3⟩
  · obtain ⟨j, a, b⟩ := h.cov k (by omega) h2
    exact ⟨j, by omega, b⟩
theorem CovInv.covered {last : Nat → Nat} {slf : Bool} {fr : Nat → Bool} {i c : Nat} {T : Nat → Prop} (lam : ∀ a b, a ≤ b → b ≤ last a → last b ≤ last a)
    (h : CovInv last slf fr i T c) (hf : fr i = true) (hc : i < c) : CovInv last slf fr (i + 1) (fun k => T k ∨ (slf = true ∧ k = i)) c := by
  refine ⟨fun k => ⟨fun hk => ?_, fun ⟨j, h1, h2, h3⟩ => ?_⟩, fun k h1 h2 => ?_⟩
  · rcases hk with hk | ⟨hs, rfl⟩
    · obtain ⟨j, a, b⟩ := (h.to' k).1 hk
      exact ⟨j, by omega, b⟩
    · exact ⟨k, by omega, hf, .inr ⟨hs, rfl⟩⟩
  · by_cases e : j = i
    · subst e
      rcases h3 with ⟨h3, h4⟩ | h3
      · obtain ⟨j0, a, b, d⟩ := h.cov j (Nat.le_refl _) hc
        have := lam j0 j (by omega) d
        exact .inl ((h.to' k).2 ⟨j0, a, b, .inl ⟨by omega, by omega⟩⟩)
      · exact .inr h3
    · exact .inl ((h.to' k).2 ⟨j, by omega, h2, h3⟩)
  · obtain ⟨j, a, b⟩ := h.cov k (by omega) h2
    exact ⟨j, by omega, b⟩
theorem CovInv.through {last : Nat → Nat} {slf : Bool} {fr : Nat → Bool} {i c c' : Nat} {T : Nat → Prop}
    (h : CovInv last slf fr i T c) (hf : fr i = true) (hc : ∀ k, i < k → k < c' → k < c ∨ k ≤ last i) : CovInv last slf fr (i + 1) (fun k => T k ∨ DReach last slf i k) c' := by
  refine ⟨fun k => ⟨fun hk => ?_, fun ⟨j, h1, h2, h3⟩ => ?_⟩, fun k h1 h2 => ?_⟩
  · rcases hk with hk | hk
    · obtain ⟨j, a, b⟩ := (h.to' k).1 hk
      exact ⟨j, by omega, b⟩
    · exact ⟨i, by omega, hf, hk⟩
  · by_cases e : j = i
    · subst e; exact .inr h3
    · exact .inl ((h.to' k).2 ⟨j, by omega, h2, h3⟩)
  · rcases hc k (by omega) h2 with h3 | h3
    · obtain ⟨j, a, b⟩ := h.cov k (by omega) h3
      exact ⟨j, by omega, b⟩
    · exact ⟨i, by omega, hf, h3⟩

def AllInv (R : Nat → Nat → Prop) (fr : Nat → Bool) (i : Nat) (T : Nat → Prop) : Prop := ∀ k, T k ↔ ∃ j, j < i ∧ fr j = true ∧ R j k
theorem AllInv.start (R : Nat → Nat → Prop) (fr : Nat → Bool) : AllInv R fr 0 (fun _ => False) := fun _ => ⟨fun h => h.elim, fun ⟨_, h, _⟩ => absurd h (Nat.not_lt_zero _)⟩
theorem AllInv.skip {R : Nat → Nat → Prop} {fr : Nat → Bool} {i : Nat} {T : Nat → Prop} (h : AllInv R fr i T) (hf : fr i = false) : AllInv R fr (i + 1) T := fun k =>
  (h k).trans ⟨fun ⟨j, h1, h2⟩ => ⟨j, by omega, h2⟩, fun ⟨j, h1, h2, h3⟩ => by
    have : j ≠ i := fun e => by rw [e, hf] at h2; cases h2
    exact ⟨j, by omega, h2, h3⟩⟩
theorem AllInv.through {R : Nat → Nat → Prop} {fr : Nat → Bool} {i : Nat} {T : Nat → Prop} (h : AllInv R fr i T) (hf : fr i = true) : AllInv R fr (i + 1) (fun k => T k ∨ R i k) := fun k => by
  refine ⟨fun hk => ?_, fun ⟨j, h1, h2, h3⟩ => ?_⟩
  · rcases hk with hk | hk
    · obtain ⟨j, a, b⟩ := (h k).1 hk
      exact ⟨j, by omega, b⟩
    · exact ⟨i, by omega, hf, hk⟩
  · by_cases e : j = i
    · subst e; exact .inr h3
    · exact .inl ((h k).2 ⟨j, by omega, h2, h3⟩)
theorem CovInv.all {last : Nat → Nat} {slf : Bool} {fr : Nat → Bool} {i c : Nat} {T : Nat → Prop} (h : CovInv last slf fr i T c) : AllInv (DReach last slf) fr i T := h.to'

end Go.Proofs.YtekoflcioooncaaDoor

namespace Go.Proofs.YtekoflcioooncaaDoor

def markL (tl : List Bool) (pre : List Int) : List Bool := pre.foldl (fun t k => t.set (k + 1).toNat true) tl
theorem markL_len (pre : List Int) : ∀ tl : List Bool, (markL tl pre).length = tl.length := by
  induction pre with
  | nil => intro tl; rfl
  | cons x pre ih => intro tl; show (markL (tl.set _ true) pre).length = _; rw [ih, List.length_set]
theorem markL_snoc (tl : List Bool) (pre : List Int) (y : Int) : markL tl (pre ++ [y]) = (markL tl pre).set (y + 1).toNat true := by
  unfold markL; rw [List.foldl_append]; rfl
theorem markL_true (pre : List Int) : ∀ (tl : List Bool) (k : Nat), (∀ x ∈ pre, -1 ≤ x) → k < tl.length → ((markL tl pre)[k]? = some true ↔ tl[k]? = some true ∨ ((k : Int) - 1) ∈ pre) := by
  induction pre with
  | nil => intro tl k _ _; simp [markL]
  | cons x pre ih =>
    intro tl k hp hk
    show (markL (tl.set (x + 1).toNat true) pre)[k]? = some true ↔ _
    rw [ih _ k (fun y hy => hp y (List.mem_cons_of_mem _ hy)) (by rw [List.length_set]; exact hk), List.getElem?_set, List.mem_cons]
    have hx := hp x List.mem_cons_self
    by_cases e : (x + 1).toNat = k
    · rw [if_pos e, if_pos (by omega)]
      exact ⟨fun _ => .inr (.inl (by omega)), fun _ => .inl rfl⟩
    · rw [if_neg e]
      have : ¬ ((k : Int) - 1 = x) := by omega
      simp [this]
def covL (c : Int) (pre : List Int) : Int := pre.foldl max c
theorem covL_snoc (c : Int) (pre : List Int) (y : Int) : covL c (pre ++ [y]) = max (covL c pre) y := by
  unfold covL; rw [List.foldl_append]; rfl
theorem covL_or (pre : List Int) : ∀ c : Int, covL c pre = c ∨ covL c pre ∈ pre := by
  induction pre with
  | nil => intro c; exact .inl rfl
  | cons x pre ih =>
    intro c
    show covL (max c x) pre = c ∨ covL (max c x) pre ∈ x :: pre
    rcases ih (max c x) with h | h
    · rw [h]
      by_cases hc : x ≤ c
      · exact .inl (by omega)
      · exact .inr (by rw [show max c x = x by omega]; exact List.mem_cons_self)
    · exact .inr (List.mem_cons_of_mem _ h)
theorem covL_le (pre : List Int) : ∀ c : Int, c ≤ covL c pre := by
  induction pre with
  | nil => intro c; exact Int.le_refl _
  | cons x pre ih => intro c; exact Int.le_trans (by omega) (ih (max c x))
def deepA (a : Int) : Bool := decide (a = 1) || decide (a = 2)
def markS (T : PT) (a : Int) (fr : List Bool) (st : List Bool × Int) (i : Nat) : List Bool × Int :=
  if fr[i]?.getD false = false then st
  else if deepA a = true ∧ (i : Int) - 1 ≤ st.2 then (if a = 2 then st.1.set i true else st.1, st.2)
  else (markL st.1 (T.along ((i : Int) - 1) a), if deepA a then covL st.2 (T.along ((i : Int) - 1) a) else st.2)
def markI (T : PT) (a : Int) (fr : List Bool) (i : Nat) : List Bool × Int := (List.range i).foldl (markS T a fr) (List.replicate fr.length false, -2)
theorem markI_zero (T : PT) (a : Int) (fr : List Bool) : markI T a fr 0 = (List.replicate fr.length false, -2) := rfl
theorem markI_succ (T : PT) (a : Int) (fr : List Bool) (i : Nat) : markI T a fr (i + 1) = markS T a fr (markI T a fr i) i := by
  unfold markI; rw [List.range_succ, List.foldl_append]; rfl
theorem markS_len (T : PT) (a : Int) (fr : List Bool) (st : List Bool × Int) (i : Nat) : (markS T a fr st i).1.length = st.1.length := by
  unfold markS
  split
  · rfl
  · split
    · split
      · simp
      · rfl
    · exact markL_len ..
theorem markI_len (T : PT) (a : Int) (fr : List Bool) (i : Nat) : (markI T a fr i).1.length = fr.length := by
  induction i with
  | zero => simp [markI_zero]
  | succ i ih => rw [markI_succ, markS_len, ih]
structure AxOK (T : PT) (lst : Nat → Nat) : Prop where
  in' : ∀ n a x, x ∈ T.along n a → -1 ≤ x ∧ x < T.N
  deep : ∀ j k : Nat, j ≤ T.N → ∀ a, deepA a = true → (((k : Int) - 1) ∈ T.along ((j : Int) - 1) a ↔ DReach lst (decide (a = 2)) j k)
  lam : ∀ a b, a ≤ b → b ≤ lst a → lst b ≤ lst a
theorem fr_lt {fr : List Bool} {i : Nat} (h : fr[i]?.getD false = true) : i < fr.length := by
  rcases Nat.lt_or_ge i fr.length with h1 | h1
  · exact h1
  · rw [List.getElem?_eq_none h1] at h; cases h
theorem AllInv.congr {R : Nat → Nat → Prop} {fr : Nat → Bool} {i : Nat} {T T' : Nat → Prop} (h : AllInv R fr i T) (hT : ∀ k, T k ↔ T' k) : AllInv R fr i T' := fun k => (hT k).symm.trans (h k)
theorem CovInv.congr {last : Nat → Nat} {slf : Bool} {fr : Nat → Bool} {i c : Nat} {T T' : Nat → Prop} (h : CovInv last slf fr i T c) (hT : ∀ k, T k ↔ T' k) : CovInv last slf fr i T' c := ⟨fun k => (hT k).symm.trans (h.to' k), h.cov⟩
theorem mark_get {T : PT} {lst : Nat → Nat} (hA : AxOK T lst) {fr : List Bool} (hfr : fr.length = T.N + 1) (a : Int) (i : Nat) {tl : List Bool} (hl : tl.length = fr.length) (k : Nat) :
    (markL tl (T.along ((i : Int) - 1) a))[k]? = some true ↔ tl[k]? = some true ∨ ((k : Int) - 1) ∈ T.along ((i : Int) - 1) a := by
  rcases Nat.lt_or_ge k tl.length with h | h
  · exact markL_true _ _ _ (fun x hx => (hA.in' _ _ x hx).1) h
  · rw [List.getElem?_eq_none (by rw [markL_len]; exact h), List.getElem?_eq_none h]
    refine ⟨fun h => (by cases h), fun h2 => ?_⟩
    rcases h2 with h2 | h2
    · cases h2
    · have := (hA.in' _ _ _ h2).2; omega
theorem markI_deep {T : PT} {lst : Nat → Nat} (hA : AxOK T lst) {fr : List Bool} (hfr : fr.length = T.N + 1) (a : Int) (hd : deepA a = true) : ∀ i, i ≤ fr.length →
    -2 ≤ (markI T a fr i).2 ∧ CovInv lst (decide (a = 2)) (fun j => fr[j]?.getD false) i (fun k => (markI T a fr i).1[k]? = some true) ((markI T a fr i).2 + 2).toNat := by
  intro i
  induction i with
  | zero =>
    intro _
    refine ⟨by rw [markI_zero]; exact Int.le_refl _, ?_⟩
    rw [markI_zero]
    refine (CovInv.start _ _ _).congr fun k => ⟨fun h => h.elim, fun h => ?_⟩
    rw [List.getElem?_replicate] at h
    split at h <;> cases h
  | succ i ih =>
    intro hi
    obtain ⟨h1, h2⟩ := ih (by omega)
    have hl := markI_len T a fr i
    rw [markI_succ]
    generalize markI T a fr i = st at *
    unfold markS
    by_cases hf : fr[i]?.getD false = false
    · rw [if_pos hf]
      exact ⟨h1, h2.skip hf⟩
    · have hf' : fr[i]?.getD false = true := by simpa using hf
      rw [if_neg hf]
      by_cases hc : (i : Int) - 1 ≤ st.2
      · rw [if_pos ⟨hd, hc⟩]
        refine ⟨h1, (h2.covered hA.lam hf' (by omega)).congr fun k => ?_⟩
        by_cases h2' : a = 2
        · simp only [h2', if_true, decide_true, true_and]
          rw [List.getElem?_set]
          by_cases e : i = k
          · subst e; rw [if_pos rfl, if_pos (by omega)]; simp
          · rw [if_neg e]
            exact ⟨fun h => h.elim id fun h => absurd h.symm e, .inl⟩
        · simp [h2']
      · rw [if_neg (fun h => hc h.2)]
        simp only [hd, if_true]
        have hal := hA.deep i
        have hor := covL_or (T.along ((i : Int) - 1) a) st.2
        have hle := covL_le (T.along ((i : Int) - 1) a) st.2
        refine ⟨by omega, (h2.through (c' := (covL st.2 (T.along ((i : Int) - 1) a) + 2).toNat) hf' fun k hk1 hk2 => ?_).congr fun k => ?_⟩
        · rcases hor with h | h
          · left; omega
          · right
            have hin := hA.in' _ _ _ h
            obtain ⟨q, hq⟩ : ∃ q : Nat, (q : Int) - 1 = covL st.2 (T.along ((i : Int) - 1) a) := ⟨(covL st.2 (T.along ((i : Int) - 1) a) + 1).toNat, by omega⟩
            rw [← hq] at h hk2
            rcases (hal q (by omega) a hd).1 h with h3 | h3
            · omega
            · omega
        · rw [mark_get hA hfr a i hl k, hal k (by omega) a hd]
theorem markI_else {T : PT} {lst : Nat → Nat} (hA : AxOK T lst) {fr : List Bool} (hfr : fr.length = T.N + 1) (a : Int) (hd : deepA a = false) : ∀ i, i ≤ fr.length →
    AllInv (fun j k => ((k : Int) - 1) ∈ T.along ((j : Int) - 1) a) (fun j => fr[j]?.getD false) i (fun k => (markI T a fr i).1[k]? = some true) := by
  intro i
  induction i with
  | zero =>
    intro _
    rw [markI_zero]
    refine (AllInv.start _ _).congr fun k => ⟨fun h => h.elim, fun h => ?_⟩
    rw [List.getElem?_replicate] at h
    split at h <;> cases h
  | succ i ih =>
    intro hi
    have h2 := ih (by omega)
    have hl := markI_len T a fr i
    rw [markI_succ]
    generalize markI T a fr i = st at *
    unfold markS
    by_cases hf : fr[i]?.getD false = false
    · rw [if_pos hf]
      exact h2.skip hf
    · have hf' : fr[i]?.getD false = true := by simpa using hf
      rw [if_neg hf, if_neg (fun h => by rw [hd] at h; cases h.1)]
      exact (h2.through hf').congr fun k => (mark_get hA hfr a i hl k).symm
theorem reachP_iff (T : PT) (fr : List Bool) (a : Int) (k : Nat) : reachP T fr a k = true ↔ ∃ j, j < fr.length ∧ fr[j]?.getD false = true ∧ ((k : Int) - 1) ∈ T.along ((j : Int) - 1) a := by
  simp only [reachP, List.any_eq_true, List.mem_range, Bool.and_eq_true, List.contains_iff_mem]
theorem bools_ext {l m : List Bool} (hl : l.length = m.length) (h : ∀ k, k < l.length → (l[k]? = some true ↔ m[k]? = some true)) : l = m := by
  refine List.ext_getElem hl fun k h1 h2 => ?_
  have := h k h1
  rw [List.getElem?_eq_getElem h1, List.getElem?_eq_getElem h2] at this
  cases hx : l[k] <;> cases hy : m[k] <;> simp_all
theorem markI_reach {T : PT} {lst : Nat → Nat} (hA : AxOK T lst) {fr : List Bool} (hfr : fr.length = T.N + 1) (a : Int) : (markI T a fr fr.length).1 = (List.range fr.length).map (reachP T fr a) := by
  refine bools_ext (by rw [markI_len]; simp) fun k hk => ?_
  rw [markI_len] at hk
  have hm : ((List.range fr.length).map (reachP T fr a))[k]? = some (reachP T fr a k) := by rw [List.getElem?_map, List.getElem?_range hk]; rfl
  rw [hm, Option.some.injEq, reachP_iff]
  cases hd : deepA a with
  | true =>
    refine ((markI_deep hA hfr a hd fr.length (Nat.le_refl _)).2.to' k).trans ⟨fun ⟨j, h1, h2, h3⟩ => ⟨j, h1, h2, (hA.deep j k (by omega) a hd).2 h3⟩, fun ⟨j, h1, h2, h3⟩ => ⟨j, h1, h2, (hA.deep j k (by omega) a hd).1 h3⟩⟩
  | false => exact markI_else hA hfr a hd fr.length (Nat.le_refl _) k
end Go.Proofs.YtekoflcioooncaaDoor

namespace Go.Proofs.YtekoflcioooncaaDoor
open Go.RowKit

def nodeEv (evs : List Ev) (n : Nat) : Ev := (((nodesB evs)[n]?).bind fun x => evs[x.pos]?).getD ⟨0, 0, 0, [], [], [], 0, 0⟩
def treePT (evs : List Ev) : PT := ⟨(nodesB evs).length, alongM (nodesB evs).length (lastN evs), nodeEv evs, fun v => txtR evs v.toNat (hiOf (nodesB evs).length (lastN evs) v)⟩
structure TQ (w : World) (tb : Nat) (evs : List Ev) : Prop where
  at' : ∃ B, TreeAt w B tb evs
  whole : wholeB evs = true
  sm : ∀ e ∈ evs, EvSm e
  len : (nodesB evs).length ≤ 1024
  texts : ∀ v i, v = ((i : Nat) : Int) ∨ v = -1 ∧ i = 0 → v < (nodesB evs).length → (txtR evs i (hiOf (nodesB evs).length (lastN evs) v)).length ≤ 1048576
theorem TQ.below {w w' : World} {tb : Nat} {evs : List Ev} (h : TQ w tb evs) (hb : Below w.heap.size w w') : TQ w' tb evs := by
  obtain ⟨⟨B, h1⟩, h2, h3, h4, h5⟩ := h
  exact ⟨⟨B, h1.below hb⟩, h2, h3, h4, h5⟩
theorem TQ.node {w : World} {tb : Nat} {evs : List Ev} (h : TQ w tb evs) (i : Nat) (hi : i < (nodesB evs).length) : ∃ x, (nodesB evs)[i]? = some x ∧ evs[x.pos]? = some (nodeEv evs i) ∧ EvSm (nodeEv evs i) ∧ ((nodeEv evs i).kind = 0 ∨ (nodeEv evs i).kind = 1) := by
  obtain ⟨⟨B, h1⟩, h2, h3, _⟩ := h
  obtain ⟨t, ht, _, _⟩ := wholeB_some h2
  have hx : (nodesB evs)[i]? = some (nodesB evs)[i] := List.getElem?_eq_getElem hi
  have hinv := NdInv.start.all evs ht
  rw [List.nil_append] at hinv
  obtain ⟨e, he, hk, _⟩ := hinv.here i _ hx
  have hne : nodeEv evs i = e := by unfold nodeEv; rw [hx]; simp [he]
  refine ⟨_, hx, by rw [hne]; exact he, by rw [hne]; exact h3 _ (List.mem_of_getElem? he), ?_⟩
  rw [hne]
  obtain ⟨hp, hpe⟩ := List.getElem?_eq_some_iff.1 he
  obtain ⟨s, hs⟩ := begAll_take ht (nodesB evs)[i].pos
  have hok := (begAll_at ht _ hp hs).1
  rw [hpe] at hok
  exact (begOk_new hok hk).2
theorem nodeQ_any {tb : Nat} {evs : List Ev} (i : Nat) (w : World) (h : TQ w tb evs) (hi : i < (nodesB evs).length) :
    Calls Tryd.prog 87 #[.pointer (some ⟨tb, 0, none⟩), .int .i64 (i : Nat)] w fun r w' => ∃ A m c, r = .returned (.tuple #[.agg (evC (nodeEv evs i).kind (nodeEv evs i).num (nodeEv evs i).dep (nodeEv evs i).name A m c (nodeEv evs i).text (nodeEv evs i).fr (nodeEv evs i).tt), .int .i64 0]) ∧ m ≤ c ∧ AttrsAt w' A m (nodeEv evs i).ats ∧ Below w.heap.size w w' := by
  obtain ⟨x, hx, he, hsm, _⟩ := h.node i hi
  obtain ⟨⟨B, h1⟩, h2, h3, _⟩ := h
  exact (node_at tb i x _ evs w h1 h2 hx he hsm.2.2.1).mono fun r w' ⟨A, m, c, q1, q2, q3, _, q5⟩ => ⟨A, m, c, q1, q2, q3, q5⟩
theorem valueQ_any {tb : Nat} {evs : List Ev} (v : Int) (w : World) (h : TQ w tb evs) (hv1 : -1 ≤ v) (hv : v < (nodesB evs).length) :
    Calls Tryd.prog 88 #[.pointer (some ⟨tb, 0, none⟩), .int .i64 v] w fun e w' => e = .returned (.tuple #[.string (strL ((treePT evs).value v)), .int .i64 0]) ∧ Below w.heap.size w w' := by
  obtain ⟨⟨B, h1⟩, h2, h3, h4, _⟩ := h
  exact value_at tb v.toNat v evs w h1 h2 (by omega) hv (fun e he => (h3 e he).2.1) (by omega)
theorem strL_cmp (a b : List UInt8) : ((strL a).toList == (strL b).toList) = decide (a = b) := by
  by_cases h : a = b
  · rw [decide_eq_true h]; exact cmpU_eq h
  · rw [decide_eq_false h]; exact cmpU_ne h

set_option maxRecDepth 100000 in
set_option maxHeartbeats 4000000 in
theorem test_any {tb : Nat} {evs : List Ev} (n : Int) (s : PS) (wa : Option Addr) (wc : Nat) (w : World) (h : TQ w tb evs) (hn : n < (nodesB evs).length) :
    Calls Tryd.prog 64 #[.agg #[.pointer (some ⟨tb, 0, none⟩)], .int .i64 n, .agg (stepC s wa wc).toArray] w fun e w' => e = .returned (.bool (meetsP (treePT evs) n s)) ∧ Below w.heap.size w w' := by
  obtain ⟨R, hR⟩ : ∃ R, meetsP (treePT evs) n s = R := ⟨_, rfl⟩
  rw [hR]
  have HR : Hid ((if s.test = 3 then true else if n < 0 then false
    else if s.test = 0 then decide ((nodeEv evs n.toNat).kind = 0) && decide ((nodeEv evs n.toNat).name = s.name)
    else if s.test = 1 then decide ((nodeEv evs n.toNat).kind = 0) else decide ((nodeEv evs n.toNat).kind = 1)) = R) := Lib.hid hR
  clear hR
  have hb0 := ((Below.refl w.heap.size w).alloc (Nat.le_refl _) (.cells #[.pointer (some ⟨tb, 0, none⟩)] 91)).alloc (by simp) (.cells (stepC s wa wc).toArray 57)
  have HB0 := Lib.hid hb0
  have HQ := Lib.hid h
  unfold stepC at *
  generalize s.axis = ax at *
  generalize s.wher.length = wl at *
  by_cases h3 : s.test = 3
  · rw [if_pos h3] at HR
    generalize strL s.name = nm at *
    generalize s.test = te at *
    subst h3
    clear h hn hb0
    go_enter Tryd.func64, Tryd.ntmps64
    go_wp2_with fail
    go_ret
    exact ⟨ret_bool HR.out, HB0.out⟩
  rw [if_neg h3] at HR
  have t3 : ((s.test : Int) == 3) = false := by simpa using h3
  by_cases hneg : n < 0
  · rw [if_pos hneg] at HR
    generalize strL s.name = nm at *
    generalize s.test = te at *
    clear h3 h hn hb0
    go_enter Tryd.func64, Tryd.ntmps64
    go_wp2_with fail
    go_ret
    exact ⟨ret_bool HR.out, HB0.out⟩
  rw [if_neg hneg] at HR
  obtain ⟨i, rfl⟩ : ∃ i : Nat, n = (i : Int) := ⟨n.toNat, by omega⟩
  rw [Int.toNat_natCast] at HR
  have hil : i < (nodesB evs).length := by omega
  obtain ⟨_, _, _, _, hkd⟩ := h.node i hil
  have hcmp := strL_cmp (nodeEv evs i).name s.name
  have hsz : ((w.alloc (.cells #[.pointer (some ⟨tb, 0, none⟩)] 91)).alloc (.cells #[.int .i64 ax, .int .i64 s.test, .string (strL s.name), .slice wa wl wc] 57)).heap.size = w.heap.size + 2 := by simp
  have HND : Hid (Calls Tryd.prog 87 #[.pointer (some ⟨tb, 0, none⟩), .int .i64 (i : Nat)] ((w.alloc (.cells #[.pointer (some ⟨tb, 0, none⟩)] 91)).alloc (.cells #[.int .i64 ax, .int .i64 s.test, .string (strL s.name), .slice wa wl wc] 57)) fun r w' => ∃ A m c, r = .returned (.tuple #[.agg (evC (nodeEv evs i).kind (nodeEv evs i).num (nodeEv evs i).dep (nodeEv evs i).name A m c (nodeEv evs i).text (nodeEv evs i).fr (nodeEv evs i).tt), .int .i64 0]) ∧ Below w.heap.size w w' ∧ w'.cell? ⟨w.heap.size + 1, 1, none⟩ = some (.int .i64 s.test) ∧ w'.cell? ⟨w.heap.size + 1, 2, none⟩ = some (.string (strL s.name)) ∧ w.heap.size + 2 ≤ w'.heap.size) := Lib.hid (by
    refine (nodeQ_any i _ (h.below hb0) hil).mono ?_
    rintro r w' ⟨A, m, c, q1, _, _, q4⟩
    have k := fun j => q4.cell (p := ⟨w.heap.size + 1, j, none⟩) (by rw [hsz]; exact Nat.lt_succ_self _)
    have kn := heap_alloc_new (w.alloc (.cells #[.pointer (some ⟨tb, 0, none⟩)] 91)) (.cells #[.int .i64 ax, .int .i64 s.test, .string (strL s.name), .slice wa wl wc] 57)
    rw [World.size_alloc] at kn
    refine ⟨A, m, c, q1, hb0.trans (q4.mono (by rw [hsz]; omega)), (k 1).trans ?_, (k 2).trans ?_, by have := q4.size; omega⟩
    · rw [cell_heap kn]; rfl
    · rw [cell_heap kn]; rfl)
  unfold evC at HND
  clear h hn hb0 hil hneg
  generalize nodeEv evs i = ev at *
  obtain ⟨kd, num, dep, name, ats, text, fr, tt⟩ := ev
  simp only at *
  generalize decide (name = s.name) = NE at *
  generalize strL name = nv at *
  generalize strL s.name = nm at *
  generalize strL text = tv at *
  generalize s.test = te at *
  go_enter Tryd.func64, Tryd.ntmps64
  go_wp2_with fail
  (with_reducible refine HND.out.mono ?_)
  rintro r w2 ⟨A, m, c, rfl, hb2, c1, c2, hs2⟩
  have HB2 := Lib.hid (hb2.alloc hb2.size (.cells #[.int .i64 kd, .int .i64 num, .int .i64 dep, .string nv, .slice A m c, .string tv, .int .i64 fr, .int .i64 tt] 71))
  have b1 := fun o => (Lib.hid ((Below.refl w2.heap.size w2).alloc (Nat.le_refl _) o)).out.cell (p := ⟨w.heap.size + 1, 1, none⟩) (show w.heap.size + 1 < w2.heap.size by omega)
  have b2 := fun o => (Lib.hid ((Below.refl w2.heap.size w2).alloc (Nat.le_refl _) o)).out.cell (p := ⟨w.heap.size + 1, 2, none⟩) (show w.heap.size + 1 < w2.heap.size by omega)
  rw [c1] at b1
  rw [c2] at b2
  clear hb2 HND
  by_cases h0 : te = 0
  · subst h0
    rw [if_pos rfl] at HR
    rcases hkd with rfl | rfl
    · go_wp2_with fail
      go_ret
      exact ⟨ret_bool (by rw [← HR.out]; simp), HB2.out⟩
    · go_wp2_with fail
      go_ret
      exact ⟨ret_bool (by rw [← HR.out]; simp), HB2.out⟩
  · rw [if_neg h0] at HR
    have t0 : ((te : Int) == 0) = false := by simpa using h0
    by_cases h1 : te = 1
    · subst h1
      rw [if_pos rfl] at HR
      rcases hkd with rfl | rfl
      · go_wp2_with fail
        go_ret
        exact ⟨ret_bool (by rw [← HR.out]; simp), HB2.out⟩
      · go_wp2_with fail
        go_ret
        exact ⟨ret_bool (by rw [← HR.out]; simp), HB2.out⟩
    · rw [if_neg h1] at HR
      have t1 : ((te : Int) == 1) = false := by simpa using h1
      rcases hkd with rfl | rfl
      · go_wp2_with fail
        go_ret
        exact ⟨ret_bool (by rw [← HR.out]; simp), HB2.out⟩
      · go_wp2_with fail
        go_ret
        exact ⟨ret_bool (by rw [← HR.out]; simp), HB2.out⟩
end Go.Proofs.YtekoflcioooncaaDoor
