/-
  Scan, plain law: a reference at the beginning of bytes.
-/
import Derived.Test.YtjdmndpadejegaaDoorMgC
import Derived.Test.YtjdmndpadejegaaDoorMgE
namespace Go.Proofs.YtjdmndpadejegaaDoor
open Go.RowKit

theorem numF_hit (base : Int) (at' : Nat) : ∀ (l : List UInt8) (i : Nat) (r : Int) (k : Nat), ((∃ x, numF base at' i r l = (x, (i : Int) + k + 1, 0)) ∨ numF base at' i r l = (0, (i : Int) + k, 2)) →
    (∀ m, numF base at' i r (l.take (k + 1) ++ m) = numF base at' i r l) ∧ ((∃ x, numF base at' i r l = (x, (i : Int) + k + 1, 0)) → (∃ y, l[k]? = some y ∧ y.toNat = 59) ∧ isR (rng 0) (numF base at' i r l).1 = true)
  | [], i, r, k, h => by simp [numF] at h
  | b :: l, i, r, k, h => by
    by_cases h1 : b.toNat = 59 ∧ at' < i ∧ isR (rng 0) r = true
    · have e : ∀ t, numF base at' i r (b :: t) = (r, (i : Int) + 1, 0) := fun t => by simp only [numF]; rw [if_pos h1]
      rw [e] at h ⊢
      have hk : k = 0 := by
        rcases h with ⟨x, h⟩ | h
        · simp only [Prod.mk.injEq] at h; omega
        · simp only [Prod.mk.injEq] at h; omega
      subst hk
      exact ⟨fun m => e m, fun _ => ⟨⟨b, rfl, h1.1⟩, h1.2.2⟩⟩
    · by_cases h2 : ¬ valD b.toNat < base ∨ 1114111 < r * base + valD b.toNat
      · have e : ∀ t, numF base at' i r (b :: t) = (0, (i : Int), 2) := fun t => by simp only [numF]; rw [if_neg h1, if_pos h2]
        rw [e] at h ⊢
        have hk : k = 0 := by
          rcases h with ⟨x, h⟩ | h
          · simp only [Prod.mk.injEq] at h; omega
          · simp only [Prod.mk.injEq] at h; omega
        subst hk
        refine ⟨fun m => e m, fun ⟨x, hx⟩ => ?_⟩
        simp only [Prod.mk.injEq] at hx; omega
      · have step : ∀ t, numF base at' i r (b :: t) = numF base at' (i + 1) (r * base + valD b.toNat) t := by
          intro t; simp only [numF]; rw [if_neg h1, if_neg h2]
        rw [step] at h ⊢
        rcases numF_cut base at' l (i + 1) (r * base + valD b.toNat) with hw | ⟨k', hk', _, hr, _⟩
        · have := hw l.length (Nat.le_refl _)
          rw [List.take_length] at this
          rw [this] at h
          simp at h
        · have hk : k = k' + 1 := by
            rcases hr with ⟨r', e⟩ | e <;> rw [e] at h <;> rcases h with ⟨x, h⟩ | h <;> simp only [Prod.mk.injEq] at h <;> omega
          subst hk
          obtain ⟨g1, g2⟩ := numF_hit base at' l (i + 1) (r * base + valD b.toNat) k' (by
            rcases h with ⟨x, h⟩ | h
            · left; exact ⟨x, by rw [h]; simp only [Prod.mk.injEq, true_and, and_true]; omega⟩
            · right; rw [h]; simp only [Prod.mk.injEq, true_and, and_true]; omega)
          refine ⟨fun m => by rw [List.take_succ_cons, List.cons_append, step]; exact g1 m, fun ⟨x, hx⟩ => ?_⟩
          exact g2 ⟨x, by rw [hx]; simp only [Prod.mk.injEq, true_and, and_true]; omega⟩
theorem look_in (t : List UInt8) (h : (lookN t).isSome = true) : isR (rng 0) ((lookN t).getD 0) = true := by
  unfold lookN at h ⊢
  cases hf : nameL.find? (fun p => p.1 == t) with
  | none => rw [hf] at h; cases h
  | some p =>
    have hm := List.mem_of_find?_eq_some hf
    have : ∀ p ∈ nameL, isR (rng 0) p.2 = true := by decide
    exact this p hm
theorem namF_hit (l : List UInt8) : ∀ (f m k : Nat), ((∃ x, namF l f m = (x, (k : Int) + 1, 0)) ∨ namF l f m = (0, (k : Int), 2)) →
    m + 1 ≤ k ∧ k < l.length ∧ (∀ t, namF (l.take (k + 1) ++ t) f m = namF l f m) ∧ ((∃ x, namF l f m = (x, (k : Int) + 1, 0)) → (∃ y, l[k]? = some y ∧ y.toNat = 59) ∧ isR (rng 0) (namF l f m).1 = true)
  | 0, m, k, h => by simp [namF] at h
  | f + 1, m, k, h => by
    by_cases hc : m + 1 ≤ 5 ∧ m + 1 < l.length
    · -- the same bytes are looked at
      have same : ∀ k, m + 1 ≤ k → k < l.length → ∀ t, ∃ h' : m + 1 < (l.take (k + 1) ++ t).length, seg (l.take (k + 1) ++ t) m = seg l m ∧ seg (l.take (k + 1) ++ t) (m + 1) = seg l (m + 1) ∧ (l.take (k + 1) ++ t)[m + 1]'h' = l[m + 1]'hc.2 := by
        intro k h1 h2 t
        have hl : (l.take (k + 1)).length = k + 1 := by rw [List.length_take]; omega
        refine ⟨by rw [List.length_append]; omega, ?_, ?_, ?_⟩
        · rw [seg_app _ _ _ (by omega), seg_take _ _ _ (by omega)]
        · rw [seg_app _ _ _ (by omega), seg_take _ _ _ (by omega)]
        · rw [List.getElem_append_left (by omega), List.getElem_take]
      rw [namF_succ, dif_pos hc] at h ⊢
      by_cases h1 : (lookN (seg l m)).isSome = true ∧ (l[m + 1]'hc.2).toNat = 59
      · rw [if_pos h1] at h ⊢
        have hk : k = m + 1 := by
          rcases h with ⟨x, h⟩ | h <;> simp only [Prod.mk.injEq] at h <;> omega
        subst hk
        refine ⟨Nat.le_refl _, hc.2, fun t => ?_, fun _ => ⟨⟨_, List.getElem?_eq_getElem hc.2, h1.2⟩, look_in _ h1.1⟩⟩
        obtain ⟨h', s1, s2, s3⟩ := same (m + 1) (Nat.le_refl _) hc.2 t
        rw [namF_succ, dif_pos ⟨hc.1, h'⟩, s1, s3, if_pos h1]
      · rw [if_neg h1] at h ⊢
        by_cases h2 : goesL (seg l (m + 1)) = false
        · rw [if_pos h2] at h ⊢
          have hk : k = m + 1 := by
            rcases h with ⟨x, h⟩ | h <;> simp only [Prod.mk.injEq] at h <;> omega
          subst hk
          refine ⟨Nat.le_refl _, hc.2, fun t => ?_, fun ⟨x, hx⟩ => ?_⟩
          · obtain ⟨h', s1, s2, s3⟩ := same (m + 1) (Nat.le_refl _) hc.2 t
            rw [namF_succ, dif_pos ⟨hc.1, h'⟩, s1, s2, s3, if_neg h1, if_pos h2]
          · simp only [Prod.mk.injEq] at hx; omega
        · rw [if_neg h2] at h ⊢
          obtain ⟨g1, g2, g3, g4⟩ := namF_hit l f (m + 1) k h
          refine ⟨by omega, g2, fun t => ?_, g4⟩
          obtain ⟨h', s1, s2, s3⟩ := same k (by omega) g2 t
          rw [namF_succ, dif_pos ⟨hc.1, h'⟩, s1, s2, s3, if_neg h1, if_neg h2]
          exact g3 t
    · rw [namF_succ, dif_neg hc] at h
      simp at h
theorem readF_hit (l : List UInt8) (k : Nat) (h : (∃ x, readF l = (x, (k : Int) + 1, 0)) ∨ readF l = (0, (k : Int), 2)) (hk : k < l.length) (h0 : ∃ t, l = 38 :: t) :
    (∀ m, readF (l.take (k + 1) ++ m) = readF l) ∧ ((∃ x, readF l = (x, (k : Int) + 1, 0)) → (∃ y, l[k]? = some y ∧ y.toNat = 59) ∧ isR (rng 0) (readF l).1 = true) := by
  obtain ⟨t, rfl⟩ := h0
  rcases t with _ | ⟨b, u⟩
  · simp [readF] at h
  by_cases h35 : b.toNat = 35
  · rcases u with _ | ⟨c, v⟩
    · simp [readF, h35] at h
    by_cases h120 : c.toNat = 120
    · have he : ∀ t, readF (38 :: b :: c :: t) = numF 16 3 3 0 t := by
        intro t; simp only [readF]; rw [if_pos (by decide), if_pos h35, if_pos h120]
      rw [he] at h ⊢
      rcases numF_cut 16 3 v 3 0 with hw | ⟨k', hk', _, hr, _⟩
      · have := hw v.length (Nat.le_refl _)
        rw [List.take_length] at this
        rw [this] at h
        simp at h
      · have hkk : k = k' + 3 := by
          rcases hr with ⟨r', e⟩ | e <;> rw [e] at h <;> rcases h with ⟨x, h⟩ | h <;> simp only [Prod.mk.injEq] at h <;> omega
        subst hkk
        obtain ⟨g1, g2⟩ := numF_hit 16 3 v 3 0 k' (by
          rcases h with ⟨x, h⟩ | h
          · left; exact ⟨x, by rw [h]; simp only [Prod.mk.injEq, true_and, and_true]; omega⟩
          · right; rw [h]; simp only [Prod.mk.injEq, true_and, and_true]; omega)
        refine ⟨fun m => ?_, fun ⟨x, hx⟩ => g2 ⟨x, by rw [hx]; simp only [Prod.mk.injEq, true_and, and_true]; omega⟩⟩
        rw [show k' + 3 + 1 = k' + 1 + 1 + 1 + 1 by omega, List.take_succ_cons, List.take_succ_cons, List.take_succ_cons]
        simp only [List.cons_append]
        rw [he]
        exact g1 m
    · have he : ∀ t, readF (38 :: b :: c :: t) = numF 10 2 2 0 (c :: t) := by
        intro t; simp only [readF]; rw [if_pos (by decide), if_pos h35, if_neg h120]
      rw [he] at h ⊢
      rcases numF_cut 10 2 (c :: v) 2 0 with hw | ⟨k', hk', _, hr, _⟩
      · have := hw (c :: v).length (Nat.le_refl _)
        rw [List.take_length] at this
        rw [this] at h
        simp at h
      · have hkk : k = k' + 2 := by
          rcases hr with ⟨r', e⟩ | e <;> rw [e] at h <;> rcases h with ⟨x, h⟩ | h <;> simp only [Prod.mk.injEq] at h <;> omega
        subst hkk
        obtain ⟨g1, g2⟩ := numF_hit 10 2 (c :: v) 2 0 k' (by
          rcases h with ⟨x, h⟩ | h
          · left; exact ⟨x, by rw [h]; simp only [Prod.mk.injEq, true_and, and_true]; omega⟩
          · right; rw [h]; simp only [Prod.mk.injEq, true_and, and_true]; omega)
        refine ⟨fun m => ?_, fun ⟨x, hx⟩ => g2 ⟨x, by rw [hx]; simp only [Prod.mk.injEq, true_and, and_true]; omega⟩⟩
        have := g1 m
        rw [List.take_succ_cons, List.cons_append] at this
        rw [show k' + 2 + 1 = k' + 1 + 1 + 1 by omega, List.take_succ_cons, List.take_succ_cons, List.take_succ_cons]
        simp only [List.cons_append]
        rw [he]
        exact this
  · have he : ∀ t, readF (38 :: b :: t) = namF (38 :: b :: t) 6 0 := by
      intro t; simp only [readF]; rw [if_pos (by decide), if_neg h35]
    rw [he] at h ⊢
    obtain ⟨g1, g2, g3, g4⟩ := namF_hit (38 :: b :: u) 6 0 k h
    refine ⟨fun m => ?_, g4⟩
    have := g3 m
    obtain ⟨q, rfl⟩ : ∃ q, k = q + 1 := ⟨k - 1, by omega⟩
    rw [List.take_succ_cons, List.take_succ_cons] at this ⊢
    simp only [List.cons_append] at this ⊢
    rw [he]
    exact this
def refL (l : List UInt8) : Sc Nat := if (readF l).2.2 = 0 then .ok (readF l).1.toNat (readF l).2.1.toNat else if (readF l).2.2 = 2 then .bad (readF l).2.1.toNat else .wait
theorem refL_nil : refL [] = .wait := rfl
theorem read_amp (l : List UInt8) (h : (readF l).2.2 = 0 ∨ ((readF l).2.2 = 2 ∧ ∃ x t, l = x :: t ∧ x.toNat = 38)) : ∃ t, l = 38 :: t := by
  rcases l with _ | ⟨x, t⟩
  · rcases h with h | ⟨_, x, t, h, _⟩
    · simp [readF] at h
    · cases h
  · by_cases h38 : x.toNat = 38
    · exact ⟨t, by rw [← byte_of h38]; rfl⟩
    · rcases h with h | ⟨_, y, u, h, hy⟩
      · simp only [readF] at h
        rw [if_neg h38] at h
        simp at h
      · cases h; exact absurd hy h38
theorem refL_eq (l : List UInt8) (r n h : Int) (e : readF l = (r, n, h)) : refL l = if h = 0 then .ok r.toNat n.toNat else if h = 2 then .bad n.toNat else .wait := by unfold refL; rw [e]
theorem refL_ok (l : List UInt8) (r n : Nat) (h : refL l = .ok r n) : 1 ≤ n ∧ n ≤ l.length ∧ readF l = ((r : Int), (n : Int), 0) ∧ isR (rng 0) r = true ∧ (∃ y, l[n - 1]? = some y ∧ y.toNat = 59) ∧ (∀ m, readF (l.take n ++ m) = readF l) ∧ ∀ j, j < n → readF (l.take j) = (0, 0, 1) := by
  unfold refL at h
  by_cases h0 : (readF l).2.2 = 0
  · rw [if_pos h0] at h
    simp only [Sc.ok.injEq] at h
    rcases readF_cut l with hw | ⟨k, hk, hj, hr, hm⟩
    · have := hw l.length (Nat.le_refl _)
      rw [List.take_length] at this
      rw [this] at h0
      simp at h0
    · rcases hr with ⟨x, e⟩ | e
      · have e' : readF l = (x, (k : Int) + 1, 0) := by rw [e]; simp only [Prod.mk.injEq, true_and, and_true]; omega
        obtain ⟨g1, g2⟩ := readF_hit l k (.inl ⟨x, e'⟩) hk (read_amp l (.inl h0))
        obtain ⟨g3, g4⟩ := g2 ⟨x, e'⟩
        rw [e'] at h g4
        simp only at h g4
        have hx : 0 ≤ x := by
          obtain ⟨p, hp, hp1, _⟩ := isR_find _ _ g4
          have := List.all_eq_true.1 (gd_all 0 (.inl rfl)) p hp
          simp only [Bool.and_eq_true, decide_eq_true_eq] at this
          omega
        obtain ⟨h1, h2⟩ := h
        have hn : n = k + 1 := by omega
        subst hn
        have hr : x = (r : Int) := by omega
        subst hr
        exact ⟨by omega, by omega, by rw [e']; simp, g4, by rw [Nat.add_sub_cancel]; exact g3, g1, fun j hjn => hj j (by omega)⟩
      · rw [e] at h0; simp at h0
  · rw [if_neg h0] at h
    split at h <;> cases h
theorem det_ref : Det 0 refL where
  ok l r n h := by
    obtain ⟨h1, h2, h3, h4, h5, h6, h7⟩ := refL_ok l r n h
    refine ⟨by omega, fun m => ?_, fun j hj => ?_⟩
    · rw [Nat.add_zero, refL_eq _ _ _ _ ((h6 m).trans h3), if_pos rfl]
      simp
    · rw [refL_eq _ _ _ _ (h7 j (by omega)), if_neg (by decide), if_neg (by decide)]
  bad l n h := by
    unfold refL at h
    by_cases h0 : (readF l).2.2 = 0
    · rw [if_pos h0] at h; cases h
    rw [if_neg h0] at h
    by_cases h2 : (readF l).2.2 = 2
    · rw [if_pos h2] at h
      simp only [Sc.bad.injEq] at h
      rcases readF_cut l with hw | ⟨k, hk, hj, hr, hm⟩
      · have := hw l.length (Nat.le_refl _)
        rw [List.take_length] at this
        rw [this] at h2
        simp at h2
      · rcases hr with ⟨x, e⟩ | e
        · rw [e] at h2; simp at h2
        · have e' : readF l = (0, (k : Int), 2) := by rw [e]; simp only [Prod.mk.injEq, true_and, and_true]; omega
          rw [e'] at h
          simp only at h
          have hn : n = k := by omega
          subst hn
          by_cases hamp : ∃ x t, l = x :: t ∧ x.toNat = 38
          · obtain ⟨g1, _⟩ := readF_hit l n (.inr e') hk (read_amp l (.inr ⟨h2, hamp⟩))
            refine ⟨hk, fun m => ?_, fun j hjn => ?_⟩
            · rw [refL_eq _ _ _ _ ((g1 m).trans e'), if_neg (by decide), if_pos rfl]
              simp
            · rw [refL_eq _ _ _ _ (hj j hjn), if_neg (by decide), if_neg (by decide)]
          · rcases l with _ | ⟨x, t⟩
            · simp at hk
            · have hx : ¬ x.toNat = 38 := fun e => hamp ⟨x, t, rfl, e⟩
              have hb : ∀ t, readF (x :: t) = (0, 0, 2) := fun t => by simp only [readF]; rw [if_neg hx]
              rw [hb] at e'
              have hn0 : n = 0 := by simp only [Prod.mk.injEq] at e'; omega
              subst hn0
              refine ⟨hk, fun m => ?_, fun j hjn => by (obtain rfl : j = 0 := by omega); rfl⟩
              rw [Nat.zero_add, List.take_succ_cons, List.take_zero, List.cons_append, refL_eq _ _ _ _ (hb _), if_neg (by decide), if_pos rfl]
              rfl
    · rw [if_neg h2] at h; cases h
end Go.Proofs.YtjdmndpadejegaaDoor

namespace Go.Proofs.YtjdmndpadejegaaDoor
open Go.RowKit

def pk {β : Type} (l : List UInt8) (G : UInt8 → List UInt8 → Sc β) : Sc β := match l with | [] => .wait | x :: t => G x (x :: t)
def on1 {β : Type} (G : List UInt8 → Sc β) (l : List UInt8) : Sc β := match l with | [] => .wait | _ :: t => (G t).up 1
def badP {β : Type} (l : List UInt8) : Sc β := match l with | [] => .wait | _ :: _ => .bad 0
def retP {β : Type} (a : β) (l : List UInt8) : Sc β := match l with | [] => .wait | _ :: _ => .ok a 0
def doneP {β : Type} (a : β) (_ : List UInt8) : Sc β := .ok a 0
def capt (F : List UInt8 → Sc Unit) (l : List UInt8) : Sc (List UInt8) := match F l with | .wait => .wait | .bad n => .bad n | .ok _ n => .ok (l.take n) n
theorem det_bad {β : Type} (s : Nat) : Det s (badP : List UInt8 → Sc β) where
  ok l a n h := by rcases l with _ | ⟨x, l⟩ <;> cases h
  bad l n h := by
    rcases l with _ | ⟨x, l⟩
    · cases h
    · cases h
      exact ⟨by simp, fun m => rfl, fun j hj => by (obtain rfl : j = 0 := by omega); rfl⟩
theorem det_ret {β : Type} (a : β) : Det 1 (retP a) where
  ok l b n h := by
    rcases l with _ | ⟨x, l⟩
    · cases h
    · cases h
      exact ⟨by simp, fun m => rfl, fun j hj => by (obtain rfl : j = 0 := by omega); rfl⟩
  bad l n h := by rcases l with _ | ⟨x, l⟩ <;> cases h
theorem det_done {β : Type} (a : β) : Det 0 (doneP a) where
  ok l b n h := by cases h; exact ⟨by simp, fun m => rfl, fun j hj => by omega⟩
  bad l n h := by cases h
theorem det_pk {β : Type} {s : Nat} {G : UInt8 → List UInt8 → Sc β} (hG : ∀ x, Det s (G x)) (h0 : ∀ x, G x [] = .wait) : Det s fun l => pk l G where
  ok l a n h := by
    rcases l with _ | ⟨x, l⟩
    · cases h
    · obtain ⟨g1, g2, g3⟩ := (hG x).ok _ _ _ (show G x (x :: l) = .ok a n from h)
      have hp : 1 ≤ n + s := by
        rcases Nat.eq_zero_or_pos (n + s) with e | e
        · have := g2 []
          rw [e, List.take_zero, List.nil_append, h0] at this
          cases this
        · exact e
      refine ⟨g1, fun m => ?_, fun j hj => ?_⟩
      · have := g2 m
        obtain ⟨q, hq⟩ : ∃ q, n + s = q + 1 := ⟨n + s - 1, by omega⟩
        rw [hq, List.take_succ_cons, List.cons_append] at this ⊢
        exact this
      · rcases j with _ | j
        · rfl
        · have := g3 (j + 1) hj
          rw [List.take_succ_cons] at this ⊢
          exact this
  bad l n h := by
    rcases l with _ | ⟨x, l⟩
    · cases h
    · obtain ⟨g1, g2, g3⟩ := (hG x).bad _ _ (show G x (x :: l) = .bad n from h)
      refine ⟨g1, fun m => ?_, fun j hj => ?_⟩
      · have := g2 m
        rw [List.take_succ_cons, List.cons_append] at this ⊢
        exact this
      · rcases j with _ | j
        · rfl
        · have := g3 (j + 1) hj
          rw [List.take_succ_cons] at this ⊢
          exact this
theorem up_ok {α : Type} {a : Sc α} {k n : Nat} {x : α} (h : a.up k = .ok x n) : ∃ j, a = .ok x j ∧ n = k + j := by
  cases a <;> simp only [Sc.up, Sc.ok.injEq, reduceCtorEq] at h
  exact ⟨_, by rw [h.1], h.2.symm⟩
theorem up_bad {α : Type} {a : Sc α} {k n : Nat} (h : a.up k = .bad n) : ∃ j, a = .bad j ∧ n = k + j := by
  cases a <;> simp only [Sc.up, Sc.bad.injEq, reduceCtorEq] at h
  exact ⟨_, rfl, h.symm⟩
theorem det_on1 {β : Type} {s : Nat} {G : List UInt8 → Sc β} (hG : Det s G) : Det s (on1 G) where
  ok l a n h := by
    rcases l with _ | ⟨x, l⟩
    · cases h
    · obtain ⟨k, hk, rfl⟩ := up_ok (show (G l).up 1 = .ok a n from h)
      obtain ⟨g1, g2, g3⟩ := hG.ok _ _ _ hk
      refine ⟨by rw [List.length_cons]; omega, fun m => ?_, fun j hj => ?_⟩
      · rw [show 1 + k + s = (k + s) + 1 by omega, List.take_succ_cons, List.cons_append]
        show (G (l.take (k + s) ++ m)).up 1 = _
        rw [g2 m]; rfl
      · rcases j with _ | j
        · rfl
        · rw [List.take_succ_cons]
          show (G (l.take j)).up 1 = _
          rw [g3 j (by omega)]; rfl
  bad l n h := by
    rcases l with _ | ⟨x, l⟩
    · cases h
    · obtain ⟨k, hk, rfl⟩ := up_bad (show (G l).up 1 = .bad n from h)
      obtain ⟨g1, g2, g3⟩ := hG.bad _ _ hk
      refine ⟨by rw [List.length_cons]; omega, fun m => ?_, fun j hj => ?_⟩
      · rw [show 1 + k + 1 = (k + 1) + 1 by omega, List.take_succ_cons, List.cons_append]
        show (G (l.take (k + 1) ++ m)).up 1 = _
        rw [g2 m]; rfl
      · rcases j with _ | j
        · rfl
        · rw [List.take_succ_cons]
          show (G (l.take j)).up 1 = _
          rw [g3 j (by omega)]; rfl
theorem Det.capt {s : Nat} {F : List UInt8 → Sc Unit} (hF : Det s F) : Det s (capt F) where
  ok l a n h := by
    unfold Go.Proofs.YtjdmndpadejegaaDoor.capt at h ⊢
    cases hf : F l with
    | wait => rw [hf] at h; cases h
    | bad k => rw [hf] at h; cases h
    | ok u k =>
      rw [hf] at h
      cases h
      obtain ⟨f1, f2, f3⟩ := hF.ok _ _ _ hf
      refine ⟨f1, fun m => ?_, fun j hj => by rw [f3 j hj]⟩
      rw [f2 m]
      simp only [Sc.ok.injEq, and_true]
      rw [List.take_append_of_le_length (by rw [List.length_take]; omega), List.take_take, Nat.min_eq_left (by omega)]
  bad l n h := by
    unfold Go.Proofs.YtjdmndpadejegaaDoor.capt at h ⊢
    cases hf : F l with
    | wait => rw [hf] at h; cases h
    | ok u k => rw [hf] at h; cases h
    | bad k =>
      rw [hf] at h
      cases h
      obtain ⟨f1, f2, f3⟩ := hF.bad _ _ hf
      exact ⟨f1, fun m => by rw [f2 m], fun j hj => by rw [f3 j hj]⟩
theorem det_if {β : Type} {s : Nat} {F G : List UInt8 → Sc β} (c : Prop) [Decidable c] (hF : Det s F) (hG : Det s G) : Det s fun l => if c then F l else G l := by
  by_cases h : c
  · simp only [if_pos h]; exact hF
  · simp only [if_neg h]; exact hG
theorem Det.next0 {α β : Type} {s' : Nat} {F : List UInt8 → Sc α} {G : α → List UInt8 → Sc β} (hF : Det 0 F) (hG : ∀ a, Det s' (G a)) : Det s' fun l => (F l).next l G :=
  hF.next (by omega) hG fun _ _ _ _ _ => Nat.zero_le _
theorem Det.next1 {α β : Type} {s' : Nat} {F : List UInt8 → Sc α} {G : α → List UInt8 → Sc β} (hF : Det 1 F) (hG : ∀ a, Det s' (G a)) (h0 : ∀ a, G a [] = .wait ∨ 1 ≤ s') : Det s' fun l => (F l).next l G :=
  hF.next (by omega) hG fun a l c k h => by
    rcases Nat.eq_zero_or_pos (k + s') with e | e
    · have := ((hG a).ok _ _ _ h).2.1 []
      rw [e, List.take_zero, List.nil_append] at this
      rcases h0 a with h0 | h0
      · rw [h0] at this; cases this
      · omega
    · exact e

/-! the pieces -/
def blankB (x : UInt8) : Bool := decide (x.toNat = 32 ∨ x.toNat = 9 ∨ x.toNat = 10 ∨ x.toNat = 13)
def lit : List UInt8 → List UInt8 → Sc Unit
  | [], l => doneP () l
  | y :: s, l => pk l fun x l => if x = y then on1 (lit s) l else badP l
theorem det_lit : ∀ s, Det 0 (lit s)
  | [] => det_done ()
  | y :: s => by
    show Det 0 fun l => pk l fun x l => if x = y then on1 (lit s) l else badP l
    exact det_pk (fun x => det_if _ (det_on1 (det_lit s)) (det_bad 0)) fun x => by split <;> rfl
def nameGo : Nat → List UInt8 → Sc Unit
  | 0, _ => .wait
  | f + 1, l => pk l fun x l => if x.toNat < 128 then (if isR (rng 3) x.toNat = true then on1 (nameGo f) l else retP () l) else (charL 3 l).next l fun _ l => nameGo f l
theorem charL_nil (c : Nat) : charL c [] = .wait := rfl
theorem det_name : ∀ f, Det 1 (nameGo f)
  | 0 => det_wait 1
  | f + 1 => by
    show Det 1 fun l => pk l fun x l => if x.toNat < 128 then (if isR (rng 3) x.toNat = true then on1 (nameGo f) l else retP () l) else (charL 3 l).next l fun _ l => nameGo f l
    refine det_pk (fun x => det_if _ (det_if _ (det_on1 (det_name f)) (det_ret ())) ((det_char 3 (.inr (.inr rfl))).next0 fun _ => det_name f)) fun x => ?_
    split
    · split <;> rfl
    · rfl
def wordF (F : Nat) : List UInt8 → Sc (List UInt8) := capt fun l => (charL 2 l).next l fun _ l => nameGo F l
theorem det_word (F : Nat) : Det 1 (wordF F) := ((det_char 2 (.inr (.inl rfl))).next0 fun _ => det_name F).capt
def blanksGo : Nat → List UInt8 → Sc Unit
  | 0, _ => .wait
  | f + 1, l => pk l fun x l => if blankB x = true then on1 (blanksGo f) l else retP () l
theorem det_blanks : ∀ f, Det 1 (blanksGo f)
  | 0 => det_wait 1
  | f + 1 => by
    show Det 1 fun l => pk l fun x l => if blankB x = true then on1 (blanksGo f) l else retP () l
    exact det_pk (fun x => det_if _ (det_on1 (det_blanks f)) (det_ret ())) fun x => by split <;> rfl
def valPut (cr : Bool) (out : List Nat) (r : Nat) : List Nat := if r = 10 ∧ cr = true then out else if r = 10 ∨ r = 13 ∨ r = 9 then out ++ [32] else out ++ [r]
def valueGo (q : UInt8) : Nat → Bool → List Nat → List UInt8 → Sc (List Nat)
  | 0, _, _, _ => .wait
  | f + 1, cr, out, l => pk l fun x l => if x = q then on1 (doneP out) l else if x.toNat = 60 then badP l else if x.toNat = 38 then (refL l).next l fun r l => valueGo q f false (out ++ [r]) l
    else (charL 0 l).next l fun r l => valueGo q f (decide (r = 13)) (valPut cr out r) l
theorem det_value (q : UInt8) : ∀ f cr out, Det 0 (valueGo q f cr out)
  | 0, _, _ => det_wait 0
  | f + 1, cr, out => by
    show Det 0 fun l => pk l fun x l => if x = q then on1 (doneP out) l else if x.toNat = 60 then badP l else if x.toNat = 38 then (refL l).next l fun r l => valueGo q f false (out ++ [r]) l
      else (charL 0 l).next l fun r l => valueGo q f (decide (r = 13)) (valPut cr out r) l
    refine det_pk (fun x => det_if _ (det_on1 (det_done out)) (det_if _ (det_bad 0) (det_if _ (det_ref.next0 fun r => det_value q f _ _) ((det_char 0 (.inl rfl)).next0 fun r => det_value q f _ _)))) fun x => ?_
    split
    · rfl
    · split
      · rfl
      · split
        · rw [refL_nil]; rfl
        · rfl
structure Tok where
  kind : Nat
  name : List UInt8
  attrs : List (List UInt8 × List Nat)
def attrF (F : Nat) (sofar : List (List UInt8)) (l : List UInt8) : Sc (List UInt8 × List Nat) :=
  (wordF F l).next l fun name l => pk l fun x l => if x.toNat ≠ 61 ∧ blankB x = false then badP l else if name ∈ sofar then badP l else
    (blanksGo F l).next l fun _ l => (lit [61] l).next l fun _ l => (blanksGo F l).next l fun _ l => pk l fun q l =>
      if q.toNat ≠ 34 ∧ q.toNat ≠ 39 then badP l else on1 (fun l => (valueGo q F false [] l).next l fun v l => doneP (name, v) l) l
theorem blanks_nil (F : Nat) : blanksGo F [] = .wait := by cases F <;> rfl
theorem det_attr (F : Nat) (sofar : List (List UInt8)) : Det 0 (attrF F sofar) := by
  refine (det_word F).next1 (fun name => det_pk (fun x => det_if _ (det_bad 0) (det_if _ (det_bad 0) ((det_blanks F).next1 (fun _ => (det_lit [61]).next0 fun _ => (det_blanks F).next1 (fun _ => det_pk (fun q => det_if _ (det_bad 0) (det_on1 ((det_value q F false []).next0 fun v => det_done _))) ?_) ?_) ?_))) ?_) ?_
  · intro q; split <;> rfl
  · intro _; left; rfl
  · intro _; left; rfl
  · intro x
    split
    · rfl
    · split
      · rfl
      · rw [blanks_nil]; rfl
  · intro _; left; rfl
def tagGo (F : Nat) : Nat → Bool → List (List UInt8 × List Nat) → List UInt8 → Sc (Nat × List (List UInt8 × List Nat))
  | 0, _, _, _ => .wait
  | f + 1, gap, ats, l => pk l fun x l => if blankB x = true then on1 (tagGo F f true ats) l else if x.toNat = 47 then on1 (fun l => (lit [62] l).next l fun _ l => doneP (3, ats) l) l
    else if x.toNat = 62 then on1 (doneP (1, ats)) l else if gap = true then (attrF F (ats.map (·.1)) l).next l fun a l => tagGo F f false (ats ++ [a]) l else badP l
theorem attr_nil (F : Nat) (s : List (List UInt8)) : attrF F s [] = .wait := rfl
theorem det_tag (F : Nat) : ∀ f gap ats, Det 0 (tagGo F f gap ats)
  | 0, _, _ => det_wait 0
  | f + 1, gap, ats => by
    show Det 0 fun l => pk l fun x l => if blankB x = true then on1 (tagGo F f true ats) l else if x.toNat = 47 then on1 (fun l => (lit [62] l).next l fun _ l => doneP (3, ats) l) l
      else if x.toNat = 62 then on1 (doneP (1, ats)) l else if gap = true then (attrF F (ats.map (·.1)) l).next l fun a l => tagGo F f false (ats ++ [a]) l else badP l
    refine det_pk (fun x => det_if _ (det_on1 (det_tag F f _ _)) (det_if _ (det_on1 ((det_lit _).next0 fun _ => det_done _)) (det_if _ (det_on1 (det_done _)) (det_if _ ((det_attr F _).next0 fun a => det_tag F f _ _) (det_bad 0))))) fun x => ?_
    split
    · rfl
    · split
      · rfl
      · split
        · rfl
        · split
          · rw [attr_nil]; rfl
          · rfl
def openF (F : Nat) (l : List UInt8) : Sc Tok := (wordF F l).next l fun name l => (tagGo F F false [] l).next l fun k l => doneP ⟨k.1, name, k.2⟩ l
theorem tag_nil (F f : Nat) (g : Bool) (ats : List (List UInt8 × List Nat)) : tagGo F f g ats [] = .wait := by cases f <;> rfl
theorem det_open (F : Nat) : Det 0 (openF F) :=
  (det_word F).next1 (fun name => (det_tag F F false []).next0 fun k => det_done _) fun name => .inl (by rw [tag_nil]; rfl)
def endGo : Nat → List UInt8 → Sc Unit
  | 0, _ => .wait
  | f + 1, l => pk l fun x l => if x.toNat = 62 then on1 (doneP ()) l else if blankB x = true then on1 (endGo f) l else badP l
theorem det_end : ∀ f, Det 0 (endGo f)
  | 0 => det_wait 0
  | f + 1 => by
    show Det 0 fun l => pk l fun x l => if x.toNat = 62 then on1 (doneP ()) l else if blankB x = true then on1 (endGo f) l else badP l
    refine det_pk (fun x => det_if _ (det_on1 (det_done _)) (det_if _ (det_on1 (det_end f)) (det_bad 0))) fun x => ?_
    split
    · rfl
    · split <;> rfl
def endF (F : Nat) (name : List UInt8) (l : List UInt8) : Sc Tok := (lit name l).next l fun _ l => (endGo F l).next l fun _ l => doneP ⟨2, name, []⟩ l
theorem det_endF (F : Nat) (name : List UInt8) : Det 0 (endF F name) := (det_lit name).next0 fun _ => (det_end F).next0 fun _ => det_done _
def comGo : Nat → Nat → List UInt8 → Sc Unit
  | 0, _, _ => .wait
  | f + 1, d, l => pk l fun x l => if d = 2 then (if x.toNat = 62 then on1 (doneP ()) l else badP l) else (charL 0 l).next l fun _ l => comGo f (if x.toNat = 45 then d + 1 else 0) l
theorem det_com : ∀ f d, Det 0 (comGo f d)
  | 0, _ => det_wait 0
  | f + 1, d => by
    show Det 0 fun l => pk l fun x l => if d = 2 then (if x.toNat = 62 then on1 (doneP ()) l else badP l) else (charL 0 l).next l fun _ l => comGo f (if x.toNat = 45 then d + 1 else 0) l
    refine det_pk (fun x => det_if _ (det_if _ (det_on1 (det_done _)) (det_bad 0)) ((det_char 0 (.inl rfl)).next0 fun _ => det_com f _)) fun x => ?_
    split
    · split <;> rfl
    · rfl
def putL (cr : Bool) (t : List Nat) (r : Nat) : List Nat := if r = 10 ∧ cr = true then t else t ++ [if r = 13 then 10 else r]
def secGo : Nat → Bool → List Nat → List UInt8 → Sc (List Nat)
  | 0, _, _, _ => .wait
  | f + 1, cr, t, l => if l = [] then .wait else if l.take 3 = [93, 93, 62] then .ok t 3 else if l = [93] ∨ l = [93, 93] then .wait else (charL 0 l).next l fun r l => secGo f (decide (r = 13)) (putL cr t r) l
theorem secGo_eq (f : Nat) (cr : Bool) (t : List Nat) (l : List UInt8) : secGo (f + 1) cr t l = if l = [] then .wait else if l.take 3 = [93, 93, 62] then .ok t 3 else if l = [93] ∨ l = [93, 93] then .wait else (charL 0 l).next l fun r l => secGo f (decide (r = 13)) (putL cr t r) l := rfl
theorem charL_93 (l : List UInt8) : charL 0 (93 :: l) = .ok 93 1 := charL_enc 0 93 (by decide) (by decide) l
theorem sec_bad0 : ∀ (f : Nat) (cr : Bool) (t : List Nat) (l : List UInt8), secGo f cr t l = .bad 0 → ∃ x u, l = x :: u ∧ x ≠ 93
  | 0, _, _, _, h => by cases h
  | f + 1, cr, t, l, h => by
    rcases l with _ | ⟨x, u⟩
    · cases h
    · refine ⟨x, u, rfl, ?_⟩
      rintro rfl
      rw [secGo_eq, if_neg (by simp), charL_93] at h
      split at h
      · cases h
      · split at h
        · cases h
        · simp only [Sc.next] at h
          obtain ⟨j, _, hj⟩ := up_bad h
          omega
theorem take3_eq {a b : List UInt8} (h : a.take 3 = b.take 3) (hl : a.length = b.length ∨ (3 ≤ a.length ∧ 3 ≤ b.length)) :
    (a = [] ↔ b = []) ∧ (a.take 3 = [93, 93, 62] ↔ b.take 3 = [93, 93, 62]) ∧ ((a = [93] ∨ a = [93, 93]) ↔ (b = [93] ∨ b = [93, 93])) := by
  rcases hl with hl | ⟨h1, h2⟩
  · by_cases h3 : 3 ≤ a.length
    · have e : ∀ c : List UInt8, 3 ≤ c.length → c ≠ [] ∧ c ≠ [93] ∧ c ≠ [93, 93] := by
        intro c hc
        refine ⟨?_, ?_, ?_⟩ <;> (rintro rfl; simp at hc)
      obtain ⟨a1, a2, a3⟩ := e a h3
      obtain ⟨b1, b2, b3⟩ := e b (by omega)
      refine ⟨by simp [a1, b1], by rw [h], by simp [a2, a3, b2, b3]⟩
    · rw [List.take_of_length_le (by omega), List.take_of_length_le (by omega)] at h
      subst h
      exact ⟨Iff.rfl, Iff.rfl, Iff.rfl⟩
  · have e : ∀ c : List UInt8, 3 ≤ c.length → c ≠ [] ∧ c ≠ [93] ∧ c ≠ [93, 93] := by
      intro c hc
      refine ⟨?_, ?_, ?_⟩ <;> (rintro rfl; simp at hc)
    obtain ⟨a1, a2, a3⟩ := e a h1
    obtain ⟨b1, b2, b3⟩ := e b h2
    refine ⟨by simp [a1, b1], by rw [h], by simp [a2, a3, b2, b3]⟩
theorem take3_take (l m : List UInt8) (n : Nat) (h : 3 ≤ n) (hn : n ≤ l.length) : (l.take n ++ m).take 3 = l.take 3 := by
  rw [List.take_append_of_le_length (by rw [List.length_take]; omega), List.take_take, Nat.min_eq_left h]
theorem det_sec : ∀ f cr t, Det 0 (secGo f cr t)
  | 0, _, _ => det_wait 0
  | f + 1, cr, t => by
    have ih := det_sec f
    have hC := det_char 0 (.inl rfl)
    -- an answer is at least three bytes on
    have long : ∀ f cr t l u n, secGo f cr t l = .ok u n → 3 ≤ n := by
      intro f
      induction f with
      | zero => intro cr t l u n h; cases h
      | succ f ih =>
        intro cr t l u n h
        rw [secGo_eq] at h
        split at h
        · cases h
        · split at h
          · cases h; omega
          · split at h
            · cases h
            · cases hc : charL 0 l with
              | wait => rw [hc] at h; cases h
              | bad k => rw [hc] at h; cases h
              | ok r k =>
                rw [hc] at h
                obtain ⟨j, hj, rfl⟩ := up_ok h
                have := ih _ _ _ _ _ hj
                omega
    -- a beginning waits, as long as what ends it isn't there
    have low : ∀ l j, j ≤ l.length → (l.take 3 = [93, 93, 62] → j < 3) → (∀ r k, charL 0 l = .ok r k → k ≤ j → secGo f (decide (r = 13)) (putL cr t r) ((l.drop k).take (j - k)) = .wait) → (∀ k, charL 0 l = .bad k → j ≤ k) → secGo (f + 1) cr t (l.take j) = .wait := by
      intro l j hjl h1 h2 h3
      rw [secGo_eq]
      split
      · rfl
      · rename_i hne
        split
        · rename_i he
          exfalso
          have hl3 : 3 ≤ (l.take j).length := by
            have := congrArg List.length he
            rw [List.length_take] at this
            simp only [List.length_cons, List.length_nil] at this
            omega
          rw [List.length_take] at hl3
          rw [List.take_take, Nat.min_eq_left (by omega)] at he
          have := h1 he
          omega
        · split
          · rfl
          · cases hc : charL 0 l with
            | wait =>
              have : charL 0 (l.take j) = .wait := by
                cases hd : charL 0 (l.take j) with
                | wait => rfl
                | bad k =>
                  have := charL_app 0 (l.take j) (l.drop j) (by rw [hd]; simp)
                  rw [List.take_append_drop, hc, hd] at this; cases this
                | ok r k =>
                  have := charL_app 0 (l.take j) (l.drop j) (by rw [hd]; simp)
                  rw [List.take_append_drop, hc, hd] at this; cases this
              rw [this]; rfl
            | bad k => rw [(hC.bad _ _ hc).2.2 j (h3 k hc)]; rfl
            | ok r k =>
              obtain ⟨c1, c2, c3⟩ := hC.ok _ _ _ hc
              by_cases hj : j < k
              · rw [c3 j (by omega)]; rfl
              · have := c2 ((l.drop k).take (j - k))
                rw [Nat.add_zero, ← List.take_add, show k + (j - k) = j by omega] at this
                rw [this]
                simp only [Sc.next]
                rw [List.drop_take, h2 r k hc (by omega)]
                rfl
    constructor
    · intro l u n h
      have hn3 := long _ _ _ _ _ _ h
      rw [secGo_eq] at h
      by_cases e0 : l = []
      · rw [if_pos e0] at h; cases h
      rw [if_neg e0] at h
      by_cases e1 : l.take 3 = [93, 93, 62]
      · rw [if_pos e1] at h
        cases h
        have hl3 : 3 ≤ l.length := by
          have := congrArg List.length e1
          rw [List.length_take] at this
          simp only [List.length_cons, List.length_nil] at this
          omega
        refine ⟨hl3, fun m => ?_, fun j hj => low l j (by omega) (fun _ => by omega) ?_ ?_⟩
        · rw [secGo_eq, if_neg (by rw [Nat.add_zero, e1]; simp), if_pos (by rw [take3_take l m 3 (by omega) hl3]; exact e1)]
        · intro r k hc hk
          have hh : l = 93 :: l.drop 1 := by
            rcases l with _ | ⟨x, l⟩
            · exact absurd rfl e0
            · rw [List.take_succ_cons, List.cons.injEq] at e1
              rw [e1.1]; rfl
          rw [hh, charL_93] at hc
          cases hc
          have hw : ∀ f cr t (q : List UInt8), q = [] ∨ q = [93] → secGo f cr t q = .wait := by
            intro f cr t q hq
            cases f with
            | zero => rfl
            | succ f => rcases hq with rfl | rfl <;> rfl
          refine hw _ _ _ _ ?_
          rcases l with _ | ⟨x, l⟩
          · exact absurd rfl e0
          rcases l with _ | ⟨y, l⟩
          · simp at hl3
          simp only [List.take_succ_cons, List.cons.injEq] at e1
          rw [e1.2.1]
          have : j = 1 ∨ j = 2 := by omega
          rcases this with rfl | rfl
          · left; rfl
          · right; rfl
        · intro k hc
          exfalso
          have hh : l = 93 :: l.drop 1 := by
            rcases l with _ | ⟨x, l⟩
            · exact absurd rfl e0
            · rw [List.take_succ_cons, List.cons.injEq] at e1
              rw [e1.1]; rfl
          rw [hh, charL_93] at hc
          cases hc
      · rw [if_neg e1] at h
        by_cases e2 : l = [93] ∨ l = [93, 93]
        · rw [if_pos e2] at h; cases h
        rw [if_neg e2] at h
        cases hc : charL 0 l with
        | wait => rw [hc] at h; cases h
        | bad k => rw [hc] at h; cases h
        | ok r k =>
          rw [hc] at h
          obtain ⟨j', hj', rfl⟩ := up_ok h
          obtain ⟨c1, c2, c3⟩ := hC.ok _ _ _ hc
          obtain ⟨g1, g2, g3⟩ := (ih _ _).ok _ _ _ hj'
          have hj3 := long _ _ _ _ _ _ hj'
          rw [List.length_drop] at g1
          refine ⟨by omega, fun m => ?_, fun j hj => low l j (by omega) (fun e => absurd e e1) ?_ (fun k' hk => by rw [hc] at hk; cases hk)⟩
          · have ht := take3_take l m (k + j' + 0) (by omega) (by omega)
            obtain ⟨t1, t2, t3⟩ := take3_eq ht (.inr ⟨by rw [List.length_append, List.length_take]; omega, by omega⟩)
            rw [secGo_eq, if_neg (fun e => e0 (t1.1 e)), if_neg (fun e => e1 (t2.1 e)), if_neg (fun e => e2 (t3.1 e))]
            have ec : charL 0 (l.take (k + j' + 0) ++ m) = .ok r k := by
              rw [show k + j' + 0 = (k + 0) + j' by omega, take_cat]
              exact c2 _
            rw [ec]
            simp only [Sc.next]
            rw [show k + j' + 0 = k + (j' + 0) by omega, drop_cat l k (j' + 0) m (by omega), g2 m]
            rfl
          · intro r' k' hc' hk'
            rw [hc] at hc'
            cases hc'
            exact g3 _ (by omega)
    · intro l n h
      rw [secGo_eq] at h
      by_cases e0 : l = []
      · rw [if_pos e0] at h; cases h
      rw [if_neg e0] at h
      by_cases e1 : l.take 3 = [93, 93, 62]
      · rw [if_pos e1] at h; cases h
      rw [if_neg e1] at h
      by_cases e2 : l = [93] ∨ l = [93, 93]
      · rw [if_pos e2] at h; cases h
      rw [if_neg e2] at h
      cases hc : charL 0 l with
      | wait => rw [hc] at h; cases h
      | bad k =>
        rw [hc] at h
        cases h
        obtain ⟨c1, c2, c3⟩ := hC.bad _ _ hc
        refine ⟨c1, fun m => ?_, fun j hj => low l j (by omega) (fun e => absurd e e1) (fun r k hk => by rw [hc] at hk; cases hk) (fun k' hk => by rw [hc] at hk; cases hk; exact hj)⟩
        rcases l with _ | ⟨x, l⟩
        · exact absurd rfl e0
        have hx : x ≠ 93 := by rintro rfl; rw [charL_93] at hc; cases hc
        rw [List.take_succ_cons, List.cons_append] at *
        rw [secGo_eq, if_neg (by simp), if_neg (by rw [List.take_succ_cons]; intro e; exact hx (List.cons.inj e).1), if_neg (by rintro (e | e) <;> exact hx (List.cons.inj e).1)]
        have := c2 m
        rw [List.cons_append] at this
        rw [this]; rfl
      | ok r k =>
        rw [hc] at h
        obtain ⟨j', hj', rfl⟩ := up_bad h
        obtain ⟨c1, c2, c3⟩ := hC.ok _ _ _ hc
        obtain ⟨g1, g2, g3⟩ := (ih _ _).bad _ _ hj'
        rw [List.length_drop] at g1
        have hk1 : 1 ≤ k := (charL_ok (.inl rfl) hc).1
        refine ⟨by omega, fun m => ?_, fun j hj => low l j (by omega) (fun e => absurd e e1) ?_ (fun k' hk => by rw [hc] at hk; cases hk)⟩
        · have hshape : ¬ (l.take (k + j' + 1) ++ m) = [] ∧ ¬ (l.take (k + j' + 1) ++ m).take 3 = [93, 93, 62] ∧ ¬ ((l.take (k + j' + 1) ++ m) = [93] ∨ (l.take (k + j' + 1) ++ m) = [93, 93]) := by
            by_cases h3 : 3 ≤ k + j' + 1
            · have ht := take3_take l m (k + j' + 1) h3 (by omega)
              obtain ⟨t1, t2, t3⟩ := take3_eq ht (.inr ⟨by rw [List.length_append, List.length_take]; omega, by omega⟩)
              exact ⟨fun e => e0 (t1.1 e), fun e => e1 (t2.1 e), fun e => e2 (t3.1 e)⟩
            · obtain rfl : k = 1 := by omega
              obtain rfl : j' = 0 := by omega
              obtain ⟨y, u, hy, hy93⟩ := sec_bad0 _ _ _ _ hj'
              rcases l with _ | ⟨x, l⟩
              · exact absurd rfl e0
              rw [List.drop_succ_cons, List.drop_zero] at hy
              subst hy
              refine ⟨by simp, ?_, ?_⟩
              · simp only [List.take_succ_cons, List.cons_append, List.cons.injEq]
                exact fun e => hy93 e.2.1
              · simp only [List.take_succ_cons, List.cons_append, List.cons.injEq]
                rintro (e | e)
                · cases e.2
                · exact hy93 e.2.1
          obtain ⟨t1, t2, t3⟩ := hshape
          rw [secGo_eq, if_neg t1, if_neg t2, if_neg t3]
          have ec : charL 0 (l.take (k + j' + 1) ++ m) = .ok r k := by
            rw [show k + j' + 1 = (k + 0) + (j' + 1) by omega, take_cat]
            exact c2 _
          rw [ec]
          simp only [Sc.next]
          rw [show k + j' + 1 = k + (j' + 1) by omega, drop_cat l k (j' + 1) m (by omega), g2 m]
          rfl
        · intro r' k' hc' hk'
          rw [hc] at hc'
          cases hc'
          exact g3 _ (by omega)
end Go.Proofs.YtjdmndpadejegaaDoor
