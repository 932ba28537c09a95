/-
  The plain law of the axes: what they give, and how they lie in one another.
-/
import Derived.Test.YtekoflcioooncaaDoorMcZI
import Derived.Test.YtekoflcioooncaaDoorMcO
namespace Go.Proofs.YtekoflcioooncaaDoor
open Go.RowKit

def rngL (a b : Nat) : List Int := (List.range' a (b - a)).map (fun (i : Nat) => (i : Int))
theorem rngL_cons {a b : Nat} (h : a < b) : rngL a b = (a : Int) :: rngL (a + 1) b := by
  unfold rngL
  rw [show b - a = (b - (a + 1)) + 1 by omega, List.range'_succ]
  simp
theorem rngL_nil {a b : Nat} (h : b ≤ a) : rngL a b = [] := by
  unfold rngL
  rw [show b - a = 0 by omega]; rfl
theorem rngL_length (a b : Nat) : (rngL a b).length = b - a := by unfold rngL; simp
theorem rngL_get {a b i : Nat} (h : i < (rngL a b).length) : (rngL a b)[i] = ((a + i : Nat) : Int) := by
  have h2 : (rngL a b)[i]? = some ((a + i : Nat) : Int) := by
    rw [rngL_length] at h
    unfold rngL
    rw [List.getElem?_map, List.getElem?_range' h]
    simp
  rw [List.getElem?_eq_getElem h] at h2
  exact Option.some.inj h2
theorem rngL_app : ∀ (m a b c : Nat), b = a + m → b ≤ c → rngL a b ++ rngL b c = rngL a c
  | 0, a, b, c, h, _ => by rw [rngL_nil (by omega), show b = a by omega]; rfl
  | m + 1, a, b, c, h, hc => by
    rw [rngL_cons (by omega : a < b), rngL_cons (by omega : a < c), List.cons_append, rngL_app m (a + 1) b c (by omega) hc]
theorem steps_rng {f : Nat → Nat} {a : Int} (ha : a ≠ 0) (hi : Nat) : ∀ m k, hi ≤ k + m → stepsF (nextOf f a) hi m k = rngL k hi
  | 0, k, h => by rw [rngL_nil (by omega)]; rfl
  | m + 1, k, h => by
    by_cases hk : k < hi
    · rw [stepsF_at hk (by omega), rngL_cons hk, Nat.add_sub_cancel]
      have hn : nextOf f a k = k + 1 := by unfold nextOf; rw [if_neg ha]
      rw [hn, steps_rng ha hi m (k + 1) (by omega)]
    · rw [stepsF_end (by omega), rngL_nil (by omega)]
theorem stepsF_len (g : Nat → Nat) (hi : Nat) : ∀ m k, (stepsF g hi m k).length ≤ m
  | 0, k => Nat.le_refl _
  | m + 1, k => by
    show (if k < hi then (k : Int) :: stepsF g hi m (g k) else []).length ≤ m + 1
    split
    · have := stepsF_len g hi m (g k); simp; exact this
    · simp
theorem alongM_len (L : Nat) (f : Nat → Nat) (n a : Int) : (alongM L f n a).length ≤ L + 1 := by
  unfold alongM
  split
  · simp
  · rw [List.length_append]
    have h1 : (if a = 2 ∨ a = 3 then [n] else []).length ≤ 1 := by split <;> simp
    have h2 : (if a = 3 then [] else stepsF (nextOf f a) (hiOf L f n) L (n + 1).toNat).length ≤ L := by
      split
      · simp
      · exact stepsF_len _ _ _ _
    omega
section
variable {L : Nat} {f : Nat → Nat} {p : Nat → Int}
theorem hiOf_le (h : ∀ i, i < L → i ≤ f i ∧ f i < L) {n : Int} (hn : n < L) : hiOf L f n ≤ L := by
  unfold hiOf
  split
  · exact Nat.le_refl _
  · have := h n.toNat (by omega); omega
theorem alongM_desc (h : ∀ i, i < L → i ≤ f i ∧ f i < L) {n : Int} (h1 : -1 ≤ n) (h2 : n < L) : alongM L f n 1 = rngL (n + 1).toNat (hiOf L f n) := by
  unfold alongM
  rw [if_neg (by omega), if_neg (by omega), if_neg (by omega), List.nil_append]
  exact steps_rng (by omega) _ _ _ (by have := hiOf_le h h2; omega)
theorem alongM_self {n : Int} (h1 : -1 ≤ n) (h2 : n < L) : alongM L f n 3 = [n] := by
  unfold alongM
  rw [if_neg (by omega), if_pos (by omega), if_pos rfl]
  rfl
theorem alongM_orself (h : ∀ i, i < L → i ≤ f i ∧ f i < L) {n : Int} (h1 : -1 ≤ n) (h2 : n < L) : alongM L f n 2 = n :: alongM L f n 1 := by
  rw [alongM_desc h h1 h2]
  unfold alongM
  rw [if_neg (by omega), if_pos (by omega), if_neg (by omega)]
  rw [steps_rng (by omega) _ _ _ (by have := hiOf_le h h2; omega)]
  rfl
/-- a child and all below it -/
def withBelow (L : Nat) (f : Nat → Nat) (c : Int) : List Int := c :: alongM L f c 1
theorem kids_from (h : AxF L f p) {n : Int} (hn1 : -1 ≤ n) (hn : n < L) : ∀ m k, hiOf L f n ≤ k + m → (k < hiOf L f n → p k = n) → (∀ c ∈ stepsF (nextOf f 0) (hiOf L f n) m k, ∃ i : Nat, c = (i : Int) ∧ i < L ∧ p i = n) ∧ (stepsF (nextOf f 0) (hiOf L f n) m k).flatMap (withBelow L f) = rngL k (hiOf L f n)
  | 0, k, hm, _ => by
    rw [rngL_nil (by omega)]
    exact ⟨fun c hc => (by cases hc), rfl⟩
  | m + 1, k, hm, hp => by
    by_cases hk : k < hiOf L f n
    · have hkL : k < L := Nat.lt_of_lt_of_le hk (hiOf_le h.rng hn)
      have hpk := hp hk
      have hins := h.ins k hkL
      rw [hpk] at hins
      have hrk := h.rng k hkL
      have hnx : nextOf f 0 k = f k + 1 := by unfold nextOf; rw [if_pos rfl]
      have hsib := h.sib k hkL
      rw [hpk] at hsib
      have hins' : f k < hiOf L f n := hins
      obtain ⟨ih1, ih2⟩ := kids_from h hn1 hn m (f k + 1) (by omega) hsib
      rw [stepsF_at hk (by omega), Nat.add_sub_cancel, hnx]
      refine ⟨fun c hc => ?_, ?_⟩
      · rcases List.mem_cons.1 hc with rfl | hc
        · exact ⟨k, rfl, hkL, hpk⟩
        · exact ih1 c hc
      · rw [List.flatMap_cons, ih2]
        have hd : alongM L f (k : Int) 1 = rngL (k + 1) (f k + 1) := by
          rw [alongM_desc h.rng (by omega) (by omega)]
          have e1 : ((k : Int) + 1).toNat = k + 1 := by omega
          have e2 : hiOf L f (k : Int) = f k + 1 := by unfold hiOf; rw [if_neg (by omega), Int.toNat_natCast]
          rw [e1, e2]
        unfold withBelow
        rw [hd, List.cons_append, rngL_app (f k - k) (k + 1) (f k + 1) _ (by omega) (by omega), ← rngL_cons hk]
    · rw [stepsF_end (by omega), rngL_nil (by omega)]
      exact ⟨fun c hc => (by cases hc), rfl⟩
/-- children: their parent, and that they with what is below them are what is below -/
theorem kids_of (h : AxF L f p) {n : Int} (h1 : -1 ≤ n) (h2 : n < L) : (∀ c ∈ alongM L f n 0, ∃ i : Nat, c = (i : Int) ∧ i < L ∧ p i = n) ∧ (alongM L f n 0).flatMap (withBelow L f) = alongM L f n 1 := by
  have he : alongM L f n 0 = stepsF (nextOf f 0) (hiOf L f n) L (n + 1).toNat := by
    unfold alongM
    rw [if_neg (by omega), if_neg (by omega), if_neg (by omega), List.nil_append]
  have hle := hiOf_le h.rng h2
  rw [he, alongM_desc h.rng h1 h2]
  refine kids_from h h1 h2 L _ (by omega) (fun hk => ?_)
  by_cases hn : n = -1
  · subst hn
    exact h.root (by omega)
  · have hn0 : 0 ≤ n := by omega
    have e1 : (n + 1).toNat = n.toNat + 1 := by omega
    have e2 : hiOf L f n = f n.toNat + 1 := by unfold hiOf; rw [if_neg (by omega)]
    rw [e1, e2] at hk
    rw [e1, h.first n.toNat (by omega) (by omega)]
    omega
end
end Go.Proofs.YtekoflcioooncaaDoor
