/-
  The plain law of RefsCuts: what readF says hangs on no byte behind its answer; each shorter beginning waits.
-/
import Derived.Test.YtlomcmichbnkaaaGreatDoorRefsC
namespace Go.Proofs.YtlomcmichbnkaaaGreatDoor
open Go.RowKit

/-- how an answer f of bytes l, whose bytes are counted from off on, is cut -/
def Cut (f : List UInt8 → Int × Int × Int) (off : Nat) (l : List UInt8) : Prop :=
  (∀ j, j ≤ l.length → f (l.take j) = (0, 0, 1)) ∨
  ∃ k, k < l.length ∧ (∀ j, j ≤ k → f (l.take j) = (0, 0, 1)) ∧ ((∃ r, f l = (r, (off : Int) + k + 1, 0)) ∨ f l = (0, (off : Int) + k, 2)) ∧ ∀ m, f (l ++ m) = f l

theorem numF_cut (base : Int) (at' : Nat) (l : List UInt8) : ∀ (i : Nat) (r : Int), Cut (numF base at' i r) i l := by
  induction l with
  | nil => intro i r; left; intro j _; simp [numF]
  | cons b l ih =>
    intro i r
    by_cases h1 : b.toNat = 59 ∧ at' < i ∧ isR (rng 0) r = true
    · right
      refine ⟨0, by simp, fun j hj => by (obtain rfl : j = 0 := by omega); simp [numF], .inl ⟨r, ?_⟩, fun m => ?_⟩
      · simp only [numF]; rw [if_pos h1]; simp
      · simp only [List.cons_append, numF]; rw [if_pos h1, if_pos h1]
    · by_cases h2 : ¬ valD b.toNat < base ∨ 1114111 < r * base + valD b.toNat
      · right
        refine ⟨0, by simp, fun j hj => by (obtain rfl : j = 0 := by omega); simp [numF], .inr ?_, fun m => ?_⟩
        · simp only [numF]; rw [if_neg h1, if_pos h2]; simp
        · simp only [List.cons_append, numF]; rw [if_neg h1, if_pos h2, if_neg h1, if_pos h2]
      · have step : ∀ t, numF base at' i r (b :: t) = numF base at' (i + 1) (r * base + valD b.toNat) t := by
          intro t; simp only [numF]; rw [if_neg h1, if_neg h2]
        have nil : numF base at' i r [] = (0, 0, 1) := by simp [numF]
        rcases ih (i + 1) (r * base + valD b.toNat) with hw | ⟨k, hk, hj, hr, hm⟩
        · left
          intro j hj
          cases j with
          | zero => exact nil
          | succ j => rw [List.take_succ_cons, step]; exact hw j (by simpa using hj)
        · right
          refine ⟨k + 1, by simpa using hk, fun j hjk => ?_, ?_, fun m => ?_⟩
          · cases j with
            | zero => exact nil
            | succ j => rw [List.take_succ_cons, step]; exact hj j (by omega)
          · rw [step]
            rcases hr with ⟨r', e⟩ | e
            · left; exact ⟨r', by rw [e]; simp; omega⟩
            · right; rw [e]; simp; omega
          · rw [List.cons_append, step, step]; exact hm m

theorem namF_short (l : List UInt8) (f m : Nat) (h : l.length ≤ m + 1) : namF l f m = (0, 0, 1) := by
  cases f with
  | zero => rfl
  | succ f => rw [namF_succ, dif_neg (by omega)]
theorem seg_take (l : List UInt8) (m j : Nat) (h : m + 1 ≤ j) : seg (l.take j) m = seg l m := by
  unfold seg
  rw [List.drop_take, List.take_take, Nat.min_eq_left (by omega)]
theorem seg_app (l t : List UInt8) (m : Nat) (h : m + 1 ≤ l.length) : seg (l ++ t) m = seg l m := by
  unfold seg
  rw [List.drop_append_of_le_length (by omega), List.take_append_of_le_length (by rw [List.length_drop]; omega)]

theorem namF_cut (l : List UInt8) : ∀ (f m : Nat), Cut (fun l => namF l f m) 0 l := by
  intro f
  induction f with
  | zero => intro m; left; intro j _; rfl
  | succ f ih =>
    intro m
    by_cases h : m + 1 ≤ 5 ∧ m + 1 < l.length
    · by_cases h1 : (lookN (seg l m)).isSome = true ∧ (l[m + 1]'h.2).toNat = 59
      · right
        refine ⟨m + 1, h.2, fun j hj => namF_short _ _ _ (by simp; omega), .inl ⟨(lookN (seg l m)).getD 0, ?_⟩, fun t => ?_⟩
        · show namF l (f + 1) m = _
          rw [namF_succ, dif_pos h, if_pos h1]
          simp; omega
        · show namF (l ++ t) (f + 1) m = namF l (f + 1) m
          rw [namF_succ, namF_succ, dif_pos h, dif_pos ⟨h.1, by simp; omega⟩, seg_app l t m (by omega), List.getElem_append_left h.2, if_pos h1, if_pos h1]
      · by_cases h2 : goesL (seg l (m + 1)) = false
        · right
          refine ⟨m + 1, h.2, fun j hj => namF_short _ _ _ (by simp; omega), .inr ?_, fun t => ?_⟩
          · show namF l (f + 1) m = _
            rw [namF_succ, dif_pos h, if_neg h1, if_pos h2]
            simp
          · show namF (l ++ t) (f + 1) m = namF l (f + 1) m
            rw [namF_succ, namF_succ, dif_pos h, dif_pos ⟨h.1, by simp; omega⟩, seg_app l t m (by omega), seg_app l t (m + 1) (by omega), List.getElem_append_left h.2, if_neg h1, if_pos h2, if_neg h1, if_pos h2]
        · have step : namF l (f + 1) m = namF l f (m + 1) := by rw [namF_succ, dif_pos h, if_neg h1, if_neg h2]
          have stepj : ∀ j, m + 1 < j → j ≤ l.length → namF (l.take j) (f + 1) m = namF (l.take j) f (m + 1) := by
            intro j hj hjl
            rw [namF_succ, dif_pos ⟨h.1, by simp; omega⟩, seg_take l m j (by omega), seg_take l (m + 1) j (by omega), List.getElem_take, if_neg h1, if_neg h2]
          have stept : ∀ t, namF (l ++ t) (f + 1) m = namF (l ++ t) f (m + 1) := by
            intro t
            rw [namF_succ, dif_pos ⟨h.1, by simp; omega⟩, seg_app l t m (by omega), seg_app l t (m + 1) (by omega), List.getElem_append_left h.2, if_neg h1, if_neg h2]
          rcases ih (m + 1) with hw | ⟨k, hk, hj, hr, hm⟩
          · left
            intro j hj
            by_cases hjm : m + 1 < j
            · show namF (l.take j) (f + 1) m = _
              rw [stepj j hjm hj]; exact hw j hj
            · exact namF_short _ _ _ (by simp; omega)
          · right
            refine ⟨k, hk, fun j hjk => ?_, ?_, fun t => ?_⟩
            · by_cases hjm : m + 1 < j
              · show namF (l.take j) (f + 1) m = _
                rw [stepj j hjm (by omega)]; exact hj j hjk
              · exact namF_short _ _ _ (by simp; omega)
            · show (∃ r, namF l (f + 1) m = _) ∨ namF l (f + 1) m = _
              rw [step]; exact hr
            · show namF (l ++ t) (f + 1) m = namF l (f + 1) m
              rw [stept, step]; exact hm t
    · left
      intro j _
      show namF (l.take j) (f + 1) m = _
      rw [namF_succ, dif_neg (by simp; omega)]

theorem Cut.of_tail {f g : List UInt8 → Int × Int × Int} {off o : Nat} {p l : List UInt8} (ho : o = p.length) (hp : ∀ j, j ≤ p.length → f (p.take j) = (0, 0, 1)) (he : ∀ t, f (p ++ t) = g t) (h : Cut g (off + o) l) : Cut f off (p ++ l) := by
  subst ho
  have low : ∀ j, j ≤ p.length → f ((p ++ l).take j) = (0, 0, 1) := fun j hj => by rw [List.take_append_of_le_length hj]; exact hp j hj
  have high : ∀ j, p.length ≤ j → f ((p ++ l).take j) = g (l.take (j - p.length)) := fun j hj => by rw [List.take_append, List.take_of_length_le hj, he]
  rcases h with hw | ⟨k, hk, hj, hr, hm⟩
  · left
    intro j hj
    by_cases h : j ≤ p.length
    · exact low j h
    · rw [high j (by omega)]; exact hw _ (by simp at hj; omega)
  · right
    refine ⟨p.length + k, by simp; omega, fun j hjk => ?_, ?_, fun m => ?_⟩
    · by_cases h : j ≤ p.length
      · exact low j h
      · rw [high j (by omega)]; exact hj _ (by omega)
    · rw [he]
      rcases hr with ⟨r', e⟩ | e
      · left; exact ⟨r', by rw [e]; simp; omega⟩
      · right; rw [e]; simp; omega
    · rw [List.append_assoc, he, he]; exact hm m

theorem readF_cut (l : List UInt8) : Cut readF 0 l := by
  rcases l with _ | ⟨a, t⟩
  · left; intro j _; simp [readF]
  · by_cases h38 : a.toNat = 38
    · have r1 : readF [a] = (0, 0, 1) := by simp only [readF]; rw [if_pos h38]
      rcases t with _ | ⟨b, u⟩
      · left
        intro j hj
        match j, hj with
        | 0, _ => rfl
        | 1, _ => exact r1
      · by_cases h35 : b.toNat = 35
        · have r2 : readF [a, b] = (0, 0, 1) := by simp only [readF]; rw [if_pos h38, if_pos h35]
          rcases u with _ | ⟨c, v⟩
          · left
            intro j hj
            match j, hj with
            | 0, _ => rfl
            | 1, _ => exact r1
            | 2, _ => exact r2
          · by_cases h120 : c.toNat = 120
            · have he : ∀ t, readF ([a, b, c] ++ t) = numF 16 3 3 0 t := by
                intro t; simp only [List.cons_append, List.nil_append, readF]; rw [if_pos h38, if_pos h35, if_pos h120]
              refine Cut.of_tail (p := [a, b, c]) (o := 3) rfl ?_ he (numF_cut 16 3 v 3 0)
              intro j hj
              match j, hj with
              | 0, _ => rfl
              | 1, _ => exact r1
              | 2, _ => exact r2
              | 3, _ => exact he []
            · -- the tail's law is told of the whole of a text that begins with c alone
              have he : ∀ t, readF ([a, b] ++ c :: t) = numF 10 2 2 0 (c :: t) := by
                intro t; simp only [List.cons_append, List.nil_append, readF]; rw [if_pos h38, if_pos h35, if_neg h120]
              have hc := numF_cut 10 2 (c :: v) 2 0
              have take : ∀ j, readF ((a :: b :: c :: v).take (j + 2)) = numF 10 2 2 0 ((c :: v).take j) := by
                intro j
                cases j with
                | zero => exact r2
                | succ j => exact he _
              rcases hc with hw | ⟨k, hk, hj, hr, hm⟩
              · left
                intro j hj
                match j with
                | 0 => rfl
                | 1 => exact r1
                | j + 2 => rw [take]; exact hw j (by simp at hj ⊢; omega)
              · right
                refine ⟨k + 2, by simp at hk ⊢; omega, fun j hjk => ?_, ?_, fun m => ?_⟩
                · match j with
                  | 0 => rfl
                  | 1 => exact r1
                  | j + 2 => rw [take]; exact hj j (by omega)
                · show (∃ r, readF ([a, b] ++ c :: v) = _) ∨ readF ([a, b] ++ c :: v) = _
                  rw [he]
                  rcases hr with ⟨r', e⟩ | e
                  · left; exact ⟨r', by rw [e]; simp; omega⟩
                  · right; rw [e]; simp; omega
                · show readF ([a, b] ++ c :: (v ++ m)) = readF ([a, b] ++ c :: v)
                  rw [he, he]; exact hm m
        · have he : ∀ t, readF (a :: b :: t) = namF (a :: b :: t) 6 0 := by
            intro t; simp only [readF]; rw [if_pos h38, if_neg h35]
          have take : ∀ j, readF ((a :: b :: u).take (j + 2)) = namF ((a :: b :: u).take (j + 2)) 6 0 := fun j => he _
          rcases namF_cut (a :: b :: u) 6 0 with hw | ⟨k, hk, hj, hr, hm⟩
          · left
            intro j hj
            match j with
            | 0 => rfl
            | 1 => exact r1
            | j + 2 => rw [take]; exact hw (j + 2) hj
          · right
            refine ⟨k, hk, fun j hjk => ?_, ?_, fun m => ?_⟩
            · match j with
              | 0 => rfl
              | 1 => exact r1
              | j + 2 => rw [take]; exact hj (j + 2) hjk
            · rw [he]; exact hr
            · rw [List.cons_append, List.cons_append, he, he]; exact hm m
    · have bad : ∀ t, readF (a :: t) = (0, 0, 2) := by intro t; simp only [readF]; rw [if_neg h38]
      right
      refine ⟨0, by simp, fun j hj => by (obtain rfl : j = 0 := by omega); rfl, .inr (by rw [bad]; rfl), fun m => by rw [List.cons_append, bad, bad]⟩
end Go.Proofs.YtlomcmichbnkaaaGreatDoor
