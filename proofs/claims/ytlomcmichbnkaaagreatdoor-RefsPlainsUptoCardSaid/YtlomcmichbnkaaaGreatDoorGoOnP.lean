/-
  The plain law of RefsGoOn: what waits can be gone on with, by one of the law's own tails.
-/
import Derived.Test.YtlomcmichbnkaaaGreatDoorCutsP
namespace Go.Proofs.YtlomcmichbnkaaaGreatDoor
open Go.RowKit

/-- the law's tails -/
def tails : List (List UInt8) :=
  [[38, 97, 109, 112, 59], [97, 109, 112, 59], [109, 112, 59], [112, 59], [59], [108, 116, 59], [116, 59], [103, 116, 59], [113, 117, 111, 116, 59], [117, 111, 116, 59], [111, 116, 59], [97, 112, 111, 115, 59], [112, 111, 115, 59], [111, 115, 59], [115, 59], [54, 53, 59], [53, 59], [48, 59], [48, 48, 59], [48, 48, 48, 59], [120, 52, 49, 59], [52, 49, 59]]

theorem isR0 (r : Int) : isR (rng 0) r = if r ≤ 10 then decide (9 ≤ r) else if r ≤ 13 then decide (13 ≤ r) else if r ≤ 55295 then decide (32 ≤ r) else if r ≤ 65533 then decide (57344 ≤ r) else if r ≤ 1114111 then decide (65536 ≤ r) else false := rfl
theorem isR0_low (r : Int) (h1 : 32 ≤ r) (h2 : r ≤ 55295) : isR (rng 0) r = true := by
  rw [isR0, if_neg (by omega), if_neg (by omega), if_pos h2]; exact decide_eq_true h1
theorem isR0_high (r : Int) (h1 : 65536 ≤ r) (h2 : r ≤ 1114111) : isR (rng 0) r = true := by
  rw [isR0, if_neg (by omega), if_neg (by omega), if_neg (by omega), if_neg (by omega), if_pos h2]; exact decide_eq_true h1
theorem isR0_not (r : Int) (h : isR (rng 0) r = false) (h0 : 0 ≤ r) (h2 : r ≤ 1114111) : r ≤ 31 ∨ (55296 ≤ r ∧ r ≤ 65535) := by
  rcases Int.lt_or_le r 32 with h3 | h3
  · exact .inl (by omega)
  · rcases Int.lt_or_le 55295 r with h4 | h4
    · rcases Int.lt_or_le 65535 r with h5 | h5
      · rw [isR0_high r (by omega) h2] at h; cases h
      · exact .inr ⟨by omega, h5⟩
    · rw [isR0_low r h3 h4] at h; cases h

theorem numF_app (base : Int) (hb : 0 ≤ base) (at' : Nat) (l : List UInt8) : ∀ (i : Nat) (r : Int), 0 ≤ r → r ≤ 1114111 → numF base at' i r l = (0, 0, 1) →
    ∃ r', 0 ≤ r' ∧ r' ≤ 1114111 ∧ (l = [] → r' = r) ∧ ∀ t, numF base at' i r (l ++ t) = numF base at' (i + l.length) r' t := by
  induction l with
  | nil => intro i r h0 h1 _; exact ⟨r, h0, h1, fun _ => rfl, fun _ => rfl⟩
  | cons b l ih =>
    intro i r h0 h1 hw
    simp only [numF] at hw
    by_cases h2 : b.toNat = 59 ∧ at' < i ∧ isR (rng 0) r = true
    · rw [if_pos h2] at hw
      simp at hw
    · rw [if_neg h2] at hw
      by_cases h3 : ¬ valD b.toNat < base ∨ 1114111 < r * base + valD b.toNat
      · rw [if_pos h3] at hw
        simp at hw
      · rw [if_neg h3] at hw
        have hv := (valD_bd b.toNat).1
        have hm : 0 ≤ r * base := Int.mul_nonneg h0 hb
        obtain ⟨r', a1, a2, _, a4⟩ := ih (i + 1) (r * base + valD b.toNat) (by omega) (by omega) hw
        refine ⟨r', a1, a2, fun h => (by cases h), fun t => ?_⟩
        rw [List.cons_append]
        simp only [numF]
        rw [if_neg h2, if_neg h3, a4]
        congr 1
        simp only [List.length_cons]
        omega

theorem num_end (base : Int) (at' i : Nat) (r : Int) (hi : at' < i) (h : isR (rng 0) r = true) : numF base at' i r [59] = (r, (i : Int) + 1, 0) := by
  simp only [numF]; rw [if_pos ⟨rfl, hi, h⟩]
theorem num_step (base : Int) (at' i : Nat) (r : Int) (b : UInt8) (d : Int) (t : List UInt8) (hb : b.toNat ≠ 59) (hd : valD b.toNat = d) (h1 : d < base) (h2 : r * base + d ≤ 1114111) : numF base at' i r (b :: t) = numF base at' (i + 1) (r * base + d) t := by
  simp only [numF]
  rw [if_neg (by simp [hb]), hd, if_neg (by omega)]

/-- behind a number that is read so far a tail ends it -/
theorem num_tail (base : Int) (hb : base = 10 ∨ base = 16) (at' i : Nat) (hi : at' ≤ i) (r : Int) (h0 : 0 ≤ r) (h1 : r ≤ 1114111) (hz : i = at' → r = 0) :
    ∃ t ∈ tails, ∃ r', numF base at' i r t = (r', (i : Int) + t.length, 0) := by
  by_cases hR : isR (rng 0) r = true
  · have hlt : at' < i := by
      rcases Nat.lt_or_ge at' i with h | h
      · exact h
      · have := hz (by omega)
        subst this
        exact absurd hR (by decide)
    exact ⟨[59], by decide, r, by rw [num_end base at' i r hlt hR]; rfl⟩
  · rcases isR0_not r (by simpa using hR) h0 h1 with h | ⟨h, h'⟩
    · rcases hb with rfl | rfl
      · refine ⟨[54, 53, 59], by decide, (r * 10 + 6) * 10 + 5, ?_⟩
        rw [num_step 10 at' i r 54 6 _ (by decide) (by decide) (by decide) (by omega), num_step 10 at' (i + 1) _ 53 5 _ (by decide) (by decide) (by decide) (by omega), num_end 10 at' _ _ (by omega) (isR0_low _ (by omega) (by omega))]
        simp; omega
      · refine ⟨[52, 49, 59], by decide, (r * 16 + 4) * 16 + 1, ?_⟩
        rw [num_step 16 at' i r 52 4 _ (by decide) (by decide) (by decide) (by omega), num_step 16 at' (i + 1) _ 49 1 _ (by decide) (by decide) (by decide) (by omega), num_end 16 at' _ _ (by omega) (isR0_low _ (by omega) (by omega))]
        simp; omega
    · refine ⟨[48, 59], by decide, r * base + 0, ?_⟩
      have e : base ≤ 16 ∧ 10 ≤ base ∧ r * base ≤ 1114111 ∧ 65536 ≤ r * base := by rcases hb with rfl | rfl <;> omega
      rw [num_step base at' i r 48 0 _ (by decide) (by decide) (by omega) (by omega), num_end base at' _ _ (by omega) (isR0_high _ (by omega) (by omega))]
      simp; omega

theorem goes_pre (t : List UInt8) (h : goesL t = true) : ∃ p ∈ nameL, t <+: p.1 := by
  unfold goesL at h
  rw [List.any_eq_true] at h
  obtain ⟨p, hp, h⟩ := h
  exact ⟨p, hp, List.isPrefixOf_iff_prefix.1 h⟩
theorem names_short : ∀ p ∈ nameL, p.1.length ≤ 4 := by decide
theorem goes_len (t : List UInt8) (h : goesL t = true) : t.length ≤ 4 := by
  obtain ⟨p, hp, h⟩ := goes_pre t h
  exact Nat.le_trans h.length_le (names_short p hp)
/-- the beginnings of the names -/
def begins : List (List UInt8) := nameL.flatMap fun p => (List.range 5).map fun k => p.1.take k
theorem goes_begins (t : List UInt8) (h : goesL t = true) : t ∈ begins := by
  have hl := goes_len t h
  obtain ⟨p, hp, h⟩ := goes_pre t h
  rw [List.prefix_iff_eq_take] at h
  exact List.mem_flatMap.2 ⟨p, hp, List.mem_map.2 ⟨t.length, List.mem_range.2 (by omega), h.symm⟩⟩
theorem begins_tail : ∀ t ∈ begins, ∃ x ∈ tails, (readF (38 :: t ++ x)).2 = (((38 :: t : List UInt8).length : Int) + x.length, 0) := by decide +kernel

theorem namF_wait (l : List UInt8) : ∀ (f m : Nat), m + f = 6 → (m = 0 ∨ goesL (seg l m) = true) → namF l f m = (0, 0, 1) → m + 1 < l.length → goesL (seg l (l.length - 1)) = true := by
  intro f
  induction f with
  | zero =>
    intro m hm hg _ hl
    rcases hg with hg | hg
    · omega
    · have := goes_len _ hg
      simp [seg] at this
      omega
  | succ f ih =>
    intro m hm hg hw hl
    by_cases h5 : m + 1 ≤ 5
    · rw [namF_succ, dif_pos ⟨h5, hl⟩] at hw
      split at hw
      · simp at hw
      · split at hw
        · simp at hw
        · rename_i h1 h2
          have hg' : goesL (seg l (m + 1)) = true := by simpa using h2
          rcases Nat.lt_or_ge (m + 2) l.length with h3 | h3
          · exact ih (m + 1) (by omega) (.inr hg') hw h3
          · rw [show l.length - 1 = m + 1 by omega]; exact hg'
    · rcases hg with hg | hg
      · omega
      · have := goes_len _ hg
        simp [seg] at this
        omega

theorem goOn (l : List UInt8) (hw : readF l = (0, 0, 1)) : ∃ t ∈ tails, (readF (l ++ t)).2 = ((l.length : Int) + t.length, 0) := by
  rcases l with _ | ⟨a, l⟩
  · decide +kernel
  · by_cases h38 : a.toNat = 38
    · obtain rfl : a = 38 := UInt8.toNat_inj.1 h38
      rcases l with _ | ⟨b, u⟩
      · decide +kernel
      · by_cases h35 : b.toNat = 35
        · obtain rfl : b = 35 := UInt8.toNat_inj.1 h35
          rcases u with _ | ⟨c, v⟩
          · decide +kernel
          · by_cases h120 : c.toNat = 120
            · obtain rfl : c = 120 := UInt8.toNat_inj.1 h120
              have he : ∀ t, readF (38 :: 35 :: 120 :: t) = numF 16 3 3 0 t := fun t => rfl
              rw [he] at hw
              obtain ⟨r', a1, a2, a3, a4⟩ := numF_app 16 (by decide) 3 v 3 0 (by omega) (by omega) hw
              obtain ⟨t, ht, r2, e2⟩ := num_tail 16 (.inr rfl) 3 (3 + v.length) (by omega) r' a1 a2 (fun h => a3 (List.eq_nil_of_length_eq_zero (by omega)))
              refine ⟨t, ht, ?_⟩
              show (readF (38 :: 35 :: 120 :: (v ++ t))).2 = _
              rw [he, a4, e2]
              simp; omega
            · have he : ∀ t, readF (38 :: 35 :: c :: t) = numF 10 2 2 0 (c :: t) := by
                intro t; simp only [readF]; rw [if_pos h38, if_pos h35, if_neg h120]
              rw [he] at hw
              obtain ⟨r', a1, a2, a3, a4⟩ := numF_app 10 (by decide) 2 (c :: v) 2 0 (by omega) (by omega) hw
              obtain ⟨t, ht, r2, e2⟩ := num_tail 10 (.inl rfl) 2 (2 + (c :: v).length) (by omega) r' a1 a2 (fun h => by simp at h)
              refine ⟨t, ht, ?_⟩
              show (readF (38 :: 35 :: c :: (v ++ t))).2 = _
              rw [he, ← List.cons_append, a4, e2]
              simp; omega
        · have he : ∀ t, readF (38 :: b :: t) = namF (38 :: b :: t) 6 0 := by
            intro t; simp only [readF]; rw [if_pos h38, if_neg h35]
          rw [he] at hw
          have hg := namF_wait (38 :: b :: u) 6 0 rfl (.inl rfl) hw (by simp)
          have e : seg (38 :: b :: u) ((38 :: b :: u).length - 1) = b :: u := by simp [seg]
          rw [e] at hg
          exact begins_tail _ (goes_begins _ hg)
    · simp only [readF] at hw
      rw [if_neg h38] at hw
      simp at hw
end Go.Proofs.YtlomcmichbnkaaaGreatDoor
