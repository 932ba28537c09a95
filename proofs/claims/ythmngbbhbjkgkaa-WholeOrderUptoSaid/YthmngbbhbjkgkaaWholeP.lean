/-
  The plain law behind WholeOrder: of good texts the order of characters is that of the bytes.
-/
import Derived.Test.YthmngbbhbjkgkaaWhole
import Derived.Test.YthmngbbhbjkgkaaUtf8
namespace Go.Proofs.Ythmngbbhbjkgkaa

theorem bytesN_cons (s : ByteArray) (p : Nat) (h : p < s.size) : ∃ a x, bytesN s p = a :: x := ⟨_, _, get_nat s p h⟩
theorem cmp_bytes (s t : ByteArray) (f : Nat) : ∀ (p q : Nat), s.size - p ≤ f → goodAt s p = true → goodAt t q = true →
    cmpL (runesAt s p) (runesAt t q) = if natLess (bytesN s p) (bytesN t q) = true then -1 else if natLess (bytesN t q) (bytesN s p) = true then 1 else 0 := by
  induction f with
  | zero =>
    intro p q hf _ _
    rw [runesAt_end s p (by omega), bytesN_end s p (by omega)]
    by_cases h : q < t.size
    · obtain ⟨a, x, e⟩ := bytesN_cons t q h
      rw [runesAt_step t q h, e]; rfl
    · rw [runesAt_end t q h, bytesN_end t q h]; rfl
  | succ f ih =>
    intro p q hf hs ht
    by_cases h : p < s.size
    · by_cases k : q < t.size
      · rw [goodAt_step s p h] at hs
        rw [goodAt_step t q k] at ht
        simp only [Bool.and_eq_true, Bool.not_eq_true', Bool.and_eq_false_iff, beq_eq_false_iff_ne] at hs ht
        obtain ⟨c1, e1⟩ := decode_good s p h (by omega)
        obtain ⟨c2, e2⟩ := decode_good t q k (by omega)
        have hw := width_pos s p h
        have := ih (p + (Utf8.decode s p).2) (q + (Utf8.decode t q).2) (by omega) hs.2 ht.2
        rw [runesAt_step s p h, runesAt_step t q k, e1, e2]
        simp only [cmpL]
        generalize (Utf8.decode s p).1 = r at *
        generalize (Utf8.decode t q).1 = r' at *
        by_cases hlt : r < r'
        · rw [if_pos (by omega), encN_lt _ _ _ _ hlt]; rfl
        · by_cases hgt : r' < r
          · rw [if_neg (by omega), if_pos (by omega), encN_gt _ _ _ _ hgt, encN_lt _ _ _ _ hgt]; rfl
          · obtain rfl : r = r' := by omega
            rw [if_neg (by omega), if_neg (by omega), natLess_app, natLess_app]
            exact this
      · obtain ⟨a, x, e⟩ := bytesN_cons s p h
        rw [runesAt_step s p h, runesAt_end t q k, e, bytesN_end t q k]; rfl
    · rw [runesAt_end s p h, bytesN_end s p h]
      by_cases k : q < t.size
      · obtain ⟨a, x, e⟩ := bytesN_cons t q k
        rw [runesAt_step t q k, e]; rfl
      · rw [runesAt_end t q k, bytesN_end t q k]; rfl

theorem less_bytes (s t : ByteArray) : Op.bytesLess s.toList t.toList = natLess (bytesN s 0) (bytesN t 0) := by
  rw [bytesLess_nat, ByteArray.toList_eq, ByteArray.toList_eq]; simp [bytesN]
theorem cmp_less (s t : ByteArray) (hs : goodAt s 0 = true) (ht : goodAt t 0 = true) :
    cmpL (runesOf s) (runesOf t) = if Op.bytesLess s.toList t.toList = true then -1 else if Op.bytesLess t.toList s.toList = true then 1 else 0 := by
  rw [← runesAt_zero, ← runesAt_zero, less_bytes, less_bytes]
  exact cmp_bytes s t s.size 0 0 (by omega) hs ht
end Go.Proofs.Ythmngbbhbjkgkaa
