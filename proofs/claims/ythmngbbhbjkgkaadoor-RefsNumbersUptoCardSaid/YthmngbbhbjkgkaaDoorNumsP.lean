/-
  The plain law of RefsNumbers: what readF says of a number in either base, noughts ahead.
-/
import Derived.Test.YthmngbbhbjkgkaaDoorDigP
namespace Go.Proofs.YthmngbbhbjkgkaaDoor
open Go.RowKit

theorem chrD_le : ∀ x, x < 16 → (chrD x).toNat ≤ 102 := by decide
theorem dig_chr (base : Nat) (hb : 2 ≤ base) (hb2 : base ≤ 16) (n : Nat) : ∀ c ∈ dig base n, c.toNat ≤ 102 := by
  induction n using Nat.strongRecOn with
  | _ n ih =>
    intro c hc
    rcases Nat.lt_or_ge n base with h1 | h1
    · rw [dig_small base n h1] at hc
      obtain rfl : c = chrD n := by simpa using hc
      exact chrD_le _ (by omega)
    · rw [dig_big base n hb h1] at hc
      rcases List.mem_append.1 hc with h | h
      · exact ih (n / base) (Nat.div_lt_self (by omega) (by omega)) c h
      · obtain rfl : c = chrD (n % base) := by simpa using h
        exact chrD_le _ (by have := Nat.mod_lt n (show 0 < base by omega); omega)
/-- the digits with noughts ahead -/
def digs (base n k : Nat) : List UInt8 := List.replicate k 48 ++ dig base n
theorem digs_ne (base n k : Nat) : digs base n k ≠ [] := by
  unfold digs
  intro h
  have h2 := (List.append_eq_nil_iff.1 h).2
  rw [dig] at h2
  split at h2 <;> simp at h2
theorem digs_head (base : Nat) (hb : 2 ≤ base) (hb2 : base ≤ 16) (n k : Nat) : ∀ c ∈ digs base n k, c.toNat ≠ 120 := by
  intro c hc
  rcases List.mem_append.1 hc with h | h
  · rw [(List.mem_replicate.1 h).2]; decide
  · have := dig_chr base hb hb2 n c h; omega

theorem num_digs (base : Nat) (hb : 2 ≤ base) (hb2 : base ≤ 16) (at' n k : Nat) :
    numF base at' at' 0 (digs base n k ++ [59, 120]) = if isR (rng 0) n = true then ((n : Int), ((at' + (digs base n k).length : Nat) : Int) + 1, 0) else (0, ((at' + (digs base n k).length - cuts base n : Nat) : Int), 2) := by
  unfold digs
  rw [List.append_assoc, num_noughts base (by omega)]
  obtain ⟨i1, i2⟩ := num_dig base hb hb2 at' n (at' + k) [59, 120]
  have hl : (List.replicate k 48 ++ dig base n).length = k + (dig base n).length := by simp
  rw [hl]
  rcases Nat.lt_or_ge 1114111 n with h | h
  · have hR : ¬ isR (rng 0) n = true := by
      rw [isR0, if_neg (by omega), if_neg (by omega), if_neg (by omega), if_neg (by omega), if_neg (by omega)]; simp
    rw [(i2 h).1, if_neg hR]
    simp [Nat.add_assoc]
  · rw [i1 h, cuts_small base n h]
    have hpos : 0 < (dig base n).length := by
      rw [dig]; split <;> simp
    simp only [numF]
    by_cases hR : isR (rng 0) n = true
    · rw [if_pos ⟨rfl, by omega, hR⟩, if_pos hR]
      simp; omega
    · have h59 : valD (59 : UInt8).toNat = 99 := by decide
      rw [if_neg (fun h => hR h.2.2), if_pos (.inl (by rw [h59]; omega)), if_neg hR]
      simp; omega
theorem read_16 (n k : Nat) : readF ([38, 35, 120] ++ digs 16 n k ++ [59, 120]) = if isR (rng 0) n = true then ((n : Int), ((3 + (digs 16 n k).length : Nat) : Int) + 1, 0) else (0, ((3 + (digs 16 n k).length - cuts 16 n : Nat) : Int), 2) :=
  num_digs 16 (by decide) (by decide) 3 n k
theorem read_10 (n k : Nat) : readF ([38, 35] ++ digs 10 n k ++ [59, 120]) = if isR (rng 0) n = true then ((n : Int), ((2 + (digs 10 n k).length : Nat) : Int) + 1, 0) else (0, ((2 + (digs 10 n k).length - cuts 10 n : Nat) : Int), 2) := by
  have h := num_digs 10 (by decide) (by decide) 2 n k
  have hh := digs_head 10 (by decide) (by decide) n k
  rcases hd : digs 10 n k with _ | ⟨c, v⟩
  · exact absurd hd (digs_ne 10 n k)
  · rw [hd] at h hh
    have hc := hh c (by simp)
    rw [← hd, hd]
    have e : readF ([38, 35] ++ (c :: v) ++ [59, 120]) = numF 10 2 2 0 ((c :: v) ++ [59, 120]) := by
      show readF (38 :: 35 :: c :: (v ++ [59, 120])) = _
      simp only [readF]
      rw [if_pos (by decide), if_pos (by decide), if_neg hc]
      rfl
    rw [e]
    exact h
theorem cuts_le (base : Nat) (hb : 2 ≤ base) (n : Nat) : cuts base n ≤ (dig base n).length := by
  induction n using Nat.strongRecOn with
  | _ n ih =>
    rcases Nat.lt_or_ge 1114111 n with h | h
    · rw [cuts_big base n hb h]
      rcases Nat.lt_or_ge n base with h1 | h1
      · rw [Nat.div_eq_of_lt h1, cuts_small base 0 (by omega), dig_small base n h1]; simp
      · rw [dig_big base n hb h1]
        have := ih (n / base) (Nat.div_lt_self (by omega) (by omega))
        simp; exact this
    · rw [cuts_small base n h]; omega
end Go.Proofs.YthmngbbhbjkgkaaDoor
