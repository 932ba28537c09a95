/-
  The plain law of RefsNumbers: a number's digits in a base, and what refs.Read says of them.
-/
import Derived.Test.YthmngbbhbjkgkaaDoorGoOnP
namespace Go.Proofs.YthmngbbhbjkgkaaDoor
open Go.RowKit

def chrD (x : Nat) : UInt8 := UInt8.ofNat (if x < 10 then 48 + x else 87 + x)
theorem chrD_val : ∀ x, x < 16 → valD (chrD x).toNat = x ∧ (chrD x).toNat ≠ 59 := by decide
/-- a number's digits -/
def dig (base n : Nat) : List UInt8 := if _h : 2 ≤ base ∧ base ≤ n then dig base (n / base) ++ [chrD (n % base)] else [chrD (n % base)]
termination_by n
decreasing_by exact Nat.div_lt_self (by omega) (by omega)
theorem dig_small (base n : Nat) (h : n < base) : dig base n = [chrD n] := by
  rw [dig, dif_neg (by omega), Nat.mod_eq_of_lt h]
theorem dig_big (base n : Nat) (hb : 2 ≤ base) (h : base ≤ n) : dig base n = dig base (n / base) ++ [chrD (n % base)] := by
  rw [dig, dif_pos ⟨hb, h⟩]
/-- how often a number is divided until it is not too great -/
def cuts (base n : Nat) : Nat := if _h : 2 ≤ base ∧ 1114111 < n then cuts base (n / base) + 1 else 0
termination_by n
decreasing_by exact Nat.div_lt_self (by omega) (by omega)
theorem cuts_small (base n : Nat) (h : n ≤ 1114111) : cuts base n = 0 := by rw [cuts, dif_neg (by omega)]
theorem cuts_big (base n : Nat) (hb : 2 ≤ base) (h : 1114111 < n) : cuts base n = cuts base (n / base) + 1 := by rw [cuts, dif_pos ⟨hb, h⟩]

theorem num_dig (base : Nat) (hb : 2 ≤ base) (hb2 : base ≤ 16) (at' : Nat) (n : Nat) : ∀ (i : Nat) (t : List UInt8),
    (n ≤ 1114111 → numF base at' i 0 (dig base n ++ t) = numF base at' (i + (dig base n).length) n t) ∧
    (1114111 < n → numF base at' i 0 (dig base n ++ t) = (0, ((i + (dig base n).length - cuts base n : Nat) : Int), 2) ∧ cuts base n ≤ (dig base n).length) := by
  induction n using Nat.strongRecOn with
  | _ n ih =>
    intro i t
    rcases Nat.lt_or_ge n base with h | h
    · obtain ⟨h1, h2⟩ := chrD_val n (by omega)
      rw [dig_small base n h]
      refine ⟨fun _ => ?_, fun h' => by omega⟩
      rw [List.singleton_append, num_step base at' i 0 (chrD n) n t h2 h1 (by omega) (by omega)]
      simp
    · have hlt : n / base < n := Nat.div_lt_self (by omega) (by omega)
      have hmod : n % base < base := Nat.mod_lt _ (by omega)
      have hsum : base * (n / base) + n % base = n := Nat.div_add_mod n base
      have hsumI : ((n / base : Nat) : Int) * base + ((n % base : Nat) : Int) = n := by
        have : (((n / base) * base + n % base : Nat) : Int) = n := by rw [Nat.mul_comm, hsum]
        push_cast at this ⊢
        exact this
      obtain ⟨h1, h2⟩ := chrD_val (n % base) (by omega)
      rw [dig_big base n hb h, List.append_assoc, List.singleton_append, List.length_append, List.length_singleton]
      obtain ⟨i1, i2⟩ := ih (n / base) hlt i (chrD (n % base) :: t)
      refine ⟨fun hn => ?_, fun hn => ?_⟩
      · rw [i1 (by omega), num_step base at' _ _ (chrD (n % base)) (n % base : Nat) t h2 h1 (by omega) (by rw [hsumI]; omega), hsumI]
        rfl
      · rw [cuts_big base n hb hn]
        rcases Nat.lt_or_ge 1114111 (n / base) with h3 | h3
        · obtain ⟨e, hc⟩ := i2 h3
          rw [e]
          refine ⟨?_, by omega⟩
          rw [show i + ((dig base (n / base)).length + 1) - (cuts base (n / base) + 1) = i + (dig base (n / base)).length - cuts base (n / base) by omega]
        · rw [i1 h3, cuts_small base _ h3]
          refine ⟨?_, by omega⟩
          simp only [numF]
          rw [if_neg (by simp [h2]), if_pos (.inr (by rw [h1, hsumI]; omega))]
          rw [show i + ((dig base (n / base)).length + 1) - (0 + 1) = i + (dig base (n / base)).length by omega]

theorem num_noughts (base : Int) (hb : 0 < base) (at' : Nat) (k : Nat) : ∀ (i : Nat) (t : List UInt8), numF base at' i 0 (List.replicate k 48 ++ t) = numF base at' (i + k) 0 t := by
  induction k with
  | zero => intro i t; rfl
  | succ k ih =>
    intro i t
    rw [List.replicate_succ, List.cons_append, num_step base at' i 0 48 0 _ (by decide) (by decide) hb (by omega)]
    simp only [Int.zero_mul, Int.add_zero]
    rw [ih]
    congr 1
    omega
end Go.Proofs.YthmngbbhbjkgkaaDoor
