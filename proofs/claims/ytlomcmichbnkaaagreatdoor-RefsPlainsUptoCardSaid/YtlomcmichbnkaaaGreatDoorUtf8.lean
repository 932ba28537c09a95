/-
  Plain laws on UTF-8: the bytes of a character, the order of characters and of their bytes. No program is named here.
-/
import Derived.Test.YtlomcmichbnkaaaGreatDoorGenA
import Derived.Lib.DecodeN
namespace Go.Proofs.YtlomcmichbnkaaaGreatDoor

/-- a number that is a character's -/
def chr (r : Nat) : Prop := r < 55296 ∨ (57344 ≤ r ∧ r ≤ 1114111)
/-- the bytes of a character, as numbers -/
def encN (r : Nat) : List Nat :=
  if r < 128 then [r]
  else if r < 2048 then [192 + r / 64, 128 + r % 64]
  else if r < 65536 then [224 + r / 4096, 128 + r / 64 % 64, 128 + r % 64]
  else [240 + r / 262144, 128 + r / 4096 % 64, 128 + r / 64 % 64, 128 + r % 64]

/-- the order of lists of numbers -/
def natLess : List Nat → List Nat → Bool
  | _, [] => false
  | [], _ :: _ => true
  | a :: x, b :: y => decide (a < b) || (a == b && natLess x y)
theorem bytesLess_nat : ∀ l m : List UInt8, Op.bytesLess l m = natLess (l.map UInt8.toNat) (m.map UInt8.toNat)
  | _, [] => by unfold Op.bytesLess; simp [natLess]
  | [], b :: y => by simp [Op.bytesLess, natLess]
  | a :: x, b :: y => by
    simp only [Op.bytesLess, List.map_cons, natLess, bytesLess_nat x y]
    congr 1
    have : (a == b) = (a.toNat == b.toNat) := by rw [Bool.eq_iff_iff]; simp [UInt8.toNat_inj]
    rw [this]
theorem natLess_app (p x y : List Nat) : natLess (p ++ x) (p ++ y) = natLess x y := by
  induction p with
  | nil => rfl
  | cons a p ih => simp [natLess, ih]
theorem natLess_nil (x : List Nat) : natLess x [] = false := by cases x <;> rfl

set_option maxHeartbeats 1000000 in
theorem encN_lt (r q : Nat) (x y : List Nat) (h : r < q) : natLess (encN r ++ x) (encN q ++ y) = true := by
  unfold encN
  repeat' split
  all_goals (try (exfalso; omega))
  all_goals simp only [List.cons_append, List.nil_append, natLess, Bool.or_eq_true, Bool.and_eq_true, decide_eq_true_eq, beq_iff_eq]
  all_goals omega
set_option maxHeartbeats 1000000 in
theorem encN_gt (r q : Nat) (x y : List Nat) (h : r < q) : natLess (encN q ++ y) (encN r ++ x) = false := by
  unfold encN
  repeat' split
  all_goals (try (exfalso; omega))
  all_goals simp only [List.cons_append, List.nil_append, natLess, Bool.or_eq_false_iff, Bool.and_eq_false_iff, decide_eq_false_iff_not, beq_eq_false_iff_ne]
  all_goals omega

/-- the bytes of a string as numbers, from a place on -/
def bytesN (s : ByteArray) (p : Nat) : List Nat := (s.data.toList.drop p).map UInt8.toNat
theorem len_data (s : ByteArray) : s.data.toList.length = s.size := by rw [Array.length_toList]; rfl
theorem get_nat (s : ByteArray) (p : Nat) (h : p < s.size) : (bytesN s p) = (s.get! p).toNat :: bytesN s (p + 1) := by
  have hl : p < s.data.toList.length := by rw [len_data]; exact h
  unfold bytesN
  rw [List.drop_eq_getElem_cons hl, List.map_cons]
  have e : s.get! p = s.data.toList[p] := by
    rw [show s.get! p = s.get! (p + 0) by rfl, get_at s p h]
    rfl
  rw [e]
theorem bytesN_end (s : ByteArray) (p : Nat) (h : ¬ p < s.size) : bytesN s p = [] := by
  unfold bytesN
  rw [List.drop_of_length_le (by rw [len_data]; omega)]
  rfl
theorem byte_lt (s : ByteArray) (p : Nat) : (s.get! p).toNat < 256 := (s.get! p).toNat_lt

set_option maxHeartbeats 2000000 in
/-- a good character's bytes are those that it has -/
theorem decode_good (s : ByteArray) (p : Nat) (h : p < s.size) (hg : ¬ ((Utf8.decode s p).1 = 65533 ∧ (Utf8.decode s p).2 = 1)) :
    chr (Utf8.decode s p).1 ∧ bytesN s p = encN (Utf8.decode s p).1 ++ bytesN s (p + (Utf8.decode s p).2) := by
  have h0 := byte_lt s p
  have h1 := byte_lt s (p + 1)
  have h2 := byte_lt s (p + 2)
  have h3 := byte_lt s (p + 3)
  have g0 := get_nat s p h
  have g1 := get_nat s (p + 1)
  have g2 := get_nat s (p + 2)
  have g3 := get_nat s (p + 3)
  rw [Lib.decode_at] at hg ⊢
  generalize (s.get! p).toNat = b0 at *
  generalize (s.get! (p + 1)).toNat = b1 at *
  generalize (s.get! (p + 2)).toNat = b2 at *
  generalize (s.get! (p + 3)).toNat = b3 at *
  unfold Lib.decodeN at hg ⊢
  unfold chr
  split
  · refine ⟨by simp only; omega, ?_⟩
    simp only [encN]
    rw [if_pos (by assumption), g0]
    rfl
  · split
    · split
      · refine ⟨by simp only; omega, ?_⟩
        simp only [encN]
        rw [if_neg (by omega), if_pos (by omega), g0, g1 (by omega)]
        simp only [List.cons_append, List.nil_append, List.cons.injEq]
        exact ⟨by omega, by omega, trivial⟩
      · rename_i a b c; rw [if_neg a, if_pos b, if_neg c] at hg; simp at hg
    · split
      · split
        · refine ⟨by simp only; omega, ?_⟩
          simp only [encN]
          rw [if_neg (by omega), if_neg (by omega), if_pos (by omega), g0, g1 (by omega), g2 (by omega)]
          simp only [List.cons_append, List.nil_append, List.cons.injEq]
          exact ⟨by omega, by omega, by omega, trivial⟩
        · rename_i a b c d; rw [if_neg a, if_neg b, if_pos c, if_neg d] at hg; simp at hg
      · split
        · split
          · refine ⟨by simp only; omega, ?_⟩
            simp only [encN]
            rw [if_neg (by omega), if_neg (by omega), if_neg (by omega), g0, g1 (by omega), g2 (by omega), g3 (by omega)]
            simp only [List.cons_append, List.nil_append, List.cons.injEq]
            exact ⟨by omega, by omega, by omega, by omega, trivial⟩
          · rename_i a b c d e; rw [if_neg a, if_neg b, if_neg c, if_pos d, if_neg e] at hg; simp at hg
        · rename_i a b c d; rw [if_neg a, if_neg b, if_neg c, if_neg d] at hg; simp at hg
end Go.Proofs.YtlomcmichbnkaaaGreatDoor
