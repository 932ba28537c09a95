/-
  The plain law of RefsPieces: what is written holds no byte that would be read otherwise.
-/
import Derived.Test.YtlomcmichbnkaaaGreatDoorMendP
import Derived.Test.YtlomcmichbnkaaaGreatDoorCutsP
namespace Go.Proofs.YtlomcmichbnkaaaGreatDoor
open Go.RowKit

theorem read_ext (l m : List UInt8) (h : (readF l).2.2 = 0) : (readF (l ++ m)).2.2 = 0 := by
  rcases readF_cut l with hw | ⟨k, _, _, _, hm⟩
  · have := hw l.length (Nat.le_refl _)
    rw [List.take_length] at this
    rw [this] at h
    cases h
  · rw [hm]; exact h
/-- no byte of what is written would be read otherwise; g: the double quotes too -/
def Plainly (g : Bool) (w : List UInt8) : Prop := ∀ i x, w[i]? = some x → x.toNat ≠ 60 ∧ x.toNat ≠ 13 ∧ (g = true → x.toNat ≠ 34) ∧ (x.toNat = 38 → (readF (w.drop i)).2.2 = 0)
def badB (g : Bool) (x : UInt8) : Bool := x.toNat == 60 || x.toNat == 13 || (g && x.toNat == 34)
def chkB (ps : List (UInt8 × ByteArray)) (g : Bool) (b : UInt8) : Bool :=
  match form ps b with
  | [] => true
  | c :: t => !badB g c && (c.toNat != 38 || (readF (c :: t)).2.2 == 0) && t.all fun x => !badB g x && x.toNat != 38
theorem badB_not {g : Bool} {x : UInt8} (h : badB g x = false) : x.toNat ≠ 60 ∧ x.toNat ≠ 13 ∧ (g = true → x.toNat ≠ 34) := by
  simp only [badB, Bool.or_eq_false_iff, Bool.and_eq_false_iff, beq_eq_false_iff_ne] at h
  refine ⟨h.1.1, h.1.2, fun hg => ?_⟩
  rcases h.2 with h2 | h2
  · rw [hg] at h2; cases h2
  · exact h2
theorem plainly_form {ps : List (UInt8 × ByteArray)} {g : Bool} (hc : ∀ b, chkB ps g b = true) (l : List UInt8) : Plainly g (replL ps l) := by
  induction l with
  | nil => intro i x h; simp [replL] at h
  | cons b l ih =>
    intro i x h
    have e : replL ps (b :: l) = form ps b ++ replL ps l := by simp [replL]
    rw [e] at h ⊢
    have hb := hc b
    rcases Nat.lt_or_ge i (form ps b).length with hi | hi
    · rw [List.getElem?_append_left hi] at h
      unfold chkB at hb
      rcases hf : form ps b with _ | ⟨c, t⟩
      · rw [hf] at hi; simp at hi
      · rw [hf] at hb h
        simp only [Bool.and_eq_true, Bool.not_eq_true', Bool.or_eq_true, bne_iff_ne, beq_iff_eq, List.all_eq_true] at hb
        obtain ⟨⟨h1, h2⟩, h3⟩ := hb
        rcases i with _ | i
        · simp only [List.getElem?_cons_zero, Option.some.injEq] at h
          subst h
          obtain ⟨a1, a2, a3⟩ := badB_not h1
          refine ⟨a1, a2, a3, fun h38 => ?_⟩
          rw [List.drop_zero]
          exact read_ext (c :: t) _ (h2.resolve_left (fun h => h h38))
        · simp only [List.getElem?_cons_succ] at h
          obtain ⟨h4, h5⟩ := h3 x (List.mem_of_getElem? h)
          obtain ⟨a1, a2, a3⟩ := badB_not h4
          exact ⟨a1, a2, a3, fun h38 => absurd h38 h5⟩
    · rw [List.getElem?_append_right hi] at h
      rw [List.drop_append, List.drop_of_length_le hi, List.nil_append]
      exact ih _ x h
theorem plainly_text (l : List UInt8) : Plainly false (replL textPs l) :=
  plainly_form (fun b => all_bytes (p := fun b => chkB textPs false b = true) (by decide +kernel) b) l
theorem plainly_value (l : List UInt8) : Plainly true (replL valuePs l) :=
  plainly_form (fun b => all_bytes (p := fun b => chkB valuePs true b = true) (by decide +kernel) b) l
theorem replL_app (ps : List (UInt8 × ByteArray)) (l m : List UInt8) : replL ps (l ++ m) = replL ps l ++ replL ps m := by simp [replL]
end Go.Proofs.YtlomcmichbnkaaaGreatDoor
