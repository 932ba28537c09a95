/-
  The scanner's cursor: attribute.
-/
import Derived.Test.YtjdmndpadejegaaDoorMgO
namespace Go.Proofs.YtjdmndpadejegaaDoor
open Go.RowKit

def atsC (ats : List (List UInt8 × List Nat)) : List Value := ats.flatMap fun p => [.string (strL p.1), .string (strL (encs p.2))]
theorem atsC_len (ats : List (List UInt8 × List Nat)) : (atsC ats).length = ats.length * 2 := by
  unfold atsC
  induction ats with
  | nil => rfl
  | cons p l ih => simp only [List.flatMap_cons, List.length_append, List.length_cons, List.length_nil, ih]; omega
theorem atsC_app (ats : List (List UInt8 × List Nat)) (p : List UInt8 × List Nat) : atsC (ats ++ [p]) = atsC ats ++ [.string (strL p.1), .string (strL (encs p.2))] := by simp [atsC]
theorem atsC_get : ∀ (ats : List (List UInt8 × List Nat)) (k : Nat) (h : k < ats.length), (atsC ats)[k * 2]? = some (.string (strL ats[k].1)) ∧ (atsC ats)[k * 2 + 1]? = some (.string (strL (encs ats[k].2)))
  | [], _, h => by cases h
  | p :: l, 0, _ => ⟨rfl, rfl⟩
  | p :: l, k + 1, h => by
    have e : atsC (p :: l) = .string (strL p.1) :: .string (strL (encs p.2)) :: atsC l := rfl
    rw [e, show (k + 1) * 2 = k * 2 + 1 + 1 by omega]
    exact atsC_get l k (by simpa using h)
structure TkB (G tb : Nat) (w : World) (k : Nat) (q : List UInt8) (av : Value) (ats : List (List UInt8 × List Nat)) : Prop where
  cell : w.heap[tb]? = some (.cells (tokC k q av).toArray 41 (0, 0))
  row : w.ownsRow G 85 2 av ats.length (atsC ats)
  ne : av.ownBlock ≠ some tb
  gt : G ≤ tb
  le : G ≤ w.heap.size
theorem TkB.keep {S : Nat → Prop} {G tb k : Nat} {w w' : World} {q : List UInt8} {av : Value} {ats : List (List UInt8 × List Nat)} (h : TkB G tb w k q av ats) (hk : Kp S w w') (h1 : ∀ m, S m → m < G ∨ w.heap.size ≤ m) : TkB G tb w' k q av ats :=
  ⟨hk.heap h.cell (fun e => by have := heap_lt h.cell; have := h.gt; have := h1 _ e; omega), hk.own h.row fun m hm e => by have := h.row.lt m hm; have := h1 _ e; omega, h.ne, h.gt, Nat.le_trans h.le hk.size⟩
theorem TkB.below {G tb k : Nat} {w w' : World} {q : List UInt8} {av : Value} {ats : List (List UInt8 × List Nat)} (h : TkB G tb w k q av ats) (hk : Below w.heap.size w w') : TkB G tb w' k q av ats :=
  h.keep (Kp.of (S := fun _ => False) hk) fun _ e => e.elim
theorem aft_fail {α β : Type} {c c' : Cu} {s : Sc α} {l : List UInt8} {H : α → List UInt8 → Sc β} (h : s.good = false) (ha : Aft c c' s) : Aft c c' (s.next l H) ∧ (s.next l H).good = false := by
  cases s with
  | wait => exact ⟨ha, rfl⟩
  | bad n => exact ⟨ha, rfl⟩
  | ok a n => cases h
theorem good_up {α : Type} (s : Sc α) (k : Nat) : (s.up k).good = s.good := by cases s <;> rfl
def attrR (F : Nat) (name : List UInt8) (l : List UInt8) : Sc (List UInt8 × List Nat) :=
  (blanksGo F l).next l fun _ l => (lit [61] l).next l fun _ l => (blanksGo F l).next l fun _ l => (valS F l).next l fun v l => doneP (name, v) l
theorem attrF_eq (F : Nat) (sofar : List (List UInt8)) (l : List UInt8) : attrF F sofar l = (wordF F l).next l fun name l => pk l fun x l => if x.toNat ≠ 61 ∧ blankB x = false then badP l else if name ∈ sofar then badP l else attrR F name l := by
  have key : ∀ (name : List UInt8) (l : List UInt8), (pk l fun q l => if q.toNat ≠ 34 ∧ q.toNat ≠ 39 then badP l else on1 (fun l => (valueGo q F false [] l).next l fun v l => doneP (name, v) l) l) = (valS F l).next l fun v l => doneP (name, v) l := by
    intro name l
    rcases l with _ | ⟨q, l⟩
    · rfl
    · unfold valS
      show (if q.toNat ≠ 34 ∧ q.toNat ≠ 39 then badP (q :: l) else _) = (if q.toNat ≠ 34 ∧ q.toNat ≠ 39 then badP (q :: l) else _ : Sc (List Nat)).next (q :: l) _
      by_cases h : q.toNat ≠ 34 ∧ q.toNat ≠ 39
      · rw [if_pos h, if_pos h]; rfl
      · rw [if_neg h, if_neg h]
        show ((valueGo q F false [] l).next l _).up 1 = ((valueGo q F false [] l).up 1).next (q :: l) _
        rw [next_cons]
  unfold attrF attrR
  simp only [key]
end Go.Proofs.YtjdmndpadejegaaDoor
