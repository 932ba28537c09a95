/-
  The plain law of gimletref09.Beginning: what its loop knows.
-/
import Derived.Test.YtklpihaelaagpaaDoorLgG
namespace Go.Proofs.YtklpihaelaagpaaDoor
open Go.RowKit

def begR (l : List Ev) : Bool × Int × Bool := match begAll beg0 l with
  | some s => (true, s.opn.length, decide (l ≠ [] ∧ s.opn = []))
  | none => (false, 0, false)
def retB (r : Bool × Int × Bool) : Ending := .returned (.tuple #[.bool r.1, .int .i64 r.2.1, .bool r.2.2])
theorem retB_bad {l : List Ev} (h : begR l = (false, 0, false)) : Ending.returned (.tuple #[.bool false, .int .i64 0, .bool false]) = retB (begR l) := by rw [h]; rfl
def PosOk (evs : List Ev) : List Nat → List (Int × Int × List UInt8) → Prop
  | [], [] => True
  | p :: ps, x :: xs => (∃ e, evs[p]? = some e ∧ x = (e.num, e.dep, e.name)) ∧ PosOk evs ps xs
  | _, _ => False
theorem PosOk.length {evs : List Ev} : ∀ {ps : List Nat} {xs : List (Int × Int × List UInt8)}, PosOk evs ps xs → ps.length = xs.length
  | [], [], _ => rfl
  | p :: ps, x :: xs, h => by rw [List.length_cons, List.length_cons, PosOk.length h.2]
  | [], _ :: _, h => h.elim
  | _ :: _, [], h => h.elim
def posC (l : List Nat) : List Value := l.reverse.map fun (p : Nat) => .int .i64 (p : Int)
theorem posC_cons (p : Nat) (l : List Nat) : posC (p :: l) = posC l ++ [.int .i64 p] := by simp [posC]
theorem posC_length (l : List Nat) : (posC l).length = l.length := by simp [posC]
theorem posC_top (p : Nat) (l : List Nat) : (posC (p :: l))[l.length]? = some (.int .i64 p) := by rw [posC_cons, ← posC_length]; simp
structure BgInv (evs : List Ev) (k : Nat) (s : BegS) (nx : Int) (pos : List Nat) : Prop where
  all : begAll beg0 (evs.take k) = some s
  nx : s.next = nx
  pos : PosOk evs pos s.opn
  text : ∀ j, k = j + 1 → ∃ e, evs[j]? = some e ∧ s.text = (e.kind == 1)
variable {evs : List Ev} {k : Nat} {s : BegS} {nx : Int} {pos : List Nat} {e : Ev}
theorem BgInv.cnt (h : BgInv evs k s nx pos) (hk : k ≤ evs.length) : s.cnt = k := by
  have h1 := (nodesB_inv h.all).cnt
  rw [h1, List.length_take]; omega
theorem BgInv.len (h : BgInv evs k s nx pos) : pos.length = s.opn.length := h.pos.length
theorem BgInv.next (h : BgInv evs k s nx pos) (hek : evs[k]? = some e) (hok : begOk s e = true) : begAll beg0 (evs.take (k + 1)) = some (begNext s e) := by
  obtain ⟨hk, hee⟩ := List.getElem?_eq_some_iff.1 hek
  rw [List.take_succ_eq_append_getElem hk, begAll_snoc, h.all, hee]
  simp [hok]
theorem BgInv.bad (h : BgInv evs k s nx pos) (hek : evs[k]? = some e) (hok : begOk s e = false) : begR evs = (false, 0, false) := by
  obtain ⟨hk, hee⟩ := List.getElem?_eq_some_iff.1 hek
  have : begAll beg0 evs = none := by
    rw [← List.take_append_drop k evs, begAll_app, h.all, List.drop_eq_getElem_cons hk, hee]
    simp [begAll, hok]
  unfold begR
  rw [this]
theorem BgInv.step0 (h : BgInv evs k s nx pos) (hek : evs[k]? = some e) (h0 : e.kind = 0) (hok : begOk s e = true) : BgInv evs (k + 1) (begNext s e) (nx + 1) (k :: pos) :=
  ⟨h.next hek hok, by rw [← h.nx]; simp [begNext, h0], by
    have : (begNext s e).opn = (e.num, e.dep, e.name) :: s.opn := by simp [begNext, h0]
    rw [this]
    exact ⟨⟨e, hek, rfl⟩, h.pos⟩, fun j hj => ⟨e, by rw [show j = k by omega]; exact hek, rfl⟩⟩
theorem BgInv.step1 (h : BgInv evs k s nx pos) (hek : evs[k]? = some e) (h1 : e.kind = 1) (hok : begOk s e = true) : BgInv evs (k + 1) (begNext s e) (nx + 1) pos :=
  ⟨h.next hek hok, by rw [← h.nx]; simp [begNext, h1], by
    have : (begNext s e).opn = s.opn := by simp [begNext, h1]
    rw [this]
    exact h.pos, fun j hj => ⟨e, by rw [show j = k by omega]; exact hek, rfl⟩⟩
theorem BgInv.step2 {p : Nat} (h : BgInv evs k s nx (p :: pos)) (hek : evs[k]? = some e) (h2 : e.kind = 2) (hok : begOk s e = true) : BgInv evs (k + 1) (begNext s e) nx pos :=
  ⟨h.next hek hok, by rw [← h.nx]; simp [begNext, h2], by
    have : (begNext s e).opn = s.opn.tail := by simp [begNext, h2]
    rw [this]
    have hp := h.pos
    cases ho : s.opn with
    | nil => rw [ho] at hp; exact hp.elim
    | cons x xs => rw [ho] at hp; exact hp.2, fun j hj => ⟨e, by rw [show j = k by omega]; exact hek, rfl⟩⟩
theorem BgInv.top {p : Nat} (h : BgInv evs k s nx (p :: pos)) : ∃ e', evs[p]? = some e' ∧ s.opn.head? = some (e'.num, e'.dep, e'.name) := by
  have hp := h.pos
  cases ho : s.opn with
  | nil => rw [ho] at hp; exact hp.elim
  | cons x xs =>
    rw [ho] at hp
    obtain ⟨e', h1, h2⟩ := hp.1
    exact ⟨e', h1, by rw [h2]; rfl⟩
theorem dec_and (a b : Prop) [Decidable a] [Decidable b] : decide (a ∧ b) = (decide a && decide b) := by simp
theorem begOk0 (s : BegS) (num dep : Int) (name text : List UInt8) (ats : List (List UInt8 × List UInt8)) (fr tt : Int) :
    begOk s ⟨0, num, dep, name, ats, text, fr, tt⟩ = (decide (s.cnt = 0 ∨ s.opn ≠ []) && (decide (num = s.next) && (decide (dep = (s.opn.length : Int) + 1) && (text.isEmpty && (nameB name && attrsB none ats))))) := by
  unfold begOk
  rw [if_pos rfl, dec_and, dec_and, dec_and]
  have : decide (text = []) = text.isEmpty := by cases text <;> simp
  simp only [this, Bool.and_assoc]
theorem begOk1 (s : BegS) (num dep : Int) (name text : List UInt8) (ats : List (List UInt8 × List UInt8)) (fr tt : Int) :
    begOk s ⟨1, num, dep, name, ats, text, fr, tt⟩ = (decide (s.opn ≠ []) && (decide (num = s.next) && (decide (dep = (s.opn.length : Int) + 1) && (name.isEmpty && (ats.isEmpty && (!text.isEmpty && (textsB text && !s.text))))))) := by
  unfold begOk
  rw [if_neg (by simp), if_pos rfl, dec_and, dec_and, dec_and, dec_and, dec_and]
  have h1 : decide (name = []) = name.isEmpty := by cases name <;> simp
  have h2 : decide (ats = []) = ats.isEmpty := by cases ats <;> simp
  have h3 : decide (text ≠ []) = !text.isEmpty := by cases text <;> simp
  simp only [h1, h2, h3, Bool.and_assoc]
theorem begOk2 (s : BegS) (num dep : Int) (name text : List UInt8) (ats : List (List UInt8 × List UInt8)) (fr tt : Int) :
    begOk s ⟨2, num, dep, name, ats, text, fr, tt⟩ = (text.isEmpty && (ats.isEmpty && decide (s.opn.head? = some (num, dep, name)))) := by
  unfold begOk
  rw [if_neg (by simp), if_neg (by simp), if_pos rfl, dec_and, dec_and]
  have h1 : decide (text = []) = text.isEmpty := by cases text <;> simp
  have h2 : decide (ats = []) = ats.isEmpty := by cases ats <;> simp
  simp only [h1, h2]
theorem begOk3 (s : BegS) (e : Ev) (h0 : e.kind ≠ 0) (h1 : e.kind ≠ 1) (h2 : e.kind ≠ 2) : begOk s e = false := by
  unfold begOk
  rw [if_neg h0, if_neg h1, if_neg h2]
theorem begOk_closed (s : BegS) (e : Ev) (h0 : s.cnt ≠ 0) (h1 : s.opn = []) : begOk s e = false := by
  unfold begOk
  split
  · rw [decide_eq_false (by simp [h0, h1])]; rfl
  · split
    · rw [decide_eq_false (by simp [h1])]; rfl
    · split
      · rw [decide_eq_false (by simp [h1])]
      · rfl
theorem begR_all (h : begAll beg0 evs = some s) : begR evs = (true, (s.opn.length : Int), decide (evs ≠ [] ∧ s.opn = [])) := by unfold begR; rw [h]
end Go.Proofs.YtklpihaelaagpaaDoor
