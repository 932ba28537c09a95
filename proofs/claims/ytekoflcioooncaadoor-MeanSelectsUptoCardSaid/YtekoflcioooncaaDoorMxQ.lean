/-
  The plain meaning of standing, finding and comparing of texts, on lists of characters.
-/
import Derived.Test.YtekoflcioooncaaDoorMxA
import Derived.Test.YtekoflcioooncaaDoorMxP
import Derived.Test.YtekoflcioooncaaDoorMxE
import Derived.Test.YtekoflcioooncaaDoorMxD
import Derived.Test.YtekoflcioooncaaDoorMxH
import Derived.Test.YtekoflcioooncaaDoorShelf
namespace Go.Proofs.YtekoflcioooncaaDoor

def standsL (xs ys : List Int) (p : Nat) : Bool := decide (p + ys.length ≤ xs.length ∧ ∀ i, i < ys.length → xs[p + i]? = ys[i]?)
def findL (xs ys : List Int) : Int := kfind (standsL xs ys) 0 xs.length
theorem standsL_short (xs ys : List Int) (p : Nat) (h : xs.length < p + ys.length) : standsL xs ys p = false := by
  simp only [standsL, decide_eq_false_iff_not]; intro h2; omega
theorem standsL_true (xs ys : List Int) (p : Nat) (h : p + ys.length ≤ xs.length) (h2 : ∀ i, i < ys.length → xs[p + i]? = ys[i]?) : standsL xs ys p = true := by
  simp only [standsL, decide_eq_true_eq]; exact ⟨h, h2⟩
theorem standsL_false (xs ys : List Int) (p i : Nat) (hi : i < ys.length) (h2 : xs[p + i]? ≠ ys[i]?) : standsL xs ys p = false := by
  simp only [standsL, decide_eq_false_iff_not]; intro h3; exact h2 (h3.2 i hi)
theorem standsL_seg (xs ys : List Int) (p : Nat) (h : p + ys.length ≤ xs.length) : standsL xs ys p = decide ((xs.drop p).take ys.length = ys) := by
  by_cases e : (xs.drop p).take ys.length = ys
  · rw [decide_eq_true e]
    refine standsL_true xs ys p h fun i hi => ?_
    have := congrArg (fun l => l[i]?) e
    simp only [List.getElem?_take, List.getElem?_drop, if_pos hi] at this
    exact this
  · rw [decide_eq_false e]
    cases hs : standsL xs ys p with
    | false => rfl
    | true =>
      simp only [standsL, decide_eq_true_eq] at hs
      refine absurd ?_ e
      refine List.ext_getElem? fun i => ?_
      rw [List.getElem?_take, List.getElem?_drop]
      by_cases hi : i < ys.length
      · rw [if_pos hi]; exact hs.2 i hi
      · rw [if_neg hi, List.getElem?_eq_none (by omega)]
def chF (xs : List Int) (i : Nat) : Int := xs[i]?.getD 0
theorem chF_at {xs : List Int} {i : Nat} (h : i < xs.length) : xs[i]? = some (chF xs i) := by
  unfold chF; rw [List.getElem?_eq_getElem h]; rfl
theorem stands_iff (xs ys : List Int) (p : Nat) : standsL xs ys p = true ↔ KStands (chF xs) (chF ys) ys.length xs.length p := by
  simp only [standsL, decide_eq_true_eq, KStands]
  refine ⟨fun h => ⟨h.1, fun i hi => ?_⟩, fun h => ⟨h.1, fun i hi => ?_⟩⟩
  · have := h.2 i hi
    rw [chF_at (show p + i < xs.length by omega), chF_at hi] at this
    exact Option.some.inj this
  · rw [chF_at (show p + i < xs.length by omega), chF_at hi, h.2 i hi]
theorem findL_found {xs ys : List Int} {a : Nat} (h : KStands (chF xs) (chF ys) ys.length xs.length a) (hn : ∀ p, p < a → ¬ KStands (chF xs) (chF ys) ys.length xs.length p) : findL xs ys = (a : Int) := by
  refine kfind_found ((stands_iff ..).2 h) _ _ (Nat.zero_le _) (by have := h.1; omega) fun q _ hq => ?_
  cases hs : standsL xs ys q with
  | false => rfl
  | true => exact absurd ((stands_iff ..).1 hs) (hn q hq)
theorem findL_none {xs ys : List Int} (hn : ∀ p, ¬ KStands (chF xs) (chF ys) ys.length xs.length p) : findL xs ys = -1 := by
  refine kfind_none _ _ fun q _ _ => ?_
  cases hs : standsL xs ys q with
  | false => rfl
  | true => exact absurd ((stands_iff ..).1 hs) (hn q)
theorem findL_nil (xs : List Int) : findL xs [] = 0 := by
  have := findL_found (xs := xs) (ys := []) (a := 0) ⟨by simp, fun i hi => by simp at hi⟩ (fun p hp => by omega)
  simpa using this
end Go.Proofs.YtekoflcioooncaaDoor

namespace Go.Proofs.YtekoflcioooncaaDoor
open Go.RowKit

mutual
inductive PX where
  | mk (op : Int) (args : List PX) (path : List PS) (attr : List UInt8) (cmp : Int) (text : List UInt8) (num : Int) : PX
inductive PS where
  | mk (axis test : Int) (name : List UInt8) (wher : List PX) : PS
end
def PX.op : PX → Int | .mk o _ _ _ _ _ _ => o
def PX.args : PX → List PX | .mk _ a _ _ _ _ _ => a
def PX.path : PX → List PS | .mk _ _ p _ _ _ _ => p
def PX.attr : PX → List UInt8 | .mk _ _ _ a _ _ _ => a
def PX.cmp : PX → Int | .mk _ _ _ _ c _ _ => c
def PX.text : PX → List UInt8 | .mk _ _ _ _ _ t _ => t
def PX.num : PX → Int | .mk _ _ _ _ _ _ n => n
def PS.axis : PS → Int | .mk a _ _ _ => a
def PS.test : PS → Int | .mk _ t _ _ => t
def PS.name : PS → List UInt8 | .mk _ _ n _ => n
def PS.wher : PS → List PX | .mk _ _ _ w => w

def W64 (x : Int) : Prop := -9223372036854775808 ≤ x ∧ x ≤ 9223372036854775807
def RowP {α : Type} (P : World → α → List Value → Prop) (k : Nat) (w : World) (a : Option Addr) (l : List α) : Prop :=
  ∀ i, (h : i < l.length) → ∃ b o cs, a = some ⟨b, o, none⟩ ∧ b < w.heap.size ∧ cs.length = k ∧ (∀ j, j < k → w.cell? ⟨b, o + i * k + j, none⟩ = cs[j]?) ∧ P w l[i] cs
def StepAt (P : World → PX → List Value → Prop) (w : World) (s : PS) (cs : List Value) : Prop :=
  ∃ a c, cs = [.int .i64 s.axis, .int .i64 s.test, .string (strL s.name), .slice a s.wher.length c] ∧ s.wher.length ≤ c ∧ W64 s.axis ∧ W64 s.test ∧ s.name.length ≤ 1048576 ∧ s.wher.length ≤ 1048576 ∧ RowP P 7 w a s.wher
def XAt : Nat → World → PX → List Value → Prop
  | 0, _, _, _ => False
  | f + 1, w, x, cs => ∃ a c p d, cs = [.int .i64 x.op, .slice a x.args.length c, .slice p x.path.length d, .string (strL x.attr), .int .i64 x.cmp, .string (strL x.text), .int .i64 x.num] ∧
      x.args.length ≤ c ∧ x.path.length ≤ d ∧ W64 x.op ∧ W64 x.cmp ∧ W64 x.num ∧ x.attr.length ≤ 1048576 ∧ x.text.length ≤ 1048576 ∧ x.args.length ≤ 1048576 ∧ x.path.length ≤ 1048576 ∧
      RowP (XAt f) 7 w a x.args ∧ RowP (StepAt (XAt f)) 4 w p x.path
def SsAt (f : Nat) (w : World) (a : Option Addr) (l : List PS) : Prop := RowP (StepAt (XAt f)) 4 w a l
def XsAt (f : Nat) (w : World) (a : Option Addr) (l : List PX) : Prop := RowP (XAt f) 7 w a l

theorem RowP.turn {α : Type} {P Q : World → α → List Value → Prop} {k : Nat} {w w' : World} {a : Option Addr} {l : List α} (h : RowP P k w a l) (hb : Below w.heap.size w w')
    (hPQ : ∀ x ∈ l, ∀ cs, P w x cs → Q w' x cs) : RowP Q k w' a l := fun i hi => by
  obtain ⟨b, o, cs, h1, h2, h3, h4, h5⟩ := h i hi
  exact ⟨b, o, cs, h1, Nat.lt_of_lt_of_le h2 hb.size, h3, fun j hj => (hb.cell (p := ⟨b, o + i * k + j, none⟩) h2).trans (h4 j hj), hPQ _ (List.getElem_mem hi) cs h5⟩
theorem StepAt.turn {P Q : World → PX → List Value → Prop} {w w' : World} {s : PS} {cs : List Value} (h : StepAt P w s cs) (hb : Below w.heap.size w w') (hPQ : ∀ x cs, P w x cs → Q w' x cs) : StepAt Q w' s cs := by
  obtain ⟨a, c, h1, h2, h3, h4, h5, h6, h7⟩ := h
  exact ⟨a, c, h1, h2, h3, h4, h5, h6, h7.turn hb fun x _ cs => hPQ x cs⟩
theorem XAt.turn {w w' : World} (hb : Below w.heap.size w w') : ∀ {f g : Nat} {x : PX} {cs : List Value}, f ≤ g → XAt f w x cs → XAt g w' x cs
  | 0, _, _, _, _, h => h.elim
  | _ + 1, 0, _, _, hfg, _ => absurd hfg (Nat.not_succ_le_zero _)
  | _ + 1, _ + 1, _, _, hfg, ⟨a, c, p, d, h1, h2, h3, h4, h5, h6, h7, h8, h9, h10, h11, h12⟩ =>
    ⟨a, c, p, d, h1, h2, h3, h4, h5, h6, h7, h8, h9, h10, h11.turn hb fun _ _ _ => XAt.turn hb (Nat.le_of_succ_le_succ hfg), h12.turn hb fun _ _ _ h => h.turn hb fun _ _ => XAt.turn hb (Nat.le_of_succ_le_succ hfg)⟩
theorem XsAt.turn {f g : Nat} {w w' : World} {a : Option Addr} {l : List PX} (h : XsAt f w a l) (hb : Below w.heap.size w w') (hfg : f ≤ g) : XsAt g w' a l := RowP.turn h hb fun _ _ _ => XAt.turn hb hfg
theorem SsAt.turn {f g : Nat} {w w' : World} {a : Option Addr} {l : List PS} (h : SsAt f w a l) (hb : Below w.heap.size w w') (hfg : f ≤ g) : SsAt g w' a l := RowP.turn h hb fun _ _ _ h => h.turn hb fun _ _ => XAt.turn hb hfg
theorem XsAt.below {f : Nat} {w w' : World} {a : Option Addr} {l : List PX} (h : XsAt f w a l) (hb : Below w.heap.size w w') : XsAt f w' a l := h.turn hb (Nat.le_refl _)
theorem SsAt.below {f : Nat} {w w' : World} {a : Option Addr} {l : List PS} (h : SsAt f w a l) (hb : Below w.heap.size w w') : SsAt f w' a l := h.turn hb (Nat.le_refl _)
theorem RowP.nil {α : Type} (P : World → α → List Value → Prop) (k : Nat) (w : World) (a : Option Addr) : RowP P k w a [] := fun _ h => absurd h (Nat.not_lt_zero _)
theorem SsAt.get {f : Nat} {w : World} {a : Option Addr} {l : List PS} (h : SsAt f w a l) (i : Nat) (hi : i < l.length) :
    ∃ b o wa wc, a = some ⟨b, o, none⟩ ∧ b < w.heap.size ∧ XsAt f w wa l[i].wher ∧ l[i].wher.length ≤ wc ∧ W64 l[i].axis ∧ W64 l[i].test ∧ l[i].name.length ≤ 1048576 ∧ l[i].wher.length ≤ 1048576 ∧
      ∀ W, Below w.heap.size w W → W.cell? ⟨b, o + i * 4, none⟩ = some (.int .i64 l[i].axis) ∧ W.cell? ⟨b, o + i * 4 + 1, none⟩ = some (.int .i64 l[i].test) ∧ W.cell? ⟨b, o + i * 4 + 2, none⟩ = some (.string (strL l[i].name)) ∧
        W.cell? ⟨b, o + i * 4 + 3, none⟩ = some (.slice wa l[i].wher.length wc) := by
  obtain ⟨b, o, cs, h1, h2, h3, h4, wa, wc, h5, h6, h7, h8, h9, h10, h11⟩ := h i hi
  refine ⟨b, o, wa, wc, h1, h2, h11, h6, h7, h8, h9, h10, fun W hW => ?_⟩
  have k := fun j (hj : j < 4) => (hW.cell (p := ⟨b, o + i * 4 + j, none⟩) h2).trans (h4 j hj)
  rw [h5] at k
  exact ⟨k 0 (by decide), k 1 (by decide), k 2 (by decide), k 3 (by decide)⟩
theorem XsAt.get {f : Nat} {w : World} {a : Option Addr} {l : List PX} (h : XsAt (f + 1) w a l) (i : Nat) (hi : i < l.length) :
    ∃ b o aa ac pa pc, a = some ⟨b, o, none⟩ ∧ b < w.heap.size ∧ XsAt f w aa l[i].args ∧ SsAt f w pa l[i].path ∧ l[i].args.length ≤ ac ∧ l[i].path.length ≤ pc ∧ W64 l[i].op ∧ W64 l[i].cmp ∧ W64 l[i].num ∧
      l[i].attr.length ≤ 1048576 ∧ l[i].text.length ≤ 1048576 ∧ l[i].args.length ≤ 1048576 ∧ l[i].path.length ≤ 1048576 ∧
      ∀ W, Below w.heap.size w W → W.cell? ⟨b, o + i * 7, none⟩ = some (.int .i64 l[i].op) ∧ W.cell? ⟨b, o + i * 7 + 1, none⟩ = some (.slice aa l[i].args.length ac) ∧ W.cell? ⟨b, o + i * 7 + 2, none⟩ = some (.slice pa l[i].path.length pc) ∧
        W.cell? ⟨b, o + i * 7 + 3, none⟩ = some (.string (strL l[i].attr)) ∧ W.cell? ⟨b, o + i * 7 + 4, none⟩ = some (.int .i64 l[i].cmp) ∧ W.cell? ⟨b, o + i * 7 + 5, none⟩ = some (.string (strL l[i].text)) ∧
        W.cell? ⟨b, o + i * 7 + 6, none⟩ = some (.int .i64 l[i].num) := by
  obtain ⟨b, o, cs, h1, h2, h3, h4, aa, ac, pa, pc, h5, h6, h7, h8, h9, h10, h11, h12, h13, h14, h15, h16⟩ := h i hi
  refine ⟨b, o, aa, ac, pa, pc, h1, h2, h15, h16, h6, h7, h8, h9, h10, h11, h12, h13, h14, fun W hW => ?_⟩
  have k := fun j (hj : j < 7) => (hW.cell (p := ⟨b, o + i * 7 + j, none⟩) h2).trans (h4 j hj)
  rw [h5] at k
  exact ⟨k 0 (by decide), k 1 (by decide), k 2 (by decide), k 3 (by decide), k 4 (by decide), k 5 (by decide), k 6 (by decide)⟩
def stepC (s : PS) (wa : Option Addr) (wc : Nat) : List Value := [.int .i64 s.axis, .int .i64 s.test, .string (strL s.name), .slice wa s.wher.length wc]
def exprC (x : PX) (aa : Option Addr) (ac : Nat) (pa : Option Addr) (pc : Nat) : List Value :=
  [.int .i64 x.op, .slice aa x.args.length ac, .slice pa x.path.length pc, .string (strL x.attr), .int .i64 x.cmp, .string (strL x.text), .int .i64 x.num]
theorem SsAt.get' {f : Nat} {w : World} {a : Option Addr} {l : List PS} (h : SsAt f w a l) (i : Nat) (hi : i < l.length) :
    ∃ b o wa wc, a = some ⟨b, o, none⟩ ∧ b < w.heap.size ∧ StepAt (XAt f) w l[i] (stepC l[i] wa wc) ∧
      ∀ W, Below w.heap.size w W → W.cell? ⟨b, o + i * 4, none⟩ = some (.int .i64 l[i].axis) ∧ W.cell? ⟨b, o + i * 4 + 1, none⟩ = some (.int .i64 l[i].test) ∧ W.cell? ⟨b, o + i * 4 + 2, none⟩ = some (.string (strL l[i].name)) ∧
        W.cell? ⟨b, o + i * 4 + 3, none⟩ = some (.slice wa l[i].wher.length wc) := by
  obtain ⟨b, o, cs, h1, h2, h3, h4, wa, wc, h5, h6, h7, h8, h9, h10, h11⟩ := h i hi
  refine ⟨b, o, wa, wc, h1, h2, ⟨wa, wc, rfl, h6, h7, h8, h9, h10, h11⟩, fun W hW => ?_⟩
  have k := fun j (hj : j < 4) => (hW.cell (p := ⟨b, o + i * 4 + j, none⟩) h2).trans (h4 j hj)
  rw [h5] at k
  exact ⟨k 0 (by decide), k 1 (by decide), k 2 (by decide), k 3 (by decide)⟩
theorem XsAt.get' {f : Nat} {w : World} {a : Option Addr} {l : List PX} (h : XsAt f w a l) (i : Nat) (hi : i < l.length) :
    ∃ b o aa ac pa pc, a = some ⟨b, o, none⟩ ∧ b < w.heap.size ∧ XAt f w l[i] (exprC l[i] aa ac pa pc) ∧
      ∀ W, Below w.heap.size w W → W.cell? ⟨b, o + i * 7, none⟩ = some (.int .i64 l[i].op) ∧ W.cell? ⟨b, o + i * 7 + 1, none⟩ = some (.slice aa l[i].args.length ac) ∧ W.cell? ⟨b, o + i * 7 + 2, none⟩ = some (.slice pa l[i].path.length pc) ∧
        W.cell? ⟨b, o + i * 7 + 3, none⟩ = some (.string (strL l[i].attr)) ∧ W.cell? ⟨b, o + i * 7 + 4, none⟩ = some (.int .i64 l[i].cmp) ∧ W.cell? ⟨b, o + i * 7 + 5, none⟩ = some (.string (strL l[i].text)) ∧
        W.cell? ⟨b, o + i * 7 + 6, none⟩ = some (.int .i64 l[i].num) := by
  cases f with
  | zero => obtain ⟨_, _, _, _, _, _, _, h⟩ := h i hi; exact h.elim
  | succ f =>
    obtain ⟨b, o, cs, h1, h2, h3, h4, aa, ac, pa, pc, h5, hr⟩ := h i hi
    refine ⟨b, o, aa, ac, pa, pc, h1, h2, ⟨aa, ac, pa, pc, rfl, hr⟩, fun W hW => ?_⟩
    have k := fun j (hj : j < 7) => (hW.cell (p := ⟨b, o + i * 7 + j, none⟩) h2).trans (h4 j hj)
    rw [h5] at k
    exact ⟨k 0 (by decide), k 1 (by decide), k 2 (by decide), k 3 (by decide), k 4 (by decide), k 5 (by decide), k 6 (by decide)⟩
theorem XsAt.zero {w : World} {a : Option Addr} {l : List PX} (h : XsAt 0 w a l) : l = [] := by
  cases l with
  | nil => rfl
  | cons x l => obtain ⟨_, _, _, _, _, _, _, h⟩ := h 0 (by simp); exact h.elim
end Go.Proofs.YtekoflcioooncaaDoor

namespace Go.Proofs.YtekoflcioooncaaDoor

def goodTB (l : List UInt8) : Bool := Lib.validD l && !(decide (0 ≤ Lib.indexByte l 39) && decide (0 ≤ Lib.indexByte l 34))
def goodCB (c : Int) (t : List UInt8) (n : Int) : Bool :=
  if c = 0 then t.isEmpty && n == 0
  else if 1 ≤ c ∧ c ≤ 5 then goodTB t && n == 0
  else if 6 ≤ c ∧ c ≤ 8 then t.isEmpty && decide (0 ≤ n) && decide (n ≤ 1000000)
  else false
def goodSB (g : PX → Bool) (s : PS) : Bool :=
  (decide (0 ≤ s.axis) && decide (s.axis ≤ 3) && decide (0 ≤ s.test) && decide (s.test ≤ 3)) && (if s.test = 0 then nameB s.name else s.name.isEmpty) && s.wher.all g
def goodPB (g : PX → Bool) (ss : List PS) : Bool := !ss.isEmpty && ss.all (goodSB g)
def bareB (x : PX) : Bool := x.path.isEmpty && x.attr.isEmpty && x.cmp == 0 && x.text.isEmpty && x.num == 0
def goodXB : Nat → PX → Bool
  | 0, _ => false
  | f + 1, x =>
    if x.op = 3 then x.args.isEmpty && goodPB (goodXB f) x.path && (x.attr.isEmpty || nameB x.attr) && goodCB x.cmp x.text x.num
    else bareB x && (if x.op = 0 ∨ x.op = 1 then decide (2 ≤ x.args.length) else if x.op = 2 then decide (x.args.length = 1) else false) && x.args.all (goodXB f)
def brackB (whole part : Int) : Bool := (part == 1 && whole != 2) || (whole == 0 && part == 0)
def maxN (l : List Nat) : Nat := l.foldl max 0
theorem maxN_snoc (l : List Nat) (x : Nat) : maxN (l ++ [x]) = max (maxN l) x := by unfold maxN; rw [List.foldl_append]; rfl
theorem maxN_le {l : List Nat} {B : Nat} (h : ∀ x ∈ l, x ≤ B) : maxN l ≤ B := by
  unfold maxN
  have : ∀ (l : List Nat) (a : Nat), a ≤ B → (∀ x ∈ l, x ≤ B) → l.foldl max a ≤ B := by
    intro l
    induction l with
    | nil => intro a ha _; exact ha
    | cons x l ih => intro a ha hl; exact ih _ (Nat.max_le.2 ⟨ha, hl x List.mem_cons_self⟩) fun y hy => hl y (List.mem_cons_of_mem _ hy)
  exact this l 0 (Nat.zero_le _) h
def deepPN (d : PX → Nat) (ss : List PS) : Nat := maxN (ss.map fun s => maxN (s.wher.map fun x => d x + 1))
def deepXN : Nat → PX → Nat
  | 0, _ => 0
  | f + 1, x =>
    if x.op = 3 then deepPN (deepXN f) x.path + (if 3 ≤ x.cmp then 1 else 0)
    else if x.op = 2 then (match x.args with | [] => 0 | y :: _ => deepXN f y + 1)
    else maxN (x.args.map fun y => deepXN f y + (if brackB x.op y.op then 1 else 0))
theorem deepXN_le : ∀ (f : Nat) (x : PX), deepXN f x ≤ 2 * f
  | 0, _ => Nat.zero_le _
  | f + 1, x => by
    unfold deepXN
    split
    · have : deepPN (deepXN f) x.path ≤ 2 * f + 1 := by
        refine maxN_le fun n hn => ?_
        obtain ⟨s, _, rfl⟩ := List.mem_map.1 hn
        refine maxN_le fun m hm => ?_
        obtain ⟨y, _, rfl⟩ := List.mem_map.1 hm
        have := deepXN_le f y; omega
      split <;> omega
    · split
      · split
        · omega
        · rename_i y _ _; have := deepXN_le f y; omega
      · refine Nat.le_trans (maxN_le (B := 2 * f + 1) fun n hn => ?_) (by omega)
        obtain ⟨y, _, rfl⟩ := List.mem_map.1 hn
        have := deepXN_le f y
        split <;> omega
def checkB (f : Nat) (ss : List PS) : Bool := goodPB (goodXB f) ss && decide (deepPN (deepXN f) ss ≤ 200)
def checkN (f : Nat) (ss : List PS) : Int := if checkB f ss then 0 else 6
end Go.Proofs.YtekoflcioooncaaDoor

namespace Go.Proofs.YtekoflcioooncaaDoor
open Go.RowKit

structure EnvT (w : World) : Prop where
  rng : RangesAt w 2
  tab : Lib.Utf8Tabs 0 1 w
theorem EnvT.below {w w' : World} (h : EnvT w) (hb : Below w.heap.size w w') : EnvT w' := ⟨h.rng.below hb, Utf8Tabs_below h.tab hb⟩
theorem nameL_any (l : List UInt8) (w : World) (hl : l.length ≤ 1048576) (hE : EnvT w) :
    Calls Tryd.prog 75 #[.string (strL l)] w fun e w' => e = .returned (.bool (nameB l)) ∧ Below w.heap.size w w' := Name_any l w (by omega) hE.rng hE.tab
theorem strL_isE2 (l : List UInt8) : (strL l).toList.isEmpty = l.isEmpty := strU_empty l

set_option maxRecDepth 100000 in
set_option maxHeartbeats 1000000 in
theorem goodText_any (l : List UInt8) (w : World) (hl : l.length ≤ 1048576) (hE : EnvT w) :
    Calls Tryd.prog 92 #[.string (strL l)] w fun e w' => e = .returned (.bool (goodTB l)) ∧ Below w.heap.size w w' := by
  have HV : Hid (∀ W, Below w.heap.size w W → Calls Tryd.prog 77 #[.string (strL l)] W fun e w' => e = .returned (.bool (Lib.validD l)) ∧ Below W.heap.size W w') := Lib.hid fun W hW => by
    have := Valid_any (strL l) W (by rw [strL_size]; omega) (Utf8Tabs_below hE.tab hW)
    rw [strL_data] at this
    exact this
  have HC : Hid (∀ (c : UInt8) W, Calls Tryd.prog 96 #[.string (strL l), .string ⟨#[c]⟩] W fun e w' => e = .returned (.bool (decide (0 ≤ Lib.indexByte l c))) ∧ w' = W) := Lib.hid fun c W => by
    have := Tryd.strings_Contains_one (strL l) c W
    rw [strL_data] at this
    exact this
  unfold goodTB
  generalize Lib.validD l = V at *
  have HC1 : Hid (∀ W, Calls Tryd.prog 96 #[.string (strL l), .string ⟨#[39]⟩] W fun e w' => e = .returned (.bool (decide (0 ≤ Lib.indexByte l 39))) ∧ w' = W) := Lib.hid (HC.out 39)
  have HC2 : Hid (∀ W, Calls Tryd.prog 96 #[.string (strL l), .string ⟨#[34]⟩] W fun e w' => e = .returned (.bool (decide (0 ≤ Lib.indexByte l 34))) ∧ w' = W) := Lib.hid (HC.out 34)
  clear HC
  generalize decide (0 ≤ Lib.indexByte l 39) = P at *
  generalize decide (0 ≤ Lib.indexByte l 34) = Q at *
  go_enter Tryd.func92, Tryd.ntmps92
  go_wp2_with fail
  (with_reducible refine (HV.out _ (Below.refl _ _)).mono ?_)
  rintro e w1 ⟨rfl, hb⟩
  have HB := Lib.hid hb
  clear hb
  cases V with
  | false =>
    go_wp2_with fail
    go_ret
    exact ⟨rfl, HB.out⟩
  | true =>
    go_wp2_with fail
    (with_reducible refine (HC1.out _).mono ?_)
    rintro e w2 ⟨rfl, rfl⟩
    cases P with
    | false =>
      go_wp2_with fail
      go_ret
      exact ⟨rfl, HB.out⟩
    | true =>
      go_wp2_with fail
      (with_reducible refine (HC2.out _).mono ?_)
      rintro e w3 ⟨rfl, rfl⟩
      go_wp2_with fail
      go_ret
      exact ⟨by cases Q <;> rfl, HB.out⟩
end Go.Proofs.YtekoflcioooncaaDoor
