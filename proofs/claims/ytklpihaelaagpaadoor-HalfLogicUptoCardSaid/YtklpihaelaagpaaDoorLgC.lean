/-
  The plain law of borders and of Find: what the search with borders finds is where the text stands first.
-/
import Derived.Test.YtklpihaelaagpaaDoorLgA
import Derived.Test.YtklpihaelaagpaaDoorLgB
import Derived.Lib.DecodeN
namespace Go.Proofs.YtklpihaelaagpaaDoor

def KEnd (g f : Nat → Int) (n k : Nat) : Prop := k ≤ n ∧ ∀ i, i < k → g (n - k + i) = f i
def KLong (g f : Nat → Int) (L n k : Nat) : Prop := KEnd g f n k ∧ ∀ j, j ≤ L → KEnd g f n j → j ≤ k
def KBord (f : Nat → Int) (m b : Nat) : Prop := KLong (fun i => f (i + 1)) f m m b
def KTry (g f : Nat → Int) (L n k : Nat) (c : Int) : Prop := KEnd g f n k ∧ ∀ j, j < L → KEnd g f n j → f j = c → j ≤ k

theorem KEnd.zero (g f : Nat → Int) (n : Nat) : KEnd g f n 0 := ⟨Nat.zero_le _, fun _ h => absurd h (Nat.not_lt_zero _)⟩
theorem KLong.zero (g f : Nat → Int) (L : Nat) : KLong g f L 0 0 := ⟨KEnd.zero .., fun _ _ h => h.1⟩
theorem KLong.try' {g f : Nat → Int} {L n k : Nat} (c : Int) (h : KLong g f L n k) : KTry g f L n k c :=
  ⟨h.1, fun j hj hm _ => h.2 j (Nat.le_of_lt hj) hm⟩

theorem KEnd.border {g f : Nat → Int} {n k b : Nat} (hk : KEnd g f n (k + 1)) (hb : KEnd (fun i => f (i + 1)) f k b) : KEnd g f n b := by
  refine ⟨Nat.le_trans hb.1 (by have := hk.1; omega), fun i hi => ?_⟩
  have h1 := hb.2 i hi
  have h2 := hk.2 (k - b + i + 1) (by have := hb.1; omega)
  have e : n - (k + 1) + (k - b + i + 1) = n - b + i := by have := hk.1; have := hb.1; omega
  rw [e] at h2; exact h2.trans h1
theorem KEnd.inner {g f : Nat → Int} {n k j : Nat} (hk : KEnd g f n (k + 1)) (hj : KEnd g f n j) (hjk : j ≤ k) : KEnd (fun i => f (i + 1)) f k j := by
  refine ⟨hjk, fun i hi => ?_⟩
  have h1 := hj.2 i hi
  have h2 := hk.2 (k - j + i + 1) (by omega)
  have e : n - (k + 1) + (k - j + i + 1) = n - j + i := by have := hk.1; omega
  rw [e] at h2; exact h2.symm.trans h1

theorem KTry.back {g f : Nat → Int} {L n k b : Nat} {c : Int} (h : KTry g f L n (k + 1) c) (hne : f (k + 1) ≠ c) (hb : KBord f k b) : KTry g f L n b c := by
  refine ⟨h.1.border hb.1, fun j hj hm hc => ?_⟩
  have h1 := h.2 j hj hm hc
  have h2 : j ≠ k + 1 := fun e => hne (e ▸ hc)
  have h3 : j ≤ k := by omega
  exact hb.2 j h3 (h.1.inner hm h3)
theorem KBord.lt {f : Nat → Int} {k b : Nat} (h : KBord f k b) : b < k + 1 := Nat.lt_succ_of_le h.1.1

theorem KEnd.pred {g f : Nat → Int} {n j : Nat} (h : KEnd g f (n + 1) (j + 1)) : KEnd g f n j ∧ f j = g n := by
  have h0 := h.1
  refine ⟨⟨by omega, fun i hi => ?_⟩, ?_⟩
  · have := h.2 i (by omega)
    have e : n + 1 - (j + 1) + i = n - j + i := by omega
    rwa [e] at this
  · have := h.2 j (by omega)
    have e : n + 1 - (j + 1) + j = n := by omega
    rw [e] at this; exact this.symm
theorem KEnd.succ {g f : Nat → Int} {n k : Nat} (h : KEnd g f n k) (hc : f k = g n) : KEnd g f (n + 1) (k + 1) := by
  have h0 := h.1
  refine ⟨by omega, fun i hi => ?_⟩
  have e : n + 1 - (k + 1) + i = n - k + i := by omega
  rw [e]
  rcases Nat.lt_or_ge i k with hi' | hi'
  · exact h.2 i hi'
  · have : i = k := by omega
    subst this
    have e2 : n - i + i = n := by omega
    rw [e2]; exact hc.symm

theorem KTry.goes {g f : Nat → Int} {L n k : Nat} (h : KTry g f L n k (g n)) (hc : f k = g n) : KLong g f L (n + 1) (k + 1) := by
  refine ⟨h.1.succ hc, fun j hj hm => ?_⟩
  cases j with
  | zero => omega
  | succ j => have := hm.pred; have := h.2 j (by omega) this.1 this.2; omega
theorem KTry.none' {g f : Nat → Int} {L n : Nat} (h : KTry g f L n 0 (g n)) (hc : f 0 ≠ g n) : KLong g f L (n + 1) 0 := by
  refine ⟨KEnd.zero .., fun j hj hm => ?_⟩
  cases j with
  | zero => omega
  | succ j =>
    have hp := hm.pred
    have := h.2 j (by omega) hp.1 hp.2
    have : j = 0 := by omega
    subst this; exact absurd hp.2 hc

theorem KBord.one (f : Nat → Int) : KBord f 0 0 := KLong.zero ..
theorem KBord.try' {f : Nat → Int} {m b : Nat} (c : Int) (h : KBord f m b) : KTry (fun i => f (i + 1)) f (m + 1) m b c :=
  ⟨h.1, fun j hj hm _ => h.2 j (by omega) hm⟩
theorem KBord.goes {f : Nat → Int} {m k : Nat} (h : KTry (fun i => f (i + 1)) f (m + 1) m k (f (m + 1))) (hc : f k = f (m + 1)) : KBord f (m + 1) (k + 1) :=
  KTry.goes h hc
theorem KBord.none' {f : Nat → Int} {m : Nat} (h : KTry (fun i => f (i + 1)) f (m + 1) m 0 (f (m + 1))) (hc : f 0 ≠ f (m + 1)) : KBord f (m + 1) 0 :=
  KTry.none' h hc

def KStands (g f : Nat → Int) (L n p : Nat) : Prop := p + L ≤ n ∧ ∀ i, i < L → g (p + i) = f i
theorem KStands.ends {g f : Nat → Int} {L n p : Nat} (h : KStands g f L n p) : KEnd g f (p + L) L :=
  ⟨by omega, fun i hi => by
    have e : p + L - L + i = p + i := by omega
    rw [e]; exact h.2 i hi⟩
theorem kstands_next {g f : Nat → Int} {L n k : Nat} (h : KLong g f L (n + 1) k) (hk : k < L) (hno : ∀ p, ¬ KStands g f L n p) : ∀ p, ¬ KStands g f L (n + 1) p := fun p hp => by
  rcases Nat.lt_or_ge (p + L) (n + 1) with hl | hl
  · exact hno p ⟨by omega, hp.2⟩
  · have e : p + L = n + 1 := by have := hp.1; omega
    have := h.2 L (Nat.le_refl _) (e ▸ hp.ends); omega
theorem kstands_found {g f : Nat → Int} {L n N : Nat} (h : KLong g f L (n + 1) L) (hN : n + 1 ≤ N) (hno : ∀ p, ¬ KStands g f L n p) : KStands g f L N (n + 1 - L) ∧ ∀ p, p < n + 1 - L → ¬ KStands g f L N p := by
  have h0 := h.1.1
  refine ⟨⟨by omega, h.1.2⟩, fun p hp hs => hno p ⟨by omega, hs.2⟩⟩
theorem kstands_start {g f : Nat → Int} {L : Nat} (hL : 0 < L) : ∀ p, ¬ KStands g f L 0 p := fun p hp => by have := hp.1; omega

def kfind (stands : Nat → Bool) (p : Nat) : Nat → Int
  | 0 => if stands p then (p : Int) else -1
  | n + 1 => if stands p then (p : Int) else kfind stands (p + 1) n
theorem kfind_found {stands : Nat → Bool} {a : Nat} (ha : stands a = true) : ∀ (n p : Nat), p ≤ a → a ≤ p + n → (∀ q, p ≤ q → q < a → stands q = false) → kfind stands p n = (a : Int) := by
  intro n
  induction n with
  | zero => intro p h1 h2 _; have : p = a := by omega
            subst this; simp [kfind, ha]
  | succ n ih =>
    intro p h1 h2 h3
    rcases Nat.lt_or_ge p a with hl | hl
    · simp only [kfind, h3 p (Nat.le_refl _) hl, Bool.false_eq_true, if_false]
      exact ih (p + 1) hl (by omega) (fun q hq => h3 q (by omega))
    · have : p = a := by omega
      subst this; simp [kfind, ha]
theorem kfind_none {stands : Nat → Bool} : ∀ (n p : Nat), (∀ q, p ≤ q → q ≤ p + n → stands q = false) → kfind stands p n = -1 := by
  intro n
  induction n with
  | zero => intro p h; simp [kfind, h p (Nat.le_refl _) (Nat.le_refl _)]
  | succ n ih => intro p h; simp only [kfind, h p (Nat.le_refl _) (by omega), Bool.false_eq_true, if_false]; exact ih (p + 1) (fun q h1 h2 => h q (by omega) (by omega))

end Go.Proofs.YtklpihaelaagpaaDoor

namespace Go.Proofs.YtklpihaelaagpaaDoor

def standsL (xs ys : List Int) (p : Nat) : Bool := decide (p + ys.length ≤ xs.length ∧ ∀ i, i < ys.length → xs[p + i]? = ys[i]?)
def findL (xs ys : List Int) : Int := kfind (standsL xs ys) 0 xs.length
theorem standsL_short (xs ys : List Int) (p : Nat) (h : xs.length < p + ys.length) : standsL xs ys p = false := by
  simp only [standsL, decide_eq_false_iff_not]; intro h2; omega
theorem standsL_true (xs ys : List Int) (p : Nat) (h : p + ys.length ≤ xs.length) (h2 : ∀ i, i < ys.length → xs[p + i]? = ys[i]?) : standsL xs ys p = true := by
  simp only [standsL, decide_eq_true_eq]; exact ⟨h, h2⟩
theorem standsL_false (xs ys : List Int) (p i : Nat) (hi : i < ys.length) (h2 : xs[p + i]? ≠ ys[i]?) : standsL xs ys p = false := by
  simp only [standsL, decide_eq_false_iff_not]; intro h3; exact h2 (h3.2 i hi)
theorem standsL_seg (xs ys : List Int) (p : Nat) (h : p + ys.length ≤ xs.length) : standsL xs ys p = decide ((xs.drop p).take ys.length = ys) := by
  by_cases e : (xs.drop p).take ys.length = ys
  · rw [decide_eq_true e]
    refine standsL_true xs ys p h fun i hi => ?_
    have := congrArg (fun l => l[i]?) e
    simp only [List.getElem?_take, List.getElem?_drop, if_pos hi] at this
    exact this
  · rw [decide_eq_false e]
    cases hs : standsL xs ys p with
    | false => rfl
    | true =>
      simp only [standsL, decide_eq_true_eq] at hs
      refine absurd ?_ e
      refine List.ext_getElem? fun i => ?_
      rw [List.getElem?_take, List.getElem?_drop]
      by_cases hi : i < ys.length
      · rw [if_pos hi]; exact hs.2 i hi
      · rw [if_neg hi, List.getElem?_eq_none (by omega)]
def chF (xs : List Int) (i : Nat) : Int := xs[i]?.getD 0
theorem chF_at {xs : List Int} {i : Nat} (h : i < xs.length) : xs[i]? = some (chF xs i) := by
  unfold chF; rw [List.getElem?_eq_getElem h]; rfl
theorem stands_iff (xs ys : List Int) (p : Nat) : standsL xs ys p = true ↔ KStands (chF xs) (chF ys) ys.length xs.length p := by
  simp only [standsL, decide_eq_true_eq, KStands]
  refine ⟨fun h => ⟨h.1, fun i hi => ?_⟩, fun h => ⟨h.1, fun i hi => ?_⟩⟩
  · have := h.2 i hi
    rw [chF_at (show p + i < xs.length by omega), chF_at hi] at this
    exact Option.some.inj this
  · rw [chF_at (show p + i < xs.length by omega), chF_at hi, h.2 i hi]
theorem findL_found {xs ys : List Int} {a : Nat} (h : KStands (chF xs) (chF ys) ys.length xs.length a) (hn : ∀ p, p < a → ¬ KStands (chF xs) (chF ys) ys.length xs.length p) : findL xs ys = (a : Int) := by
  refine kfind_found ((stands_iff ..).2 h) _ _ (Nat.zero_le _) (by have := h.1; omega) fun q _ hq => ?_
  cases hs : standsL xs ys q with
  | false => rfl
  | true => exact absurd ((stands_iff ..).1 hs) (hn q hq)
theorem findL_none {xs ys : List Int} (hn : ∀ p, ¬ KStands (chF xs) (chF ys) ys.length xs.length p) : findL xs ys = -1 := by
  refine kfind_none _ _ fun q _ _ => ?_
  cases hs : standsL xs ys q with
  | false => rfl
  | true => exact absurd ((stands_iff ..).1 hs) (hn q)
theorem findL_nil (xs : List Int) : findL xs [] = 0 := by
  have := findL_found (xs := xs) (ys := []) (a := 0) ⟨by simp, fun i hi => by simp at hi⟩ (fun p hp => by omega)
  simpa using this
end Go.Proofs.YtklpihaelaagpaaDoor

namespace Go.Proofs.YtklpihaelaagpaaDoor
open Go.RowKit

mutual
inductive PX where
  | mk (op : Int) (args : List PX) (path : List PS) (attr : List UInt8) (cmp : Int) (text : List UInt8) (num : Int) : PX
inductive PS where
  | mk (axis test : Int) (name : List UInt8) (wher : List PX) : PS
end
def PX.op : PX → Int | .mk o _ _ _ _ _ _ => o
def PX.args : PX → List PX | .mk _ a _ _ _ _ _ => a
def PX.path : PX → List PS | .mk _ _ p _ _ _ _ => p
def PX.attr : PX → List UInt8 | .mk _ _ _ a _ _ _ => a
def PX.cmp : PX → Int | .mk _ _ _ _ c _ _ => c
def PX.text : PX → List UInt8 | .mk _ _ _ _ _ t _ => t
def PX.num : PX → Int | .mk _ _ _ _ _ _ n => n
def PS.axis : PS → Int | .mk a _ _ _ => a
def PS.test : PS → Int | .mk _ t _ _ => t
def PS.name : PS → List UInt8 | .mk _ _ n _ => n
def PS.wher : PS → List PX | .mk _ _ _ w => w

def W64 (x : Int) : Prop := -9223372036854775808 ≤ x ∧ x ≤ 9223372036854775807
def RowP {α : Type} (P : World → α → List Value → Prop) (k : Nat) (w : World) (a : Option Addr) (l : List α) : Prop :=
  ∀ i, (h : i < l.length) → ∃ b o cs, a = some ⟨b, o, none⟩ ∧ b < w.heap.size ∧ cs.length = k ∧ (∀ j, j < k → w.cell? ⟨b, o + i * k + j, none⟩ = cs[j]?) ∧ P w l[i] cs
def StepAt (P : World → PX → List Value → Prop) (w : World) (s : PS) (cs : List Value) : Prop :=
  ∃ a c, cs = [.int .i64 s.axis, .int .i64 s.test, .string (strL s.name), .slice a s.wher.length c] ∧ s.wher.length ≤ c ∧ W64 s.axis ∧ W64 s.test ∧ s.name.length ≤ 1048576 ∧ s.wher.length ≤ 1048576 ∧ RowP P 7 w a s.wher
def XAt : Nat → World → PX → List Value → Prop
  | 0, _, _, _ => False
  | f + 1, w, x, cs => ∃ a c p d, cs = [.int .i64 x.op, .slice a x.args.length c, .slice p x.path.length d, .string (strL x.attr), .int .i64 x.cmp, .string (strL x.text), .int .i64 x.num] ∧
      x.args.length ≤ c ∧ x.path.length ≤ d ∧ W64 x.op ∧ W64 x.cmp ∧ W64 x.num ∧ x.attr.length ≤ 1048576 ∧ x.text.length ≤ 1048576 ∧ x.args.length ≤ 1048576 ∧ x.path.length ≤ 1048576 ∧
      RowP (XAt f) 7 w a x.args ∧ RowP (StepAt (XAt f)) 4 w p x.path
def SsAt (f : Nat) (w : World) (a : Option Addr) (l : List PS) : Prop := RowP (StepAt (XAt f)) 4 w a l
def XsAt (f : Nat) (w : World) (a : Option Addr) (l : List PX) : Prop := RowP (XAt f) 7 w a l

theorem RowP.turn {α : Type} {P Q : World → α → List Value → Prop} {k : Nat} {w w' : World} {a : Option Addr} {l : List α} (h : RowP P k w a l) (hb : Below w.heap.size w w')
    (hPQ : ∀ x ∈ l, ∀ cs, P w x cs → Q w' x cs) : RowP Q k w' a l := fun i hi => by
  obtain ⟨b, o, cs, h1, h2, h3, h4, h5⟩ := h i hi
  exact ⟨b, o, cs, h1, Nat.lt_of_lt_of_le h2 hb.size, h3, fun j hj => (hb.cell (p := ⟨b, o + i * k + j, none⟩) h2).trans (h4 j hj), hPQ _ (List.getElem_mem hi) cs h5⟩
theorem StepAt.turn {P Q : World → PX → List Value → Prop} {w w' : World} {s : PS} {cs : List Value} (h : StepAt P w s cs) (hb : Below w.heap.size w w') (hPQ : ∀ x cs, P w x cs → Q w' x cs) : StepAt Q w' s cs := by
  obtain ⟨a, c, h1, h2, h3, h4, h5, h6, h7⟩ := h
  exact ⟨a, c, h1, h2, h3, h4, h5, h6, h7.turn hb fun x _ cs => hPQ x cs⟩
theorem XAt.turn {w w' : World} (hb : Below w.heap.size w w') : ∀ {f g : Nat} {x : PX} {cs : List Value}, f ≤ g → XAt f w x cs → XAt g w' x cs
  | 0, _, _, _, _, h => h.elim
  | _ + 1, 0, _, _, hfg, _ => absurd hfg (Nat.not_succ_le_zero _)
  | _ + 1, _ + 1, _, _, hfg, ⟨a, c, p, d, h1, h2, h3, h4, h5, h6, h7, h8, h9, h10, h11, h12⟩ =>
    ⟨a, c, p, d, h1, h2, h3, h4, h5, h6, h7, h8, h9, h10, h11.turn hb fun _ _ _ => XAt.turn hb (Nat.le_of_succ_le_succ hfg), h12.turn hb fun _ _ _ h => h.turn hb fun _ _ => XAt.turn hb (Nat.le_of_succ_le_succ hfg)⟩
theorem XsAt.turn {f g : Nat} {w w' : World} {a : Option Addr} {l : List PX} (h : XsAt f w a l) (hb : Below w.heap.size w w') (hfg : f ≤ g) : XsAt g w' a l := RowP.turn h hb fun _ _ _ => XAt.turn hb hfg
theorem SsAt.turn {f g : Nat} {w w' : World} {a : Option Addr} {l : List PS} (h : SsAt f w a l) (hb : Below w.heap.size w w') (hfg : f ≤ g) : SsAt g w' a l := RowP.turn h hb fun _ _ _ h => h.turn hb fun _ _ => XAt.turn hb hfg
theorem XsAt.below {f : Nat} {w w' : World} {a : Option Addr} {l : List PX} (h : XsAt f w a l) (hb : Below w.heap.size w w') : XsAt f w' a l := h.turn hb (Nat.le_refl _)
theorem SsAt.below {f : Nat} {w w' : World} {a : Option Addr} {l : List PS} (h : SsAt f w a l) (hb : Below w.heap.size w w') : SsAt f w' a l := h.turn hb (Nat.le_refl _)
theorem RowP.nil {α : Type} (P : World → α → List Value → Prop) (k : Nat) (w : World) (a : Option Addr) : RowP P k w a [] := fun _ h => absurd h (Nat.not_lt_zero _)
theorem SsAt.get {f : Nat} {w : World} {a : Option Addr} {l : List PS} (h : SsAt f w a l) (i : Nat) (hi : i < l.length) :
    ∃ b o wa wc, a = some ⟨b, o, none⟩ ∧ b < w.heap.size ∧ XsAt f w wa l[i].wher ∧ l[i].wher.length ≤ wc ∧ W64 l[i].axis ∧ W64 l[i].test ∧ l[i].name.length ≤ 1048576 ∧ l[i].wher.length ≤ 1048576 ∧
      ∀ W, Below w.heap.size w W → W.cell? ⟨b, o + i * 4, none⟩ = some (.int .i64 l[i].axis) ∧ W.cell? ⟨b, o + i * 4 + 1, none⟩ = some (.int .i64 l[i].test) ∧ W.cell? ⟨b, o + i * 4 + 2, none⟩ = some (.string (strL l[i].name)) ∧
        W.cell? ⟨b, o + i * 4 + 3, none⟩ = some (.slice wa l[i].wher.length wc) := by
  obtain ⟨b, o, cs, h1, h2, h3, h4, wa, wc, h5, h6, h7, h8, h9, h10, h11⟩ := h i hi
  refine ⟨b, o, wa, wc, h1, h2, h11, h6, h7, h8, h9, h10, fun W hW => ?_⟩
  have k := fun j (hj : j < 4) => (hW.cell (p := ⟨b, o + i * 4 + j, none⟩) h2).trans (h4 j hj)
  rw [h5] at k
  exact ⟨k 0 (by decide), k 1 (by decide), k 2 (by decide), k 3 (by decide)⟩
theorem XsAt.get {f : Nat} {w : World} {a : Option Addr} {l : List PX} (h : XsAt (f + 1) w a l) (i : Nat) (hi : i < l.length) :
    ∃ b o aa ac pa pc, a = some ⟨b, o, none⟩ ∧ b < w.heap.size ∧ XsAt f w aa l[i].args ∧ SsAt f w pa l[i].path ∧ l[i].args.length ≤ ac ∧ l[i].path.length ≤ pc ∧ W64 l[i].op ∧ W64 l[i].cmp ∧ W64 l[i].num ∧
      l[i].attr.length ≤ 1048576 ∧ l[i].text.length ≤ 1048576 ∧ l[i].args.length ≤ 1048576 ∧ l[i].path.length ≤ 1048576 ∧
      ∀ W, Below w.heap.size w W → W.cell? ⟨b, o + i * 7, none⟩ = some (.int .i64 l[i].op) ∧ W.cell? ⟨b, o + i * 7 + 1, none⟩ = some (.slice aa l[i].args.length ac) ∧ W.cell? ⟨b, o + i * 7 + 2, none⟩ = some (.slice pa l[i].path.length pc) ∧
        W.cell? ⟨b, o + i * 7 + 3, none⟩ = some (.string (strL l[i].attr)) ∧ W.cell? ⟨b, o + i * 7 + 4, none⟩ = some (.int .i64 l[i].cmp) ∧ W.cell? ⟨b, o + i * 7 + 5, none⟩ = some (.string (strL l[i].text)) ∧
        W.cell? ⟨b, o + i * 7 + 6, none⟩ = some (.int .i64 l[i].num) := by
  obtain ⟨b, o, cs, h1, h2, h3, h4, aa, ac, pa, pc, h5, h6, h7, h8, h9, h10, h11, h12, h13, h14, h15, h16⟩ := h i hi
  refine ⟨b, o, aa, ac, pa, pc, h1, h2, h15, h16, h6, h7, h8, h9, h10, h11, h12, h13, h14, fun W hW => ?_⟩
  have k := fun j (hj : j < 7) => (hW.cell (p := ⟨b, o + i * 7 + j, none⟩) h2).trans (h4 j hj)
  rw [h5] at k
  exact ⟨k 0 (by decide), k 1 (by decide), k 2 (by decide), k 3 (by decide), k 4 (by decide), k 5 (by decide), k 6 (by decide)⟩
def stepC (s : PS) (wa : Option Addr) (wc : Nat) : List Value := [.int .i64 s.axis, .int .i64 s.test, .string (strL s.name), .slice wa s.wher.length wc]
def exprC (x : PX) (aa : Option Addr) (ac : Nat) (pa : Option Addr) (pc : Nat) : List Value :=
  [.int .i64 x.op, .slice aa x.args.length ac, .slice pa x.path.length pc, .string (strL x.attr), .int .i64 x.cmp, .string (strL x.text), .int .i64 x.num]
theorem SsAt.get' {f : Nat} {w : World} {a : Option Addr} {l : List PS} (h : SsAt f w a l) (i : Nat) (hi : i < l.length) :
    ∃ b o wa wc, a = some ⟨b, o, none⟩ ∧ b < w.heap.size ∧ StepAt (XAt f) w l[i] (stepC l[i] wa wc) ∧
      ∀ W, Below w.heap.size w W → W.cell? ⟨b, o + i * 4, none⟩ = some (.int .i64 l[i].axis) ∧ W.cell? ⟨b, o + i * 4 + 1, none⟩ = some (.int .i64 l[i].test) ∧ W.cell? ⟨b, o + i * 4 + 2, none⟩ = some (.string (strL l[i].name)) ∧
        W.cell? ⟨b, o + i * 4 + 3, none⟩ = some (.slice wa l[i].wher.length wc) := by
  obtain ⟨b, o, cs, h1, h2, h3, h4, wa, wc, h5, h6, h7, h8, h9, h10, h11⟩ := h i hi
  refine ⟨b, o, wa, wc, h1, h2, ⟨wa, wc, rfl, h6, h7, h8, h9, h10, h11⟩, fun W hW => ?_⟩
  have k := fun j (hj : j < 4) => (hW.cell (p := ⟨b, o + i * 4 + j, none⟩) h2).trans (h4 j hj)
  rw [h5] at k
  exact ⟨k 0 (by decide), k 1 (by decide), k 2 (by decide), k 3 (by decide)⟩
theorem XsAt.get' {f : Nat} {w : World} {a : Option Addr} {l : List PX} (h : XsAt f w a l) (i : Nat) (hi : i < l.length) :
    ∃ b o aa ac pa pc, a = some ⟨b, o, none⟩ ∧ b < w.heap.size ∧ XAt f w l[i] (exprC l[i] aa ac pa pc) ∧
      ∀ W, Below w.heap.size w W → W.cell? ⟨b, o + i * 7, none⟩ = some (.int .i64 l[i].op) ∧ W.cell? ⟨b, o + i * 7 + 1, none⟩ = some (.slice aa l[i].args.length ac) ∧ W.cell? ⟨b, o + i * 7 + 2, none⟩ = some (.slice pa l[i].path.length pc) ∧
        W.cell? ⟨b, o + i * 7 + 3, none⟩ = some (.string (strL l[i].attr)) ∧ W.cell? ⟨b, o + i * 7 + 4, none⟩ = some (.int .i64 l[i].cmp) ∧ W.cell? ⟨b, o + i * 7 + 5, none⟩ = some (.string (strL l[i].text)) ∧
        W.cell? ⟨b, o + i * 7 + 6, none⟩ = some (.int .i64 l[i].num) := by
  cases f with
  | zero => obtain ⟨_, _, _, _, _, _, _, h⟩ := h i hi; exact h.elim
  | succ f =>
    obtain ⟨b, o, cs, h1, h2, h3, h4, aa, ac, pa, pc, h5, hr⟩ := h i hi
    refine ⟨b, o, aa, ac, pa, pc, h1, h2, ⟨aa, ac, pa, pc, rfl, hr⟩, fun W hW => ?_⟩
    have k := fun j (hj : j < 7) => (hW.cell (p := ⟨b, o + i * 7 + j, none⟩) h2).trans (h4 j hj)
    rw [h5] at k
    exact ⟨k 0 (by decide), k 1 (by decide), k 2 (by decide), k 3 (by decide), k 4 (by decide), k 5 (by decide), k 6 (by decide)⟩
theorem XsAt.zero {w : World} {a : Option Addr} {l : List PX} (h : XsAt 0 w a l) : l = [] := by
  cases l with
  | nil => rfl
  | cons x l => obtain ⟨_, _, _, _, _, _, _, h⟩ := h 0 (by simp); exact h.elim
end Go.Proofs.YtklpihaelaagpaaDoor

namespace Go.Proofs.YtklpihaelaagpaaDoor

structure PT where
  N : Nat
  along : Int → Int → List Int
  node : Nat → Ev
  value : Int → List UInt8
def cmpB (s : List UInt8) (c : Int) (t : List UInt8) (n : Int) : Option Bool :=
  let xs := runesOf (strL s)
  let ys := runesOf (strL t)
  if c = 0 then some true
  else if c = 1 then some (decide (cmpL xs ys = 0))
  else if c = 2 then some (decide (cmpL xs ys ≠ 0))
  else if c = 3 then some (standsL xs ys 0)
  else if c = 4 then some (decide (ys.length ≤ xs.length) && standsL xs ys (xs.length - ys.length))
  else if c = 5 then some (decide (0 ≤ findL xs ys))
  else if c = 6 then some (decide ((xs.length : Int) = n))
  else if c = 7 then some (decide (n < (xs.length : Int)))
  else if c = 8 then some (decide ((xs.length : Int) < n))
  else none
theorem cmpB_none {s : List UInt8} {c : Int} {t : List UInt8} {n : Int} (h : c < 0 ∨ 8 < c) : cmpB s c t n = none := by
  unfold cmpB
  rw [if_neg (by omega), if_neg (by omega), if_neg (by omega), if_neg (by omega), if_neg (by omega), if_neg (by omega), if_neg (by omega), if_neg (by omega), if_neg (by omega)]
def meetsP (T : PT) (n : Int) (s : PS) : Bool :=
  if s.test = 3 then true else if n < 0 then false
  else if s.test = 0 then decide ((T.node n.toNat).kind = 0) && decide ((T.node n.toNat).name = s.name)
  else if s.test = 1 then decide ((T.node n.toNat).kind = 0) else decide ((T.node n.toNat).kind = 1)
def askedP (T : PT) (n : Int) (attr : List UInt8) : Option (List UInt8) :=
  if attr = [] then some (T.value n) else if n < 0 then none else ((T.node n.toNat).ats.find? fun p => p.1 == attr).map (·.2)
def comparesP (T : PT) (n : Int) (x : PX) : Bool := match askedP T n x.attr with | none => false | some v => (cmpB v x.cmp x.text x.num).getD false
def reachP (T : PT) (fr : List Bool) (a : Int) (k : Nat) : Bool := (List.range fr.length).any fun (j : Nat) => fr[j]?.getD false && (T.along ((j : Int) - 1) a).contains ((k : Int) - 1)
def stepP (hold : Int → PX → Bool) (T : PT) (fr : List Bool) (s : PS) : List Bool :=
  (List.range fr.length).map fun (k : Nat) => reachP T fr s.axis k && (meetsP T ((k : Int) - 1) s && s.wher.all (hold ((k : Int) - 1)))
def stepsP (hold : Int → PX → Bool) (T : PT) (fr : List Bool) (ss : List PS) : List Bool := ss.foldl (stepP hold T) fr
def oneP (N : Nat) (n : Int) : List Bool := (List.range (N + 1)).map fun (k : Nat) => decide ((k : Int) = n + 1)
def someP (T : PT) (fr : List Bool) (x : PX) : Bool := (List.range fr.length).any fun (k : Nat) => fr[k]?.getD false && comparesP T ((k : Int) - 1) x
def holdP (T : PT) : Nat → Int → PX → Bool
  | 0, _, _ => false
  | f + 1, n, x =>
    if x.op = 0 then x.args.all (holdP T f n)
    else if x.op = 1 then x.args.any (holdP T f n)
    else if x.op = 2 then !((x.args.head?.map (holdP T f n)).getD false)
    else someP T (stepsP (holdP T f) T (oneP T.N n) x.path) x
def trueIdx (fr : List Bool) : List Int := (List.range fr.length).filterMap fun (k : Nat) => if fr[k]?.getD false then some ((k : Int) - 1) else none
def fromP (T : PT) (f : Nat) (n : Int) (ss : List PS) : List Int := trueIdx (stepsP (holdP T f) T (oneP T.N n) ss)
theorem stepP_len (hold : Int → PX → Bool) (T : PT) (fr : List Bool) (s : PS) : (stepP hold T fr s).length = fr.length := by simp [stepP]
theorem stepsP_len (hold : Int → PX → Bool) (T : PT) : ∀ (ss : List PS) (fr : List Bool), (stepsP hold T fr ss).length = fr.length := by
  intro ss
  induction ss with
  | nil => intro fr; rfl
  | cons s ss ih => intro fr; rw [stepsP, List.foldl_cons]; exact (ih _).trans (stepP_len ..)
theorem oneP_len (N : Nat) (n : Int) : (oneP N n).length = N + 1 := by simp [oneP]
end Go.Proofs.YtklpihaelaagpaaDoor

namespace Go.Proofs.YtklpihaelaagpaaDoor

def chr (r : Nat) : Prop := r < 55296 ∨ (57344 ≤ r ∧ r ≤ 1114111)
def encN (r : Nat) : List Nat :=
  if r < 128 then [r]
  else if r < 2048 then [192 + r / 64, 128 + r % 64]
  else if r < 65536 then [224 + r / 4096, 128 + r / 64 % 64, 128 + r % 64]
  else [240 + r / 262144, 128 + r / 4096 % 64, 128 + r / 64 % 64, 128 + r % 64]

def natLess : List Nat → List Nat → Bool
  | _, [] => false
  | [], _ :: _ => true
  | a :: x, b :: y => decide (a < b) || (a == b && natLess x y)
theorem bytesLess_nat : ∀ l m : List UInt8, Op.bytesLess l m = natLess (l.map UInt8.toNat) (m.map UInt8.toNat)
  | _, [] => by unfold Op.bytesLess; simp [natLess]
  | [], b :: y => by simp [Op.bytesLess, natLess]
  | a :: x, b :: y => by
    simp only [Op.bytesLess, List.map_cons, natLess, bytesLess_nat x y]
    congr 1
    have : (a == b) = (a.toNat == b.toNat) := by rw [Bool.eq_iff_iff]; simp [UInt8.toNat_inj]
    rw [this]
theorem natLess_app (p x y : List Nat) : natLess (p ++ x) (p ++ y) = natLess x y := by
  induction p with
  | nil => rfl
  | cons a p ih => simp [natLess, ih]
theorem natLess_nil (x : List Nat) : natLess x [] = false := by cases x <;> rfl

set_option maxHeartbeats 1000000 in
theorem encN_lt (r q : Nat) (x y : List Nat) (h : r < q) : natLess (encN r ++ x) (encN q ++ y) = true := by
  unfold encN
  repeat' split
  all_goals (try (exfalso; omega))
  all_goals simp only [List.cons_append, List.nil_append, natLess, Bool.or_eq_true, Bool.and_eq_true, decide_eq_true_eq, beq_iff_eq]
  all_goals omega
set_option maxHeartbeats 1000000 in
theorem encN_gt (r q : Nat) (x y : List Nat) (h : r < q) : natLess (encN q ++ y) (encN r ++ x) = false := by
  unfold encN
  repeat' split
  all_goals (try (exfalso; omega))
  all_goals simp only [List.cons_append, List.nil_append, natLess, Bool.or_eq_false_iff, Bool.and_eq_false_iff, decide_eq_false_iff_not, beq_eq_false_iff_ne]
  all_goals omega

def bytesN (s : ByteArray) (p : Nat) : List Nat := (s.data.toList.drop p).map UInt8.toNat
theorem len_data (s : ByteArray) : s.data.toList.length = s.size := by rw [Array.length_toList]; rfl
theorem get_nat (s : ByteArray) (p : Nat) (h : p < s.size) : (bytesN s p) = (s.get! p).toNat :: bytesN s (p + 1) := by
  have hl : p < s.data.toList.length := by rw [len_data]; exact h
  unfold bytesN
  rw [List.drop_eq_getElem_cons hl, List.map_cons]
  have e : s.get! p = s.data.toList[p] := by
    rw [show s.get! p = s.get! (p + 0) by rfl, get_at s p h]
    rfl
  rw [e]
theorem bytesN_end (s : ByteArray) (p : Nat) (h : ¬ p < s.size) : bytesN s p = [] := by
  unfold bytesN
  rw [List.drop_of_length_le (by rw [len_data]; omega)]
  rfl
theorem byte_lt (s : ByteArray) (p : Nat) : (s.get! p).toNat < 256 := (s.get! p).toNat_lt

set_option maxHeartbeats 2000000 in
theorem decode_good (s : ByteArray) (p : Nat) (h : p < s.size) (hg : ¬ ((Utf8.decode s p).1 = 65533 ∧ (Utf8.decode s p).2 = 1)) :
    chr (Utf8.decode s p).1 ∧ bytesN s p = encN (Utf8.decode s p).1 ++ bytesN s (p + (Utf8.decode s p).2) := by
  have h0 := byte_lt s p
  have h1 := byte_lt s (p + 1)
  have h2 := byte_lt s (p + 2)
  have h3 := byte_lt s (p + 3)
  have g0 := get_nat s p h
  have g1 := get_nat s (p + 1)
  have g2 := get_nat s (p + 2)
  have g3 := get_nat s (p + 3)
  rw [Lib.decode_at] at hg ⊢
  generalize (s.get! p).toNat = b0 at *
  generalize (s.get! (p + 1)).toNat = b1 at *
  generalize (s.get! (p + 2)).toNat = b2 at *
  generalize (s.get! (p + 3)).toNat = b3 at *
  unfold Lib.decodeN at hg ⊢
  unfold chr
  split
  · refine ⟨by simp only; omega, ?_⟩
    simp only [encN]
    rw [if_pos (by assumption), g0]
    rfl
  · split
    · split
      · refine ⟨by simp only; omega, ?_⟩
        simp only [encN]
        rw [if_neg (by omega), if_pos (by omega), g0, g1 (by omega)]
        simp only [List.cons_append, List.nil_append, List.cons.injEq]
        exact ⟨by omega, by omega, trivial⟩
      · rename_i a b c; rw [if_neg a, if_pos b, if_neg c] at hg; simp at hg
    · split
      · split
        · refine ⟨by simp only; omega, ?_⟩
          simp only [encN]
          rw [if_neg (by omega), if_neg (by omega), if_pos (by omega), g0, g1 (by omega), g2 (by omega)]
          simp only [List.cons_append, List.nil_append, List.cons.injEq]
          exact ⟨by omega, by omega, by omega, trivial⟩
        · rename_i a b c d; rw [if_neg a, if_neg b, if_pos c, if_neg d] at hg; simp at hg
      · split
        · split
          · refine ⟨by simp only; omega, ?_⟩
            simp only [encN]
            rw [if_neg (by omega), if_neg (by omega), if_neg (by omega), g0, g1 (by omega), g2 (by omega), g3 (by omega)]
            simp only [List.cons_append, List.nil_append, List.cons.injEq]
            exact ⟨by omega, by omega, by omega, by omega, trivial⟩
          · rename_i a b c d e; rw [if_neg a, if_neg b, if_neg c, if_pos d, if_neg e] at hg; simp at hg
        · rename_i a b c d; rw [if_neg a, if_neg b, if_neg c, if_neg d] at hg; simp at hg
end Go.Proofs.YtklpihaelaagpaaDoor
