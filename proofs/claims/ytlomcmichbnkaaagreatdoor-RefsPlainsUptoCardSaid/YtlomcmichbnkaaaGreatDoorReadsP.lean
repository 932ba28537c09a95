/-
  The plain law of RefsReads: what the document's own reading says is readF.
-/
import Derived.Test.YtlomcmichbnkaaaGreatDoorGoOnP
namespace Go.Proofs.YtlomcmichbnkaaaGreatDoor
open Go.RowKit

/-- the number of digits; none: not all are digits of the base -/
def numR (base : Int) : List UInt8 → Int → Option Int
  | [], v => some v
  | b :: l, v => if valD b.toNat < base then numR base l (if v * base + valD b.toNat ≤ 1114112 then v * base + valD b.toNat else 1114112) else none
theorem numR_app (base : Int) (m : List UInt8) (l : List UInt8) : ∀ v, numR base (l ++ m) v = (numR base l v).bind (numR base m) := by
  induction l with
  | nil => intro v; rfl
  | cons b l ih =>
    intro v
    simp only [List.cons_append, numR]
    split
    · exact ih _
    · rfl

/-- the names in the reference's order, and what they stand for -/
def refW : List (List UInt8 × Int) := [([97, 109, 112], 38), ([108, 116], 60), ([103, 116], 62), ([113, 117, 111, 116], 34), ([97, 112, 111, 115], 39)]
def wrapW (n : List UInt8) : List UInt8 := 38 :: (n ++ [59])
def namR (s : List UInt8) : Option Int := (refW.find? fun p => s == wrapW p.1).map (·.2)
def finR (base : Int) (at' : Nat) (s : List UInt8) : Int × Bool :=
  match numR base ((s.drop at').take (s.length - 1 - at')) 0 with
  | none => (0, false)
  | some v => (v, decide (at' < s.length - 1) && isR (rng 0) v)
/-- is it a reference, and what does it stand for? -/
def isS (s : List UInt8) : Int × Bool :=
  match namR s with
  | some c => (c, true)
  | none =>
    if s.length < 4 ∨ s.take 2 ≠ [38, 35] ∨ s.getLast? ≠ some 59 then (0, false)
    else if s[2]? = some 120 then finR 16 3 s else finR 10 2 s
def goR (base : Int) (at' : Nat) (s : List UInt8) : Bool :=
  match numR base (s.drop at') 0 with
  | none => false
  | some v => decide (v ≤ 1114111)
def preR (s : List UInt8) : Bool := refW.any fun p => decide (s.length < (wrapW p.1).length) && (wrapW p.1).take s.length == s
/-- is it the beginning of a reference? -/
def begS (s : List UInt8) : Bool :=
  (isS s).2 || s == [] || s == [38] || s == [38, 35] || s == [38, 35, 120] || preR s ||
    (if s.length < 3 ∨ s.take 2 ≠ [38, 35] then false else if s[2]? = some 120 then goR 16 3 s else goR 10 2 s)
/-- the reference's reading, from a place on -/
def refR (l : List UInt8) : Nat → Nat → Int × Int × Int
  | 0, _ => (0, 0, 1)
  | f + 1, n =>
    if h : n < l.length then
      if begS (l.take (n + 1)) = false then (0, (n : Int), 2)
      else if l[n]'h = 59 then ((isS (l.take (n + 1))).1, ((n : Int) + 1, (0 : Int)))
      else refR l f (n + 1)
    else (0, 0, 1)
theorem refR_succ (l : List UInt8) (f n : Nat) : refR l (f + 1) n =
    if h : n < l.length then
      if begS (l.take (n + 1)) = false then (0, (n : Int), 2)
      else if l[n]'h = 59 then ((isS (l.take (n + 1))).1, ((n : Int) + 1, (0 : Int)))
      else refR l f (n + 1)
    else (0, 0, 1) := rfl
theorem refR_end (l : List UInt8) (f n : Nat) (h : l.length ≤ n) : refR l f n = (0, 0, 1) := by
  cases f with
  | zero => rfl
  | succ f => rw [refR_succ, dif_neg (by omega)]

/-- the two kinds of heads -/
def Head (hd : List UInt8) (base : Int) (r : List UInt8) : Prop := (hd = [38, 35, 120] ∧ base = 16) ∨ (hd = [38, 35] ∧ base = 10 ∧ r.head? ≠ some 120)
theorem Head.base {hd : List UInt8} {base : Int} {r : List UInt8} (h : Head hd base r) : base = 10 ∨ base = 16 := by
  rcases h with ⟨_, h⟩ | ⟨_, h, _⟩
  · exact .inr h
  · exact .inl h
theorem namR_35 (r : List UInt8) : namR (38 :: 35 :: r) = none := by
  simp [namR, refW, wrapW]
theorem preR_35 (r : List UInt8) : preR (38 :: 35 :: r) = false := by
  simp [preR, refW, wrapW]

theorem last59 (a : UInt8) (l : List UInt8) (c : UInt8) : (a :: (l ++ [c])).getLast? = some c := by rw [← List.cons_append, List.getLast?_append]; rfl
theorem isS_head (hd ds : List UInt8) (base : Int) (b : UInt8) (h : Head hd base (ds ++ [b])) :
    isS (hd ++ ds ++ [b]) = if b = 59 then (match numR base ds 0 with | none => (0, false) | some v => (v, decide (ds ≠ []) && isR (rng 0) v)) else (0, false) := by
  rcases h with ⟨rfl, rfl⟩ | ⟨rfl, rfl, hne⟩
  · simp only [isS, List.cons_append, List.nil_append, namR_35]
    by_cases hb : b = 59
    · subst hb
      rw [if_pos rfl, if_neg (by simp [last59]), if_pos (by rfl)]
      unfold finR
      have e : List.take ((38 :: 35 :: 120 :: (ds ++ [59])).length - 1 - 3) (List.drop 3 (38 :: 35 :: 120 :: (ds ++ [59]))) = ds := by
        simp
      rw [e]
      rcases numR 16 ds 0 with _ | v
      · rfl
      · congr 2
        rcases ds with _ | ⟨d, ds⟩ <;> simp
    · rw [if_neg hb, if_pos]
      right; right
      rw [show (38 :: 35 :: 120 :: (ds ++ [b]) : List UInt8) = (38 :: 35 :: 120 :: ds) ++ [b] by rfl, List.getLast?_append]
      simpa using hb
  · simp only [isS, List.cons_append, List.nil_append, namR_35]
    by_cases hb : b = 59
    · subst hb
      rw [if_pos rfl]
      rcases ds with _ | ⟨d, ds⟩
      · rw [if_pos (by simp)]
        simp [numR]
      · rw [if_neg (by simp [last59]), if_neg (by simpa using hne)]
        unfold finR
        have e : List.take ((38 :: 35 :: (d :: ds ++ [59])).length - 1 - 2) (List.drop 2 (38 :: 35 :: (d :: ds ++ [59]))) = d :: ds := by
          simp
        rw [e]
        rcases numR 10 (d :: ds) 0 with _ | v
        · rfl
        · simp
    · rw [if_neg hb, if_pos]
      right; right
      rw [show (38 :: 35 :: (ds ++ [b]) : List UInt8) = (38 :: 35 :: ds) ++ [b] by rfl, List.getLast?_append]
      simpa using hb

theorem begS_head (hd ds : List UInt8) (base : Int) (b : UInt8) (h : Head hd base (ds ++ [b])) :
    begS (hd ++ ds ++ [b]) = ((isS (hd ++ ds ++ [b])).2 || (match numR base (ds ++ [b]) 0 with | none => false | some v => decide (v ≤ 1114111))) := by
  rcases h with ⟨rfl, rfl⟩ | ⟨rfl, rfl, hne⟩
  · unfold begS
    rw [if_neg (by simp), if_pos (by rfl)]
    have e : preR ([38, 35, 120] ++ ds ++ [b]) = false := preR_35 (120 :: (ds ++ [b]))
    have e2 : (ds ++ [b]).isEmpty = false := by cases ds <;> rfl
    rw [e]
    simp [goR, e2]
  · unfold begS
    have hx : ([38, 35] ++ ds ++ [b] == [38, 35, 120]) = false := by
      rcases ds with _ | ⟨d, ds⟩
      · simpa using hne
      · simp
    have h2 : ([38, 35] ++ ds ++ [b])[2]? ≠ some 120 := by
      rcases ds with _ | ⟨d, ds⟩
      · simpa using hne
      · simpa using hne
    rw [if_neg (by simp), if_neg h2]
    have e : preR ([38, 35] ++ ds ++ [b]) = false := preR_35 (ds ++ [b])
    have e2 : (ds ++ [b]).isEmpty = false := by cases ds <;> rfl
    rw [e, hx]
    simp [goR, e2]

theorem refR_num (hd : List UInt8) (base : Int) (t : List UInt8) : ∀ (ds : List UInt8) (r : Int) (f : Nat), Head hd base (ds ++ t) → numR base ds 0 = some r → 0 ≤ r → r ≤ 1114111 → t.length ≤ f →
    refR (hd ++ ds ++ t) f (hd.length + ds.length) = numF base hd.length (hd.length + ds.length) r t := by
  induction t with
  | nil =>
    intro ds r f hh hr h0 h1 hf
    rw [refR_end _ _ _ (by simp)]
    rfl
  | cons b t ih =>
    intro ds r f hh hr h0 h1 hf
    have hb := hh.base
    have hh1 : Head hd base (ds ++ [b]) := by
      rcases hh with h | ⟨a1, a2, a3⟩
      · exact .inl h
      · refine .inr ⟨a1, a2, ?_⟩
        rcases ds with _ | ⟨d, ds⟩ <;> simpa using a3
    obtain ⟨f, rfl⟩ : ∃ g, f = g + 1 := ⟨f - 1, by simp at hf; omega⟩
    have htk : (hd ++ ds ++ b :: t).take (hd.length + ds.length + 1) = hd ++ ds ++ [b] := by
      rw [← List.length_append, List.take_append, List.take_of_length_le (by omega)]
      simp
    have hget : (hd ++ ds ++ b :: t)[hd.length + ds.length]'(by simp) = b := by
      rw [List.getElem_append_right (by simp)]
      simp
    rw [refR_succ, dif_pos (by simp), htk, hget]
    have hnb : numR base (ds ++ [b]) 0 = if valD b.toNat < base then some (if r * base + valD b.toNat ≤ 1114112 then r * base + valD b.toNat else 1114112) else none := by
      rw [numR_app, hr]
      rfl
    have hB := begS_head hd ds base b hh1
    have hI := isS_head hd ds base b hh1
    rw [hnb] at hB
    rw [hr] at hI
    simp only [numF]
    have h59 : valD (59 : UInt8).toNat = 99 := by decide
    by_cases c1 : b.toNat = 59 ∧ hd.length < hd.length + ds.length ∧ isR (rng 0) r = true
    · obtain ⟨c1, c2, c3⟩ := c1
      obtain rfl : b = 59 := UInt8.toNat_inj.1 c1
      have hds : ds ≠ [] := by intro h; subst h; simp at c2
      have hI2 : isS (hd ++ ds ++ [59]) = (r, true) := by rw [hI, if_pos rfl]; simp [hds, c3]
      have hB2 : ¬ begS (hd ++ ds ++ [59]) = false := by rw [hB, hI2]; simp
      rw [if_neg hB2, if_pos rfl, hI2, if_pos ⟨c1, c2, c3⟩]
    · have hs2 : (isS (hd ++ ds ++ [b])).2 = false := by
        rw [hI]
        split
        · rename_i hb59
          subst hb59
          by_cases hds : ds = []
          · simp [hds]
          · have : isR (rng 0) r = false := by
              cases hR : isR (rng 0) r
              · rfl
              · exact absurd ⟨rfl, by have := List.length_pos_iff.2 hds; omega, hR⟩ c1
            simp [this]
        · rfl
      rw [hs2, Bool.false_or] at hB
      by_cases c2 : valD b.toNat < base
      · rw [if_pos c2] at hB
        by_cases c3 : 1114111 < r * base + valD b.toNat
        · have hB2 : begS (hd ++ ds ++ [b]) = false := by
            rw [hB]
            simp only [decide_eq_false_iff_not]
            split <;> omega
          rw [if_pos hB2, if_neg c1, if_pos (.inr c3)]
        · have hne : ¬ b = 59 := by rintro rfl; rw [h59] at c2; omega
          have hv := (valD_bd b.toNat).1
          have hm : 0 ≤ r * base := Int.mul_nonneg h0 (by omega)
          have hB2 : ¬ begS (hd ++ ds ++ [b]) = false := by
            rw [hB, if_pos (by omega)]
            simp
            omega
          rw [if_neg hB2, if_neg hne, if_neg c1, if_neg (by omega)]
          have := ih (ds ++ [b]) (r * base + valD b.toNat) f (by simpa using hh) (by rw [hnb, if_pos c2, if_pos (by omega)]) (by omega) (by omega) (by simpa using hf)
          simp only [List.length_append, List.length_singleton, List.append_assoc, List.singleton_append, ← Nat.add_assoc] at this
          rw [← List.append_assoc] at this
          exact this
      · rw [if_neg c2] at hB
        rw [if_pos hB, if_neg c1, if_pos (.inl c2)]

theorem lookN_eq (x : List UInt8) : lookN x = (refW.find? fun p => p.1 == x).map (·.2) := by
  unfold lookN nameL refW
  by_cases h1 : x = [97, 109, 112]
  · subst h1; rfl
  by_cases h2 : x = [97, 112, 111, 115]
  · subst h2; rfl
  by_cases h3 : x = [103, 116]
  · subst h3; rfl
  by_cases h4 : x = [108, 116]
  · subst h4; rfl
  by_cases h5 : x = [113, 117, 111, 116]
  · subst h5; rfl
  have n1 := Ne.symm h1
  have n2 := Ne.symm h2
  have n3 := Ne.symm h3
  have n4 := Ne.symm h4
  have n5 := Ne.symm h5
  simp [n1, n2, n3, n4, n5]
theorem namR_snoc (x : List UInt8) (c : UInt8) : namR (38 :: (x ++ [c])) = if c = 59 then lookN x else none := by
  rw [lookN_eq]
  unfold namR wrapW
  have e : ∀ p : List UInt8, (38 :: (x ++ [c]) == (38 :: (p ++ [59]) : List UInt8)) = (decide (c = 59) && (p == x)) := by
    intro p
    rw [Bool.eq_iff_iff]
    simp only [beq_iff_eq, List.cons.injEq, true_and, Bool.and_eq_true, decide_eq_true_eq]
    constructor
    · intro h
      have := List.append_inj' h rfl
      simp at this
      exact ⟨this.2, this.1.symm⟩
    · rintro ⟨rfl, rfl⟩; rfl
  simp only [e]
  by_cases hc : c = 59
  · simp [hc]
  · simp [hc, refW]
theorem refW_goes (t : List UInt8) : goesL t = refW.any fun p => t.isPrefixOf p.1 := by
  unfold goesL nameL refW
  simp only [List.any_cons, List.any_nil, Bool.or_false]
  rw [Bool.eq_iff_iff]
  simp only [Bool.or_eq_true]
  constructor <;> rintro (h | h | h | h | h) <;> simp [h]
theorem pre_iff (x : List UInt8) (p : List UInt8) (c : UInt8) : (decide ((38 :: (x ++ [c])).length < (wrapW p).length) && (wrapW p).take (38 :: (x ++ [c])).length == 38 :: (x ++ [c])) = (x ++ [c]).isPrefixOf p := by
  rw [Bool.eq_iff_iff]
  simp only [Bool.and_eq_true, decide_eq_true_eq, beq_iff_eq, List.isPrefixOf_iff_prefix, wrapW, List.length_cons, List.take_succ_cons, List.cons.injEq, true_and, Nat.add_lt_add_iff_right]
  constructor
  · rintro ⟨h1, h2⟩
    rw [List.prefix_iff_eq_take]
    rw [List.take_append_of_le_length (by simp at h1 ⊢; omega)] at h2
    exact h2.symm
  · intro h
    have hl := h.length_le
    refine ⟨by simp at hl ⊢; omega, ?_⟩
    rw [List.take_append_of_le_length hl]
    exact (List.prefix_iff_eq_take.1 h).symm
theorem preR_snoc (x : List UInt8) (c : UInt8) : preR (38 :: (x ++ [c])) = goesL (x ++ [c]) := by
  rw [refW_goes]
  unfold preR
  congr 1
  funext p
  exact pre_iff x p.1 c
theorem take2 (x : List UInt8) (c : UInt8) (h : (x ++ [c]).head? ≠ some 35) : (38 :: (x ++ [c])).take 2 ≠ [38, 35] := by
  rcases x with _ | ⟨d, x⟩ <;> simpa using h
theorem isS_nam (x : List UInt8) (c : UInt8) (h : (x ++ [c]).head? ≠ some 35) : isS (38 :: (x ++ [c])) = if c = 59 ∧ (lookN x).isSome = true then ((lookN x).getD 0, true) else (0, false) := by
  unfold isS
  have e : (38 :: (x ++ [c])).length < 4 ∨ (38 :: (x ++ [c])).take 2 ≠ [38, 35] ∨ (38 :: (x ++ [c])).getLast? ≠ some 59 := .inr (.inl (take2 x c h))
  rw [namR_snoc, if_pos e]
  by_cases hc : c = 59
  · rw [if_pos hc]
    rcases lookN x with _ | v <;> simp [hc]
  · rw [if_neg hc]
    simp [hc]
theorem begS_nam (x : List UInt8) (c : UInt8) (h : (x ++ [c]).head? ≠ some 35) : begS (38 :: (x ++ [c])) = ((isS (38 :: (x ++ [c]))).2 || goesL (x ++ [c])) := by
  unfold begS
  rw [if_pos (.inr (take2 x c h)), preR_snoc]
  have h1 : (38 :: (x ++ [c]) == ([38] : List UInt8)) = false := by simp
  have h2 : (38 :: (x ++ [c]) == ([38, 35] : List UInt8)) = false := by
    rw [beq_eq_false_iff_ne]
    intro e
    exact take2 x c h (by rw [e]; rfl)
  have h3 : (38 :: (x ++ [c]) == ([38, 35, 120] : List UInt8)) = false := by
    rw [beq_eq_false_iff_ne]
    intro e
    exact take2 x c h (by rw [e]; rfl)
  rw [h1, h2, h3]
  simp
theorem begins_59 : ∀ t ∈ begins, (59 : UInt8) ∉ t := by decide
theorem goes_59 (x : List UInt8) (h : goesL (x ++ [59]) = true) : False := begins_59 _ (goes_begins _ h) (by simp)

theorem refR_nam (l : List UInt8) (hl : ∃ t, l = 38 :: t ∧ t.head? ≠ some 35) : ∀ (g m f : Nat), m + g = 6 → (m = 0 ∨ goesL (seg l m) = true) → l.length ≤ m + 1 + f → refR l f (m + 1) = namF l g m := by
  intro g
  induction g with
  | zero =>
    intro m f hm hg _
    rcases hg with hg | hg
    · omega
    · have h4 := goes_len _ hg
      rw [refR_end]
      · rfl
      · simp [seg] at h4
        omega
  | succ g ih =>
    intro m f hm hg hf
    rw [namF_succ]
    by_cases h1 : m + 1 < l.length
    · have h5 : m + 1 ≤ 5 := by
        rcases hg with hg | hg
        · omega
        · have h4 := goes_len _ hg
          simp [seg] at h4
          omega
      obtain ⟨f, rfl⟩ : ∃ k, f = k + 1 := ⟨f - 1, by omega⟩
      rw [refR_succ, dif_pos h1, dif_pos ⟨h5, h1⟩]
      have hseg : seg l (m + 1) = seg l m ++ [l[m + 1]] := by
        unfold seg
        rw [List.take_succ_eq_append_getElem (by simp; omega)]
        simp
      have htk : l.take (m + 1 + 1) = 38 :: (seg l m ++ [l[m + 1]]) := by
        rw [← hseg]
        obtain ⟨t, rfl, _⟩ := hl
        rfl
      have hh : (seg l m ++ [l[m + 1]]).head? ≠ some 35 := by
        rw [← hseg]
        obtain ⟨t, rfl, ht⟩ := hl
        rcases t with _ | ⟨b, t⟩
        · simp at h1
        · simpa [seg] using ht
      rw [htk]
      have hB := begS_nam _ _ hh
      have hI := isS_nam _ _ hh
      have h59 : l[m + 1].toNat = 59 ↔ l[m + 1] = 59 := ⟨fun h => UInt8.toNat_inj.1 h, fun h => by rw [h]; rfl⟩
      by_cases c1 : (lookN (seg l m)).isSome = true ∧ l[m + 1].toNat = 59
      · rw [if_pos ⟨h59.1 c1.2, c1.1⟩] at hI
        rw [hI] at hB
        rw [if_neg (by rw [hB]; simp), if_pos (h59.1 c1.2), if_pos c1, hI]
        simp; omega
      · rw [if_neg (fun h => c1 ⟨h.2, h59.2 h.1⟩)] at hI
        rw [hI, Bool.false_or, ← hseg] at hB
        rw [if_neg c1]
        by_cases c2 : goesL (seg l (m + 1)) = false
        · rw [c2] at hB
          rw [← hseg, if_pos hB, if_pos c2]
          simp
        · have hg' : goesL (seg l (m + 1)) = true := by simpa using c2
          rw [hg'] at hB
          rw [← hseg, if_neg (by rw [hB]; simp), if_neg c2]
          rw [if_neg (fun h => goes_59 (seg l m) (by rw [← h, ← hseg]; exact hg'))]
          exact ih (m + 1) f (by omega) (.inr hg') (by omega)
    · rw [refR_end l f _ (by omega), dif_neg (by omega)]

theorem ref_read (l : List UInt8) : refR l l.length 0 = readF l := by
  rcases l with _ | ⟨a, l⟩
  · rfl
  · by_cases h38 : a.toNat = 38
    · obtain rfl : a = 38 := UInt8.toNat_inj.1 h38
      have s0 : refR (38 :: l) (38 :: l).length 0 = refR (38 :: l) l.length 1 := by
        rw [List.length_cons, refR_succ, dif_pos (by simp)]
        have e : List.take (0 + 1) (38 :: l) = [38] := rfl
        rw [e, if_neg (by decide)]
        simp
      rw [s0]
      rcases l with _ | ⟨b, u⟩
      · rfl
      · by_cases h35 : b.toNat = 35
        · obtain rfl : b = 35 := UInt8.toNat_inj.1 h35
          have s1 : refR (38 :: 35 :: u) (35 :: u).length 1 = refR (38 :: 35 :: u) u.length 2 := by
            rw [List.length_cons, refR_succ, dif_pos (by simp)]
            have e : List.take (1 + 1) (38 :: 35 :: u) = [38, 35] := rfl
            rw [e, if_neg (by decide)]
            simp
          rw [s1]
          rcases u with _ | ⟨c, v⟩
          · rfl
          · by_cases h120 : c.toNat = 120
            · obtain rfl : c = 120 := UInt8.toNat_inj.1 h120
              have s2 : refR (38 :: 35 :: 120 :: v) (120 :: v).length 2 = refR (38 :: 35 :: 120 :: v) v.length 3 := by
                rw [List.length_cons, refR_succ, dif_pos (by simp)]
                have e : List.take (2 + 1) (38 :: 35 :: 120 :: v) = [38, 35, 120] := rfl
                rw [e, if_neg (by decide)]
                simp
              rw [s2]
              exact refR_num [38, 35, 120] 16 v [] 0 v.length (.inl ⟨rfl, rfl⟩) rfl (by omega) (by omega) (Nat.le_refl _)
            · have he : readF (38 :: 35 :: c :: v) = numF 10 2 2 0 (c :: v) := by
                simp only [readF]; rw [if_pos h38, if_pos h35, if_neg h120]
              rw [he]
              exact refR_num [38, 35] 10 (c :: v) [] 0 (c :: v).length (.inr ⟨rfl, rfl, by simp; rintro rfl; exact h120 rfl⟩) rfl (by omega) (by omega) (Nat.le_refl _)
        · have he : readF (38 :: b :: u) = namF (38 :: b :: u) 6 0 := by
            simp only [readF]; rw [if_pos h38, if_neg h35]
          rw [he]
          exact refR_nam (38 :: b :: u) ⟨_, rfl, by simp; rintro rfl; exact h35 rfl⟩ 6 0 _ rfl (.inl rfl) (by simp; omega)
    · have he : readF (a :: l) = (0, 0, 2) := by simp only [readF]; rw [if_neg h38]
      have hne : a ≠ 38 := by rintro rfl; exact h38 rfl
      rw [he, List.length_cons, refR_succ, dif_pos (by simp)]
      have e : List.take (0 + 1) (a :: l) = [a] := rfl
      rw [e, if_pos]
      · rfl
      · simp [begS, isS, namR, preR, refW, wrapW, hne, Ne.symm hne]
end Go.Proofs.YtlomcmichbnkaaaGreatDoor
