/-
  The plain law of RefsPlains: the document's reading of characters, and its Plain.
-/
import Derived.Test.YtlomcmichbnkaaaGreatDoorBackP
namespace Go.Proofs.YtlomcmichbnkaaaGreatDoor
open Go.RowKit

/-- of a lead byte: how many bytes, its bits, the least number -/
def leadN (x : Nat) : Nat × Nat × Nat :=
  if x < 128 then (1, x, 0) else if 192 ≤ x ∧ x < 224 then (2, x - 192, 128) else if 224 ≤ x ∧ x < 240 then (3, x - 224, 2048) else if 240 ≤ x ∧ x < 248 then (4, x - 240, 65536) else (0, 0, 0)
def contN : List UInt8 → Nat → Option Nat
  | [], a => some a
  | y :: l, a => if y.toNat < 128 ∨ 191 < y.toNat then none else contN l (a * 64 + (y.toNat - 128))
def widN : Nat → Nat × Nat → Nat × Nat
  | 0, p => p
  | k + 1, p => widN k (p.1 * 64, p.2 * 64 + 63)
/-- gimletref02.Span -/
def spanL : List UInt8 → Nat × Nat
  | [] => (1, 0)
  | x :: l =>
    if 4 < l.length + 1 ∨ (leadN x.toNat).1 < l.length + 1 then (1, 0)
    else match contN l (leadN x.toNat).2.1 with
      | none => (1, 0)
      | some a => (max (widN ((leadN x.toNat).1 - (l.length + 1)) (a, a)).1 (leadN x.toNat).2.2, min (widN ((leadN x.toNat).1 - (l.length + 1)) (a, a)).2 1114111)

theorem contN_cons (y : UInt8) (l : List UInt8) (a : Nat) (h : 128 ≤ y.toNat ∧ y.toNat ≤ 191) : contN (y :: l) a = contN l (a * 64 + (y.toNat - 128)) := by
  simp only [contN]
  rw [if_neg (by omega)]
theorem span_full (x : UInt8) (l : List UInt8) (n f m a : Nat) (h0 : leadN x.toNat = (n, f, m)) (h1 : l.length + 1 = n) (h4 : n ≤ 4) (h2 : contN l f = some a) : spanL (x :: l) = (max a m, min a 1114111) := by
  simp only [spanL]
  rw [h0]
  simp only
  rw [h1, h2, if_neg (by omega), Nat.sub_self]
  rfl
set_option maxHeartbeats 2000000 in
theorem span_enc (r : Nat) (h : r ≤ 1114111) : spanL (encU r) = (r, r) := by
  unfold encU encN
  by_cases h1 : r < 128
  · rw [if_pos h1]
    simp only [List.map_cons, List.map_nil]
    have e0 := toNat_of r (by omega)
    rw [span_full _ [] 1 r 0 r (by rw [e0]; unfold leadN; rw [if_pos h1]) rfl (by decide) rfl]
    simp only [Prod.mk.injEq]
    omega
  · rw [if_neg h1]
    by_cases h2 : r < 2048
    · rw [if_pos h2]
      simp only [List.map_cons, List.map_nil]
      have e0 := toNat_of (192 + r / 64) (by omega)
      have e1 := toNat_of (128 + r % 64) (by omega)
      rw [span_full _ _ 2 (192 + r / 64 - 192) 128 r (by rw [e0]; unfold leadN; rw [if_neg (by omega), if_pos (by omega)]) rfl (by decide)
        (by rw [contN_cons _ _ _ (by omega), e1]; simp only [contN, Option.some.injEq]; omega)]
      simp only [Prod.mk.injEq]
      omega
    · rw [if_neg h2]
      by_cases h3 : r < 65536
      · rw [if_pos h3]
        simp only [List.map_cons, List.map_nil]
        have e0 := toNat_of (224 + r / 4096) (by omega)
        have e1 := toNat_of (128 + r / 64 % 64) (by omega)
        have e2 := toNat_of (128 + r % 64) (by omega)
        rw [span_full _ _ 3 (224 + r / 4096 - 224) 2048 r (by rw [e0]; unfold leadN; rw [if_neg (by omega), if_neg (by omega), if_pos (by omega)]) rfl (by decide)
          (by rw [contN_cons _ _ _ (by omega), contN_cons _ _ _ (by omega), e1, e2]; simp only [contN, Option.some.injEq]; omega)]
        simp only [Prod.mk.injEq]
        omega
      · rw [if_neg h3]
        simp only [List.map_cons, List.map_nil]
        have e0 := toNat_of (240 + r / 262144) (by omega)
        have e1 := toNat_of (128 + r / 4096 % 64) (by omega)
        have e2 := toNat_of (128 + r / 64 % 64) (by omega)
        have e3 := toNat_of (128 + r % 64) (by omega)
        rw [span_full _ _ 4 (240 + r / 262144 - 240) 65536 r (by rw [e0]; unfold leadN; rw [if_neg (by omega), if_neg (by omega), if_neg (by omega), if_pos (by omega)]) rfl (by decide)
          (by rw [contN_cons _ _ _ (by omega), contN_cons _ _ _ (by omega), contN_cons _ _ _ (by omega), e1, e2, e3]; simp only [contN, Option.some.injEq]; omega)]
        simp only [Prod.mk.injEq]
        omega
theorem widN_le : ∀ (k : Nat) (p : Nat × Nat), p.1 ≤ p.2 → (widN k p).1 ≤ (widN k p).2
  | 0, _, h => h
  | k + 1, p, h => widN_le k _ (by simp only; omega)
theorem span_same (l : List UInt8) (h : (spanL l).1 = (spanL l).2) : (spanL l).1 ≤ 1114111 := by
  rw [h]
  rcases l with _ | ⟨x, l⟩
  · simp [spanL]
  · simp only [spanL]
    split
    · decide
    · split
      · decide
      · simp only; omega
theorem enc_head (r q : Nat) (hr : r ≤ 1114111) (hq : q ≤ 1114111) (y z : List UInt8) (h : encU r ++ y = encU q ++ z) : (encN r).length = (encN q).length := by
  have h2 := congrArg (List.map UInt8.toNat) h
  rw [List.map_append, List.map_append] at h2
  have hm : ∀ r, r ≤ 1114111 → (encU r).map UInt8.toNat = encN r := by
    intro r hr
    unfold encU
    rw [List.map_map]
    have : ∀ l : List Nat, (∀ x ∈ l, x < 256) → l.map (UInt8.toNat ∘ UInt8.ofNat) = l := by
      intro l
      induction l with
      | nil => intro _; rfl
      | cons a l ih => intro hl; rw [List.map_cons, ih (fun x hx => hl x (by simp [hx]))]; congr 1; exact toNat_of a (hl a (by simp))
    exact this _ (encN_byte r hr)
  rw [hm r hr, hm q hq] at h2
  clear h
  unfold encN at h2 ⊢
  by_cases a1 : r < 128
  · rw [if_pos a1] at h2 ⊢
    by_cases b1 : q < 128
    · rw [if_pos b1]; rfl
    · rw [if_neg b1] at h2 ⊢
      by_cases b2 : q < 2048
      · rw [if_pos b2] at h2; simp only [List.cons_append, List.cons.injEq] at h2; omega
      · rw [if_neg b2] at h2
        by_cases b3 : q < 65536
        · rw [if_pos b3] at h2; simp only [List.cons_append, List.cons.injEq] at h2; omega
        · rw [if_neg b3] at h2; simp only [List.cons_append, List.cons.injEq] at h2; omega
  · rw [if_neg a1] at h2 ⊢
    by_cases a2 : r < 2048
    · rw [if_pos a2] at h2 ⊢
      by_cases b1 : q < 128
      · rw [if_pos b1] at h2; simp only [List.cons_append, List.cons.injEq] at h2; omega
      · rw [if_neg b1] at h2 ⊢
        by_cases b2 : q < 2048
        · rw [if_pos b2]; rfl
        · rw [if_neg b2] at h2
          by_cases b3 : q < 65536
          · rw [if_pos b3] at h2; simp only [List.cons_append, List.cons.injEq] at h2; omega
          · rw [if_neg b3] at h2; simp only [List.cons_append, List.cons.injEq] at h2; omega
    · rw [if_neg a2] at h2 ⊢
      by_cases a3 : r < 65536
      · rw [if_pos a3] at h2 ⊢
        by_cases b1 : q < 128
        · rw [if_pos b1] at h2; simp only [List.cons_append, List.cons.injEq] at h2; omega
        · rw [if_neg b1] at h2 ⊢
          by_cases b2 : q < 2048
          · rw [if_pos b2] at h2; simp only [List.cons_append, List.cons.injEq] at h2; omega
          · rw [if_neg b2] at h2 ⊢
            by_cases b3 : q < 65536
            · rw [if_pos b3]; rfl
            · rw [if_neg b3] at h2; simp only [List.cons_append, List.cons.injEq] at h2; omega
      · rw [if_neg a3] at h2 ⊢
        by_cases b1 : q < 128
        · rw [if_pos b1] at h2; simp only [List.cons_append, List.cons.injEq] at h2; omega
        · rw [if_neg b1] at h2 ⊢
          by_cases b2 : q < 2048
          · rw [if_pos b2] at h2; simp only [List.cons_append, List.cons.injEq] at h2; omega
          · rw [if_neg b2] at h2 ⊢
            by_cases b3 : q < 65536
            · rw [if_pos b3] at h2; simp only [List.cons_append, List.cons.injEq] at h2; omega
            · rw [if_neg b3]; rfl

/-- does a character end behind the first n bytes? -/
def hitN (l : List UInt8) (n : Nat) : Bool := (spanL (l.take n)).1 == (spanL (l.take n)).2 && encU (spanL (l.take n)).1 == l.take n
def surr (r : Nat) : Bool := decide (55296 ≤ r ∧ r ≤ 57343)
/-- gimletref02.Read, from n on -/
def readR (l : List UInt8) : Nat → Nat → Nat × Nat
  | 0, _ => (0, 0)
  | f + 1, n => if n ≤ 4 ∧ n ≤ l.length then (if hitN l n = true then (if surr (spanL (l.take n)).1 = true then (0, 0) else ((spanL (l.take n)).1, n)) else readR l f (n + 1)) else (0, 0)
theorem hit_inv (l : List UInt8) (n : Nat) (h : hitN l n = true) : ∃ r, r ≤ 1114111 ∧ (spanL (l.take n)).1 = r ∧ l.take n = encU r ∧ l = encU r ++ l.drop n := by
  unfold hitN at h
  simp only [Bool.and_eq_true, beq_iff_eq] at h
  refine ⟨_, span_same _ h.1, rfl, h.2.symm, ?_⟩
  rw [h.2, List.take_append_drop]
theorem readR_bad (l : List UInt8) (hb : (decL l).1 = 65533 ∧ (decL l).2 = 1) : ∀ f n, readR l f n = (0, 0)
  | 0, _ => rfl
  | f + 1, n => by
    simp only [readR]
    split
    · by_cases h : hitN l n = true
      · rw [if_pos h]
        obtain ⟨r, hr, e, _, hl⟩ := hit_inv l n h
        rw [e]
        by_cases hs : surr r = true
        · rw [if_pos hs]
        · exfalso
          have hc : chr r := by
            unfold surr at hs
            simp only [decide_eq_true_eq] at hs
            unfold chr; omega
          have hd := dec_enc r hc (l.drop n)
          rw [← hl] at hd
          rw [hd] at hb
          simp only at hb
          obtain ⟨rfl, h2⟩ := hb
          exact absurd h2 (by decide)
      · rw [if_neg h]
        exact readR_bad l hb f (n + 1)
    · rfl
theorem readR_good (l : List UInt8) (h : l ≠ []) (hg : ¬ ((decL l).1 = 65533 ∧ (decL l).2 = 1)) : ∀ f n, n ≤ (decL l).2 → (decL l).2 < f + n → readR l f n = decL l := by
  obtain ⟨hc, hl, hn⟩ : chr (decL l).1 ∧ l = encU (decL l).1 ++ l.drop (decL l).2 ∧ (decL l).2 = (encN (decL l).1).length := by
    rcases dec_inv l h with hi | hi
    · exact hi
    · exact absurd (by rw [hi]; exact ⟨rfl, rfl⟩) hg
  have hll : (decL l).2 ≤ l.length := by
    have := congrArg List.length hl
    rw [List.length_append, encU, List.length_map, ← hn] at this
    omega
  have h4 := (encN_ne (decL l).1).2
  intro f
  induction f with
  | zero => intro n h1 h2; omega
  | succ f ih =>
    intro n h1 h2
    simp only [readR]
    rw [if_pos (by omega)]
    by_cases hh : hitN l n = true
    · rw [if_pos hh]
      obtain ⟨r, hr, e, ht, hl2⟩ := hit_inv l n hh
      have h3 := enc_head r (decL l).1 hr (chr_le hc) (l.drop n) (l.drop (decL l).2) (by rw [← hl2, ← hl])
      have h5 := congrArg List.length ht
      rw [List.length_take, encU, List.length_map, h3, ← hn] at h5
      have h6 : n = (decL l).2 := by omega
      have h7 : encU r = encU (decL l).1 := by
        rw [← ht, h6]
        have := congrArg (List.take (decL l).2) hl
        rw [this, List.take_append_of_le_length (by simp [encU, hn]), List.take_of_length_le (by simp [encU, hn])]
      have h8 := congrArg spanL h7
      rw [span_enc r hr, span_enc _ (chr_le hc)] at h8
      simp only [Prod.mk.injEq] at h8
      rw [e, h8.1]
      have hs : surr (decL l).1 = false := by unfold surr; unfold chr at hc; simp only [decide_eq_false_iff_not]; omega
      rw [hs, h6]
      simp
    · rw [if_neg hh]
      by_cases h6 : n = (decL l).2
      · exfalso
        apply hh
        have ht : l.take n = encU (decL l).1 := by
          rw [h6]
          have := congrArg (List.take (decL l).2) hl
          rw [this, List.take_append_of_le_length (by simp [encU, hn]), List.take_of_length_le (by simp [encU, hn])]
        unfold hitN
        rw [ht, span_enc _ (chr_le hc)]
        simp
      · exact ih (n + 1) (by omega) (by omega)
/-- gimletref02.Texts -/
def textsR : Nat → List UInt8 → Bool
  | 0, _ => true
  | f + 1, l => if l = [] then true else if (readR l 4 1).2 = 0 ∨ isR (rng 0) (readR l 4 1).1 = false then false else textsR f (l.drop (readR l 4 1).2)
theorem textsR_eq (f : Nat) : ∀ l : List UInt8, l.length ≤ f → textsR f l = textsB l := by
  induction f with
  | zero =>
    intro l h
    obtain rfl : l = [] := List.eq_nil_of_length_eq_zero (by omega)
    rfl
  | succ f ih =>
    intro l h
    simp only [textsR]
    by_cases h0 : l = []
    · subst h0; rfl
    · rw [if_neg h0]
      by_cases hg : (decL l).1 = 65533 ∧ (decL l).2 = 1
      · rw [readR_bad l hg, textsB_wrong l h0 hg]
        simp
      · have hp := dec_pos l h0
        have h4 : (decL l).2 ≤ 4 := by
          rcases dec_inv l h0 with ⟨_, _, hi⟩ | hi
          · rw [hi]; exact (encN_ne _).2
          · rw [hi]; decide
        have hl := List.length_pos_iff.2 h0
        rw [readR_good l h0 hg 4 1 hp (by omega), textsB_good l h0 hg, ih _ (by rw [List.length_drop]; omega)]
        cases hi : isR (rng 0) (decL l).1 with
        | false => simp
        | true => rw [if_neg (by simp; omega)]; simp

/-- no < stands in what is read as a reference -/
theorem hasLt_nil : hasLt [] = false := rfl
theorem hasLt_cons (b : UInt8) (l : List UInt8) : hasLt (b :: l) = (b == 60 || hasLt l) := by
  have hg := Lib.indexByte_ge l 60
  have e : Lib.indexByte (b :: l) 60 = if b == 60 then 0 else if Lib.indexByte l 60 == -1 then -1 else Lib.indexByte l 60 + 1 := rfl
  unfold hasLt
  rw [e]
  cases hb : b == 60 with
  | true => simp
  | false =>
    simp only [Bool.false_eq_true, if_false, Bool.false_or]
    by_cases h1 : Lib.indexByte l 60 = -1
    · rw [h1]; simp
    · have : (Lib.indexByte l 60 == -1) = false := by simpa using h1
      rw [this]
      simp only [Bool.false_eq_true, if_false, decide_eq_decide]
      omega
theorem hasLt_iff (l : List UInt8) : hasLt l = true ↔ 60 ∈ l := by
  induction l with
  | nil => simp [hasLt_nil]
  | cons b l ih =>
    rw [hasLt_cons, Bool.or_eq_true, ih, List.mem_cons, beq_iff_eq]
    exact or_congr_left ⟨fun h => h.symm, fun h => h.symm⟩
theorem numF_lt (base : Int) (hb : base ≤ 99) (at' : Nat) (l : List UInt8) : ∀ (i : Nat) (r : Int), (numF base at' i r l).2.2 = 0 → ∃ k, k ≤ l.length ∧ (numF base at' i r l).2.1 = (i : Int) + k ∧ 60 ∉ l.take k := by
  induction l with
  | nil => intro i r h; simp [numF] at h
  | cons b l ih =>
    intro i r h
    simp only [numF] at h ⊢
    split at h
    · rename_i h1
      rw [if_pos h1]
      refine ⟨1, by simp, rfl, ?_⟩
      simp only [List.take_succ_cons, List.take_zero, List.mem_cons, List.not_mem_nil, or_false]
      intro e; rw [← e] at h1; simp at h1
    · rename_i h1
      rw [if_neg h1]
      split at h
      · simp at h
      · rename_i h2
        rw [if_neg h2]
        obtain ⟨k, hk, e, hn⟩ := ih (i + 1) _ h
        refine ⟨k + 1, by simp; omega, by rw [e]; push_cast; omega, ?_⟩
        simp only [List.take_succ_cons, List.mem_cons]
        rintro (e | hm)
        · apply h2; left; rw [← e, show valD (60 : UInt8).toNat = 99 by decide]; omega
        · exact hn hm
theorem isPrefix_no (c : UInt8) : ∀ (p n : List UInt8), c ∉ n → p.isPrefixOf n = true → c ∉ p
  | [], _, _, _ => by simp
  | a :: p, [], _, h => by simp at h
  | a :: p, b :: n, hn, h => by
    simp only [List.isPrefixOf, Bool.and_eq_true, beq_iff_eq] at h
    obtain ⟨rfl, h⟩ := h
    simp only [List.mem_cons, not_or] at hn ⊢
    exact ⟨hn.1, isPrefix_no c p n hn.2 h⟩
theorem names_lt : ∀ p ∈ nameL, (60 : UInt8) ∉ p.1 := by decide
theorem names_chr : ∀ p ∈ nameL, ∃ q : Nat, chr q ∧ p.2 = q := by
  intro p hp
  simp only [nameL, List.mem_cons, List.not_mem_nil, or_false] at hp
  rcases hp with rfl | rfl | rfl | rfl | rfl
  · exact ⟨38, .inl (by decide), rfl⟩
  · exact ⟨39, .inl (by decide), rfl⟩
  · exact ⟨62, .inl (by decide), rfl⟩
  · exact ⟨60, .inl (by decide), rfl⟩
  · exact ⟨34, .inl (by decide), rfl⟩
theorem lookN_inv (x : List UInt8) (h : (lookN x).isSome = true) : ∃ p ∈ nameL, p.1 = x ∧ (lookN x).getD 0 = p.2 := by
  unfold lookN at h ⊢
  rcases hf : nameL.find? fun p => p.1 == x with _ | p
  · rw [hf] at h; cases h
  · rw [hf]
    have h1 := List.find?_some hf
    have h2 := List.mem_of_find?_eq_some hf
    simp only [beq_iff_eq] at h1
    exact ⟨p, h2, h1, by rfl⟩
theorem namF_lt (l : List UInt8) (f : Nat) : ∀ m, (namF l f m).2.2 = 0 → ∃ k : Nat, (namF l f m).2.1 = (k : Int) + 2 ∧ (∃ p ∈ nameL, p.1 = seg l k ∧ (namF l f m).1 = p.2) ∧ ∃ h : k + 1 < l.length, (l[k + 1]'h).toNat = 59 := by
  induction f with
  | zero => intro m h; simp [namF] at h
  | succ f ih =>
    intro m h
    rw [namF_succ] at h ⊢
    split at h
    · rename_i h1
      rw [dif_pos h1]
      split at h
      · rename_i h2
        rw [if_pos h2]
        obtain ⟨p, hp, e1, e2⟩ := lookN_inv _ h2.1
        exact ⟨m, rfl, ⟨p, hp, e1, e2⟩, h1.2, h2.2⟩
      · rename_i h2
        rw [if_neg h2]
        split at h
        · simp at h
        · rename_i h3
          rw [if_neg h3]
          exact ih (m + 1) h
    · simp at h
theorem isR_chr (r : Int) (h : isR (rng 0) r = true) : ∃ q : Nat, chr q ∧ r = q := by
  have : 0 ≤ r ∧ chr r.toNat := by
    have e : rng 0 = [(9, 10), (13, 13), (32, 55295), (57344, 65533), (65536, 1114111)] := rfl
    rw [e] at h
    unfold chr
    simp only [isR] at h
    split at h
    · simp only [decide_eq_true_eq] at h; omega
    · split at h
      · simp only [decide_eq_true_eq] at h; omega
      · split at h
        · simp only [decide_eq_true_eq] at h; omega
        · split at h
          · simp only [decide_eq_true_eq] at h; omega
          · split at h
            · simp only [decide_eq_true_eq] at h; omega
            · cases h
  exact ⟨r.toNat, this.2, by omega⟩
theorem numF_chr (base : Int) (at' : Nat) (l : List UInt8) : ∀ (i : Nat) (r : Int), (numF base at' i r l).2.2 = 0 → ∃ q : Nat, chr q ∧ (numF base at' i r l).1 = q := by
  induction l with
  | nil => intro i r h; simp [numF] at h
  | cons b l ih =>
    intro i r h
    simp only [numF] at h ⊢
    split at h
    · rename_i h1
      rw [if_pos h1]
      exact isR_chr r h1.2.2
    · rename_i h1
      rw [if_neg h1]
      split at h
      · simp at h
      · rename_i h2
        rw [if_neg h2]
        exact ih (i + 1) _ h
theorem read_inv (t : List UInt8) (h : (readF (38 :: t)).2.2 = 0) : ∃ k, k ≤ t.length ∧ (readF (38 :: t)).2.1 = (k : Int) + 1 ∧ 60 ∉ t.take k ∧ ∃ q : Nat, chr q ∧ (readF (38 :: t)).1 = q := by
  have hb : ∀ (b : Int) (hb : b ≤ 99) (hd v : List UInt8) (i : Nat), i = hd.length + 1 → 60 ∉ hd → t = hd ++ v → readF (38 :: t) = numF b i i 0 v → ∃ k, k ≤ t.length ∧ (readF (38 :: t)).2.1 = (k : Int) + 1 ∧ 60 ∉ t.take k ∧ ∃ q : Nat, chr q ∧ (readF (38 :: t)).1 = q := by
    intro b hb hd v i hi hn ht he
    rw [he] at h ⊢
    obtain ⟨k, hk, e, hlt⟩ := numF_lt b hb i v i 0 h
    refine ⟨hd.length + k, by rw [ht, List.length_append]; omega, by rw [e, hi]; push_cast; omega, ?_, numF_chr b i v i 0 h⟩
    rw [ht, List.take_length_add_append, List.mem_append]
    rintro (h1 | h1)
    · exact hn h1
    · exact hlt h1
  have h38 : UInt8.toNat 38 = 38 := by decide
  rcases t with _ | ⟨b, u⟩
  · simp [readF] at h
  · by_cases h35 : b.toNat = 35
    · have eb : b = 35 := UInt8.toNat_inj.1 h35
      rcases u with _ | ⟨c, v⟩
      · simp only [readF] at h; rw [if_pos h38, if_pos h35] at h; simp at h
      · by_cases h120 : c.toNat = 120
        · have ec : c = 120 := UInt8.toNat_inj.1 h120
          exact hb 16 (by decide) [b, c] v 3 rfl (by rw [eb, ec]; decide) rfl (by simp only [readF]; rw [if_pos h38, if_pos h35, if_pos h120])
        · exact hb 10 (by decide) [b] (c :: v) 2 rfl (by rw [eb]; decide) rfl (by simp only [readF]; rw [if_pos h38, if_pos h35, if_neg h120])
    · have e : readF (38 :: b :: u) = namF (38 :: b :: u) 6 0 := by simp only [readF]; rw [if_pos h38, if_neg h35]
      rw [e] at h ⊢
      obtain ⟨k, h1, ⟨p, hp, h2, h3⟩, h4, h5⟩ := namF_lt _ _ _ h
      obtain ⟨q, hq, e2⟩ := names_chr p hp
      refine ⟨k + 1, by simp at h4 ⊢; omega, by rw [h1]; push_cast; omega, ?_, q, hq, by rw [h3, e2]⟩
      have hk : k < (b :: u).length := by simp at h4 ⊢; omega
      rw [List.take_succ_eq_append_getElem hk, List.mem_append]
      rintro (h6 | h6)
      · apply names_lt p hp
        rw [h2]
        exact h6
      · simp only [List.mem_singleton] at h6
        have h7 : (38 :: b :: u)[k + 1]'h4 = (b :: u)[k] := rfl
        rw [h7, ← h6] at h5
        exact absurd h5 (by decide)
/-- what gimletref05.Plain's loop gives -/
def plainR : Nat → List UInt8 → Option (List UInt8)
  | 0, _ => some []
  | _ + 1, [] => some []
  | f + 1, x :: t =>
    if x = 60 then none
    else if x ≠ 38 then (plainR f t).map (x :: ·)
    else if (readF (x :: t)).2.2 ≠ 0 then none
    else (plainR f ((x :: t).drop (readF (x :: t)).2.1.toNat)).map (encU (readF (x :: t)).1.toNat ++ ·)
theorem hasLt_app (l m : List UInt8) : hasLt (l ++ m) = (hasLt l || hasLt m) := by
  induction l with
  | nil => rw [hasLt_nil, Bool.false_or]; rfl
  | cons b l ih => rw [List.cons_append, hasLt_cons, hasLt_cons, ih, Bool.or_assoc]
set_option maxRecDepth 100000 in
theorem plain_ref (f : Nat) : ∀ l : List UInt8, l.length ≤ f → plainR f l = if hasLt l = true then none else plainL (l.length + 1) l := by
  induction f with
  | zero =>
    intro l h
    obtain rfl : l = [] := List.eq_nil_of_length_eq_zero (by omega)
    rfl
  | succ f ih =>
    intro l h
    rcases l with _ | ⟨x, t⟩
    · rfl
    · simp only [List.length_cons] at h
      by_cases h60 : x = 60
      · simp only [plainR]
        rw [if_pos h60, if_pos (by rw [hasLt_cons, h60]; rfl)]
      · have hx : (x == 60) = false := by simpa using h60
        by_cases h38 : x = 38
        · subst h38
          simp only [plainR]
          rw [if_neg h60, if_neg (by simp)]
          have hu : plainL ((38 :: t).length + 1) (38 :: t) = if (readF (38 :: t)).2.2 = 0 then (plainL (t.length + 1) (t.drop ((readF (38 :: t)).2.1.toNat - 1))).map (fun x => encI (readF (38 :: t)).1 ++ x) else none := by
            rw [List.length_cons]
            simp only [plainL]
            rw [cutB_hit]
            simp only [List.nil_append]
            rw [if_neg (by simp)]
          by_cases hh : (readF (38 :: t)).2.2 = 0
          · rw [if_neg (by simpa using hh), hu, if_pos hh]
            obtain ⟨k, hk, e1, hn, q, hq, e2⟩ := read_inv t hh
            rw [e1, e2, show ((k : Int) + 1).toNat = k + 1 by omega, show k + 1 - 1 = k by omega, List.drop_succ_cons, ih _ (by rw [List.length_drop]; omega)]
            have e3 : hasLt (38 :: t) = hasLt (t.drop k) := by
              have h1 : hasLt (38 :: t) = hasLt t := by rw [hasLt_cons]; rfl
              have h2 : hasLt (t.take k) = false := by
                cases h3 : hasLt (t.take k) with
                | false => rfl
                | true => exact absurd ((hasLt_iff _).1 h3) hn
              have h3 := hasLt_app (t.take k) (t.drop k)
              rw [List.take_append_drop, h2, Bool.false_or] at h3
              rw [h1, h3]
            rw [e3]
            have e4 : encI (q : Int) = encU q := enc_model q hq
            rw [e4, show ((q : Int)).toNat = q by omega]
            cases hl : hasLt (t.drop k) with
            | true => rfl
            | false =>
              simp only [Bool.false_eq_true, if_false]
              rw [plainL_fuel (t.length + 1) _ [] (by rw [List.length_drop]; omega) ((t.drop k).length + 1) (by omega)]
          · rw [if_pos (by simpa using hh), hu, if_neg hh]
            simp
        · simp only [plainR]
          rw [if_neg h60, if_pos h38, ih t (by omega), hasLt_cons, hx, Bool.false_or, List.length_cons, plainL_cons _ x t h38]
          cases hl : hasLt t with
          | true => rfl
          | false =>
            simp only [Bool.false_eq_true, if_false]
            rw [plainL_fuel (t.length + 1 + 1) _ [] (by omega) (t.length + 1) (by omega)]
/-- gimletref05.Plain: the text, the error's number -/
def plainB (l : List UInt8) : List UInt8 × Int :=
  if textsB l = true then (match plainR l.length l with | some x => (x, 0) | none => ([], 6)) else ([], 6)
theorem plain_same (l : List UInt8) : plainB l = plainA l := by
  unfold plainB plainA
  rw [plain_ref _ l (Nat.le_refl _)]
  cases h1 : textsB l with
  | false => simp
  | true =>
    cases h2 : hasLt l with
    | true => simp
    | false => simp only [Bool.false_eq_true, if_false, if_true, and_self]; cases plainL (l.length + 1) l <;> rfl
end Go.Proofs.YtlomcmichbnkaaaGreatDoor
