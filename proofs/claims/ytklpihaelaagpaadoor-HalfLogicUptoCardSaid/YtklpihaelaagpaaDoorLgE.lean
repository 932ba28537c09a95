/-
  The plain law of chars.Texts.
-/
import Derived.Test.YtklpihaelaagpaaDoorLgD
import Derived.Lib.ValidLaws
import Derived.Test.YtklpihaelaagpaaDoorLgC
namespace Go.Proofs.YtklpihaelaagpaaDoor
open Go.RowKit

def runesOk : Nat → List UInt8 → Bool
  | 0, _ => true
  | f + 1, l => if l = [] then true else isR (rng 0) (decL l).1 && runesOk f (l.drop (decL l).2)
theorem runesOk_fuel (f : Nat) : ∀ (g : Nat) (l : List UInt8), l.length ≤ f → l.length ≤ g → runesOk f l = runesOk g l := by
  induction f with
  | zero =>
    intro g l hf _
    obtain rfl : l = [] := List.eq_nil_of_length_eq_zero (by omega)
    cases g <;> rfl
  | succ f ih =>
    intro g l hf hg
    by_cases h : l = []
    · subst h; cases g <;> rfl
    · have hl := List.length_pos_iff.2 h
      obtain ⟨g, rfl⟩ : ∃ k, g = k + 1 := ⟨g - 1, by omega⟩
      have := dec_pos l h
      simp only [runesOk]
      rw [if_neg h, if_neg h, ih g _ (by rw [List.length_drop]; omega) (by rw [List.length_drop]; omega)]
def okL (l : List UInt8) : Bool := runesOk l.length l
theorem okL_step (l : List UInt8) (h : l ≠ []) : okL l = (isR (rng 0) (decL l).1 && okL (l.drop (decL l).2)) := by
  have hl := List.length_pos_iff.2 h
  have := dec_pos l h
  unfold okL
  obtain ⟨f, hf⟩ : ∃ f, l.length = f + 1 := ⟨l.length - 1, by omega⟩
  rw [hf]
  simp only [runesOk]
  rw [if_neg h, runesOk_fuel f (l.drop (decL l).2).length _ (by rw [List.length_drop]; omega) (Nat.le_refl _)]
def textsB (l : List UInt8) : Bool := okL l && Lib.validD l
theorem textsB_nil : textsB [] = true := rfl
theorem decodeL_dec (l : List UInt8) : Lib.decodeL l = decL l := by
  have := decL_str l 0
  rw [List.drop_zero] at this
  rw [this]; rfl
theorem textsB_good (l : List UInt8) (h : l ≠ []) (hg : ¬ ((decL l).1 = 65533 ∧ (decL l).2 = 1)) : textsB l = (isR (rng 0) (decL l).1 && textsB (l.drop (decL l).2)) := by
  unfold textsB
  rw [okL_step l h, Lib.validD_step l h, decodeL_dec, if_neg hg, Bool.and_assoc]
theorem textsB_wrong (l : List UInt8) (h : l ≠ []) (hg : (decL l).1 = 65533 ∧ (decL l).2 = 1) : textsB l = false := by
  unfold textsB
  rw [Lib.validD_step l h, decodeL_dec, if_pos hg, Bool.and_false]
theorem encU_ne (r : Nat) (x : List UInt8) : encU r ++ x ≠ [] := by
  have := (encN_ne r).1
  intro e
  have h3 : (encU r ++ x).length = 0 := by rw [e]; rfl
  rw [List.length_append, encU, List.length_map] at h3
  omega
theorem texts_enc (r : Nat) (h : chr r) (x : List UInt8) : textsB (encU r ++ x) = (isR (rng 0) r && textsB x) := by
  have hd := dec_enc r h x
  rw [textsB_good _ (encU_ne r x) (by
    rw [hd]
    rintro ⟨h1, h2⟩
    simp only at h1 h2
    rw [h1] at h2
    exact absurd h2 (by decide)), hd]
  simp only
  rw [List.drop_append_of_le_length (by simp [encU]), List.drop_of_length_le (by simp [encU]), List.nil_append]
theorem texts_bad (b : UInt8) (x : List UInt8) (h : ∀ r y, chr r → b :: x ≠ encU r ++ y) : textsB (b :: x) = false := by
  apply textsB_wrong _ (by simp)
  rcases dec_inv (b :: x) (by simp) with ⟨h1, h2, _⟩ | h1
  · exact absurd h2 (h _ _ h1)
  · rw [h1]; exact ⟨rfl, rfl⟩
theorem texts_asc (t x : List UInt8) (h : ∀ d ∈ t, d.toNat < 128) : textsB (t ++ x) = ((t.all fun d => isR (rng 0) d.toNat) && textsB x) := by
  induction t with
  | nil => simp
  | cons d t ih =>
    have hd := h d (by simp)
    have e := texts_enc d.toNat (.inl (by omega)) (t ++ x)
    rw [encU_low d hd] at e
    rw [List.cons_append, show d :: (t ++ x) = [d] ++ (t ++ x) by rfl, e, ih (fun y hy => h y (by simp [hy])), List.all_cons, Bool.and_assoc]

theorem texts_repl {ps : List (UInt8 × ByteArray)} (ha : Asc ps) (hok : ∀ b : UInt8, b.toNat < 128 → ((form ps b).all fun d => isR (rng 0) d.toNat) = isR (rng 0) b.toNat) : ∀ (n : Nat) (l : List UInt8), l.length ≤ n → textsB (replL ps l) = textsB l := by
  intro n
  induction n with
  | zero =>
    intro l hl
    obtain rfl : l = [] := List.eq_nil_of_length_eq_zero (by omega)
    rfl
  | succ n ih =>
    intro l hl
    rcases l with _ | ⟨b, x⟩
    · rfl
    · by_cases hg : ∃ r y, chr r ∧ b :: x = encU r ++ y
      · obtain ⟨r, y, hr, e⟩ := hg
        have hy : y.length ≤ n := by
          have := congrArg List.length e
          have h1 := (encN_ne r).1
          simp only [List.length_cons, List.length_append, encU, List.length_map] at this hl
          omega
        by_cases h128 : r < 128
        · have hb : encU r = [UInt8.ofNat r] := by unfold encU encN; rw [if_pos h128]; rfl
          have hbn : (UInt8.ofNat r).toNat = r := toNat_of r (by omega)
          obtain ⟨c, t, e1, hc, ht⟩ := ha.low (UInt8.ofNat r) (by rw [hbn]; exact h128)
          have ho := hok (UInt8.ofNat r) (by rw [hbn]; exact h128)
          have e2 : ∀ z, replL ps ([UInt8.ofNat r] ++ z) = (c :: t) ++ replL ps z := by
            intro z; unfold replL; rw [List.flatMap_append]; simp [e1]
          rw [e, texts_enc r hr, hb, e2, texts_asc (c :: t) _ (by intro d hd; rcases List.mem_cons.1 hd with rfl | hd; exact hc; exact ht d hd), ih y hy, ← e1, ho, hbn]
        · have hh := encU_high r (by omega) hr
          rw [e, replL_high ha _ _ hh, texts_enc r hr, texts_enc r hr, ih y hy]
      · have hb : ∀ r y, chr r → b :: x ≠ encU r ++ y := fun r y hr e => hg ⟨r, y, hr, e⟩
        have hb128 : 128 ≤ b.toNat := by
          rcases Nat.lt_or_ge b.toNat 128 with h | h
          · exact absurd (by rw [encU_low b h]; rfl) (hb b.toNat x (.inl (by omega)))
          · exact h
        have e1 : replL ps (b :: x) = b :: replL ps x := replL_high ha [b] x (by intro d hd; rw [List.mem_singleton] at hd; rw [hd]; exact hb128)
        have hb2 : ∀ r y, chr r → b :: replL ps x ≠ encU r ++ y := by
          intro r y hr e
          have hr128 : 128 ≤ r := by
            rcases Nat.lt_or_ge r 128 with h | h
            · have : encU r = [UInt8.ofNat r] := by unfold encU encN; rw [if_pos h]; rfl
              rw [this] at e
              simp only [List.cons_append, List.nil_append, List.cons.injEq] at e
              have h3 := toNat_of r (by omega)
              rw [← e.1] at h3
              omega
            · exact h
          have hh := encU_high r hr128 hr
          rcases hu : encU r with _ | ⟨c, cs⟩
          · have := (encN_ne r).1
            have h5 := congrArg List.length hu
            simp [encU] at h5
            rw [h5] at this
            simp at this
          · rw [hu] at e hh
            simp only [List.cons_append, List.cons.injEq] at e
            obtain ⟨rfl, e⟩ := e
            obtain ⟨x', rfl, _⟩ := replL_back ha cs (fun d hd => hh d (by simp [hd])) x y e
            exact hb r x' hr (by rw [hu]; rfl)
        rw [e1, texts_bad b _ hb2, texts_bad b x hb]
theorem asc_value : Asc valuePs := asc_of _ (by decide +kernel)
theorem texts_text (l : List UInt8) : textsB (replL textPs l) = textsB l :=
  texts_repl asc_text (fun b _ => all_bytes (p := fun b => b.toNat < 128 → ((form textPs b).all fun d => isR (rng 0) d.toNat) = isR (rng 0) b.toNat) (by decide +kernel) b ‹_›) _ l (Nat.le_refl _)
theorem texts_value (l : List UInt8) : textsB (replL valuePs l) = textsB l :=
  texts_repl asc_value (fun b _ => all_bytes (p := fun b => b.toNat < 128 → ((form valuePs b).all fun d => isR (rng 0) d.toNat) = isR (rng 0) b.toNat) (by decide +kernel) b ‹_›) _ l (Nat.le_refl _)

end Go.Proofs.YtklpihaelaagpaaDoor

namespace Go.Proofs.YtklpihaelaagpaaDoor
open Go.RowKit

def leadN (x : Nat) : Nat × Nat × Nat :=
  if x < 128 then (1, x, 0) else if 192 ≤ x ∧ x < 224 then (2, x - 192, 128) else if 224 ≤ x ∧ x < 240 then (3, x - 224, 2048) else if 240 ≤ x ∧ x < 248 then (4, x - 240, 65536) else (0, 0, 0)
def contN : List UInt8 → Nat → Option Nat
  | [], a => some a
  | y :: l, a => if y.toNat < 128 ∨ 191 < y.toNat then none else contN l (a * 64 + (y.toNat - 128))
def widN : Nat → Nat × Nat → Nat × Nat
  | 0, p => p
  | k + 1, p => widN k (p.1 * 64, p.2 * 64 + 63)
def spanL : List UInt8 → Nat × Nat
  | [] => (1, 0)
  | x :: l =>
    if 4 < l.length + 1 ∨ (leadN x.toNat).1 < l.length + 1 then (1, 0)
    else match contN l (leadN x.toNat).2.1 with
      | none => (1, 0)
      | some a => (max (widN ((leadN x.toNat).1 - (l.length + 1)) (a, a)).1 (leadN x.toNat).2.2, min (widN ((leadN x.toNat).1 - (l.length + 1)) (a, a)).2 1114111)

theorem contN_cons (y : UInt8) (l : List UInt8) (a : Nat) (h : 128 ≤ y.toNat ∧ y.toNat ≤ 191) : contN (y :: l) a = contN l (a * 64 + (y.toNat - 128)) := by
  simp only [contN]
  rw [if_neg (by omega)]
theorem span_full (x : UInt8) (l : List UInt8) (n f m a : Nat) (h0 : leadN x.toNat = (n, f, m)) (h1 : l.length + 1 = n) (h4 : n ≤ 4) (h2 : contN l f = some a) : spanL (x :: l) = (max a m, min a 1114111) := by
  simp only [spanL]
  rw [h0]
  simp only
  rw [h1, h2, if_neg (by omega), Nat.sub_self]
  rfl
set_option maxHeartbeats 2000000 in
theorem span_enc (r : Nat) (h : r ≤ 1114111) : spanL (encU r) = (r, r) := by
  unfold encU encN
  by_cases h1 : r < 128
  · rw [if_pos h1]
    simp only [List.map_cons, List.map_nil]
    have e0 := toNat_of r (by omega)
    rw [span_full _ [] 1 r 0 r (by rw [e0]; unfold leadN; rw [if_pos h1]) rfl (by decide) rfl]
    simp only [Prod.mk.injEq]
    omega
  · rw [if_neg h1]
    by_cases h2 : r < 2048
    · rw [if_pos h2]
      simp only [List.map_cons, List.map_nil]
      have e0 := toNat_of (192 + r / 64) (by omega)
      have e1 := toNat_of (128 + r % 64) (by omega)
      rw [span_full _ _ 2 (192 + r / 64 - 192) 128 r (by rw [e0]; unfold leadN; rw [if_neg (by omega), if_pos (by omega)]) rfl (by decide)
        (by rw [contN_cons _ _ _ (by omega), e1]; simp only [contN, Option.some.injEq]; omega)]
      simp only [Prod.mk.injEq]
      omega
    · rw [if_neg h2]
      by_cases h3 : r < 65536
      · rw [if_pos h3]
        simp only [List.map_cons, List.map_nil]
        have e0 := toNat_of (224 + r / 4096) (by omega)
        have e1 := toNat_of (128 + r / 64 % 64) (by omega)
        have e2 := toNat_of (128 + r % 64) (by omega)
        rw [span_full _ _ 3 (224 + r / 4096 - 224) 2048 r (by rw [e0]; unfold leadN; rw [if_neg (by omega), if_neg (by omega), if_pos (by omega)]) rfl (by decide)
          (by rw [contN_cons _ _ _ (by omega), contN_cons _ _ _ (by omega), e1, e2]; simp only [contN, Option.some.injEq]; omega)]
        simp only [Prod.mk.injEq]
        omega
      · rw [if_neg h3]
        simp only [List.map_cons, List.map_nil]
        have e0 := toNat_of (240 + r / 262144) (by omega)
        have e1 := toNat_of (128 + r / 4096 % 64) (by omega)
        have e2 := toNat_of (128 + r / 64 % 64) (by omega)
        have e3 := toNat_of (128 + r % 64) (by omega)
        rw [span_full _ _ 4 (240 + r / 262144 - 240) 65536 r (by rw [e0]; unfold leadN; rw [if_neg (by omega), if_neg (by omega), if_neg (by omega), if_pos (by omega)]) rfl (by decide)
          (by rw [contN_cons _ _ _ (by omega), contN_cons _ _ _ (by omega), contN_cons _ _ _ (by omega), e1, e2, e3]; simp only [contN, Option.some.injEq]; omega)]
        simp only [Prod.mk.injEq]
        omega
theorem widN_le : ∀ (k : Nat) (p : Nat × Nat), p.1 ≤ p.2 → (widN k p).1 ≤ (widN k p).2
  | 0, _, h => h
  | k + 1, p, h => widN_le k _ (by simp only; omega)
theorem span_same (l : List UInt8) (h : (spanL l).1 = (spanL l).2) : (spanL l).1 ≤ 1114111 := by
  rw [h]
  rcases l with _ | ⟨x, l⟩
  · simp [spanL]
  · simp only [spanL]
    split
    · decide
    · split
      · decide
      · simp only; omega
theorem enc_head (r q : Nat) (hr : r ≤ 1114111) (hq : q ≤ 1114111) (y z : List UInt8) (h : encU r ++ y = encU q ++ z) : (encN r).length = (encN q).length := by
  have h2 := congrArg (List.map UInt8.toNat) h
  rw [List.map_append, List.map_append] at h2
  have hm : ∀ r, r ≤ 1114111 → (encU r).map UInt8.toNat = encN r := by
    intro r hr
    unfold encU
    rw [List.map_map]
    have : ∀ l : List Nat, (∀ x ∈ l, x < 256) → l.map (UInt8.toNat ∘ UInt8.ofNat) = l := by
      intro l
      induction l with
      | nil => intro _; rfl
      | cons a l ih => intro hl; rw [List.map_cons, ih (fun x hx => hl x (by simp [hx]))]; congr 1; exact toNat_of a (hl a (by simp))
    exact this _ (encN_byte r hr)
  rw [hm r hr, hm q hq] at h2
  clear h
  unfold encN at h2 ⊢
  by_cases a1 : r < 128
  · rw [if_pos a1] at h2 ⊢
    by_cases b1 : q < 128
    · rw [if_pos b1]; rfl
    · rw [if_neg b1] at h2 ⊢
      by_cases b2 : q < 2048
      · rw [if_pos b2] at h2; simp only [List.cons_append, List.cons.injEq] at h2; omega
      · rw [if_neg b2] at h2
        by_cases b3 : q < 65536
        · rw [if_pos b3] at h2; simp only [List.cons_append, List.cons.injEq] at h2; omega
        · rw [if_neg b3] at h2; simp only [List.cons_append, List.cons.injEq] at h2; omega
  · rw [if_neg a1] at h2 ⊢
    by_cases a2 : r < 2048
    · rw [if_pos a2] at h2 ⊢
      by_cases b1 : q < 128
      · rw [if_pos b1] at h2; simp only [List.cons_append, List.cons.injEq] at h2; omega
      · rw [if_neg b1] at h2 ⊢
        by_cases b2 : q < 2048
        · rw [if_pos b2]; rfl
        · rw [if_neg b2] at h2
          by_cases b3 : q < 65536
          · rw [if_pos b3] at h2; simp only [List.cons_append, List.cons.injEq] at h2; omega
          · rw [if_neg b3] at h2; simp only [List.cons_append, List.cons.injEq] at h2; omega
    · rw [if_neg a2] at h2 ⊢
      by_cases a3 : r < 65536
      · rw [if_pos a3] at h2 ⊢
        by_cases b1 : q < 128
        · rw [if_pos b1] at h2; simp only [List.cons_append, List.cons.injEq] at h2; omega
        · rw [if_neg b1] at h2 ⊢
          by_cases b2 : q < 2048
          · rw [if_pos b2] at h2; simp only [List.cons_append, List.cons.injEq] at h2; omega
          · rw [if_neg b2] at h2 ⊢
            by_cases b3 : q < 65536
            · rw [if_pos b3]; rfl
            · rw [if_neg b3] at h2; simp only [List.cons_append, List.cons.injEq] at h2; omega
      · rw [if_neg a3] at h2 ⊢
        by_cases b1 : q < 128
        · rw [if_pos b1] at h2; simp only [List.cons_append, List.cons.injEq] at h2; omega
        · rw [if_neg b1] at h2 ⊢
          by_cases b2 : q < 2048
          · rw [if_pos b2] at h2; simp only [List.cons_append, List.cons.injEq] at h2; omega
          · rw [if_neg b2] at h2 ⊢
            by_cases b3 : q < 65536
            · rw [if_pos b3] at h2; simp only [List.cons_append, List.cons.injEq] at h2; omega
            · rw [if_neg b3]; rfl

def hitN (l : List UInt8) (n : Nat) : Bool := (spanL (l.take n)).1 == (spanL (l.take n)).2 && encU (spanL (l.take n)).1 == l.take n
def surr (r : Nat) : Bool := decide (55296 ≤ r ∧ r ≤ 57343)
def readR (l : List UInt8) : Nat → Nat → Nat × Nat
  | 0, _ => (0, 0)
  | f + 1, n => if n ≤ 4 ∧ n ≤ l.length then (if hitN l n = true then (if surr (spanL (l.take n)).1 = true then (0, 0) else ((spanL (l.take n)).1, n)) else readR l f (n + 1)) else (0, 0)
theorem hit_inv (l : List UInt8) (n : Nat) (h : hitN l n = true) : ∃ r, r ≤ 1114111 ∧ (spanL (l.take n)).1 = r ∧ l.take n = encU r ∧ l = encU r ++ l.drop n := by
  unfold hitN at h
  simp only [Bool.and_eq_true, beq_iff_eq] at h
  refine ⟨_, span_same _ h.1, rfl, h.2.symm, ?_⟩
  rw [h.2, List.take_append_drop]
theorem readR_bad (l : List UInt8) (hb : (decL l).1 = 65533 ∧ (decL l).2 = 1) : ∀ f n, readR l f n = (0, 0)
  | 0, _ => rfl
  | f + 1, n => by
    simp only [readR]
    split
    · by_cases h : hitN l n = true
      · rw [if_pos h]
        obtain ⟨r, hr, e, _, hl⟩ := hit_inv l n h
        rw [e]
        by_cases hs : surr r = true
        · rw [if_pos hs]
        · exfalso
          have hc : chr r := by
            unfold surr at hs
            simp only [decide_eq_true_eq] at hs
            unfold chr; omega
          have hd := dec_enc r hc (l.drop n)
          rw [← hl] at hd
          rw [hd] at hb
          simp only at hb
          obtain ⟨rfl, h2⟩ := hb
          exact absurd h2 (by decide)
      · rw [if_neg h]
        exact readR_bad l hb f (n + 1)
    · rfl
theorem readR_good (l : List UInt8) (h : l ≠ []) (hg : ¬ ((decL l).1 = 65533 ∧ (decL l).2 = 1)) : ∀ f n, n ≤ (decL l).2 → (decL l).2 < f + n → readR l f n = decL l := by
  obtain ⟨hc, hl, hn⟩ : chr (decL l).1 ∧ l = encU (decL l).1 ++ l.drop (decL l).2 ∧ (decL l).2 = (encN (decL l).1).length := by
    rcases dec_inv l h with hi | hi
    · exact hi
    · exact absurd (by rw [hi]; exact ⟨rfl, rfl⟩) hg
  have hll : (decL l).2 ≤ l.length := by
    have := congrArg List.length hl
    rw [List.length_append, encU, List.length_map, ← hn] at this
    omega
  have h4 := (encN_ne (decL l).1).2
  intro f
  induction f with
  | zero => intro n h1 h2; omega
  | succ f ih =>
    intro n h1 h2
    simp only [readR]
    rw [if_pos (by omega)]
    by_cases hh : hitN l n = true
    · rw [if_pos hh]
      obtain ⟨r, hr, e, ht, hl2⟩ := hit_inv l n hh
      have h3 := enc_head r (decL l).1 hr (chr_le hc) (l.drop n) (l.drop (decL l).2) (by rw [← hl2, ← hl])
      have h5 := congrArg List.length ht
      rw [List.length_take, encU, List.length_map, h3, ← hn] at h5
      have h6 : n = (decL l).2 := by omega
      have h7 : encU r = encU (decL l).1 := by
        rw [← ht, h6]
        have := congrArg (List.take (decL l).2) hl
        rw [this, List.take_append_of_le_length (by simp [encU, hn]), List.take_of_length_le (by simp [encU, hn])]
      have h8 := congrArg spanL h7
      rw [span_enc r hr, span_enc _ (chr_le hc)] at h8
      simp only [Prod.mk.injEq] at h8
      rw [e, h8.1]
      have hs : surr (decL l).1 = false := by unfold surr; unfold chr at hc; simp only [decide_eq_false_iff_not]; omega
      rw [hs, h6]
      simp
    · rw [if_neg hh]
      by_cases h6 : n = (decL l).2
      · exfalso
        apply hh
        have ht : l.take n = encU (decL l).1 := by
          rw [h6]
          have := congrArg (List.take (decL l).2) hl
          rw [this, List.take_append_of_le_length (by simp [encU, hn]), List.take_of_length_le (by simp [encU, hn])]
        unfold hitN
        rw [ht, span_enc _ (chr_le hc)]
        simp
      · exact ih (n + 1) (by omega) (by omega)
def textsR : Nat → List UInt8 → Bool
  | 0, _ => true
  | f + 1, l => if l = [] then true else if (readR l 4 1).2 = 0 ∨ isR (rng 0) (readR l 4 1).1 = false then false else textsR f (l.drop (readR l 4 1).2)
theorem textsR_eq (f : Nat) : ∀ l : List UInt8, l.length ≤ f → textsR f l = textsB l := by
  induction f with
  | zero =>
    intro l h
    obtain rfl : l = [] := List.eq_nil_of_length_eq_zero (by omega)
    rfl
  | succ f ih =>
    intro l h
    simp only [textsR]
    by_cases h0 : l = []
    · subst h0; rfl
    · rw [if_neg h0]
      by_cases hg : (decL l).1 = 65533 ∧ (decL l).2 = 1
      · rw [readR_bad l hg, textsB_wrong l h0 hg]
        simp
      · have hp := dec_pos l h0
        have h4 : (decL l).2 ≤ 4 := by
          rcases dec_inv l h0 with ⟨_, _, hi⟩ | hi
          · rw [hi]; exact (encN_ne _).2
          · rw [hi]; decide
        have hl := List.length_pos_iff.2 h0
        rw [readR_good l h0 hg 4 1 hp (by omega), textsB_good l h0 hg, ih _ (by rw [List.length_drop]; omega)]
        cases hi : isR (rng 0) (decL l).1 with
        | false => simp
        | true => rw [if_neg (by simp; omega)]; simp

end Go.Proofs.YtklpihaelaagpaaDoor

namespace Go.Proofs.YtklpihaelaagpaaDoor
open Go.RowKit

def clsF : Nat → Nat → List UInt8 → Bool
  | 0, _, _ => true
  | f + 1, c, l => if l = [] then true else isR (rng c) (decL l).1 && clsF f 3 (l.drop (decL l).2)
theorem clsF_fuel (f : Nat) : ∀ (g c : Nat) (l : List UInt8), l.length ≤ f → l.length ≤ g → clsF f c l = clsF g c l := by
  induction f with
  | zero =>
    intro g c l hf _
    obtain rfl : l = [] := List.eq_nil_of_length_eq_zero (by omega)
    cases g <;> rfl
  | succ f ih =>
    intro g c l hf hg
    by_cases h : l = []
    · subst h; cases g <;> rfl
    · have hl := List.length_pos_iff.2 h
      obtain ⟨g, rfl⟩ : ∃ k, g = k + 1 := ⟨g - 1, by omega⟩
      have := dec_pos l h
      simp only [clsF]
      rw [if_neg h, if_neg h, ih g 3 _ (by rw [List.length_drop]; omega) (by rw [List.length_drop]; omega)]
def clsL (c : Nat) (l : List UInt8) : Bool := clsF l.length c l
theorem clsL_nil (c : Nat) : clsL c [] = true := rfl
theorem clsL_step (c : Nat) (l : List UInt8) (h : l ≠ []) : clsL c l = (isR (rng c) (decL l).1 && clsL 3 (l.drop (decL l).2)) := by
  have hl := List.length_pos_iff.2 h
  have := dec_pos l h
  unfold clsL
  obtain ⟨f, hf⟩ : ∃ f, l.length = f + 1 := ⟨l.length - 1, by omega⟩
  rw [hf]
  simp only [clsF]
  rw [if_neg h, clsF_fuel f (l.drop (decL l).2).length 3 _ (by rw [List.length_drop]; omega) (Nat.le_refl _)]
def nameB (l : List UInt8) : Bool := !l.isEmpty && (clsL 2 l && Lib.validD l)
def allC : Nat → Nat → List UInt8 → Bool
  | 0, _, _ => true
  | f + 1, c, l => if l = [] then true else if (readR l 4 1).2 = 0 ∨ isR (rng c) (readR l 4 1).1 = false then false else allC f 3 (l.drop (readR l 4 1).2)
theorem allC_succ (f c : Nat) (l : List UInt8) : allC (f + 1) c l = if l = [] then true else if (readR l 4 1).2 = 0 ∨ isR (rng c) (readR l 4 1).1 = false then false else allC f 3 (l.drop (readR l 4 1).2) := rfl
theorem allC_nil (f c : Nat) : allC f c [] = true := by cases f <;> rfl
theorem allC_eq (f : Nat) : ∀ (c : Nat) (l : List UInt8), l.length ≤ f → allC f c l = (clsL c l && Lib.validD l) := by
  induction f with
  | zero =>
    intro c l h
    obtain rfl : l = [] := List.eq_nil_of_length_eq_zero (by omega)
    rfl
  | succ f ih =>
    intro c l h
    rw [allC_succ]
    by_cases h0 : l = []
    · subst h0; rfl
    · rw [if_neg h0]
      by_cases hg : (decL l).1 = 65533 ∧ (decL l).2 = 1
      · rw [readR_bad l hg, Lib.validD_step l h0, decodeL_dec, if_pos hg]
        simp
      · have hp := dec_pos l h0
        have h4 : (decL l).2 ≤ 4 := by
          rcases dec_inv l h0 with ⟨_, _, hi⟩ | hi
          · rw [hi]; exact (encN_ne _).2
          · rw [hi]; decide
        have hl := List.length_pos_iff.2 h0
        rw [readR_good l h0 hg 4 1 hp (by omega), clsL_step c l h0, Lib.validD_step l h0, decodeL_dec, if_neg hg, ih 3 _ (by rw [List.length_drop]; omega)]
        cases hi : isR (rng c) (decL l).1 with
        | false => simp
        | true => rw [if_neg (by simp; omega)]; simp
theorem allC_fuel (f g c : Nat) (l : List UInt8) (hf : l.length ≤ f) (hg : l.length ≤ g) : allC f c l = allC g c l := by rw [allC_eq f c l hf, allC_eq g c l hg]
theorem nameB_ref (l : List UInt8) : nameB l = (!l.isEmpty && allC l.length 2 l) := by
  unfold nameB; rw [allC_eq _ 2 l (Nat.le_refl _)]
end Go.Proofs.YtklpihaelaagpaaDoor

namespace Go.Proofs.YtklpihaelaagpaaDoor

def goodTB (l : List UInt8) : Bool := Lib.validD l && !(decide (0 ≤ Lib.indexByte l 39) && decide (0 ≤ Lib.indexByte l 34))
def goodCB (c : Int) (t : List UInt8) (n : Int) : Bool :=
  if c = 0 then t.isEmpty && n == 0
  else if 1 ≤ c ∧ c ≤ 5 then goodTB t && n == 0
  else if 6 ≤ c ∧ c ≤ 8 then t.isEmpty && decide (0 ≤ n) && decide (n ≤ 1000000)
  else false
def goodSB (g : PX → Bool) (s : PS) : Bool :=
  (decide (0 ≤ s.axis) && decide (s.axis ≤ 3) && decide (0 ≤ s.test) && decide (s.test ≤ 3)) && (if s.test = 0 then nameB s.name else s.name.isEmpty) && s.wher.all g
def goodPB (g : PX → Bool) (ss : List PS) : Bool := !ss.isEmpty && ss.all (goodSB g)
def bareB (x : PX) : Bool := x.path.isEmpty && x.attr.isEmpty && x.cmp == 0 && x.text.isEmpty && x.num == 0
def goodXB : Nat → PX → Bool
  | 0, _ => false
  | f + 1, x =>
    if x.op = 3 then x.args.isEmpty && goodPB (goodXB f) x.path && (x.attr.isEmpty || nameB x.attr) && goodCB x.cmp x.text x.num
    else bareB x && (if x.op = 0 ∨ x.op = 1 then decide (2 ≤ x.args.length) else if x.op = 2 then decide (x.args.length = 1) else false) && x.args.all (goodXB f)
def brackB (whole part : Int) : Bool := (part == 1 && whole != 2) || (whole == 0 && part == 0)
def maxN (l : List Nat) : Nat := l.foldl max 0
theorem maxN_snoc (l : List Nat) (x : Nat) : maxN (l ++ [x]) = max (maxN l) x := by unfold maxN; rw [List.foldl_append]; rfl
theorem maxN_le {l : List Nat} {B : Nat} (h : ∀ x ∈ l, x ≤ B) : maxN l ≤ B := by
  unfold maxN
  have : ∀ (l : List Nat) (a : Nat), a ≤ B → (∀ x ∈ l, x ≤ B) → l.foldl max a ≤ B := by
    intro l
    induction l with
    | nil => intro a ha _; exact ha
    | cons x l ih => intro a ha hl; exact ih _ (Nat.max_le.2 ⟨ha, hl x List.mem_cons_self⟩) fun y hy => hl y (List.mem_cons_of_mem _ hy)
  exact this l 0 (Nat.zero_le _) h
def deepPN (d : PX → Nat) (ss : List PS) : Nat := maxN (ss.map fun s => maxN (s.wher.map fun x => d x + 1))
def deepXN : Nat → PX → Nat
  | 0, _ => 0
  | f + 1, x =>
    if x.op = 3 then deepPN (deepXN f) x.path + (if 3 ≤ x.cmp then 1 else 0)
    else if x.op = 2 then (match x.args with | [] => 0 | y :: _ => deepXN f y + 1)
    else maxN (x.args.map fun y => deepXN f y + (if brackB x.op y.op then 1 else 0))
theorem deepXN_le : ∀ (f : Nat) (x : PX), deepXN f x ≤ 2 * f
  | 0, _ => Nat.zero_le _
  | f + 1, x => by
    unfold deepXN
    split
    · have : deepPN (deepXN f) x.path ≤ 2 * f + 1 := by
        refine maxN_le fun n hn => ?_
        obtain ⟨s, _, rfl⟩ := List.mem_map.1 hn
        refine maxN_le fun m hm => ?_
        obtain ⟨y, _, rfl⟩ := List.mem_map.1 hm
        have := deepXN_le f y; omega
      split <;> omega
    · split
      · split
        · omega
        · rename_i y _ _; have := deepXN_le f y; omega
      · refine Nat.le_trans (maxN_le (B := 2 * f + 1) fun n hn => ?_) (by omega)
        obtain ⟨y, _, rfl⟩ := List.mem_map.1 hn
        have := deepXN_le f y
        split <;> omega
def checkB (f : Nat) (ss : List PS) : Bool := goodPB (goodXB f) ss && decide (deepPN (deepXN f) ss ≤ 200)
def checkN (f : Nat) (ss : List PS) : Int := if checkB f ss then 0 else 6
end Go.Proofs.YtklpihaelaagpaaDoor
