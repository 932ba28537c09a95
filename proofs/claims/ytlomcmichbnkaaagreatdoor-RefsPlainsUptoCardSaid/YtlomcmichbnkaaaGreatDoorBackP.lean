/-
  The plain law of RefsBack: what is written is read back as itself; what holds other characters stays so.
-/
import Derived.Test.YtlomcmichbnkaaaGreatDoorPiecesP
import Derived.Lib.ValidLaws
import Derived.Lib.Bytealg
namespace Go.Proofs.YtlomcmichbnkaaaGreatDoor
open Go.RowKit

/-- are all characters that are read allowed? -/
def runesOk : Nat → List UInt8 → Bool
  | 0, _ => true
  | f + 1, l => if l = [] then true else isR (rng 0) (decL l).1 && runesOk f (l.drop (decL l).2)
theorem runesOk_fuel (f : Nat) : ∀ (g : Nat) (l : List UInt8), l.length ≤ f → l.length ≤ g → runesOk f l = runesOk g l := by
  induction f with
  | zero =>
    intro g l hf _
    obtain rfl : l = [] := List.eq_nil_of_length_eq_zero (by omega)
    cases g <;> rfl
  | succ f ih =>
    intro g l hf hg
    by_cases h : l = []
    · subst h; cases g <;> rfl
    · have hl := List.length_pos_iff.2 h
      obtain ⟨g, rfl⟩ : ∃ k, g = k + 1 := ⟨g - 1, by omega⟩
      have := dec_pos l h
      simp only [runesOk]
      rw [if_neg h, if_neg h, ih g _ (by rw [List.length_drop]; omega) (by rw [List.length_drop]; omega)]
def okL (l : List UInt8) : Bool := runesOk l.length l
theorem okL_step (l : List UInt8) (h : l ≠ []) : okL l = (isR (rng 0) (decL l).1 && okL (l.drop (decL l).2)) := by
  have hl := List.length_pos_iff.2 h
  have := dec_pos l h
  unfold okL
  obtain ⟨f, hf⟩ : ∃ f, l.length = f + 1 := ⟨l.length - 1, by omega⟩
  rw [hf]
  simp only [runesOk]
  rw [if_neg h, runesOk_fuel f (l.drop (decL l).2).length _ (by rw [List.length_drop]; omega) (Nat.le_refl _)]
/-- what chars.Texts says -/
def textsB (l : List UInt8) : Bool := okL l && Lib.validD l
theorem textsB_nil : textsB [] = true := rfl
theorem decodeL_dec (l : List UInt8) : Lib.decodeL l = decL l := by
  have := decL_str l 0
  rw [List.drop_zero] at this
  rw [this]; rfl
theorem textsB_good (l : List UInt8) (h : l ≠ []) (hg : ¬ ((decL l).1 = 65533 ∧ (decL l).2 = 1)) : textsB l = (isR (rng 0) (decL l).1 && textsB (l.drop (decL l).2)) := by
  unfold textsB
  rw [okL_step l h, Lib.validD_step l h, decodeL_dec, if_neg hg, Bool.and_assoc]
theorem textsB_wrong (l : List UInt8) (h : l ≠ []) (hg : (decL l).1 = 65533 ∧ (decL l).2 = 1) : textsB l = false := by
  unfold textsB
  rw [Lib.validD_step l h, decodeL_dec, if_pos hg, Bool.and_false]
theorem encU_ne (r : Nat) (x : List UInt8) : encU r ++ x ≠ [] := by
  have := (encN_ne r).1
  intro e
  have h3 : (encU r ++ x).length = 0 := by rw [e]; rfl
  rw [List.length_append, encU, List.length_map] at h3
  omega
theorem texts_enc (r : Nat) (h : chr r) (x : List UInt8) : textsB (encU r ++ x) = (isR (rng 0) r && textsB x) := by
  have hd := dec_enc r h x
  rw [textsB_good _ (encU_ne r x) (by
    rw [hd]
    rintro ⟨h1, h2⟩
    simp only at h1 h2
    rw [h1] at h2
    exact absurd h2 (by decide)), hd]
  simp only
  rw [List.drop_append_of_le_length (by simp [encU]), List.drop_of_length_le (by simp [encU]), List.nil_append]
theorem texts_bad (b : UInt8) (x : List UInt8) (h : ∀ r y, chr r → b :: x ≠ encU r ++ y) : textsB (b :: x) = false := by
  apply textsB_wrong _ (by simp)
  rcases dec_inv (b :: x) (by simp) with ⟨h1, h2, _⟩ | h1
  · exact absurd h2 (h _ _ h1)
  · rw [h1]; exact ⟨rfl, rfl⟩
theorem texts_asc (t x : List UInt8) (h : ∀ d ∈ t, d.toNat < 128) : textsB (t ++ x) = ((t.all fun d => isR (rng 0) d.toNat) && textsB x) := by
  induction t with
  | nil => simp
  | cons d t ih =>
    have hd := h d (by simp)
    have e := texts_enc d.toNat (.inl (by omega)) (t ++ x)
    rw [encU_low d hd] at e
    rw [List.cons_append, show d :: (t ++ x) = [d] ++ (t ++ x) by rfl, e, ih (fun y hy => h y (by simp [hy])), List.all_cons, Bool.and_assoc]

theorem texts_repl {ps : List (UInt8 × ByteArray)} (ha : Asc ps) (hok : ∀ b : UInt8, b.toNat < 128 → ((form ps b).all fun d => isR (rng 0) d.toNat) = isR (rng 0) b.toNat) : ∀ (n : Nat) (l : List UInt8), l.length ≤ n → textsB (replL ps l) = textsB l := by
  intro n
  induction n with
  | zero =>
    intro l hl
    obtain rfl : l = [] := List.eq_nil_of_length_eq_zero (by omega)
    rfl
  | succ n ih =>
    intro l hl
    rcases l with _ | ⟨b, x⟩
    · rfl
    · by_cases hg : ∃ r y, chr r ∧ b :: x = encU r ++ y
      · obtain ⟨r, y, hr, e⟩ := hg
        have hy : y.length ≤ n := by
          have := congrArg List.length e
          have h1 := (encN_ne r).1
          simp only [List.length_cons, List.length_append, encU, List.length_map] at this hl
          omega
        by_cases h128 : r < 128
        · have hb : encU r = [UInt8.ofNat r] := by unfold encU encN; rw [if_pos h128]; rfl
          have hbn : (UInt8.ofNat r).toNat = r := toNat_of r (by omega)
          obtain ⟨c, t, e1, hc, ht⟩ := ha.low (UInt8.ofNat r) (by rw [hbn]; exact h128)
          have ho := hok (UInt8.ofNat r) (by rw [hbn]; exact h128)
          have e2 : ∀ z, replL ps ([UInt8.ofNat r] ++ z) = (c :: t) ++ replL ps z := by
            intro z; unfold replL; rw [List.flatMap_append]; simp [e1]
          rw [e, texts_enc r hr, hb, e2, texts_asc (c :: t) _ (by intro d hd; rcases List.mem_cons.1 hd with rfl | hd; exact hc; exact ht d hd), ih y hy, ← e1, ho, hbn]
        · have hh := encU_high r (by omega) hr
          rw [e, replL_high ha _ _ hh, texts_enc r hr, texts_enc r hr, ih y hy]
      · have hb : ∀ r y, chr r → b :: x ≠ encU r ++ y := fun r y hr e => hg ⟨r, y, hr, e⟩
        have hb128 : 128 ≤ b.toNat := by
          rcases Nat.lt_or_ge b.toNat 128 with h | h
          · exact absurd (by rw [encU_low b h]; rfl) (hb b.toNat x (.inl (by omega)))
          · exact h
        have e1 : replL ps (b :: x) = b :: replL ps x := replL_high ha [b] x (by intro d hd; rw [List.mem_singleton] at hd; rw [hd]; exact hb128)
        have hb2 : ∀ r y, chr r → b :: replL ps x ≠ encU r ++ y := by
          intro r y hr e
          have hr128 : 128 ≤ r := by
            rcases Nat.lt_or_ge r 128 with h | h
            · have : encU r = [UInt8.ofNat r] := by unfold encU encN; rw [if_pos h]; rfl
              rw [this] at e
              simp only [List.cons_append, List.nil_append, List.cons.injEq] at e
              have h3 := toNat_of r (by omega)
              rw [← e.1] at h3
              omega
            · exact h
          have hh := encU_high r hr128 hr
          rcases hu : encU r with _ | ⟨c, cs⟩
          · have := (encN_ne r).1
            have h5 := congrArg List.length hu
            simp [encU] at h5
            rw [h5] at this
            simp at this
          · rw [hu] at e hh
            simp only [List.cons_append, List.cons.injEq] at e
            obtain ⟨rfl, e⟩ := e
            obtain ⟨x', rfl, _⟩ := replL_back ha cs (fun d hd => hh d (by simp [hd])) x y e
            exact hb r x' hr (by rw [hu]; rfl)
        rw [e1, texts_bad b _ hb2, texts_bad b x hb]
theorem asc_value : Asc valuePs := asc_of _ (by decide +kernel)
theorem texts_text (l : List UInt8) : textsB (replL textPs l) = textsB l :=
  texts_repl asc_text (fun b _ => all_bytes (p := fun b => b.toNat < 128 → ((form textPs b).all fun d => isR (rng 0) d.toNat) = isR (rng 0) b.toNat) (by decide +kernel) b ‹_›) _ l (Nat.le_refl _)
theorem texts_value (l : List UInt8) : textsB (replL valuePs l) = textsB l :=
  texts_repl asc_value (fun b _ => all_bytes (p := fun b => b.toNat < 128 → ((form valuePs b).all fun d => isR (rng 0) d.toNat) = isR (rng 0) b.toNat) (by decide +kernel) b ‹_›) _ l (Nat.le_refl _)

/-- is there a < in it? -/
def hasLt (l : List UInt8) : Bool := decide (0 ≤ Lib.indexByte l 60)
theorem indexByte_none (c : UInt8) : ∀ l : List UInt8, (∀ x ∈ l, x ≠ c) → Lib.indexByte l c = -1
  | [], _ => rfl
  | b :: l, h => by
    have hb : (b == c) = false := by simpa using h b (by simp)
    unfold Lib.indexByte
    rw [hb, indexByte_none c l (fun x hx => h x (by simp [hx]))]
    rfl
theorem hasLt_plainly {g : Bool} {l : List UInt8} (h : Plainly g l) : hasLt l = false := by
  unfold hasLt
  rw [indexByte_none 60 l (fun x hx e => by
    obtain ⟨i, hi, rfl⟩ := List.getElem_of_mem hx
    exact (h i _ (List.getElem?_eq_getElem hi)).1 (by rw [e]; rfl))]
  rfl

/-- what strings.Cut at & gives -/
def cutB (l : List UInt8) : List UInt8 × List UInt8 × Bool :=
  if 0 ≤ Lib.indexByte l 38 then (l.take (Lib.indexByte l 38).toNat, l.drop ((Lib.indexByte l 38).toNat + 1), true) else (l, [], false)
theorem cutB_nil : cutB [] = ([], [], false) := rfl
theorem cutB_hit (l : List UInt8) : cutB (38 :: l) = ([], l, true) := by
  unfold cutB
  have : Lib.indexByte (38 :: l) 38 = 0 := rfl
  rw [this]
  simp
theorem cutB_cons (b : UInt8) (l : List UInt8) (h : b ≠ 38) : cutB (b :: l) = (b :: (cutB l).1, (cutB l).2.1, (cutB l).2.2) := by
  have hg := Lib.indexByte_ge l 38
  have hb : (b == 38) = false := by simpa using h
  unfold cutB
  have e : Lib.indexByte (b :: l) 38 = if Lib.indexByte l 38 == -1 then -1 else Lib.indexByte l 38 + 1 := by
    show (if b == 38 then _ else _) = _
    rw [hb]; rfl
  rw [e]
  by_cases h1 : Lib.indexByte l 38 = -1
  · simp [h1]
  · have h0 : 0 ≤ Lib.indexByte l 38 := by omega
    generalize Lib.indexByte l 38 = i at *
    have h2 : (i == -1) = false := by simpa using h1
    rw [h2]
    simp only [Bool.false_eq_true, if_false]
    rw [if_pos (by omega), if_pos h0]
    obtain ⟨k, rfl⟩ : ∃ k : Nat, i = k := ⟨i.toNat, by omega⟩
    rw [show ((k : Int) + 1).toNat = k + 1 by omega, show ((k : Int)).toNat = k by omega]
    simp
theorem cutB_len (l : List UInt8) : (cutB l).1.length + (cutB l).2.1.length + (if (cutB l).2.2 then 1 else 0) = l.length := by
  induction l with
  | nil => rfl
  | cons b l ih =>
    by_cases h : b = 38
    · subst h; rw [cutB_hit]; simp
    · rw [cutB_cons b l h]
      simp only [List.length_cons] at ih ⊢
      omega
theorem cutB_eq (l : List UInt8) (h : (cutB l).2.2 = false) : (cutB l).1 = l := by
  unfold cutB at h ⊢
  split at h
  · simp at h
  · rw [if_neg (by assumption)]

/-- the bytes of a character, in the model's own words -/
def encI (r : Int) : List UInt8 := (Utf8.encode r).data.toList
/-- what Plain's loop gives: the first number bounds the rounds -/
def plainL : Nat → List UInt8 → Option (List UInt8)
  | 0, _ => none
  | f + 1, l =>
    if (cutB l).2.2 = false then some (cutB l).1
    else if (readF (38 :: (cutB l).2.1)).2.2 = 0 then (plainL f ((cutB l).2.1.drop ((readF (38 :: (cutB l).2.1)).2.1.toNat - 1))).map fun x => (cutB l).1 ++ encI (readF (38 :: (cutB l).2.1)).1 ++ x
    else none
theorem plainL_nil (f : Nat) : plainL (f + 1) [] = some [] := rfl
theorem plainL_cons (f : Nat) (b : UInt8) (l : List UInt8) (h : b ≠ 38) : plainL (f + 1) (b :: l) = (plainL (f + 1) l).map (b :: ·) := by
  simp only [plainL]
  rw [cutB_cons b l h]
  simp only
  by_cases h1 : (cutB l).2.2 = false
  · rw [if_pos h1, if_pos h1]; rfl
  · rw [if_neg h1, if_neg h1]
    by_cases h2 : (readF (38 :: (cutB l).2.1)).2.2 = 0
    · rw [if_pos h2, if_pos h2, Option.map_map]; rfl
    · rw [if_neg h2, if_neg h2]; rfl
theorem plainL_ref (f : Nat) (t x : List UInt8) (r : Int) (h : readF (38 :: t) = (r, (t.length : Int) + 1, 0)) : plainL (f + 1) (38 :: (t ++ x)) = (plainL f x).map (encI r ++ ·) := by
  have he : readF (38 :: (t ++ x)) = (r, (t.length : Int) + 1, 0) := by
    rcases readF_cut (38 :: t) with hw | ⟨k, _, _, _, hm⟩
    · have := hw (38 :: t).length (Nat.le_refl _)
      rw [List.take_length, h] at this
      simp at this
    · have := hm x
      rw [List.cons_append] at this
      rw [this, h]
  simp only [plainL]
  rw [cutB_hit]
  simp only
  rw [if_neg (by simp), he]
  simp only
  rw [if_pos trivial, show ((t.length : Int) + 1).toNat - 1 = t.length by omega, List.drop_left]
  rfl
def backB (ps : List (UInt8 × ByteArray)) (b : UInt8) : Bool :=
  match form ps b with
  | [] => false
  | [c] => c == b && b != 38
  | c :: t => c == 38 && readF (38 :: t) == ((b.toNat : Int), (t.length : Int) + 1, 0) && encI (b.toNat : Int) == [b]
theorem back {ps : List (UInt8 × ByteArray)} (hc : ∀ b, backB ps b = true) (l : List UInt8) : ∀ f, l.length < f → plainL f (replL ps l) = some l := by
  induction l with
  | nil => intro f hf; obtain ⟨f, rfl⟩ : ∃ g, f = g + 1 := ⟨f - 1, by simp at hf; omega⟩; rfl
  | cons b l ih =>
    intro f hf
    obtain ⟨f, rfl⟩ : ∃ g, f = g + 1 := ⟨f - 1, by omega⟩
    have e : replL ps (b :: l) = form ps b ++ replL ps l := by simp [replL]
    have hb := hc b
    unfold backB at hb
    rw [e]
    rcases hfm : form ps b with _ | ⟨c, _ | ⟨d, t⟩⟩
    · rw [hfm] at hb; cases hb
    · rw [hfm] at hb
      simp only [Bool.and_eq_true, beq_iff_eq, bne_iff_ne, ne_eq] at hb
      obtain ⟨rfl, h38⟩ := hb
      rw [List.cons_append, List.nil_append, plainL_cons f c _ h38, ih (f + 1) (by simp at hf; omega)]
      rfl
    · rw [hfm] at hb
      simp only [Bool.and_eq_true, beq_iff_eq] at hb
      obtain ⟨⟨rfl, h1⟩, h2⟩ := hb
      rw [List.cons_append, plainL_ref f (d :: t) _ _ h1, ih f (by simp at hf; omega), h2]
      rfl
theorem back_text (l : List UInt8) (f : Nat) (h : l.length < f) : plainL f (replL textPs l) = some l :=
  back (fun b => all_bytes (p := fun b => backB textPs b = true) (by decide +kernel) b) l f h
theorem back_value (l : List UInt8) (f : Nat) (h : l.length < f) : plainL f (replL valuePs l) = some l :=
  back (fun b => all_bytes (p := fun b => backB valuePs b = true) (by decide +kernel) b) l f h
theorem plainL_fuel (f : Nat) : ∀ (l _x : List UInt8), l.length < f → ∀ g, l.length < g → plainL f l = plainL g l := by
  induction f with
  | zero => intro l x h; omega
  | succ f ih =>
    intro l x hf g hg
    obtain ⟨g, rfl⟩ : ∃ k, g = k + 1 := ⟨g - 1, by omega⟩
    simp only [plainL]
    by_cases h1 : (cutB l).2.2 = false
    · rw [if_pos h1, if_pos h1]
    · have hl := cutB_len l
      rw [if_neg h1, if_neg h1]
      simp only [Bool.not_eq_false] at h1
      rw [h1, if_pos rfl] at hl
      rw [ih _ x (by rw [List.length_drop]; omega) g (by rw [List.length_drop]; omega)]

/-- what refs.Plain gives: the text, the error's number -/
def plainA (l : List UInt8) : List UInt8 × Int :=
  if textsB l = true ∧ hasLt l = false then (match plainL (l.length + 1) l with | some x => (x, 0) | none => ([], 6)) else ([], 6)
theorem replL_len {ps : List (UInt8 × ByteArray)} (h : ∀ b, 1 ≤ (form ps b).length) (l : List UInt8) : l.length ≤ (replL ps l).length := by
  induction l with
  | nil => simp
  | cons b l ih =>
    have e : replL ps (b :: l) = form ps b ++ replL ps l := by simp [replL]
    have := h b
    rw [e, List.length_append, List.length_cons]
    omega
theorem plainA_text (l : List UInt8) : plainA (replL textPs l) = if textsB l = true then (l, 0) else ([], 6) := by
  have hl := replL_len (ps := textPs) (fun b => all_bytes (p := fun b => 1 ≤ (form textPs b).length) (by decide +kernel) b) l
  unfold plainA
  rw [texts_text, hasLt_plainly (plainly_text l), back_text l _ (by omega)]
  simp
theorem plainA_value (l : List UInt8) : plainA (replL valuePs l) = if textsB l = true then (l, 0) else ([], 6) := by
  have hl := replL_len (ps := valuePs) (fun b => all_bytes (p := fun b => 1 ≤ (form valuePs b).length) (by decide +kernel) b) l
  unfold plainA
  rw [texts_value, hasLt_plainly (plainly_value l), back_value l _ (by omega)]
  simp
end Go.Proofs.YtlomcmichbnkaaaGreatDoor
