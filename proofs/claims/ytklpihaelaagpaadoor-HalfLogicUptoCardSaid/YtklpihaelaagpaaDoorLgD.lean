/-
  The plain law of Mend and Text: what is written is mended as what is mended is written.
-/
import Derived.Test.YtklpihaelaagpaaDoorLgC
import Derived.Test.YtklpihaelaagpaaDoorLgB
import Derived.Laws.Cover4
import Derived.Test.YtklpihaelaagpaaDoorProg
import Derived.Test.YtklpihaelaagpaaDoorLgA
import Derived.Lib.LaidTab
import Derived.ProofKit
import Derived.OpenShut
import Derived.Deep.MidRow
namespace Go.Proofs.YtklpihaelaagpaaDoor
open Go.RowKit

def decL (l : List UInt8) : Nat × Nat := Lib.decodeN l.length (l.getD 0 0).toNat (l.getD 1 0).toNat (l.getD 2 0).toNat (l.getD 3 0).toNat
theorem get_drop (s : ByteArray) (p k : Nat) : s.get! (p + k) = (s.data.toList.drop p).getD k 0 := by
  rw [List.getD_eq_getElem?_getD, List.getElem?_drop, Array.getElem?_toList]
  show s.data[p + k]! = _
  rw [getElem!_def]
  rcases s.data[p + k]? with _ | v <;> rfl
theorem decode_drop (s : ByteArray) (p : Nat) : Utf8.decode s p = decL (s.data.toList.drop p) := by
  rw [Lib.decode_at]
  unfold decL
  rw [← get_drop, ← get_drop, ← get_drop, ← get_drop, List.length_drop, Array.length_toList]
  rfl

def encU (r : Nat) : List UInt8 := (encN r).map UInt8.ofNat
theorem encN_byte (r : Nat) (h : r ≤ 1114111) : ∀ x ∈ encN r, x < 256 := by
  unfold encN
  intro x hx
  repeat' split at hx
  all_goals simp only [List.mem_cons, List.not_mem_nil, or_false] at hx
  all_goals omega
theorem encN_ne (r : Nat) : 1 ≤ (encN r).length ∧ (encN r).length ≤ 4 := by
  unfold encN
  repeat' split
  all_goals simp
theorem chr_le {r : Nat} (h : chr r) : r ≤ 1114111 := by unfold chr at h; omega
theorem toNat_of (x : Nat) (h : x < 256) : (UInt8.ofNat x).toNat = x := by
  rw [UInt8.toNat_ofNat']; omega

set_option maxHeartbeats 1000000 in
theorem dec_enc (r : Nat) (h : chr r) (x : List UInt8) : decL (encU r ++ x) = (r, (encN r).length) := by
  unfold chr at h
  unfold decL encU encN
  by_cases h1 : r < 128
  · rw [if_pos h1]
    simp only [List.map_cons, List.map_nil, List.cons_append, List.nil_append, List.getD_cons_zero, List.length_cons, List.length_nil]
    rw [toNat_of r (by omega)]
    unfold Lib.decodeN
    rw [if_pos h1]
  · rw [if_neg h1]
    by_cases h2 : r < 2048
    · rw [if_pos h2]
      simp only [List.map_cons, List.map_nil, List.cons_append, List.nil_append, List.getD_cons_zero, List.getD_cons_succ, List.length_cons, List.length_nil]
      rw [toNat_of (192 + r / 64) (by omega), toNat_of (128 + r % 64) (by omega)]
      unfold Lib.decodeN
      rw [if_neg (by omega), if_pos (by omega), if_pos (by omega)]
      congr 1; omega
    · rw [if_neg h2]
      by_cases h3 : r < 65536
      · rw [if_pos h3]
        simp only [List.map_cons, List.map_nil, List.cons_append, List.nil_append, List.getD_cons_zero, List.getD_cons_succ, List.length_cons, List.length_nil]
        rw [toNat_of (224 + r / 4096) (by omega), toNat_of (128 + r / 64 % 64) (by omega), toNat_of (128 + r % 64) (by omega)]
        unfold Lib.decodeN
        rw [if_neg (by omega), if_neg (by omega), if_pos (by omega), if_pos (by omega)]
        congr 1; omega
      · rw [if_neg h3]
        simp only [List.map_cons, List.map_nil, List.cons_append, List.nil_append, List.getD_cons_zero, List.getD_cons_succ, List.length_cons, List.length_nil]
        rw [toNat_of (240 + r / 262144) (by omega), toNat_of (128 + r / 4096 % 64) (by omega), toNat_of (128 + r / 64 % 64) (by omega), toNat_of (128 + r % 64) (by omega)]
        unfold Lib.decodeN
        rw [if_neg (by omega), if_neg (by omega), if_neg (by omega), if_pos (by omega), if_pos (by omega)]
        congr 1; omega

def strU (l : List UInt8) : ByteArray := ⟨l.toArray⟩
theorem strU_data (l : List UInt8) : (strU l).data.toList = l := by simp [strU]
theorem strU_size (l : List UInt8) : (strU l).size = l.length := by simp [strU, ByteArray.size]
theorem decL_str (l : List UInt8) (p : Nat) : decL (l.drop p) = Utf8.decode (strU l) p := by rw [decode_drop, strU_data]
theorem map_of_to (l : List UInt8) : (l.map UInt8.toNat).map UInt8.ofNat = l := by
  induction l with
  | nil => rfl
  | cons b l ih => simp only [List.map_cons, ih, UInt8.ofNat_toNat]

theorem dec_inv (l : List UInt8) (h : l ≠ []) : (chr (decL l).1 ∧ l = encU (decL l).1 ++ l.drop (decL l).2 ∧ (decL l).2 = (encN (decL l).1).length) ∨ decL l = (65533, 1) := by
  have hp : 0 < (strU l).size := by rw [strU_size]; exact List.length_pos_iff.2 h
  have e0 : decL l = Utf8.decode (strU l) 0 := by rw [← decL_str, List.drop_zero]
  by_cases hg : (Utf8.decode (strU l) 0).1 = 65533 ∧ (Utf8.decode (strU l) 0).2 = 1
  · right; rw [e0]; exact Prod.ext hg.1 hg.2
  · left
    obtain ⟨h1, h2⟩ := decode_good (strU l) 0 hp hg
    have hw := decode_within (strU l) 0 hp
    rw [← e0] at h1 h2 hw
    refine ⟨h1, ?_, ?_⟩
    · unfold bytesN at h2
      rw [strU_data, List.drop_zero, Nat.zero_add] at h2
      have h3 := congrArg (List.map UInt8.ofNat) h2
      rw [List.map_append, map_of_to, map_of_to] at h3
      exact h3
    · unfold bytesN at h2
      have h3 := congrArg List.length h2
      rw [strU_data] at h3
      simp only [List.length_append, List.length_map, List.length_drop] at h3
      rw [strU_size] at hw
      omega
theorem dec_pos (l : List UInt8) (h : l ≠ []) : 1 ≤ (decL l).2 := by
  rcases dec_inv l h with ⟨_, _, h⟩ | h
  · rw [h]; exact (encN_ne _).1
  · rw [h]; exact Nat.le_refl _

def mendF : Nat → List UInt8 → List UInt8
  | 0, _ => []
  | f + 1, l => if l = [] then [] else encU (decL l).1 ++ mendF f (l.drop (decL l).2)
theorem mendF_fuel (f : Nat) : ∀ (g : Nat) (l : List UInt8), l.length ≤ f → l.length ≤ g → mendF f l = mendF g l := by
  induction f with
  | zero =>
    intro g l hf _
    obtain rfl : l = [] := List.eq_nil_of_length_eq_zero (by omega)
    cases g <;> rfl
  | succ f ih =>
    intro g l hf hg
    by_cases h : l = []
    · subst h; cases g <;> rfl
    · have hl := List.length_pos_iff.2 h
      obtain ⟨g, rfl⟩ : ∃ k, g = k + 1 := ⟨g - 1, by omega⟩
      have := dec_pos l h
      simp only [mendF]
      rw [if_neg h, if_neg h, ih g _ (by rw [List.length_drop]; omega) (by rw [List.length_drop]; omega)]
def mendL (l : List UInt8) : List UInt8 := mendF l.length l
theorem mendL_step (l : List UInt8) (h : l ≠ []) : mendL l = encU (decL l).1 ++ mendL (l.drop (decL l).2) := by
  have hl := List.length_pos_iff.2 h
  have := dec_pos l h
  unfold mendL
  obtain ⟨f, hf⟩ : ∃ f, l.length = f + 1 := ⟨l.length - 1, by omega⟩
  rw [hf]
  simp only [mendF]
  rw [if_neg h, mendF_fuel f (l.drop (decL l).2).length _ (by rw [List.length_drop]; omega) (Nat.le_refl _)]
theorem mendL_nil : mendL [] = [] := rfl
theorem mendL_enc (r : Nat) (h : chr r) (x : List UInt8) : mendL (encU r ++ x) = encU r ++ mendL x := by
  have hne : encU r ++ x ≠ [] := by
    have := (encN_ne r).1
    intro e
    have h3 : (encU r ++ x).length = 0 := by rw [e]; rfl
    rw [List.length_append, encU, List.length_map] at h3
    omega
  rw [mendL_step _ hne, dec_enc r h]
  congr 2
  rw [List.drop_append_of_le_length (by simp [encU]), List.drop_of_length_le (by simp [encU]), List.nil_append]
theorem mendL_bad (b : UInt8) (x : List UInt8) (h : ∀ r y, chr r → b :: x ≠ encU r ++ y) : mendL (b :: x) = [239, 191, 189] ++ mendL x := by
  rw [mendL_step _ (by simp)]
  rcases dec_inv (b :: x) (by simp) with ⟨h1, h2, _⟩ | h1
  · exact absurd h2 (h _ _ h1)
  · rw [h1]
    rfl

structure Asc (ps : List (UInt8 × ByteArray)) : Prop where
  low : ∀ b : UInt8, b.toNat < 128 → ∃ c t, form ps b = c :: t ∧ c.toNat < 128 ∧ ∀ d ∈ t, d.toNat < 128
  high : ∀ b : UInt8, 128 ≤ b.toNat → form ps b = [b]
theorem encU_low (b : UInt8) (h : b.toNat < 128) : encU b.toNat = [b] := by
  unfold encU encN; rw [if_pos h]; simp
theorem encN_high (r : Nat) (h : 128 ≤ r) (h2 : r ≤ 1114111) : ∀ x ∈ encN r, 128 ≤ x := by
  unfold encN
  intro x hx
  repeat' split at hx
  all_goals simp only [List.mem_cons, List.not_mem_nil, or_false] at hx
  all_goals omega
theorem encU_high (r : Nat) (h : 128 ≤ r) (h2 : chr r) : ∀ b ∈ encU r, 128 ≤ b.toNat := by
  intro b hb
  obtain ⟨x, hx, rfl⟩ := List.mem_map.1 hb
  rw [toNat_of x (encN_byte r (chr_le h2) x hx)]
  exact encN_high r h (chr_le h2) x hx
theorem mendL_asc (t x : List UInt8) (h : ∀ d ∈ t, d.toNat < 128) : mendL (t ++ x) = t ++ mendL x := by
  induction t with
  | nil => rfl
  | cons d t ih =>
    have hd := h d (by simp)
    have e := mendL_enc d.toNat (.inl (by omega)) (t ++ x)
    rw [encU_low d hd] at e
    rw [List.cons_append, show d :: (t ++ x) = [d] ++ (t ++ x) by rfl, e, ih (fun y hy => h y (by simp [hy]))]
    rfl
theorem replL_high {ps : List (UInt8 × ByteArray)} (ha : Asc ps) (t x : List UInt8) (h : ∀ d ∈ t, 128 ≤ d.toNat) : replL ps (t ++ x) = t ++ replL ps x := by
  induction t with
  | nil => rfl
  | cons d t ih =>
    have e := ih (fun y hy => h y (by simp [hy]))
    unfold replL at e ⊢
    rw [List.cons_append, List.flatMap_cons, e, ha.high d (h d (by simp))]
    rfl
theorem replL_back {ps : List (UInt8 × ByteArray)} (ha : Asc ps) (t : List UInt8) (h : ∀ d ∈ t, 128 ≤ d.toNat) : ∀ (x y : List UInt8), replL ps x = t ++ y → ∃ x', x = t ++ x' ∧ replL ps x' = y := by
  induction t with
  | nil => intro x y e; exact ⟨x, rfl, e⟩
  | cons d t ih =>
    intro x y e
    rcases x with _ | ⟨b, x⟩
    · simp [replL] at e
    · have hd := h d (by simp)
      by_cases hb : b.toNat < 128
      · obtain ⟨c, t', e1, hc, _⟩ := ha.low b hb
        unfold replL at e
        rw [List.flatMap_cons, e1] at e
        simp only [List.cons_append, List.cons.injEq] at e
        obtain ⟨rfl, _⟩ := e
        omega
      · have e1 := ha.high b (by omega)
        unfold replL at e
        rw [List.flatMap_cons, e1] at e
        simp only [List.cons_append, List.nil_append, List.cons.injEq] at e
        obtain ⟨rfl, e⟩ := e
        obtain ⟨x', rfl, h2⟩ := ih (fun y hy => h y (by simp [hy])) x y e
        exact ⟨x', rfl, h2⟩

theorem mend_repl {ps : List (UInt8 × ByteArray)} (ha : Asc ps) : ∀ (n : Nat) (l : List UInt8), l.length ≤ n → mendL (replL ps l) = replL ps (mendL l) := by
  intro n
  induction n with
  | zero =>
    intro l hl
    obtain rfl : l = [] := List.eq_nil_of_length_eq_zero (by omega)
    rfl
  | succ n ih =>
    intro l hl
    rcases l with _ | ⟨b, x⟩
    · rfl
    · by_cases hg : ∃ r y, chr r ∧ b :: x = encU r ++ y
      · obtain ⟨r, y, hr, e⟩ := hg
        have hy : y.length ≤ n := by
          have := congrArg List.length e
          have h1 := (encN_ne r).1
          simp only [List.length_cons, List.length_append, encU, List.length_map] at this hl
          omega
        by_cases h128 : r < 128
        · have hb : encU r = [UInt8.ofNat r] := by unfold encU encN; rw [if_pos h128]; rfl
          have hbn : (UInt8.ofNat r).toNat = r := toNat_of r (by omega)
          obtain ⟨c, t, e1, hc, ht⟩ := ha.low (UInt8.ofNat r) (by rw [hbn]; exact h128)
          rw [e, mendL_enc r hr, hb]
          have e2 : ∀ z, replL ps ([UInt8.ofNat r] ++ z) = (c :: t) ++ replL ps z := by
            intro z; unfold replL; rw [List.flatMap_append]; simp [e1]
          rw [e2, e2, mendL_asc (c :: t) _ (by intro d hd; rcases List.mem_cons.1 hd with rfl | hd; exact hc; exact ht d hd), ih y hy]
        · have hh := encU_high r (by omega) hr
          rw [e, mendL_enc r hr, replL_high ha _ _ hh, replL_high ha _ _ hh, mendL_enc r hr, ih y hy]
      · have hb : ∀ r y, chr r → b :: x ≠ encU r ++ y := fun r y hr e => hg ⟨r, y, hr, e⟩
        have hb128 : 128 ≤ b.toNat := by
          rcases Nat.lt_or_ge b.toNat 128 with h | h
          · exact absurd (by rw [encU_low b h]; rfl) (hb b.toNat x (.inl (by omega)))
          · exact h
        have e1 : replL ps (b :: x) = b :: replL ps x := replL_high ha [b] x (by intro d hd; rw [List.mem_singleton] at hd; rw [hd]; exact hb128)
        have hb2 : ∀ r y, chr r → b :: replL ps x ≠ encU r ++ y := by
          intro r y hr e
          have hr128 : 128 ≤ r := by
            rcases Nat.lt_or_ge r 128 with h | h
            · have : encU r = [UInt8.ofNat r] := by unfold encU encN; rw [if_pos h]; rfl
              rw [this] at e
              simp only [List.cons_append, List.nil_append, List.cons.injEq] at e
              have h3 := toNat_of r (by omega)
              rw [← e.1] at h3
              omega
            · exact h
          have hh := encU_high r hr128 hr
          rcases hu : encU r with _ | ⟨c, cs⟩
          · have := (encN_ne r).1
            have h5 := congrArg List.length hu
            simp [encU] at h5
            rw [h5] at this
            simp at this
          · rw [hu] at e hh
            simp only [List.cons_append, List.cons.injEq] at e
            obtain ⟨rfl, e⟩ := e
            obtain ⟨x', rfl, _⟩ := replL_back ha cs (fun d hd => hh d (by simp [hd])) x y e
            exact hb r x' hr (by rw [hu]; rfl)
        rw [e1, mendL_bad b _ hb2, mendL_bad b x hb, replL_high ha [239, 191, 189] _ (by decide), ih x (by simp at hl; omega)]

theorem all_bytes {p : UInt8 → Prop} (h : ∀ n : Fin 256, p (UInt8.ofNat n)) (b : UInt8) : p b := by
  have := h ⟨b.toNat, b.toNat_lt⟩
  simpa using this
def ascB (ps : List (UInt8 × ByteArray)) (b : UInt8) : Bool := if b.toNat < 128 then !(form ps b).isEmpty && (form ps b).all (fun d => decide (d.toNat < 128)) else form ps b == [b]
theorem asc_of (ps : List (UInt8 × ByteArray)) (h : ∀ n : Fin 256, ascB ps (UInt8.ofNat n) = true) : Asc ps := by
  refine ⟨fun b hb => ?_, fun b hb => ?_⟩
  · have := all_bytes (p := fun b => ascB ps b = true) h b
    unfold ascB at this
    rw [if_pos hb] at this
    simp only [Bool.and_eq_true, List.all_eq_true, decide_eq_true_eq] at this
    obtain ⟨h1, h2⟩ := this
    rcases hf : form ps b with _ | ⟨c, t⟩
    · rw [hf] at h1; cases h1
    · rw [hf] at h2
      exact ⟨c, t, rfl, h2 c (by simp), fun d hd => h2 d (by simp [hd])⟩
  · have := all_bytes (p := fun b => ascB ps b = true) h b
    unfold ascB at this
    rw [if_neg (by omega)] at this
    simpa using this
theorem asc_text : Asc textPs := asc_of _ (by decide +kernel)
theorem mend_text (l : List UInt8) : mendL (replL textPs l) = replL textPs (mendL l) := mend_repl asc_text _ l (Nat.le_refl _)

theorem enc_model (r : Nat) (h : chr r) : (Utf8.encode (r : Int)).data.toList = encU r := by
  have hv : Utf8.valid (r : Int) = true := by
    unfold Utf8.valid chr at *
    simp only [Bool.or_eq_true, Bool.and_eq_true, decide_eq_true_eq]
    omega
  unfold Utf8.encode encU encN
  simp only [hv, if_true, Int.toNat_natCast]
  repeat' split
  all_goals rfl
theorem dec_chr (l : List UInt8) (h : l ≠ []) : chr (decL l).1 := by
  rcases dec_inv l h with ⟨h, _⟩ | h
  · exact h
  · rw [h]; unfold chr; omega
theorem runesBytes_data (ns : List Int) : ∀ s : ByteArray, (ns.foldl (fun r n => r ++ Utf8.encode n) s).data.toList = s.data.toList ++ ns.flatMap fun n => (Utf8.encode n).data.toList := by
  induction ns with
  | nil => intro s; simp
  | cons n ns ih => intro s; simp only [List.foldl_cons, ih, List.flatMap_cons]; simp
theorem runes_mend (s : ByteArray) : ∀ (f p : Nat), ((runesF s f p).flatMap fun n => (Utf8.encode n).data.toList) = mendF f (s.data.toList.drop p) := by
  intro f
  induction f with
  | zero => intro p; rfl
  | succ f ih =>
    intro p
    simp only [runesF, mendF]
    by_cases h : p < s.size
    · have hne : s.data.toList.drop p ≠ [] := by
        intro e
        have := congrArg List.length e
        rw [List.length_drop, Array.length_toList] at this
        have h2 : s.data.size = s.size := rfl
        simp at this; omega
      rw [if_pos h, if_neg hne, List.flatMap_cons, ih, decode_drop, enc_model _ (dec_chr _ hne), List.drop_drop]
    · have he : s.data.toList.drop p = [] := List.drop_of_length_le (by rw [Array.length_toList]; exact Nat.le_of_not_lt h)
      rw [if_neg h, if_pos he]
      rfl
theorem mend_model (l : List UInt8) : (runesBytes (runesOf (strU l))) = strU (mendL l) := by
  apply ByteArray.ext
  have h := runesBytes_data (runesOf (strU l)) ByteArray.empty
  unfold runesBytes runesOf at *
  rw [runes_mend] at h
  rw [strU_data, List.drop_zero, strU_size] at h
  rw [← Array.toList_inj, strU_data]
  rw [strU_size]
  simpa [mendL] using h
theorem mendL_len (n : Nat) : ∀ l : List UInt8, l.length ≤ n → (mendL l).length ≤ 4 * l.length := by
  induction n with
  | zero =>
    intro l h
    obtain rfl : l = [] := List.eq_nil_of_length_eq_zero (by omega)
    simp [mendL_nil]
  | succ n ih =>
    intro l h
    by_cases h0 : l = []
    · subst h0; simp [mendL_nil]
    · have hl := List.length_pos_iff.2 h0
      have hp := dec_pos l h0
      have h4 := (encN_ne (decL l).1).2
      rw [mendL_step l h0]
      have := ih (l.drop (decL l).2) (by rw [List.length_drop]; omega)
      simp only [List.length_append, encU, List.length_map, List.length_drop] at *
      omega
end Go.Proofs.YtklpihaelaagpaaDoor

namespace Go.Proofs.YtklpihaelaagpaaDoor
open Go.RowKit Go.Lib

def rngs : List (List (Int × Int)) :=
  [[(9, 10), (13, 13), (32, 55295), (57344, 65533), (65536, 1114111)],
   [(9, 10), (13, 13), (32, 32)],
   [(65, 90), (95, 95), (97, 122), (192, 214), (216, 246), (248, 767), (880, 893), (895, 8191), (8204, 8205), (8304, 8591), (11264, 12271), (12289, 55295), (63744, 64975), (65008, 65533), (65536, 983039)],
   [(45, 46), (48, 57), (65, 90), (95, 95), (97, 122), (183, 183), (192, 214), (216, 246), (248, 893), (895, 8191), (8204, 8205), (8255, 8256), (8304, 8591), (11264, 12271), (12289, 55295), (63744, 64975), (65008, 65533), (65536, 983039)],
   [(48, 57)],
   [(48, 57), (65, 70), (97, 102)]]
def rng (c : Nat) : List (Int × Int) := rngs.getD c []
def rngData {H : Type} : DataW H := .agg (rngs.map fun l => .slice (l.map fun p => .agg [.lit (.int .i32 p.1), .lit (.int .i32 p.2)]) [])

structure RangesAt (w : World) (g : Nat) : Prop where
  lt : g < w.heap.size
  at' : ∀ c, c < 6 → ∃ b o cap, w.cell? ⟨g, c, none⟩ = some (.slice (some ⟨b, o, none⟩) (rng c).length cap) ∧ b < w.heap.size ∧
    ∀ i, (h : i < (rng c).length) → w.cell? ⟨b, o + i * 2, none⟩ = some (.int .i32 ((rng c)[i]).1) ∧ w.cell? ⟨b, o + i * 2 + 1, none⟩ = some (.int .i32 ((rng c)[i]).2)
theorem RangesAt.below {w w' : World} {g : Nat} (h : RangesAt w g) (hb : Below w.heap.size w w') : RangesAt w' g :=
  ⟨Nat.lt_of_lt_of_le h.lt hb.size, fun c hc => by
    obtain ⟨b, o, cap, h1, h2, h3⟩ := h.at' c hc
    refine ⟨b, o, cap, (hb.cell (p := ⟨g, c, none⟩) h.lt).trans h1, Nat.lt_of_lt_of_le h2 hb.size, fun i hi => ?_⟩
    obtain ⟨h4, h5⟩ := h3 i hi
    exact ⟨(hb.cell (p := ⟨b, o + i * 2, none⟩) h2).trans h4, (hb.cell (p := ⟨b, o + i * 2 + 1, none⟩) h2).trans h5⟩⟩

theorem span_desc : ∃ f0 f1, Tryd.prog.underlying 120 = some (.struct #[f0, f1]) ∧ f0.type = 21 ∧ f1.type = 21 ∧ f0.offset = 0 ∧ f1.offset = 1 := by
  refine ⟨_, _, Tryd.underlying120, rfl, rfl, rfl, rfl⟩
theorem cellsSpan : Tryd.prog.cellsOf 120 = 2 := by kernel_rfl
theorem cellsI32 : Tryd.prog.cellsOf 21 = 1 := by kernel_rfl
theorem cellsSpans : Tryd.prog.cellsOf 117 = 1 := by kernel_rfl
theorem cellsArr : Tryd.prog.cellsOf 130 = 6 := by kernel_rfl

section
variable {H : Type} {enc : TypeId × Value → H} {w : World} {base : Nat} {sp : Nat → Bool} {held : Bool} {fuel : Nat}

theorem span_read {cs : List Value} {p : Int × Int} {q : List MemPlace}
    (h : DataW.trod enc Tryd.prog w base sp held fuel 120 cs = some (.agg [.lit (.int .i32 p.1), .lit (.int .i32 p.2)], q)) : cs = [.int .i32 p.1, .int .i32 p.2] := by
  obtain ⟨f0, f1, hu, t0, t1, o0, o1⟩ := span_desc
  obtain ⟨y0, y1, n, hx, hl, h0, h1⟩ := Go.ChangeShapes.trod_struct2 hu h
  rw [t0, o0] at h0
  rw [t1, o1] at h1
  rw [cellsSpan] at hl
  rw [cellsI32] at h0 h1
  match cs, hl with
  | [c0, c1], _ =>
    obtain ⟨n0, e0, rfl, _⟩ := DataW.trod_int Tryd.underlying21 h0
    obtain ⟨n1, e1, rfl, _⟩ := DataW.trod_int Tryd.underlying21 h1
    simp at e0 e1
    subst e0
    subst e1
    simp only [Prod.mk.injEq, DataW.agg.injEq, List.cons.injEq, DataW.lit.injEq, Lit.int.injEq, and_true, true_and] at hx
    rw [hx.1.1, hx.1.2]

theorem spans_read {cs : List Value} {l : List (Int × Int)} {q : List MemPlace} (hl : 0 < l.length)
    (h : DataW.trod enc Tryd.prog w base sp held fuel 117 cs = some (.slice (l.map fun p => .agg [.lit (.int .i32 p.1), .lit (.int .i32 p.2)]) [], q)) :
    ∃ b o cap, cs = [.slice (some ⟨b, o, none⟩) l.length cap] ∧ b < w.heap.size ∧ ∀ i, (h : i < l.length) → w.cell? ⟨b, o + i * 2, none⟩ = some (.int .i32 (l[i]).1) ∧ w.cell? ⟨b, o + i * 2 + 1, none⟩ = some (.int .i32 (l[i]).2) := by
  rcases DataW.trod_slice Tryd.underlying117 h with ⟨_, hx⟩ | ⟨a, len, cap, elems, rest, n, _, rfl, hx, _, _, _, hel, hat, _, _⟩
  · simp at hx
  · simp only [Prod.mk.injEq, DataW.slice.injEq] at hx
    have hx1 := hx.1.1
    have hlen : len = l.length := by
      have := congrArg List.length hx1
      simp at this
      omega
    have each : ∀ i, (h : i < l.length) → w.cells? base (a.add (i * 2)) 2 = some [.int .i32 (l[i]).1, .int .i32 (l[i]).2] := by
      intro i hi
      have h1 := hat i (by omega)
      rw [cellsSpan] at h1
      have h2 : elems[i]? = some elems[i] := List.getElem?_eq_getElem (by omega)
      rw [h2, Option.bind_eq_some_iff] at h1
      obtain ⟨cs', hcs, hr⟩ := h1
      have h3 : (elems.map (·.1))[i]? = some elems[i].1 := by rw [List.getElem?_map, h2]; rfl
      rw [← hx1, List.getElem?_map, List.getElem?_eq_getElem hi] at h3
      simp only [Option.map_some, Option.some.injEq] at h3
      have h4 := span_read (p := l[i]) (q := elems[i].2) (by rw [hr, h3])
      rw [hcs, h4]
    have e0 := each 0 hl
    obtain ⟨_, _, hc0⟩ := World.cells?_some e0
    have hc0' := hc0 0 (by omega)
    obtain ⟨b, o, spt⟩ := a
    have hspt : spt = none := by
      have := World.cell?_spot hc0'
      simpa [Addr.add] using this
    subst hspt
    refine ⟨b, o, cap, by rw [hlen], ?_, fun i hi => ?_⟩
    · have := World.cells?_block e0 (by omega)
      simpa [Addr.add] using this
    · obtain ⟨_, _, hc⟩ := World.cells?_some (each i hi)
      have k0 := hc 0 (by omega)
      have k1 := hc 1 (by omega)
      rw [Addr.add_mid, Addr.add_mid] at k0 k1
      exact ⟨k0, k1⟩

theorem ranges_read {cs : List Value} {q : List MemPlace} (h : DataW.trod enc Tryd.prog w base sp held fuel 130 cs = some (rngData, q)) :
    cs.length = 6 ∧ ∀ c, c < 6 → ∃ b o cap, cs[c]? = some (.slice (some ⟨b, o, none⟩) (rng c).length cap) ∧ b < w.heap.size ∧
      ∀ i, (h : i < (rng c).length) → w.cell? ⟨b, o + i * 2, none⟩ = some (.int .i32 ((rng c)[i]).1) ∧ w.cell? ⟨b, o + i * 2 + 1, none⟩ = some (.int .i32 ((rng c)[i]).2) := by
  obtain ⟨xs, m, _, hx, hl, hxl, hat⟩ := DataW.trod_array Tryd.underlying130 h
  rw [cellsArr] at hl
  refine ⟨hl, fun c hc => ?_⟩
  have h1 := hat c hc
  rw [cellsSpans, List.getElem?_eq_getElem (by omega), Nat.mul_one] at h1
  have hx1 : xs.map (·.1) = rngs.map fun l => .slice (l.map fun p => .agg [.lit (.int .i32 p.1), .lit (.int .i32 p.2)]) [] := by
    simp only [Prod.mk.injEq, rngData, DataW.agg.injEq] at hx
    exact hx.1.symm
  have hr : rngs[c]? = some (rng c) := by
    unfold rng
    rw [List.getD, List.getElem?_eq_getElem (show c < rngs.length from hc)]
    rfl
  have h3 : (xs.map (·.1))[c]? = some (xs[c]'(by omega)).1 := by rw [List.getElem?_map, List.getElem?_eq_getElem (by omega)]; rfl
  rw [hx1, List.getElem?_map, hr] at h3
  simp only [Option.map_some, Option.some.injEq] at h3
  have hpos : 0 < (rng c).length := by
    have : ∀ c, c < 6 → 0 < (rng c).length := by decide
    exact this c hc
  obtain ⟨b, o, cap, h4, h5⟩ := spans_read (l := rng c) (q := (xs[c]'(by omega)).2) hpos (by rw [h1, h3])
  refine ⟨b, o, cap, ?_, h5⟩
  have h6 : (cs.drop c).take 1 = [cs[c]'(by omega)] := by
    rw [List.drop_eq_getElem_cons (by omega)]; rfl
  rw [h6] at h4
  rw [List.getElem?_eq_getElem (by omega)]
  simpa using h4
end

theorem gRanges : Tryd.prog.globalNamed "gimlet/chars.ranges" = some 2 := by kernel_rfl
theorem gRangesType : (Tryd.prog.globals[2]?).map (·.type) = some 130 := by kernel_rfl
theorem ranges_of_laid {W : World} {r : List (String × DataW Unit)} (h : laidMet Tryd.prog (("gimlet/chars.ranges", rngData) :: r) W) : RangesAt W 2 := by
  obtain ⟨ps, hl, _, _⟩ := h
  obtain ⟨g, t, cs, fuel, p, q, hn, hy, hv, hr, _, _⟩ := hl
  rw [gRanges] at hn
  injection hn with hn
  subst hn
  rw [gRangesType] at hy
  injection hy with hy
  subst hy
  obtain ⟨hlen, hat⟩ := ranges_read hr
  unfold World.var? at hv
  rw [gRanges] at hv
  simp only [Option.bind_some] at hv
  split at hv
  · rename_i c e fz heq
    injection hv with hv
    subst hv
    refine ⟨heap_lt heq, fun k hk => ?_⟩
    obtain ⟨b, o, cap, h1, h2, h3⟩ := hat k hk
    exact ⟨b, o, cap, by rw [cell_heap heq, ← h1]; simp, h2, h3⟩
  · cases hv
end Go.Proofs.YtklpihaelaagpaaDoor

namespace Go.Proofs.YtklpihaelaagpaaDoor
open Go.RowKit

def isR : List (Int × Int) → Int → Bool
  | [], _ => false
  | p :: l, r => if r ≤ p.2 then decide (p.1 ≤ r) else isR l r
theorem isR_drop (l : List (Int × Int)) (r : Int) (k : Nat) (h : k < l.length) : isR (l.drop k) r = if r ≤ l[k].2 then decide (l[k].1 ≤ r) else isR (l.drop (k + 1)) r := by
  rw [List.drop_eq_getElem_cons h]; rfl

def RetRng (w : World) (c : Nat) (e : Ending) : Prop :=
  ∃ b o cap, e = .returned (.slice (some ⟨b, o, none⟩) (rng c).length cap) ∧ b < w.heap.size ∧
    ∀ i, (h : i < (rng c).length) → w.cell? ⟨b, o + i * 2, none⟩ = some (.int .i32 ((rng c)[i]).1) ∧ w.cell? ⟨b, o + i * 2 + 1, none⟩ = some (.int .i32 ((rng c)[i]).2)
theorem of_any (c : Nat) (hc : c < 6) (w : World) (hR : RangesAt w 2) :
    Calls Tryd.prog 72 #[.int .i64 c] w fun e w' => RetRng w c e ∧ w' = w := by
  obtain ⟨b, o, cap, h1, h2, h3⟩ := hR.at' c hc
  have H3 := Lib.hid h3
  clear h3 hR
  go_enter Tryd.func72, Tryd.ntmps72
  go_wp2
  go_ret
  exact ⟨⟨b, o, cap, rfl, h2, H3.out⟩, rfl⟩
theorem of_none (c : Int) (hc : c < 0 ∨ 6 ≤ c) (w : World) :
    Calls Tryd.prog 72 #[.int .i64 c] w fun e w' => e = .returned (.slice none 0 0) ∧ w' = w := by
  by_cases h0 : c < 0
  · go_enter Tryd.func72, Tryd.ntmps72
    go_wp2
    go_ret
    exact ⟨rfl, rfl⟩
  · have h6 : 6 ≤ c := by omega
    go_enter Tryd.func72, Tryd.ntmps72
    go_wp2
    go_ret
    exact ⟨rfl, rfl⟩

set_option maxHeartbeats 1000000 in
theorem Is_any (c : Nat) (hc : c < 6) (r : Int) (w : World) (hR : RangesAt w 2) :
    Calls Tryd.prog 57 #[.int .i64 c, .int .i32 r] w fun e w' => e = .returned (.bool (isR (rng c) r)) ∧ Below w.heap.size w w' := by
  have hlen : (rng c).length ≤ 20 := by
    have : ∀ c, c < 6 → (rng c).length ≤ 20 := by decide
    exact this c hc
  have HO := Lib.hid (of_any c hc w hR)
  clear hR
  go_enter Tryd.func57, Tryd.ntmps57
  go_wp2_with fail
  refine HO.out.mono ?_
  rintro e w1 ⟨⟨b, o, cap, rfl, hb, hcs⟩, rfl⟩
  have HC := Lib.hid hcs
  clear hcs HO
  generalize hl : rng c = l at *
  have HL := Lib.hid hl
  clear hl
  obtain ⟨n, hn⟩ : ∃ n, l.length = n := ⟨_, rfl⟩
  rw [hn] at hlen
  simp only [hn]
  have HN := Lib.hid hn
  clear hn
  go_wp2_with fail
  go_loopw [10] (fun ix wr => ∃ k : Nat, ix = .int .i64 k ∧ k ≤ n ∧ Below w1.heap.size w1 wr ∧ Hid (isR (l.drop k) r = isR l r)) (fun ix _ => n - (intOf ix).toNat)
  case atStart => exact ⟨0, rfl, Nat.zero_le _, Below.refl _ _, rfl⟩
  case round =>
    obtain ⟨k, rfl, hk, hbw, hr⟩ := hrel
    by_cases hkn : k < n
    · have hkl : k < l.length := by rw [HN.out]; exact hkn
      obtain ⟨e0, e1⟩ := HC.out k hkl
      have hd := hr.out
      rw [isR_drop l r k hkl] at hd
      rw [← hbw.cell (p := ⟨b, o + k * 2, none⟩) hb] at e0
      rw [← hbw.cell (p := ⟨b, o + k * 2 + 1, none⟩) hb] at e1
      generalize l[k] = p at *
      obtain ⟨lo, hi⟩ := p
      simp only at e0 e1 hd
      have HD := Lib.hid hd
      have hws : w1.heap.size ≤ wr.heap.size := hbw.size
      have HBW := Lib.hid hbw
      clear hd hbw hr
      by_cases hle : r ≤ hi
      · go_wp2
        go_ret
        exact ⟨ret_bool (by rw [HL.out, ← HD.out, if_pos hle]), HBW.out.alloc hws _⟩
      · have hgt : hi < r := by omega
        go_wp2
        go_roundw
        case rel => exact ⟨k + 1, by go_num, by omega, HBW.out.alloc hws _, by rw [if_neg hle] at HD; exact HD⟩
        case measure => simp [intOf]; omega
    · have hd := hr.out
      rw [List.drop_of_length_le (by rw [HN.out]; omega)] at hd
      have HD := Lib.hid hd
      clear hd hr
      go_wp2
      go_ret
      exact ⟨ret_bool (by rw [HL.out, ← HD.out]; rfl), hbw⟩

theorem Is_none (c : Int) (hc : c < 0 ∨ 6 ≤ c) (r : Int) (w : World) :
    Calls Tryd.prog 57 #[.int .i64 c, .int .i32 r] w fun e w' => e = .returned (.bool false) ∧ Below w.heap.size w w' := by
  have HO := Lib.hid (of_none c hc w)
  go_enter Tryd.func57, Tryd.ntmps57
  go_wp2_with fail
  refine HO.out.mono ?_
  rintro e w1 ⟨rfl, rfl⟩
  go_wp2_with fail
  go_loop [10] (fun ix => ix = .int .i64 0) (fun _ => 0)
  case atStart => exact rfl
  case round =>
    subst hrel
    go_wp2
    go_ret
    exact ⟨rfl, Below.refl _ _⟩
end Go.Proofs.YtklpihaelaagpaaDoor
