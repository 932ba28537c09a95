/-
  Scan, plain law: bytes that go on to a character of a class are the first bytes of one.
-/
import Derived.Test.YtjdmndpadejegaaDoorMgB
namespace Go.Proofs.YtjdmndpadejegaaDoor
open Go.RowKit

theorem byte_of {x : UInt8} {n : Nat} (h : x.toNat = n) : UInt8.ofNat n = x := by rw [← h, UInt8.ofNat_toNat]
theorem cont1 {y : UInt8} {l : List UInt8} {f a : Nat} (h : contN (y :: l) f = some a) : 128 ≤ y.toNat ∧ y.toNat ≤ 191 ∧ contN l (f * 64 + (y.toNat - 128)) = some a := by
  simp only [contN] at h
  split at h
  · cases h
  · exact ⟨by omega, by omega, h⟩
theorem cont0 {f a : Nat} (h : contN [] f = some a) : f = a := by simpa [contN] using h
set_option maxHeartbeats 2000000 in
theorem enc_pre (x : UInt8) (l : List UInt8) (n f m a r : Nat) (h0 : leadN x.toNat = (n, f, m)) (hl : l.length + 1 ≤ n) (hc : contN l f = some a) (hm : m ≤ r) (hr : r ≤ 1114111) (ha : r / 64 ^ (n - (l.length + 1)) = a) :
    (encN r).length = n ∧ ∃ t, encU r = (x :: l) ++ t := by
  have hx := x.toNat_lt
  unfold leadN at h0
  split at h0
  · rename_i h1
    simp only [Prod.mk.injEq] at h0
    obtain ⟨rfl, rfl, rfl⟩ := h0
    obtain rfl : l = [] := List.eq_nil_of_length_eq_zero (by omega)
    have := cont0 hc
    simp at ha
    unfold encU encN
    rw [if_pos (by omega)]
    exact ⟨rfl, [], by simp only [List.map_cons, List.map_nil, List.append_nil]; rw [byte_of (x := x) (by omega)]⟩
  split at h0
  · rename_i h1 h2
    simp only [Prod.mk.injEq] at h0
    obtain ⟨rfl, rfl, rfl⟩ := h0
    rcases l with _ | ⟨y, l⟩
    · have := cont0 hc
      simp at ha
      unfold encU encN
      rw [if_neg (by omega), if_pos (by omega)]
      exact ⟨rfl, _, by simp only [List.map_cons, List.map_nil]; rw [byte_of (x := x) (by omega)]; rfl⟩
    · obtain ⟨b1, b2, hc⟩ := cont1 hc
      obtain rfl : l = [] := List.eq_nil_of_length_eq_zero (by simp only [List.length_cons] at hl; omega)
      have := cont0 hc
      simp at ha
      unfold encU encN
      rw [if_neg (by omega), if_pos (by omega)]
      exact ⟨rfl, [], by simp only [List.map_cons, List.map_nil]; rw [byte_of (x := x) (by omega), byte_of (x := y) (by omega)]; rfl⟩
  split at h0
  · rename_i h1 h2 h3
    simp only [Prod.mk.injEq] at h0
    obtain ⟨rfl, rfl, rfl⟩ := h0
    rcases l with _ | ⟨y, l⟩
    · have := cont0 hc
      simp at ha
      unfold encU encN
      rw [if_neg (by omega), if_neg (by omega), if_pos (by omega)]
      exact ⟨rfl, _, by simp only [List.map_cons, List.map_nil]; rw [byte_of (x := x) (by omega)]; rfl⟩
    · obtain ⟨b1, b2, hc⟩ := cont1 hc
      rcases l with _ | ⟨z, l⟩
      · have := cont0 hc
        simp at ha
        unfold encU encN
        rw [if_neg (by omega), if_neg (by omega), if_pos (by omega)]
        exact ⟨rfl, _, by simp only [List.map_cons, List.map_nil]; rw [byte_of (x := x) (by omega), byte_of (x := y) (by omega)]; rfl⟩
      · obtain ⟨b3, b4, hc⟩ := cont1 hc
        obtain rfl : l = [] := List.eq_nil_of_length_eq_zero (by simp only [List.length_cons] at hl; omega)
        have := cont0 hc
        simp at ha
        unfold encU encN
        rw [if_neg (by omega), if_neg (by omega), if_pos (by omega)]
        exact ⟨rfl, [], by simp only [List.map_cons, List.map_nil]; rw [byte_of (x := x) (by omega), byte_of (x := y) (by omega), byte_of (x := z) (by omega)]; rfl⟩
  split at h0
  · rename_i h1 h2 h3 h4
    simp only [Prod.mk.injEq] at h0
    obtain ⟨rfl, rfl, rfl⟩ := h0
    rcases l with _ | ⟨y, l⟩
    · have := cont0 hc
      simp at ha
      unfold encU encN
      rw [if_neg (by omega), if_neg (by omega), if_neg (by omega)]
      exact ⟨rfl, _, by simp only [List.map_cons, List.map_nil]; rw [byte_of (x := x) (by omega)]; rfl⟩
    · obtain ⟨b1, b2, hc⟩ := cont1 hc
      rcases l with _ | ⟨z, l⟩
      · have := cont0 hc
        simp at ha
        unfold encU encN
        rw [if_neg (by omega), if_neg (by omega), if_neg (by omega)]
        exact ⟨rfl, _, by simp only [List.map_cons, List.map_nil]; rw [byte_of (x := x) (by omega), byte_of (x := y) (by omega)]; rfl⟩
      · obtain ⟨b3, b4, hc⟩ := cont1 hc
        rcases l with _ | ⟨u, l⟩
        · have := cont0 hc
          simp at ha
          unfold encU encN
          rw [if_neg (by omega), if_neg (by omega), if_neg (by omega)]
          exact ⟨rfl, _, by simp only [List.map_cons, List.map_nil]; rw [byte_of (x := x) (by omega), byte_of (x := y) (by omega), byte_of (x := z) (by omega)]; rfl⟩
        · obtain ⟨b5, b6, hc⟩ := cont1 hc
          obtain rfl : l = [] := List.eq_nil_of_length_eq_zero (by simp only [List.length_cons] at hl; omega)
          have := cont0 hc
          simp at ha
          unfold encU encN
          rw [if_neg (by omega), if_neg (by omega), if_neg (by omega)]
          exact ⟨rfl, [], by simp only [List.map_cons, List.map_nil]; rw [byte_of (x := x) (by omega), byte_of (x := y) (by omega), byte_of (x := z) (by omega), byte_of (x := u) (by omega)]; rfl⟩
  · simp only [Prod.mk.injEq] at h0; omega
def risR : List (Int × Int) → Bool
  | [] => true
  | p :: l => l.all (fun q => decide (p.2 < q.1)) && risR l
theorem isR_mem : ∀ (l : List (Int × Int)) (r : Int), risR l = true → ∀ p ∈ l, p.1 ≤ r → r ≤ p.2 → isR l r = true
  | [], _, _, p, hp, _, _ => by cases hp
  | q :: l, r, h, p, hp, h1, h2 => by
    simp only [risR, Bool.and_eq_true, decide_eq_true_eq, List.all_eq_true] at h
    simp only [isR]
    rcases List.mem_cons.1 hp with rfl | hp
    · rw [if_pos h2, decide_eq_true h1]
    · have := h.1 p hp
      rw [if_neg (by omega)]
      exact isR_mem l r h.2 p hp h1 h2
theorem gd_rises (c : Nat) (hc : c = 0 ∨ c = 2 ∨ c = 3) : risR (rng c) = true := by
  rcases hc with rfl | rfl | rfl <;> decide
def widB (p : List UInt8) : Nat := (leadN (p.getD 0 0).toNat).1
def gdC (c : Nat) : Prop := c = 0 ∨ c = 2 ∨ c = 3
theorem gd_all (c : Nat) (hc : gdC c) : (rng c).all (fun p => decide (0 ≤ p.1) && (decide (p.2 < 55296) || (decide (57344 ≤ p.1) && decide (p.2 ≤ 1114111)))) = true := by
  rcases hc with rfl | rfl | rfl <;> decide
theorem beg_inv (c : Nat) (hc : gdC c) (p : List UInt8) (h : begB c p = true) : ∃ r : Nat, chr r ∧ isR (rng c) r = true ∧ (encN r).length = widB p ∧ p ≠ [] ∧ ∃ t, encU r = p ++ t := by
  rcases p with _ | ⟨x, l⟩
  · unfold begB at h; rw [meetB_none _ (by decide)] at h; cases h
  · unfold begB at h
    obtain ⟨⟨n, f, m⟩, h0⟩ : ∃ q, leadN x.toNat = q := ⟨_, rfl⟩
    simp only [spanL, h0] at h
    split at h
    · rw [meetB_none _ (show 0 < 1 by decide)] at h; cases h
    · rename_i hlen
      cases hq : contN l f with
      | none => rw [hq, meetB_none _ (show 0 < 1 by decide)] at h; cases h
      | some a =>
        rw [hq] at h
        simp only at h
        obtain ⟨w1, w2⟩ := widN_mono (n - (l.length + 1)) (a, a)
        simp only at w1 w2
        rw [w1] at h
        unfold meetB at h
        rw [List.any_eq_true] at h
        obtain ⟨pr, hpr, hm⟩ := h
        simp only [decide_eq_true_eq] at hm
        have hg := List.all_eq_true.1 (gd_all c hc) pr hpr
        simp only [Bool.and_eq_true, Bool.or_eq_true, decide_eq_true_eq] at hg
        generalize hK : 64 ^ (n - (l.length + 1)) = K at w1 w2 hm
        have hKp : 0 < K := by rw [← hK]; exact Nat.pow_pos (by decide)
        generalize (widN (n - (l.length + 1)) (a, a)).2 = hi at w2 hm
        obtain ⟨r, hr⟩ : ∃ r : Nat, (r : Int) = max pr.1 ((max (a * K) m : Nat) : Int) := ⟨(max pr.1 ((max (a * K) m : Nat) : Int)).toNat, by omega⟩
        have e1 : a * K ≤ r := by omega
        have e2 : r < (a + 1) * K := by omega
        have e3 : r / K = a := by
          rw [Nat.div_eq_iff hKp]
          constructor
          · exact e1
          · have : (a + 1) * K = a * K + K := by rw [Nat.add_mul, Nat.one_mul]
            omega
        have e4 : m ≤ r := by omega
        have e5 : r ≤ 1114111 := by omega
        obtain ⟨k1, k2⟩ := enc_pre x l n f m a r h0 (by omega) hq e4 e5 (by rw [hK]; exact e3)
        refine ⟨r, by unfold chr; omega, ?_, ?_, by simp, k2⟩
        · exact isR_mem (rng c) r (gd_rises c hc) pr hpr (by omega) (by omega)
        · rw [k1]; unfold widB; rw [List.getD_cons_zero, h0]
end Go.Proofs.YtjdmndpadejegaaDoor

namespace Go.Proofs.YtjdmndpadejegaaDoor
open Go.RowKit

def fullF (l : List UInt8) : Bool :=
  if l.length = 0 then false
  else if Lib.firstT (l.getD 0 0).toNat % 8 ≤ l.length then true
  else if 1 < l.length ∧ ((l.getD 1 0).toNat < Lib.accLo (Lib.firstT (l.getD 0 0).toNat / 16) ∨ Lib.accHi (Lib.firstT (l.getD 0 0).toNat / 16) < (l.getD 1 0).toNat) then true
  else decide (2 < l.length ∧ ((l.getD 2 0).toNat < 128 ∨ 191 < (l.getD 2 0).toNat))
theorem firstT_lead (x : Nat) : Lib.firstT x % 8 ≤ 4 ∧ (x < 128 → Lib.firstT x % 8 = 0) ∧ (194 ≤ x → x < 224 → Lib.firstT x % 8 = 2) ∧ (224 ≤ x → x < 240 → Lib.firstT x % 8 = 3) ∧ (240 ≤ x → x < 245 → Lib.firstT x % 8 = 4) := by
  unfold Lib.firstT
  repeat' split
  all_goals omega
theorem full_one (x : UInt8) (h : 2 ≤ Lib.firstT x.toNat % 8) : fullF [x] = false := by
  unfold fullF
  rw [if_neg (by simp), if_neg (by simp only [List.getD_cons_zero, List.length_cons, List.length_nil]; omega), if_neg (by simp)]
  simp
theorem acc_mid (x : Nat) : Lib.accLo (Lib.firstT x / 16) = (if x = 224 then 160 else if x = 240 then 144 else 128) ∨ x < 194 ∨ 244 < x := by
  unfold Lib.firstT
  repeat' split
  all_goals first | omega | simp [Lib.accLo]
theorem acc_top (x : Nat) : Lib.accHi (Lib.firstT x / 16) = (if x = 237 then 159 else if x = 244 then 143 else 191) ∨ x < 194 ∨ 244 < x := by
  unfold Lib.firstT
  repeat' split
  all_goals first | omega | simp [Lib.accHi]
theorem full_two (x y : UInt8) (h : 3 ≤ Lib.firstT x.toNat % 8) (h1 : Lib.accLo (Lib.firstT x.toNat / 16) ≤ y.toNat) (h2 : y.toNat ≤ Lib.accHi (Lib.firstT x.toNat / 16)) : fullF [x, y] = false := by
  unfold fullF
  simp only [List.getD_cons_zero, List.getD_cons_succ, List.length_cons, List.length_nil]
  rw [if_neg (by omega), if_neg (by omega), if_neg (by omega), decide_eq_false (by omega)]
theorem full_three (x y z : UInt8) (h : 4 ≤ Lib.firstT x.toNat % 8) (h1 : Lib.accLo (Lib.firstT x.toNat / 16) ≤ y.toNat) (h2 : y.toNat ≤ Lib.accHi (Lib.firstT x.toNat / 16)) (h3 : 128 ≤ z.toNat) (h4 : z.toNat ≤ 191) : fullF [x, y, z] = false := by
  unfold fullF
  simp only [List.getD_cons_zero, List.getD_cons_succ, List.length_cons, List.length_nil]
  rw [if_neg (by omega), if_neg (by omega), if_neg (by omega), decide_eq_false (by omega)]
theorem eq_byte {x : UInt8} {n : Nat} (h : UInt8.ofNat n = x) (hn : n < 256) : x.toNat = n := by rw [← h]; exact toNat_of n hn
set_option maxHeartbeats 2000000 in
theorem part_full (r : Nat) (h : chr r) (p t : List UInt8) (e : encU r = p ++ t) (hp : p ≠ []) (ht : t ≠ []) : fullF p = false := by
  unfold chr at h
  have htl : 1 ≤ t.length := List.length_pos_iff.2 ht
  have hlen := congrArg List.length e
  rw [List.length_append] at hlen
  rcases p with _ | ⟨x, p⟩
  · exact absurd rfl hp
  unfold encU encN at e hlen
  by_cases h1 : r < 128
  · rw [if_pos h1] at hlen; simp only [List.map_cons, List.map_nil, List.length_cons, List.length_nil] at hlen; omega
  rw [if_neg h1] at e hlen
  by_cases h2 : r < 2048
  · rw [if_pos h2] at e hlen
    simp only [List.map_cons, List.map_nil, List.cons_append, List.cons.injEq, List.length_cons, List.length_nil] at e hlen
    obtain rfl : p = [] := List.eq_nil_of_length_eq_zero (by omega)
    have ex := eq_byte e.1 (by omega)
    have := (firstT_lead x.toNat).2.2.1 (by omega) (by omega)
    exact full_one x (by omega)
  rw [if_neg h2] at e hlen
  by_cases h3 : r < 65536
  · rw [if_pos h3] at e hlen
    simp only [List.map_cons, List.map_nil, List.cons_append, List.cons.injEq, List.length_cons, List.length_nil] at e hlen
    obtain ⟨e0, e⟩ := e
    have ex := eq_byte e0 (by omega)
    have hf := (firstT_lead x.toNat).2.2.2.1 (by omega) (by omega)
    rcases p with _ | ⟨y, p⟩
    · exact full_one x (by omega)
    simp only [List.cons_append, List.cons.injEq, List.length_cons] at e hlen
    obtain rfl : p = [] := List.eq_nil_of_length_eq_zero (by omega)
    have ey := eq_byte e.1 (by omega)
    have a1 := acc_mid x.toNat
    have a2 := acc_top x.toNat
    refine full_two x y (by omega) ?_ ?_
    · rcases a1 with a | a | a
      · rw [a]; repeat' split
        all_goals omega
      all_goals omega
    · rcases a2 with a | a | a
      · rw [a]; repeat' split
        all_goals omega
      all_goals omega
  · rw [if_neg h3] at e hlen
    simp only [List.map_cons, List.map_nil, List.cons_append, List.cons.injEq, List.length_cons, List.length_nil] at e hlen
    obtain ⟨e0, e⟩ := e
    have ex := eq_byte e0 (by omega)
    have hf := (firstT_lead x.toNat).2.2.2.2 (by omega) (by omega)
    rcases p with _ | ⟨y, p⟩
    · exact full_one x (by omega)
    simp only [List.cons_append, List.cons.injEq, List.length_cons] at e hlen
    obtain ⟨e1, e⟩ := e
    have ey := eq_byte e1 (by omega)
    have a1 := acc_mid x.toNat
    have a2 := acc_top x.toNat
    have b1 : Lib.accLo (Lib.firstT x.toNat / 16) ≤ y.toNat := by
      rcases a1 with a | a | a
      · rw [a]; repeat' split
        all_goals omega
      all_goals omega
    have b2 : y.toNat ≤ Lib.accHi (Lib.firstT x.toNat / 16) := by
      rcases a2 with a | a | a
      · rw [a]; repeat' split
        all_goals omega
      all_goals omega
    rcases p with _ | ⟨z, p⟩
    · exact full_two x y (by omega) b1 b2
    simp only [List.cons_append, List.cons.injEq, List.length_cons] at e hlen
    obtain rfl : p = [] := List.eq_nil_of_length_eq_zero (by omega)
    have ez := eq_byte e.1 (by omega)
    exact full_three x y z (by omega) b1 b2 (by omega) (by omega)
theorem enc_full (r : Nat) (h : chr r) : fullF (encU r) = true := by
  have hd := dec_enc r h []
  rw [List.append_nil] at hd
  have hne := (encN_ne r)
  have hl : (encU r).length = (encN r).length := by simp [encU]
  unfold fullF
  rw [if_neg (by omega), if_pos]
  rw [hl]
  unfold chr at h
  unfold encU encN
  by_cases h1 : r < 128
  · rw [if_pos h1]
    simp only [List.map_cons, List.map_nil, List.getD_cons_zero, List.length_cons, List.length_nil]
    rw [toNat_of r (by omega), (firstT_lead r).2.1 h1]; omega
  rw [if_neg h1]
  by_cases h2 : r < 2048
  · rw [if_pos h2]
    simp only [List.map_cons, List.map_nil, List.getD_cons_zero, List.length_cons, List.length_nil]
    rw [toNat_of _ (by omega), (firstT_lead _).2.2.1 (by omega) (by omega)]; omega
  rw [if_neg h2]
  by_cases h3 : r < 65536
  · rw [if_pos h3]
    simp only [List.map_cons, List.map_nil, List.getD_cons_zero, List.length_cons, List.length_nil]
    rw [toNat_of _ (by omega), (firstT_lead _).2.2.2.1 (by omega) (by omega)]; omega
  · rw [if_neg h3]
    simp only [List.map_cons, List.map_nil, List.getD_cons_zero, List.length_cons, List.length_nil]
    rw [toNat_of _ (by omega), (firstT_lead _).2.2.2.2 (by omega) (by omega)]; omega
theorem part_dec (r : Nat) (h : chr r) (p t : List UInt8) (e : encU r = p ++ t) (hp : p ≠ []) (ht : t ≠ []) : decL p = (65533, 1) := by
  have htl : 1 ≤ t.length := List.length_pos_iff.2 ht
  rcases dec_inv p hp with ⟨k1, k2, k3⟩ | k
  · exfalso
    have hh := enc_head (decL p).1 r (chr_le k1) (chr_le h) (p.drop (decL p).2 ++ t) [] (by rw [List.append_nil, e, ← List.append_assoc, ← k2])
    have h1 := congrArg List.length e
    have h2 := congrArg List.length k2
    rw [List.length_append] at h1 h2
    have e1 : ∀ q, (encU q).length = (encN q).length := fun q => by simp [encU]
    rw [e1] at h1 h2
    omega
  · exact k
theorem beg_cases (c : Nat) (hc : gdC c) (p : List UInt8) (h : begB c p = true) :
    p ≠ [] ∧ ((p.length = widB p ∧ ∃ r, chr r ∧ isR (rng c) r = true ∧ p = encU r ∧ decL p = (r, p.length) ∧ spanL p = (r, r) ∧ fullF p = true) ∨
      (p.length < widB p ∧ decL p = (65533, 1) ∧ fullF p = false)) := by
  obtain ⟨r, h1, h2, h3, h4, t, h5⟩ := beg_inv c hc p h
  refine ⟨h4, ?_⟩
  have hl := congrArg List.length h5
  rw [List.length_append, show (encU r).length = (encN r).length by simp [encU], h3] at hl
  by_cases ht : t = []
  · subst ht
    rw [List.append_nil] at h5
    subst h5
    have hd := dec_enc r h1 []
    rw [List.append_nil] at hd
    rw [List.length_nil] at hl
    exact .inl ⟨by omega, r, h1, h2, rfl, by rw [hd]; simp [encU], span_enc r (chr_le h1), enc_full r h1⟩
  · have htl : 1 ≤ t.length := List.length_pos_iff.2 ht
    exact .inr ⟨by omega, part_dec r h1 p t h5 h4 ht, part_full r h1 p t h5 h4 ht⟩

inductive Sc (α : Type) where
  | wait : Sc α
  | bad (n : Nat) : Sc α
  | ok (a : α) (n : Nat) : Sc α
def charGo (c : Nat) (l : List UInt8) : Nat → Nat → Sc Nat
  | 0, _ => .wait
  | f + 1, k => if l.length < k then .wait else if begB c (l.take k) = true then (if k = widB l then .ok (spanL (l.take k)).1 k else charGo c l f (k + 1)) else .bad (k - 1)
def charL (c : Nat) (l : List UInt8) : Sc Nat := charGo c l 5 1
theorem widB_take (l : List UInt8) (k : Nat) (h : 1 ≤ k) : widB (l.take k) = widB l := by
  unfold widB
  rcases l with _ | ⟨x, l⟩
  · simp
  · obtain ⟨k, rfl⟩ : ∃ j, k = j + 1 := ⟨k - 1, by omega⟩
    simp
def soleB (p : List UInt8) : Bool := decide ((rL p).length = 1 ∧ ((rL p).getD 0 0 ≠ 65533 ∨ p.length = 3))
theorem rL_pos (l : List UInt8) (h : l ≠ []) : 1 ≤ (rL l).length := by rw [rL_cons l h]; simp
theorem sole_iff (c : Nat) (hc : gdC c) (p : List UInt8) (h : begB c p = true) : soleB p = true ↔ p.length = widB p := by
  obtain ⟨hne, hp⟩ := beg_cases c hc p h
  unfold soleB
  rw [decide_eq_true_iff]
  rcases hp with ⟨h1, r, h2, h3, h4, h5, _⟩ | ⟨h1, h2, _⟩
  · have hr : rL p = [(r : Int)] := by rw [rL_cons p hne, h5, List.drop_length]; rfl
    rw [hr]
    refine ⟨fun _ => h1, fun _ => ⟨rfl, ?_⟩⟩
    by_cases hq : r = 65533
    · right
      rw [h4, hq]; rfl
    · left
      simp only [List.getD_cons_zero, ne_eq]
      omega
  · refine ⟨fun h => ?_, fun h => by omega⟩
    exfalso
    obtain ⟨k1, k2⟩ := h
    rw [rL_cons p hne, h2] at k1 k2
    simp only [List.length_cons, List.getD_cons_zero] at k1 k2
    by_cases hd : p.drop 1 = []
    · have := congrArg List.length hd
      rw [List.length_drop, List.length_nil] at this
      have hl := List.length_pos_iff.2 hne
      rcases k2 with k2 | k2
      · exact k2 rfl
      · omega
    · have := rL_pos _ hd
      omega
end Go.Proofs.YtjdmndpadejegaaDoor

namespace Go.Proofs.YtjdmndpadejegaaDoor
open Go.RowKit

theorem charGo_ok (c : Nat) (hc : gdC c) (l : List UInt8) : ∀ (f k r n : Nat), 1 ≤ k → charGo c l f k = .ok r n →
    k ≤ n ∧ n ≤ l.length ∧ n = widB l ∧ chr r ∧ isR (rng c) r = true ∧ l.take n = encU r
  | 0, _, _, _, _, h => by cases h
  | f + 1, k, r, n, hk, h => by
    simp only [charGo] at h
    split at h
    · cases h
    · rename_i h1
      split at h
      · rename_i h2
        split at h
        · rename_i h3
          cases h
          obtain ⟨hne, hp⟩ := beg_cases c hc _ h2
          have hlen : (l.take k).length = k := by rw [List.length_take]; omega
          rw [widB_take l k hk, hlen] at hp
          rcases hp with ⟨_, r, g2, g3, g4, g5, g6, _⟩ | ⟨g1, _⟩
          · rw [g6]
            exact ⟨Nat.le_refl _, by omega, h3, g2, g3, g4⟩
          · omega
        · obtain ⟨g1, g2⟩ := charGo_ok c hc l f (k + 1) r n (by omega) h
          exact ⟨by omega, g2⟩
      · cases h
theorem charL_ok {c : Nat} (hc : gdC c) {l : List UInt8} {r n : Nat} (h : charL c l = .ok r n) :
    1 ≤ n ∧ n ≤ l.length ∧ n = widB l ∧ chr r ∧ isR (rng c) r = true ∧ l.take n = encU r := charGo_ok c hc l 5 1 r n (Nat.le_refl _) h
theorem charGo_bad (c : Nat) (l : List UInt8) : ∀ (f k n : Nat), 1 ≤ k → charGo c l f k = .bad n → k ≤ n + 1 ∧ n < l.length
  | 0, _, _, _, h => by cases h
  | f + 1, k, n, hk, h => by
    simp only [charGo] at h
    split at h
    · cases h
    · split at h
      · split at h
        · cases h
        · obtain ⟨h1, h2⟩ := charGo_bad c l f (k + 1) n (by omega) h
          exact ⟨by omega, h2⟩
      · cases h
        exact ⟨by omega, by omega⟩
theorem charL_bad {c : Nat} {l : List UInt8} {n : Nat} (h : charL c l = .bad n) : n < l.length := (charGo_bad c l 5 1 n (Nat.le_refl _) h).2
theorem widB_app (l m : List UInt8) (h : l ≠ []) : widB (l ++ m) = widB l := by
  rcases l with _ | ⟨x, l⟩
  · exact absurd rfl h
  · rfl
theorem charGo_app (c : Nat) (l m : List UInt8) : ∀ (f k : Nat), 1 ≤ k → charGo c l f k ≠ .wait → charGo c (l ++ m) f k = charGo c l f k
  | 0, _, _, h => absurd rfl h
  | f + 1, k, hk, h => by
    simp only [charGo] at h ⊢
    by_cases h1 : l.length < k
    · rw [if_pos h1] at h; exact absurd rfl h
    · rw [if_neg h1] at h ⊢
      have hne : l ≠ [] := by rintro rfl; rw [List.length_nil] at h1; omega
      rw [if_neg (by rw [List.length_append]; omega), List.take_append_of_le_length (by omega), widB_app l m hne]
      by_cases h2 : begB c (l.take k) = true
      · rw [if_pos h2] at h ⊢
        rw [if_pos h2]
        by_cases h3 : k = widB l
        · rw [if_pos h3]
          rw [if_pos h3]
        · rw [if_neg h3] at h ⊢
          rw [if_neg h3]
          exact charGo_app c l m f (k + 1) (by omega) h
      · rw [if_neg h2]
        rw [if_neg h2]
theorem charL_app (c : Nat) (l m : List UInt8) (h : charL c l ≠ .wait) : charL c (l ++ m) = charL c l := charGo_app c l m 5 1 (Nat.le_refl _) h
theorem charGo_cut (c : Nat) (l : List UInt8) (j : Nat) : ∀ (f k : Nat), 1 ≤ k → (∀ r n, charGo c l f k = .ok r n → j < n) → (∀ n, charGo c l f k = .bad n → j ≤ n) → charGo c (l.take j) f k = .wait
  | 0, _, _, _, _ => rfl
  | f + 1, k, hk, h, h' => by
    simp only [charGo] at h h' ⊢
    by_cases h1 : (l.take j).length < k
    · rw [if_pos h1]
    · rw [if_neg h1]
      rw [List.length_take] at h1
      rw [if_neg (by omega)] at h h'
      rw [List.take_take, Nat.min_eq_left (by omega), widB_take l j (by omega)]
      by_cases h2 : begB c (l.take k) = true
      · rw [if_pos h2] at h h' ⊢
        by_cases h3 : k = widB l
        · rw [if_pos h3] at h
          have := h _ _ rfl
          omega
        · rw [if_neg h3] at h h' ⊢
          exact charGo_cut c l j f (k + 1) (by omega) h h'
      · rw [if_neg h2] at h'
        have := h' _ rfl
        omega
theorem charL_cut_ok {c : Nat} {l : List UInt8} {r n j : Nat} (h : charL c l = .ok r n) (hj : j < n) : charL c (l.take j) = .wait :=
  charGo_cut c l j 5 1 (Nat.le_refl _) (fun r' n' e => by rw [show charGo c l 5 1 = charL c l from rfl, h] at e; cases e; exact hj) (fun n' e => by rw [show charGo c l 5 1 = charL c l from rfl, h] at e; cases e)
theorem charL_cut_bad {c : Nat} {l : List UInt8} {n j : Nat} (h : charL c l = .bad n) (hj : j ≤ n) : charL c (l.take j) = .wait :=
  charGo_cut c l j 5 1 (Nat.le_refl _) (fun r' n' e => by rw [show charGo c l 5 1 = charL c l from rfl, h] at e; cases e) (fun n' e => by rw [show charGo c l 5 1 = charL c l from rfl, h] at e; cases e; exact hj)
theorem charGo_fix (c : Nat) (l m : List UInt8) : ∀ (f k n : Nat), 1 ≤ k → charGo c l f k = .bad n → charGo c (l.take (n + 1) ++ m) f k = .bad n
  | 0, _, _, _, h => by cases h
  | f + 1, k, n, hk, h => by
    have hb := charGo_bad c l (f + 1) k n hk h
    simp only [charGo] at h ⊢
    rw [if_neg (by omega)] at h
    have hlen : (l.take (n + 1)).length = n + 1 := by rw [List.length_take]; omega
    have hne : l.take (n + 1) ≠ [] := by intro e; rw [e] at hlen; simp at hlen
    rw [if_neg (by rw [List.length_append]; omega), List.take_append_of_le_length (by omega), List.take_take, Nat.min_eq_left (by omega), widB_app _ m hne, widB_take l _ (by omega)]
    by_cases h2 : begB c (l.take k) = true
    · rw [if_pos h2] at h ⊢
      by_cases h3 : k = widB l
      · rw [if_pos h3] at h; cases h
      · rw [if_neg h3] at h ⊢
        exact charGo_fix c l m f (k + 1) n (by omega) h
    · rw [if_neg h2] at h ⊢
      exact h
theorem charL_fix {c : Nat} {l : List UInt8} (m : List UInt8) {n : Nat} (h : charL c l = .bad n) : charL c (l.take (n + 1) ++ m) = .bad n := charGo_fix c l m 5 1 n (Nat.le_refl _) h

/-! a character of the class, written -/
theorem widB_enc (r : Nat) (h : r ≤ 1114111) (t : List UInt8) : widB (encU r ++ t) = (encN r).length := by
  unfold widB encU encN
  by_cases h1 : r < 128
  · rw [if_pos h1]
    simp only [List.map_cons, List.map_nil, List.cons_append, List.getD_cons_zero, List.length_cons, List.length_nil]
    rw [toNat_of r (by omega)]; unfold leadN; rw [if_pos h1]
  rw [if_neg h1]
  by_cases h2 : r < 2048
  · rw [if_pos h2]
    simp only [List.map_cons, List.map_nil, List.cons_append, List.getD_cons_zero, List.length_cons, List.length_nil]
    rw [toNat_of _ (by omega)]; unfold leadN; rw [if_neg (by omega), if_pos (by omega)]
  rw [if_neg h2]
  by_cases h3 : r < 65536
  · rw [if_pos h3]
    simp only [List.map_cons, List.map_nil, List.cons_append, List.getD_cons_zero, List.length_cons, List.length_nil]
    rw [toNat_of _ (by omega)]; unfold leadN; rw [if_neg (by omega), if_neg (by omega), if_pos (by omega)]
  · rw [if_neg h3]
    simp only [List.map_cons, List.map_nil, List.cons_append, List.getD_cons_zero, List.length_cons, List.length_nil]
    rw [toNat_of _ (by omega)]; unfold leadN; rw [if_neg (by omega), if_neg (by omega), if_neg (by omega), if_pos (by omega)]
theorem contN_app : ∀ (l t : List UInt8) (f b : Nat), contN (l ++ t) f = some b → ∃ a, contN l f = some a ∧ contN t a = some b
  | [], t, f, b, h => ⟨f, rfl, h⟩
  | y :: l, t, f, b, h => by
    obtain ⟨h1, h2, h3⟩ := cont1 h
    obtain ⟨a, h4, h5⟩ := contN_app l t _ b h3
    exact ⟨a, by rw [contN_cons y l f ⟨h1, h2⟩]; exact h4, h5⟩
theorem isR_find : ∀ (l : List (Int × Int)) (r : Int), isR l r = true → ∃ p ∈ l, p.1 ≤ r ∧ r ≤ p.2
  | [], _, h => by cases h
  | q :: l, r, h => by
    simp only [isR] at h
    split at h
    · rename_i h1
      exact ⟨q, by simp, by simpa using h, h1⟩
    · obtain ⟨p, h1, h2⟩ := isR_find l r h
      exact ⟨p, by simp [h1], h2⟩
theorem beg_pre (c r : Nat) (hr : r ≤ 1114111) (h : isR (rng c) r = true) (p t : List UInt8) (e : encU r = p ++ t) (hp : p ≠ []) : begB c p = true := by
  have hs := span_enc r hr
  have hw := widB_enc r hr []
  rw [List.append_nil] at hw
  have hl := congrArg List.length e
  rw [List.length_append, show (encU r).length = (encN r).length by simp [encU]] at hl
  have h4 := (encN_ne r).2
  rcases p with _ | ⟨x, l⟩
  · exact absurd rfl hp
  rw [e] at hs hw
  rw [← hw] at hl h4
  unfold widB at hl hw h4
  simp only [List.cons_append, List.getD_cons_zero] at hl hw hs h4
  unfold begB
  simp only [spanL] at hs ⊢
  generalize leadN x.toNat = q at *
  obtain ⟨n, f, m⟩ := q
  simp only [List.length_append, List.length_cons] at hl hw hs h4 ⊢
  rw [if_neg (by omega)] at hs
  rw [if_neg (by omega)]
  cases hq : contN (l ++ t) f with
  | none => rw [hq] at hs; simp at hs; omega
  | some b =>
    rw [hq] at hs
    obtain ⟨a, ha, hb⟩ := contN_app l t f b hq
    rw [ha]
    have hk : n - (l.length + t.length + 1) = 0 := by omega
    rw [hk] at hs
    simp only [widN, Prod.mk.injEq] at hs
    obtain ⟨w1, w2⟩ := widN_mono (n - (l.length + 1)) (a, a)
    obtain ⟨g1, g2⟩ := contN_range t a b hb
    have hk2 : n - (l.length + 1) = t.length := by omega
    rw [hk2] at w1 w2 ⊢
    simp only at w1 w2 ⊢
    obtain ⟨pr, hpr, k1, k2⟩ := isR_find _ _ h
    unfold meetB
    rw [List.any_eq_true]
    refine ⟨pr, hpr, ?_⟩
    rw [decide_eq_true_iff]
    simp only
    rw [w1]
    generalize (widN t.length (a, a)).2 = hi at w2 ⊢
    generalize a * 64 ^ t.length = lo at *
    generalize (a + 1) * 64 ^ t.length = hi' at *
    omega
theorem charGo_enc (c r : Nat) (hr : r ≤ 1114111) (h : isR (rng c) r = true) (t : List UInt8) : ∀ (f k : Nat), 1 ≤ k → k ≤ (encN r).length → (encN r).length < k + f → charGo c (encU r ++ t) f k = .ok r (encN r).length
  | 0, _, _, _, _ => by omega
  | f + 1, k, hk, h1, h2 => by
    have hl : (encU r).length = (encN r).length := by simp [encU]
    simp only [charGo]
    rw [if_neg (by rw [List.length_append]; omega), List.take_append_of_le_length (by omega), widB_enc r hr t]
    have hb := beg_pre c r hr h ((encU r).take k) ((encU r).drop k) (List.take_append_drop _ _).symm (by
      intro e
      have := congrArg List.length e
      rw [List.length_take, List.length_nil] at this
      omega)
    rw [if_pos hb]
    by_cases h3 : k = (encN r).length
    · rw [if_pos h3, List.take_of_length_le (by omega), span_enc r hr, h3]
    · rw [if_neg h3]
      exact charGo_enc c r hr h t f (k + 1) (by omega) (by omega) (by omega)
theorem charL_enc (c r : Nat) (hr : r ≤ 1114111) (h : isR (rng c) r = true) (t : List UInt8) : charL c (encU r ++ t) = .ok r (encN r).length :=
  charGo_enc c r hr h t 5 1 (Nat.le_refl _) (encN_ne r).1 (by have := (encN_ne r).2; omega)
end Go.Proofs.YtjdmndpadejegaaDoor

namespace Go.Proofs.YtjdmndpadejegaaDoor
open Go.RowKit

def Sc.up {α : Type} (k : Nat) : Sc α → Sc α
  | .wait => .wait
  | .bad n => .bad (k + n)
  | .ok a n => .ok a (k + n)
def Sc.next {α β : Type} (a : Sc α) (l : List UInt8) (G : α → List UInt8 → Sc β) : Sc β :=
  match a with
  | .wait => .wait
  | .bad n => .bad n
  | .ok x n => (G x (l.drop n)).up n
theorem Sc.up_zero {α : Type} (a : Sc α) : a.up 0 = a := by cases a <;> simp [Sc.up]
theorem Sc.up_up {α : Type} (a : Sc α) (i j : Nat) : (a.up i).up j = a.up (j + i) := by cases a <;> simp [Sc.up, Nat.add_assoc]
theorem Sc.up_wait {α : Type} {a : Sc α} {k : Nat} : a.up k = .wait ↔ a = .wait := by cases a <;> simp [Sc.up]

structure Det {α : Type} (s : Nat) (F : List UInt8 → Sc α) : Prop where
  ok : ∀ l a n, F l = .ok a n → n + s ≤ l.length ∧ (∀ m, F (l.take (n + s) ++ m) = .ok a n) ∧ ∀ j, j < n + s → F (l.take j) = .wait
  bad : ∀ l n, F l = .bad n → n < l.length ∧ (∀ m, F (l.take (n + 1) ++ m) = .bad n) ∧ ∀ j, j ≤ n → F (l.take j) = .wait
theorem take_cat (l : List UInt8) (a b : Nat) (m : List UInt8) : l.take (a + b) ++ m = l.take a ++ ((l.drop a).take b ++ m) := by rw [List.take_add, List.append_assoc]
theorem drop_cat (l : List UInt8) (a b : Nat) (m : List UInt8) (h : a ≤ l.length) : (l.take (a + b) ++ m).drop a = (l.drop a).take b ++ m := by
  rw [take_cat, List.drop_append, List.drop_of_length_le (by rw [List.length_take]; omega), List.length_take, Nat.min_eq_left h, Nat.sub_self, List.drop_zero, List.nil_append]
theorem Det.next {α β : Type} {s s' : Nat} {F : List UInt8 → Sc α} {G : α → List UInt8 → Sc β} (hF : Det s F) (hs : s ≤ 1) (hG : ∀ a, Det s' (G a)) (hk : ∀ a l c k, G a l = .ok c k → s ≤ k + s') :
    Det s' fun l => (F l).next l G where
  ok l c K h := by
    cases hf : F l with
    | wait => rw [hf] at h; cases h
    | bad n => rw [hf] at h; cases h
    | ok a n =>
      rw [hf] at h
      simp only [Sc.next] at h
      obtain ⟨f1, f2, f3⟩ := hF.ok l a n hf
      cases hg : G a (l.drop n) with
      | wait => rw [hg] at h; cases h
      | bad k => rw [hg] at h; cases h
      | ok c' k =>
        rw [hg] at h
        simp only [Sc.up, Sc.ok.injEq] at h
        obtain ⟨rfl, rfl⟩ := h
        obtain ⟨g1, g2, g3⟩ := (hG a).ok _ _ _ hg
        have hks := hk a _ _ _ hg
        rw [List.length_drop] at g1
        refine ⟨by omega, fun m => ?_, fun j hj => ?_⟩
        · have e1 : F (l.take (n + k + s') ++ m) = .ok a n := by
            rw [show n + k + s' = (n + s) + (k + s' - s) by omega, take_cat]
            exact f2 _
          rw [e1]
          simp only [Sc.next]
          rw [show n + k + s' = n + (k + s') by omega, drop_cat l n (k + s') m (by omega), g2 m]
          rfl
        · by_cases hj2 : j < n + s
          · rw [f3 j hj2]; rfl
          · have e1 : F (l.take j) = .ok a n := by
              have := f2 ((l.drop (n + s)).take (j - (n + s)))
              rw [← List.take_add, show n + s + (j - (n + s)) = j by omega] at this
              exact this
            rw [e1]
            simp only [Sc.next]
            rw [List.drop_take, g3 (j - n) (by omega)]
            rfl
  bad l K h := by
    cases hf : F l with
    | wait => rw [hf] at h; cases h
    | bad n =>
      rw [hf] at h
      simp only [Sc.next, Sc.bad.injEq] at h
      subst h
      obtain ⟨f1, f2, f3⟩ := hF.bad l n hf
      exact ⟨f1, fun m => by rw [f2 m]; rfl, fun j hj => by rw [f3 j hj]; rfl⟩
    | ok a n =>
      rw [hf] at h
      simp only [Sc.next] at h
      obtain ⟨f1, f2, f3⟩ := hF.ok l a n hf
      cases hg : G a (l.drop n) with
      | wait => rw [hg] at h; cases h
      | ok c' k => rw [hg] at h; cases h
      | bad k =>
        rw [hg] at h
        simp only [Sc.up, Sc.bad.injEq] at h
        subst h
        obtain ⟨g1, g2, g3⟩ := (hG a).bad _ _ hg
        rw [List.length_drop] at g1
        refine ⟨by omega, fun m => ?_, fun j hj => ?_⟩
        · have e1 : F (l.take (n + k + 1) ++ m) = .ok a n := by
            rw [show n + k + 1 = (n + s) + (k + 1 - s) by omega, take_cat]
            exact f2 _
          rw [e1]
          simp only [Sc.next]
          rw [show n + k + 1 = n + (k + 1) by omega, drop_cat l n (k + 1) m (by omega), g2 m]
          rfl
        · by_cases hj2 : j < n + s
          · rw [f3 j hj2]; rfl
          · have e1 : F (l.take j) = .ok a n := by
              have := f2 ((l.drop (n + s)).take (j - (n + s)))
              rw [← List.take_add, show n + s + (j - (n + s)) = j by omega] at this
              exact this
            rw [e1]
            simp only [Sc.next]
            rw [List.drop_take, g3 (j - n) (by omega)]
            rfl
theorem det_wait {α : Type} (s : Nat) : Det s (fun _ => (Sc.wait : Sc α)) := ⟨fun _ _ _ h => (by cases h), fun _ _ h => (by cases h)⟩
theorem det_char (c : Nat) (hc : gdC c) : Det 0 (charL c) where
  ok l r n h := by
    obtain ⟨h1, h2, h3, h4, h5, h6⟩ := charL_ok hc h
    refine ⟨by omega, fun m => ?_, fun j hj => charL_cut_ok h (by omega)⟩
    rw [Nat.add_zero, h6, charL_enc c r (chr_le h4) h5 m]
    have := congrArg List.length h6
    rw [List.length_take, show (encU r).length = (encN r).length by simp [encU]] at this
    congr 1; omega
  bad l n h := ⟨charL_bad h, fun m => charL_fix m h, fun j hj => charL_cut_bad h hj⟩
theorem det_head {α : Type} {s : Nat} (F : List UInt8 → Sc α) (G : UInt8 → List UInt8 → Sc α) (h0 : F [] = .wait) (h1 : ∀ x l, F (x :: l) = G x (x :: l)) (hG : ∀ x, ∀ l, (∀ a n, G x (x :: l) = .ok a n → n + s ≤ (x :: l).length ∧ 1 ≤ n + s ∧ (∀ m, G x ((x :: l).take (n + s) ++ m) = .ok a n) ∧ ∀ j, 1 ≤ j → j < n + s → G x ((x :: l).take j) = .wait) ∧
    (∀ n, G x (x :: l) = .bad n → n < (x :: l).length ∧ (∀ m, G x ((x :: l).take (n + 1) ++ m) = .bad n) ∧ ∀ j, 1 ≤ j → j ≤ n → G x ((x :: l).take j) = .wait)) : Det s F where
  ok l a n h := by
    rcases l with _ | ⟨x, l⟩
    · rw [h0] at h; cases h
    · rw [h1] at h
      obtain ⟨g1, g2, g3, g4⟩ := (hG x l).1 a n h
      refine ⟨g1, fun m => ?_, fun j hj => ?_⟩
      · have := g3 m
        obtain ⟨q, hq⟩ : ∃ q, n + s = q + 1 := ⟨n + s - 1, by omega⟩
        rw [hq] at this ⊢
        rw [List.take_succ_cons, List.cons_append] at this ⊢
        rw [h1]; exact this
      · rcases j with _ | j
        · exact h0
        · have := g4 (j + 1) (by omega) hj
          rw [List.take_succ_cons] at this ⊢
          rw [h1]; exact this
  bad l n h := by
    rcases l with _ | ⟨x, l⟩
    · rw [h0] at h; cases h
    · rw [h1] at h
      obtain ⟨g1, g3, g4⟩ := (hG x l).2 n h
      refine ⟨g1, fun m => ?_, fun j hj => ?_⟩
      · have := g3 m
        rw [List.take_succ_cons, List.cons_append] at this ⊢
        rw [h1]; exact this
      · rcases j with _ | j
        · exact h0
        · have := g4 (j + 1) (by omega) hj
          rw [List.take_succ_cons] at this ⊢
          rw [h1]; exact this
end Go.Proofs.YtjdmndpadejegaaDoor
