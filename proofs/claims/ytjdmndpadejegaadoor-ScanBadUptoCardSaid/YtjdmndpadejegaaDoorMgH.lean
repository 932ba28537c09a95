/-
  chars.reach, chars.Begins.
-/
import Derived.Test.YtjdmndpadejegaaDoorMgG
import Derived.Test.YtjdmndpadejegaaDoorProg
import Derived.Test.YtjdmndpadejegaaDoorMgB
import Derived.Laws.DeepBits32
namespace Go.Proofs.YtjdmndpadejegaaDoor
open Go.RowKit

theorem nat_hi6 (x : Nat) (hx : x < 2147483648) : x &&& 4294967232 = x - x % 64 := by
  apply Nat.eq_of_testBit_eq
  intro i
  rw [Nat.testBit_and]
  have h2 : x - x % 64 = 64 * (x / 64) := by omega
  rw [h2, show 64 = 2 ^ 6 from rfl, Nat.testBit_two_pow_mul, show (4294967232 : Nat) = 2 ^ 6 * (2 ^ 26 - 1) from rfl, Nat.testBit_two_pow_mul, Nat.testBit_two_pow_sub_one]
  by_cases hi : 6 ≤ i
  · simp only [hi, decide_true, Bool.true_and]
    rw [Nat.testBit_div_two_pow, show i - 6 + 6 = i by omega]
    by_cases h3 : i - 6 < 26
    · simp [h3]
    · simp only [h3, decide_false, Bool.and_false]
      have : x < 2 ^ i := Nat.lt_of_lt_of_le hx (by show 2 ^ 31 ≤ 2 ^ i; exact Nat.pow_le_pow_right (by decide) (by omega))
      rw [Nat.testBit_lt_two_pow this]
  · simp [hi]
theorem i32_andNot63 (x : Nat) (hx : x < 2147483648) : bits .andNot .i32 (x : Int) 63 = ((x - x % 64 : Nat) : Int) := by
  show IntKind.i32.wrap ((BitVec.ofInt 32 (x : Int) &&& ~~~BitVec.ofInt 32 63).toNat : Int) = _
  have h1 : (BitVec.ofInt 32 63).toNat = 63 := by decide
  rw [BitVec.toNat_and, BitVec.toNat_not, ofInt_u32 x (by omega), h1, show 2 ^ 32 - 1 - 63 = 4294967232 by decide, nat_hi6 x hx]
  exact wrap_i32_small _ (by omega) (by omega)
theorem i32_or63 (x y : Nat) (hx : x % 64 = 0) (hx1 : x < 2147483648) (hy : y < 64) : bits .or .i32 (x : Int) (y : Int) = ((x + y : Nat) : Int) := by
  rw [i32_or6 (x : Int) (y : Int) (by omega) (by omega) (by omega) (by omega) (by omega)]
  simp
set_option maxRecDepth 100000 in
theorem u8_top : ∀ n : Fin 256, (bits .and .u8 ((n.val : Nat) : Int) 192 != 128) = !decide (128 ≤ n.val ∧ n.val ≤ 191) := by decide
def RI (t : List UInt8) (f k lo hi : Nat) : Prop :=
  (k ≤ t.length + 1 ∧ hi = lo ∧ contN t f = contN (t.drop (k - 1)) lo) ∨ (t.length + 1 ≤ k ∧ ∃ a, contN t f = some a ∧ (lo, hi) = widN (k - (t.length + 1)) (a, a))
theorem widN_succ : ∀ (k : Nat) (p : Nat × Nat), widN (k + 1) p = ((widN k p).1 * 64, (widN k p).2 * 64 + 63)
  | 0, p => rfl
  | k + 1, p => by
    show widN (k + 1) (p.1 * 64, p.2 * 64 + 63) = _
    rw [widN_succ k]
    rfl
theorem RI.start (t : List UInt8) (f : Nat) : RI t f 1 f f := .inl ⟨by omega, rfl, by simp⟩
theorem RI.take {t : List UInt8} {f k lo hi : Nat} (h : RI t f k lo hi) (hk1 : 1 ≤ k) (hk : k < t.length + 1) (hy : 128 ≤ (t.getD (k - 1) 0).toNat ∧ (t.getD (k - 1) 0).toNat ≤ 191) : hi = lo ∧ RI t f (k + 1) (lo * 64 + ((t.getD (k - 1) 0).toNat - 128)) (lo * 64 + ((t.getD (k - 1) 0).toNat - 128)) := by
  rcases h with ⟨_, h2, h3⟩ | ⟨h1, _⟩
  · refine ⟨h2, .inl ⟨by omega, rfl, ?_⟩⟩
    rw [h3, List.drop_eq_getElem_cons (by omega), show t.getD (k - 1) 0 = t[k - 1]'(by omega) by simp [List.getD_eq_getElem?_getD, List.getElem?_eq_getElem (show k - 1 < t.length by omega)]] at *
    rw [contN_cons _ _ _ hy, show k - 1 + 1 = k + 1 - 1 by omega]
  · omega
theorem RI.bad {t : List UInt8} {f k lo hi : Nat} (h : RI t f k lo hi) (hk1 : 1 ≤ k) (hk : k < t.length + 1) (hy : ¬ (128 ≤ (t.getD (k - 1) 0).toNat ∧ (t.getD (k - 1) 0).toNat ≤ 191)) : contN t f = none := by
  rcases h with ⟨_, h2, h3⟩ | ⟨h1, _⟩
  · rw [h3, List.drop_eq_getElem_cons (by omega)]
    have e : t.getD (k - 1) 0 = t[k - 1]'(by omega) := by simp [List.getD_eq_getElem?_getD, List.getElem?_eq_getElem (show k - 1 < t.length by omega)]
    rw [e] at hy
    simp only [contN]
    rw [if_pos (by omega)]
  · omega
theorem RI.more {t : List UInt8} {f k lo hi : Nat} (h : RI t f k lo hi) (hk : t.length + 1 ≤ k) : RI t f (k + 1) (lo * 64) (hi * 64 + 63) := by
  right
  refine ⟨by omega, ?_⟩
  rcases h with ⟨h1, h2, h3⟩ | ⟨_, a, h3, h4⟩
  · subst h2
    refine ⟨hi, ?_, ?_⟩
    · rw [h3, List.drop_of_length_le (by omega)]; rfl
    · rw [show k + 1 - (t.length + 1) = 0 + 1 by omega, widN_succ]; rfl
  · refine ⟨a, h3, ?_⟩
    rw [show k + 1 - (t.length + 1) = (k - (t.length + 1)) + 1 by omega, widN_succ, ← h4]
theorem RI.fin {t : List UInt8} {f k lo hi : Nat} (h : RI t f k lo hi) (hk : t.length + 1 ≤ k) : ∃ a, contN t f = some a ∧ (lo, hi) = widN (k - (t.length + 1)) (a, a) := by
  rcases h with ⟨h1, h2, h3⟩ | ⟨_, a, h3, h4⟩
  · subst h2
    refine ⟨hi, ?_, ?_⟩
    · rw [h3, List.drop_of_length_le (by omega)]; rfl
    · rw [show k - (t.length + 1) = 0 by omega]; rfl
  · exact ⟨a, h3, h4⟩
def retR (q : Option (Nat × Nat)) : Ending := .returned (.tuple #[.int .i32 (match q with | none => 0 | some p => p.1), .int .i32 (match q with | none => 0 | some p => p.2), .bool q.isSome])
theorem retR_some {lo hi : Nat} {a c : Int} (h1 : a = lo) (h2 : c = hi) : Ending.returned (.tuple #[.int .i32 a, .int .i32 c, .bool true]) = retR (some (lo, hi)) := by subst h1; subst h2; rfl

set_option maxHeartbeats 4000000 in
set_option maxRecDepth 100000 in
theorem reach_any (a : Option Addr) (n c : Nat) (l : List UInt8) (w : World) (hs : Sl w a n (u8s l)) (hl : l ≠ []) :
    Calls Tryd.prog 64 #[.slice a n c] w fun e w' => e = retR (reachC l) ∧ w' = w := by
  obtain ⟨b, o, rfl, _, hn, hc⟩ := sl_bytes hs hl
  rcases l with _ | ⟨x, t⟩
  · exact absurd rfl hl
  have e0 := hc 0 (by simp)
  rw [Nat.add_zero] at e0
  simp only [List.getD_cons_zero] at e0
  have hN : n = t.length + 1 := by rw [hn]; rfl
  have hC : ∀ k, 1 ≤ k → k < n → w.cell? ⟨b, o + k, none⟩ = some (.int .u8 (t.getD (k - 1) 0).toNat) := by
    intro k hk1 hk
    obtain ⟨j, rfl⟩ : ∃ j, k = j + 1 := ⟨k - 1, by omega⟩
    have := hc (j + 1) (by simp; omega)
    rw [this]
    simp
  have HC := Lib.hid hC
  clear hC hc hs hl hn
  have hpos : 0 < n := by omega
  have hz : ((n : Int) == 0) = false := by simp; omega
  have hx256 := x.toNat_lt
  have hR : reachC (x :: t) = if 4 < t.length + 1 then none
      else match leadC x.toNat with
        | none => none
        | some (n, f, m) =>
          if n < t.length + 1 then none
          else match contN t f with
            | none => none
            | some a => some (max (widN (n - (t.length + 1)) (a, a)).1 m, min (widN (n - (t.length + 1)) (a, a)).2 1114111) := rfl
  rw [hR]
  clear hR
  rw [← hN]
  by_cases h4 : 4 < n
  · rw [if_pos h4]
    have h4i : (4 : Int) < (n : Int) := by omega
    go_enter Tryd.func64, Tryd.ntmps64
    go_wp2_with fail
    refine bodyPost_ret (results_tmp3 rfl _ _ _) rfl ?_
    exact ⟨rfl, rfl⟩
  rw [if_neg h4]
  have h4i : ¬ (4 : Int) < (n : Int) := by omega
  have h4j : (n : Int) ≤ 4 := by omega
  generalize hX : x.toNat = y at *
  have HNL := Lib.hid hN
  clear hN hX h4
  unfold leadC
  by_cases c1 : y < 128
  · rw [if_pos c1]
    simp only
    have c1i : (y : Int) < 128 := by omega
    by_cases hgt : 1 < n
    · rw [if_pos hgt]
      have hgti : (1 : Int) < (n : Int) := by omega
      go_enter Tryd.func64, Tryd.ntmps64
      go_wp2_with fail
      refine bodyPost_ret (results_tmp3 rfl _ _ _) rfl ?_
      exact ⟨rfl, rfl⟩
    rw [if_neg hgt]
    have hgti : ¬ (1 : Int) < (n : Int) := by omega
    have hgtj : (n : Int) ≤ 1 := by omega
    clear hgt
    obtain ⟨R, hRR⟩ : ∃ R, (match contN t y with | none => none | some a => some (max (widN (1 - n) (a, a)).1 0, min (widN (1 - n) (a, a)).2 1114111) : Option (Nat × Nat)) = R := ⟨_, rfl⟩
    have HR := Lib.hid hRR
    rw [hRR]
    clear hRR
    go_enter Tryd.func64, Tryd.ntmps64
    go_wp2_with fail
    go_loopw [2, 3, 8] (fun lx hx ix wr => lx = .int .i32 y ∧ hx = .int .i32 y ∧ ix = .int .i64 1 ∧ wr = w) (fun _ _ _ _ => 0)
    case atStart => exact ⟨rfl, rfl, rfl, rfl⟩
    case round =>
      obtain ⟨rfl, rfl, rfl, rfl⟩ := hrel
      go_wp2_with fail
      refine bodyPost_ret (results_tmp3 rfl _ _ _) rfl ?_
      have ht : t = [] := List.eq_nil_of_length_eq_zero (by have := HNL.out; omega)
      subst ht
      refine ⟨?_, rfl⟩
      rw [← HR.out]
      obtain rfl : n = 1 := HNL.out
      simp only [contN, widN, Nat.sub_self]
      refine retR_some ?_ ?_ <;> omega
  rw [if_neg c1]
  have c1i : ¬ (y : Int) < 128 := by omega
  have c1j : (128 : Int) ≤ (y : Int) := by omega
  by_cases c2 : y < 194
  · rw [if_pos (.inl c2)]
    simp only
    have c2i : (y : Int) < 194 := by omega
    go_enter Tryd.func64, Tryd.ntmps64
    go_wp2_with fail
    refine bodyPost_ret (results_tmp3 rfl _ _ _) rfl ?_
    exact ⟨rfl, rfl⟩
  have c2i : ¬ (y : Int) < 194 := by omega
  have c2j : (194 : Int) ≤ (y : Int) := by omega
  by_cases c3 : 244 < y
  · rw [if_pos (.inr c3)]
    simp only
    have c3i : (244 : Int) < (y : Int) := by omega
    go_enter Tryd.func64, Tryd.ntmps64
    go_wp2_with fail
    refine bodyPost_ret (results_tmp3 rfl _ _ _) rfl ?_
    exact ⟨rfl, rfl⟩
  have c3i : ¬ (244 : Int) < (y : Int) := by omega
  have c3j : (y : Int) ≤ 244 := by omega
  rw [if_neg (by omega)]
  by_cases c4 : y < 224
  · rw [if_pos c4]
    simp only
    have c4i : (y : Int) < 224 := by omega
    by_cases hgt : 2 < n
    · rw [if_pos hgt]
      have hgti : (2 : Int) < (n : Int) := by omega
      go_enter Tryd.func64, Tryd.ntmps64
      go_wp2_with fail
      refine bodyPost_ret (results_tmp3 rfl _ _ _) rfl ?_
      exact ⟨rfl, rfl⟩
    rw [if_neg hgt]
    have hgti : ¬ (2 : Int) < (n : Int) := by omega
    have hgtj : (n : Int) ≤ 2 := by omega
    clear hgt
    obtain ⟨f, hf⟩ : ∃ f, y % 32 = f := ⟨_, rfl⟩
    have hf64 : f < 64 ∨ 2 = 1 := by omega
    have hff : bits .and .u8 (y : Int) 31 = (f : Int) := by rw [u8_and31 _ (by omega) (by omega)]; omega
    rw [hf]
    obtain ⟨R, hRR⟩ : ∃ R, (match contN t f with | none => none | some a => some (max (widN (2 - n) (a, a)).1 128, min (widN (2 - n) (a, a)).2 1114111) : Option (Nat × Nat)) = R := ⟨_, rfl⟩
    have HR := Lib.hid hRR
    rw [hRR]
    clear hRR
    go_enter Tryd.func64, Tryd.ntmps64
    go_wp2_with fail
    go_loopw [2, 3, 8] (fun lx hx ix wr => ∃ lo hi k : Nat, lx = .int .i32 lo ∧ hx = .int .i32 hi ∧ ix = .int .i64 k ∧ wr = w ∧ 1 ≤ k ∧ k ≤ 2 ∧ lo ≤ hi ∧ hi < 64 ^ k ∧ RI t f k lo hi) (fun _ _ ix _ => 2 - (intOf ix).toNat)
    case atStart => exact ⟨f, f, 1, by first | rfl | (rw [hff]), by first | rfl | (rw [hff]), rfl, rfl, by omega, by omega, Nat.le_refl _, by omega, RI.start t f⟩
    case round =>
      obtain ⟨lo, hi, k, rfl, rfl, rfl, rfl, hk1, hkN, hlh, h64, hri⟩ := hrel
      have HRI := Lib.hid hri
      clear hri
      by_cases hk : k < 2
      · have h43 : 64 ^ k ≤ 64 ^ 3 := Nat.pow_le_pow_right (by decide) (by omega)
        have hi3 : hi < 262144 := by omega
        have h64' : hi * 64 + 63 < 64 ^ (k + 1) := by rw [Nat.pow_succ]; omega
        clear h43 h64
        have hki : (k : Int) < 2 := by omega
        have s1 : IntKind.i32.wrap ((lo : Int) * 64) = ((lo * 64 : Nat) : Int) := by rw [wrap_i32_small _ (by omega) (by omega)]; simp
        have s2 : IntKind.i32.wrap ((hi : Int) * 64) = ((hi * 64 : Nat) : Int) := by rw [wrap_i32_small _ (by omega) (by omega)]; simp
        have s3 : bits .or .i32 ((hi * 64 : Nat) : Int) 63 = ((hi * 64 + 63 : Nat) : Int) := i32_or63 (hi * 64) 63 (by omega) (by omega) (by omega)
        by_cases hkn : k < n
        · have ek := HC.out k hk1 hkn
          have hkni : (k : Int) < (n : Int) := by omega
          obtain ⟨z, hzz⟩ : ∃ z, (t.getD (k - 1) 0).toNat = z := ⟨_, rfl⟩
          have hz256 : z < 256 := by rw [← hzz]; exact (t.getD (k - 1) 0).toNat_lt
          have htop := u8_top ⟨z, hz256⟩
          simp only at htop
          rw [hzz] at ek
          by_cases hzr : 128 ≤ z ∧ z ≤ 191
          · rw [decide_eq_true hzr] at htop
            obtain ⟨rfl, hr2⟩ := HRI.out.take hk1 (by have := HNL.out; omega) (by rw [hzz]; exact hzr)
            rw [hzz] at hr2
            have HR2 := Lib.hid hr2
            have s5 : bits .and .u8 (z : Int) 63 = ((z - 128 : Nat) : Int) := by rw [u8_and63 _ (by omega) (by omega)]; omega
            have s4 : bits .andNot .i32 ((hi * 64 + 63 : Nat) : Int) 63 = ((hi * 64 : Nat) : Int) := by rw [i32_andNot63 _ (by omega)]; congr 1; omega
            have s6 : bits .or .i32 ((hi * 64 : Nat) : Int) ((z - 128 : Nat) : Int) = ((hi * 64 + (z - 128) : Nat) : Int) := i32_or63 _ _ (by omega) (by omega) (by omega)
            have hz1 : hi * 64 + (z - 128) < 64 ^ (k + 1) := by omega
            have hwz : wrap32 ((z - 128 : Nat) : Int) = ((z - 128 : Nat) : Int) := by unfold wrap32; omega
            clear hr2 hzr hzz HRI
            generalize hi * 64 + 63 = H63 at *
            generalize hq : hi * 64 + (z - 128) = Hz at *
            generalize hi * 64 = H0 at *
            generalize z - 128 = Z at *
            go_wp2_with fail
            go_roundw
            case rel => exact ⟨Hz, Hz, k + 1, by first | rfl | (rw [hwz, s6]), by first | rfl | (rw [s3, s4, hwz, s6]), by go_num, trivial, by omega, by omega, Nat.le_refl _, hz1, HR2.out⟩
            case measure => simp [intOf]; omega
          · rw [decide_eq_false hzr] at htop
            have hnone := HRI.out.bad hk1 (by have := HNL.out; omega) (by rw [hzz]; exact hzr)
            have HNO : Hid (R = none) := by
              show _ = _
              rw [← HR.out, hnone]
            clear hnone hzz hzr HRI
            go_wp2_with fail
            refine bodyPost_ret (results_tmp3 rfl _ _ _) rfl ?_
            exact ⟨by rw [HNO.out]; rfl, rfl⟩
        · have hkni : ¬ (k : Int) < (n : Int) := by omega
          have hr2 := HRI.out.more (by have := HNL.out; omega)
          have HR2 := Lib.hid hr2
          have hl2 : lo * 64 ≤ hi * 64 + 63 := by omega
          clear hr2 HRI
          generalize hi * 64 + 63 = H63 at *
          generalize lo * 64 = L0 at *
          generalize hi * 64 = H0 at *
          go_wp2_with fail
          go_roundw
          case rel => exact ⟨L0, H63, k + 1, rfl, by first | rfl | (rw [s3]), by go_num, trivial, by omega, by omega, hl2, h64', HR2.out⟩
          case measure => simp [intOf]; omega
      · have hki : ¬ (k : Int) < 2 := by omega
        obtain rfl : k = 2 := by omega
        obtain ⟨q, hq1, hq2⟩ := HRI.out.fin (by have := HNL.out; omega)
        have HRS : Hid (R = some (max lo 128, min hi 1114111)) := by
          show _ = _
          rw [← HR.out, hq1]
          simp only
          rw [HNL.out, ← hq2]
        clear hq1 hq2 HRI h64 hlh
        obtain ⟨zl, hzl⟩ : ∃ z : Int, (lo : Int) = z := ⟨_, rfl⟩
        obtain ⟨zh, hzh⟩ : ∃ z : Int, (hi : Int) = z := ⟨_, rfl⟩
        rw [hzl, hzh]
        have HZL := Lib.hid hzl
        have HZH := Lib.hid hzh
        clear hzl hzh
        go_wp2_with fail
        all_goals
          refine bodyPost_ret (results_tmp3 rfl _ _ _) rfl ?_
          refine ⟨?_, rfl⟩
          rw [HRS.out]
          have hzl := HZL.out
          have hzh := HZH.out
          refine retR_some ?_ ?_ <;> omega
  rw [if_neg c4]
  have c4i : ¬ (y : Int) < 224 := by omega
  have c4j : (224 : Int) ≤ (y : Int) := by omega
  by_cases c5 : y < 240
  · rw [if_pos c5]
    simp only
    have c5i : (y : Int) < 240 := by omega
    by_cases hgt : 3 < n
    · rw [if_pos hgt]
      have hgti : (3 : Int) < (n : Int) := by omega
      go_enter Tryd.func64, Tryd.ntmps64
      go_wp2_with fail
      refine bodyPost_ret (results_tmp3 rfl _ _ _) rfl ?_
      exact ⟨rfl, rfl⟩
    rw [if_neg hgt]
    have hgti : ¬ (3 : Int) < (n : Int) := by omega
    have hgtj : (n : Int) ≤ 3 := by omega
    clear hgt
    obtain ⟨f, hf⟩ : ∃ f, y % 16 = f := ⟨_, rfl⟩
    have hf64 : f < 64 ∨ 3 = 1 := by omega
    have hff : bits .and .u8 (y : Int) 15 = (f : Int) := by rw [u8_and15 _ (by omega) (by omega)]; omega
    rw [hf]
    obtain ⟨R, hRR⟩ : ∃ R, (match contN t f with | none => none | some a => some (max (widN (3 - n) (a, a)).1 2048, min (widN (3 - n) (a, a)).2 1114111) : Option (Nat × Nat)) = R := ⟨_, rfl⟩
    have HR := Lib.hid hRR
    rw [hRR]
    clear hRR
    go_enter Tryd.func64, Tryd.ntmps64
    go_wp2_with fail
    go_loopw [2, 3, 8] (fun lx hx ix wr => ∃ lo hi k : Nat, lx = .int .i32 lo ∧ hx = .int .i32 hi ∧ ix = .int .i64 k ∧ wr = w ∧ 1 ≤ k ∧ k ≤ 3 ∧ lo ≤ hi ∧ hi < 64 ^ k ∧ RI t f k lo hi) (fun _ _ ix _ => 3 - (intOf ix).toNat)
    case atStart => exact ⟨f, f, 1, by first | rfl | (rw [hff]), by first | rfl | (rw [hff]), rfl, rfl, by omega, by omega, Nat.le_refl _, by omega, RI.start t f⟩
    case round =>
      obtain ⟨lo, hi, k, rfl, rfl, rfl, rfl, hk1, hkN, hlh, h64, hri⟩ := hrel
      have HRI := Lib.hid hri
      clear hri
      by_cases hk : k < 3
      · have h43 : 64 ^ k ≤ 64 ^ 3 := Nat.pow_le_pow_right (by decide) (by omega)
        have hi3 : hi < 262144 := by omega
        have h64' : hi * 64 + 63 < 64 ^ (k + 1) := by rw [Nat.pow_succ]; omega
        clear h43 h64
        have hki : (k : Int) < 3 := by omega
        have s1 : IntKind.i32.wrap ((lo : Int) * 64) = ((lo * 64 : Nat) : Int) := by rw [wrap_i32_small _ (by omega) (by omega)]; simp
        have s2 : IntKind.i32.wrap ((hi : Int) * 64) = ((hi * 64 : Nat) : Int) := by rw [wrap_i32_small _ (by omega) (by omega)]; simp
        have s3 : bits .or .i32 ((hi * 64 : Nat) : Int) 63 = ((hi * 64 + 63 : Nat) : Int) := i32_or63 (hi * 64) 63 (by omega) (by omega) (by omega)
        by_cases hkn : k < n
        · have ek := HC.out k hk1 hkn
          have hkni : (k : Int) < (n : Int) := by omega
          obtain ⟨z, hzz⟩ : ∃ z, (t.getD (k - 1) 0).toNat = z := ⟨_, rfl⟩
          have hz256 : z < 256 := by rw [← hzz]; exact (t.getD (k - 1) 0).toNat_lt
          have htop := u8_top ⟨z, hz256⟩
          simp only at htop
          rw [hzz] at ek
          by_cases hzr : 128 ≤ z ∧ z ≤ 191
          · rw [decide_eq_true hzr] at htop
            obtain ⟨rfl, hr2⟩ := HRI.out.take hk1 (by have := HNL.out; omega) (by rw [hzz]; exact hzr)
            rw [hzz] at hr2
            have HR2 := Lib.hid hr2
            have s5 : bits .and .u8 (z : Int) 63 = ((z - 128 : Nat) : Int) := by rw [u8_and63 _ (by omega) (by omega)]; omega
            have s4 : bits .andNot .i32 ((hi * 64 + 63 : Nat) : Int) 63 = ((hi * 64 : Nat) : Int) := by rw [i32_andNot63 _ (by omega)]; congr 1; omega
            have s6 : bits .or .i32 ((hi * 64 : Nat) : Int) ((z - 128 : Nat) : Int) = ((hi * 64 + (z - 128) : Nat) : Int) := i32_or63 _ _ (by omega) (by omega) (by omega)
            have hz1 : hi * 64 + (z - 128) < 64 ^ (k + 1) := by omega
            have hwz : wrap32 ((z - 128 : Nat) : Int) = ((z - 128 : Nat) : Int) := by unfold wrap32; omega
            clear hr2 hzr hzz HRI
            generalize hi * 64 + 63 = H63 at *
            generalize hq : hi * 64 + (z - 128) = Hz at *
            generalize hi * 64 = H0 at *
            generalize z - 128 = Z at *
            go_wp2_with fail
            go_roundw
            case rel => exact ⟨Hz, Hz, k + 1, by first | rfl | (rw [hwz, s6]), by first | rfl | (rw [s3, s4, hwz, s6]), by go_num, trivial, by omega, by omega, Nat.le_refl _, hz1, HR2.out⟩
            case measure => simp [intOf]; omega
          · rw [decide_eq_false hzr] at htop
            have hnone := HRI.out.bad hk1 (by have := HNL.out; omega) (by rw [hzz]; exact hzr)
            have HNO : Hid (R = none) := by
              show _ = _
              rw [← HR.out, hnone]
            clear hnone hzz hzr HRI
            go_wp2_with fail
            refine bodyPost_ret (results_tmp3 rfl _ _ _) rfl ?_
            exact ⟨by rw [HNO.out]; rfl, rfl⟩
        · have hkni : ¬ (k : Int) < (n : Int) := by omega
          have hr2 := HRI.out.more (by have := HNL.out; omega)
          have HR2 := Lib.hid hr2
          have hl2 : lo * 64 ≤ hi * 64 + 63 := by omega
          clear hr2 HRI
          generalize hi * 64 + 63 = H63 at *
          generalize lo * 64 = L0 at *
          generalize hi * 64 = H0 at *
          go_wp2_with fail
          go_roundw
          case rel => exact ⟨L0, H63, k + 1, rfl, by first | rfl | (rw [s3]), by go_num, trivial, by omega, by omega, hl2, h64', HR2.out⟩
          case measure => simp [intOf]; omega
      · have hki : ¬ (k : Int) < 3 := by omega
        obtain rfl : k = 3 := by omega
        obtain ⟨q, hq1, hq2⟩ := HRI.out.fin (by have := HNL.out; omega)
        have HRS : Hid (R = some (max lo 2048, min hi 1114111)) := by
          show _ = _
          rw [← HR.out, hq1]
          simp only
          rw [HNL.out, ← hq2]
        clear hq1 hq2 HRI h64 hlh
        obtain ⟨zl, hzl⟩ : ∃ z : Int, (lo : Int) = z := ⟨_, rfl⟩
        obtain ⟨zh, hzh⟩ : ∃ z : Int, (hi : Int) = z := ⟨_, rfl⟩
        rw [hzl, hzh]
        have HZL := Lib.hid hzl
        have HZH := Lib.hid hzh
        clear hzl hzh
        go_wp2_with fail
        all_goals
          refine bodyPost_ret (results_tmp3 rfl _ _ _) rfl ?_
          refine ⟨?_, rfl⟩
          rw [HRS.out]
          have hzl := HZL.out
          have hzh := HZH.out
          refine retR_some ?_ ?_ <;> omega
  rw [if_neg c5]
  simp only
  have c5i : ¬ (y : Int) < 240 := by omega
  have c5j : (240 : Int) ≤ (y : Int) := by omega
  have hgt : ¬ 4 < n := by omega
  rw [if_neg hgt]
  have hgti : ¬ (4 : Int) < (n : Int) := by omega
  have hgtj : (n : Int) ≤ 4 := by omega
  clear hgt
  obtain ⟨f, hf⟩ : ∃ f, y % 8 = f := ⟨_, rfl⟩
  have hf64 : f < 64 ∨ 4 = 1 := by omega
  have hff : bits .and .u8 (y : Int) 7 = (f : Int) := by rw [u8_and7 _ (by omega) (by omega)]; omega
  rw [hf]
  obtain ⟨R, hRR⟩ : ∃ R, (match contN t f with | none => none | some a => some (max (widN (4 - n) (a, a)).1 65536, min (widN (4 - n) (a, a)).2 1114111) : Option (Nat × Nat)) = R := ⟨_, rfl⟩
  have HR := Lib.hid hRR
  rw [hRR]
  clear hRR
  go_enter Tryd.func64, Tryd.ntmps64
  go_wp2_with fail
  go_loopw [2, 3, 8] (fun lx hx ix wr => ∃ lo hi k : Nat, lx = .int .i32 lo ∧ hx = .int .i32 hi ∧ ix = .int .i64 k ∧ wr = w ∧ 1 ≤ k ∧ k ≤ 4 ∧ lo ≤ hi ∧ hi < 64 ^ k ∧ RI t f k lo hi) (fun _ _ ix _ => 4 - (intOf ix).toNat)
  case atStart => exact ⟨f, f, 1, by first | rfl | (rw [hff]), by first | rfl | (rw [hff]), rfl, rfl, by omega, by omega, Nat.le_refl _, by omega, RI.start t f⟩
  case round =>
    obtain ⟨lo, hi, k, rfl, rfl, rfl, rfl, hk1, hkN, hlh, h64, hri⟩ := hrel
    have HRI := Lib.hid hri
    clear hri
    by_cases hk : k < 4
    · have h43 : 64 ^ k ≤ 64 ^ 3 := Nat.pow_le_pow_right (by decide) (by omega)
      have hi3 : hi < 262144 := by omega
      have h64' : hi * 64 + 63 < 64 ^ (k + 1) := by rw [Nat.pow_succ]; omega
      clear h43 h64
      have hki : (k : Int) < 4 := by omega
      have s1 : IntKind.i32.wrap ((lo : Int) * 64) = ((lo * 64 : Nat) : Int) := by rw [wrap_i32_small _ (by omega) (by omega)]; simp
      have s2 : IntKind.i32.wrap ((hi : Int) * 64) = ((hi * 64 : Nat) : Int) := by rw [wrap_i32_small _ (by omega) (by omega)]; simp
      have s3 : bits .or .i32 ((hi * 64 : Nat) : Int) 63 = ((hi * 64 + 63 : Nat) : Int) := i32_or63 (hi * 64) 63 (by omega) (by omega) (by omega)
      by_cases hkn : k < n
      · have ek := HC.out k hk1 hkn
        have hkni : (k : Int) < (n : Int) := by omega
        obtain ⟨z, hzz⟩ : ∃ z, (t.getD (k - 1) 0).toNat = z := ⟨_, rfl⟩
        have hz256 : z < 256 := by rw [← hzz]; exact (t.getD (k - 1) 0).toNat_lt
        have htop := u8_top ⟨z, hz256⟩
        simp only at htop
        rw [hzz] at ek
        by_cases hzr : 128 ≤ z ∧ z ≤ 191
        · rw [decide_eq_true hzr] at htop
          obtain ⟨rfl, hr2⟩ := HRI.out.take hk1 (by have := HNL.out; omega) (by rw [hzz]; exact hzr)
          rw [hzz] at hr2
          have HR2 := Lib.hid hr2
          have s5 : bits .and .u8 (z : Int) 63 = ((z - 128 : Nat) : Int) := by rw [u8_and63 _ (by omega) (by omega)]; omega
          have s4 : bits .andNot .i32 ((hi * 64 + 63 : Nat) : Int) 63 = ((hi * 64 : Nat) : Int) := by rw [i32_andNot63 _ (by omega)]; congr 1; omega
          have s6 : bits .or .i32 ((hi * 64 : Nat) : Int) ((z - 128 : Nat) : Int) = ((hi * 64 + (z - 128) : Nat) : Int) := i32_or63 _ _ (by omega) (by omega) (by omega)
          have hz1 : hi * 64 + (z - 128) < 64 ^ (k + 1) := by omega
          have hwz : wrap32 ((z - 128 : Nat) : Int) = ((z - 128 : Nat) : Int) := by unfold wrap32; omega
          clear hr2 hzr hzz HRI
          generalize hi * 64 + 63 = H63 at *
          generalize hq : hi * 64 + (z - 128) = Hz at *
          generalize hi * 64 = H0 at *
          generalize z - 128 = Z at *
          go_wp2_with fail
          go_roundw
          case rel => exact ⟨Hz, Hz, k + 1, by first | rfl | (rw [hwz, s6]), by first | rfl | (rw [s3, s4, hwz, s6]), by go_num, trivial, by omega, by omega, Nat.le_refl _, hz1, HR2.out⟩
          case measure => simp [intOf]; omega
        · rw [decide_eq_false hzr] at htop
          have hnone := HRI.out.bad hk1 (by have := HNL.out; omega) (by rw [hzz]; exact hzr)
          have HNO : Hid (R = none) := by
            show _ = _
            rw [← HR.out, hnone]
          clear hnone hzz hzr HRI
          go_wp2_with fail
          refine bodyPost_ret (results_tmp3 rfl _ _ _) rfl ?_
          exact ⟨by rw [HNO.out]; rfl, rfl⟩
      · have hkni : ¬ (k : Int) < (n : Int) := by omega
        have hr2 := HRI.out.more (by have := HNL.out; omega)
        have HR2 := Lib.hid hr2
        have hl2 : lo * 64 ≤ hi * 64 + 63 := by omega
        clear hr2 HRI
        generalize hi * 64 + 63 = H63 at *
        generalize lo * 64 = L0 at *
        generalize hi * 64 = H0 at *
        go_wp2_with fail
        go_roundw
        case rel => exact ⟨L0, H63, k + 1, rfl, by first | rfl | (rw [s3]), by go_num, trivial, by omega, by omega, hl2, h64', HR2.out⟩
        case measure => simp [intOf]; omega
    · have hki : ¬ (k : Int) < 4 := by omega
      obtain rfl : k = 4 := by omega
      obtain ⟨q, hq1, hq2⟩ := HRI.out.fin (by have := HNL.out; omega)
      have HRS : Hid (R = some (max lo 65536, min hi 1114111)) := by
        show _ = _
        rw [← HR.out, hq1]
        simp only
        rw [HNL.out, ← hq2]
      clear hq1 hq2 HRI h64 hlh
      obtain ⟨zl, hzl⟩ : ∃ z : Int, (lo : Int) = z := ⟨_, rfl⟩
      obtain ⟨zh, hzh⟩ : ∃ z : Int, (hi : Int) = z := ⟨_, rfl⟩
      rw [hzl, hzh]
      have HZL := Lib.hid hzl
      have HZH := Lib.hid hzh
      clear hzl hzh
      go_wp2_with fail
      all_goals
        refine bodyPost_ret (results_tmp3 rfl _ _ _) rfl ?_
        refine ⟨?_, rfl⟩
        rw [HRS.out]
        have hzl := HZL.out
        have hzh := HZH.out
        refine retR_some ?_ ?_ <;> omega
end Go.Proofs.YtjdmndpadejegaaDoor

namespace Go.Proofs.YtjdmndpadejegaaDoor
open Go.RowKit

theorem meetB_drop (ps : List (Int × Int)) (q : Nat × Nat) (k : Nat) (h : k < ps.length) : meetB (ps.drop k) q = (decide (max ps[k].1 (q.1 : Int) ≤ min ps[k].2 (q.2 : Int)) || meetB (ps.drop (k + 1)) q) := by
  rw [List.drop_eq_getElem_cons h]; rfl
set_option maxHeartbeats 2000000 in
theorem begins_any (cl : Nat) (hcl : cl < 6) (a : Option Addr) (n c : Nat) (l : List UInt8) (w : World) (hs : Sl w a n (u8s l)) (hl : l ≠ []) (hR : RangesAt w 0) :
    Calls Tryd.prog 47 #[.int .i64 cl, .slice a n c] w fun e w' => e = .returned (.bool (begB cl l)) ∧ Below w.heap.size w w' := by
  have hlen : (rng cl).length ≤ 20 := by
    have : ∀ c, c < 6 → (rng c).length ≤ 20 := by decide
    exact this cl hcl
  have HRE := Lib.hid (reach_any a n c l w hs hl)
  have HO := Lib.hid (of_any cl hcl w hR)
  obtain ⟨R, hRR⟩ : ∃ R, begB cl l = R := ⟨_, rfl⟩
  have hbe := reach_beg cl l
  rw [hRR] at hbe ⊢
  clear hR hs hl hRR
  cases hq : reachC l with
  | none =>
    rw [hq] at HRE hbe
    simp only at hbe
    subst hbe
    simp only [retR, Option.isSome_none] at HRE
    clear HO hq
    go_enter Tryd.func47, Tryd.ntmps47
    go_wp2_with (go_at_call 64; (with_reducible refine HRE.out.mono ?_); rintro e w1 ⟨rfl, rfl⟩)
    go_ret
    exact ⟨rfl, Below.refl _ _⟩
  | some q =>
    obtain ⟨lo, hi⟩ := q
    rw [hq] at HRE hbe
    simp only at hbe
    simp only [retR, Option.isSome_some] at HRE
    clear hq
    have HBE := Lib.hid hbe
    clear hbe
    obtain ⟨zl, hzl⟩ : ∃ z : Int, (lo : Int) = z := ⟨_, rfl⟩
    obtain ⟨zh, hzh⟩ : ∃ z : Int, (hi : Int) = z := ⟨_, rfl⟩
    rw [hzl, hzh] at HRE
    have HZL := Lib.hid hzl
    have HZH := Lib.hid hzh
    clear hzl hzh
    go_enter Tryd.func47, Tryd.ntmps47
    go_wp2_with (first | (go_at_call 64; (with_reducible refine HRE.out.mono ?_); rintro e w1 ⟨rfl, rfl⟩) | (go_at_call 65; (with_reducible refine HO.out.mono ?_); rintro e w1 ⟨⟨b, o, cap, rfl, hb, hcs⟩, rfl⟩))
    have HC := Lib.hid hcs
    clear hcs HO HRE
    generalize hgl : rng cl = ps at *
    obtain ⟨m, hm⟩ : ∃ m, ps.length = m := ⟨_, rfl⟩
    rw [hm] at hlen
    simp only [hm]
    have HN := Lib.hid hm
    clear hm hgl
    go_wp2_with fail
    go_loopw [21] (fun ix wr => ∃ k : Nat, ix = .int .i64 k ∧ k ≤ m ∧ Below w1.heap.size w1 wr ∧ Hid (meetB (ps.drop k) (lo, hi) = R)) (fun ix _ => m - (intOf ix).toNat)
    case atStart => exact ⟨0, rfl, Nat.zero_le _, Below.refl _ _, HBE.out.symm⟩
    case round =>
      obtain ⟨k, rfl, hk, hbw, hr⟩ := hrel
      by_cases hkm : k < m
      · have hkl : k < ps.length := by rw [HN.out]; exact hkm
        obtain ⟨e0, e1⟩ := HC.out k hkl
        have hd := hr.out
        rw [meetB_drop ps (lo, hi) k hkl] at hd
        rw [← hbw.cell (p := ⟨b, o + k * 2, none⟩) hb] at e0
        rw [← hbw.cell (p := ⟨b, o + k * 2 + 1, none⟩) hb] at e1
        generalize ps[k] = p at *
        obtain ⟨x, y⟩ := p
        simp only at e0 e1 hd
        have HD := Lib.hid hd
        have hws : w1.heap.size ≤ wr.heap.size := hbw.size
        have HBW := Lib.hid hbw
        clear hd hbw hr
        by_cases h1 : x ≤ zl
        · by_cases h2 : zh ≤ y
          · by_cases h3 : zl ≤ zh
            · have HD2 : Hid (R = true) := by
                show _ = _
                rw [← HD.out, decide_eq_true (by have := HZL.out; have := HZH.out; omega), Bool.true_or]
              clear HD
              go_wp2_with fail
              go_ret
              exact ⟨ret_bool HD2.out.symm, HBW.out.alloc hws _⟩
            · have h3' : zh < zl := by omega
              have HD2 : Hid (meetB (ps.drop (k + 1)) (lo, hi) = R) := by
                show _ = _
                rw [← HD.out, decide_eq_false (by have := HZL.out; have := HZH.out; omega), Bool.false_or]
              clear HD
              go_wp2_with fail
              go_roundw
              case rel => exact ⟨k + 1, by go_num, by omega, HBW.out.alloc hws _, HD2.out⟩
              case measure => simp [intOf]; omega
          · have h2' : y < zh := by omega
            by_cases h3 : zl ≤ y
            · have HD2 : Hid (R = true) := by
                show _ = _
                rw [← HD.out, decide_eq_true (by have := HZL.out; have := HZH.out; omega), Bool.true_or]
              clear HD
              go_wp2_with fail
              go_ret
              exact ⟨ret_bool HD2.out.symm, HBW.out.alloc hws _⟩
            · have h3' : y < zl := by omega
              have HD2 : Hid (meetB (ps.drop (k + 1)) (lo, hi) = R) := by
                show _ = _
                rw [← HD.out, decide_eq_false (by have := HZL.out; have := HZH.out; omega), Bool.false_or]
              clear HD
              go_wp2_with fail
              go_roundw
              case rel => exact ⟨k + 1, by go_num, by omega, HBW.out.alloc hws _, HD2.out⟩
              case measure => simp [intOf]; omega
        · have h1' : zl < x := by omega
          by_cases h2 : zh ≤ y
          · by_cases h3 : x ≤ zh
            · have HD2 : Hid (R = true) := by
                show _ = _
                rw [← HD.out, decide_eq_true (by have := HZL.out; have := HZH.out; omega), Bool.true_or]
              clear HD
              go_wp2_with fail
              go_ret
              exact ⟨ret_bool HD2.out.symm, HBW.out.alloc hws _⟩
            · have h3' : zh < x := by omega
              have HD2 : Hid (meetB (ps.drop (k + 1)) (lo, hi) = R) := by
                show _ = _
                rw [← HD.out, decide_eq_false (by have := HZL.out; have := HZH.out; omega), Bool.false_or]
              clear HD
              go_wp2_with fail
              go_roundw
              case rel => exact ⟨k + 1, by go_num, by omega, HBW.out.alloc hws _, HD2.out⟩
              case measure => simp [intOf]; omega
          · have h2' : y < zh := by omega
            by_cases h3 : x ≤ y
            · have HD2 : Hid (R = true) := by
                show _ = _
                rw [← HD.out, decide_eq_true (by have := HZL.out; have := HZH.out; omega), Bool.true_or]
              clear HD
              go_wp2_with fail
              go_ret
              exact ⟨ret_bool HD2.out.symm, HBW.out.alloc hws _⟩
            · have h3' : y < x := by omega
              have HD2 : Hid (meetB (ps.drop (k + 1)) (lo, hi) = R) := by
                show _ = _
                rw [← HD.out, decide_eq_false (by have := HZL.out; have := HZH.out; omega), Bool.false_or]
              clear HD
              go_wp2_with fail
              go_roundw
              case rel => exact ⟨k + 1, by go_num, by omega, HBW.out.alloc hws _, HD2.out⟩
              case measure => simp [intOf]; omega
      · have hd := hr.out
        rw [List.drop_of_length_le (by rw [HN.out]; omega)] at hd
        have HD := Lib.hid hd
        clear hd hr
        go_wp2_with fail
        go_ret
        exact ⟨ret_bool (by rw [← HD.out]; rfl), hbw⟩
end Go.Proofs.YtjdmndpadejegaaDoor
