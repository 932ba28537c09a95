/-
  gimletref02.Is, gimletref05: allowed, goesOn.
-/
import Derived.Test.YtlomcmichbnkaaaGreatDoorRef02
import Derived.Test.YtlomcmichbnkaaaGreatDoorChars
import Derived.Test.YtlomcmichbnkaaaGreatDoorGoOnP
namespace Go.Proofs.YtlomcmichbnkaaaGreatDoor
open Go.RowKit

def anyR (l : List (Int × Int)) (r : Int) : Bool := l.any fun p => decide (p.1 ≤ r) && decide (r ≤ p.2)
/-- a rising list of ranges -/
def rises : List (Int × Int) → Bool
  | [] => true
  | p :: l => decide (p.1 ≤ p.2) && l.all (fun q => decide (p.2 < q.1)) && rises l
theorem isR_any (l : List (Int × Int)) (r : Int) : rises l = true → isR l r = anyR l r := by
  induction l with
  | nil => intro _; rfl
  | cons p l ih =>
    intro h
    simp only [rises, Bool.and_eq_true, decide_eq_true_eq, List.all_eq_true] at h
    obtain ⟨⟨h1, h2⟩, h3⟩ := h
    simp only [isR, anyR, List.any_cons]
    by_cases hr : r ≤ p.2
    · rw [if_pos hr, decide_eq_true hr, Bool.and_true]
      have : (l.any fun p => decide (p.1 ≤ r) && decide (r ≤ p.2)) = false := by
        rw [List.any_eq_false]
        intro q hq
        have := h2 q hq
        simp; intro _; omega
      rw [this, Bool.or_false]
    · rw [if_neg hr, ih h3, decide_eq_false hr, Bool.and_false, Bool.false_or]
      rfl
theorem rng_rises : ∀ c, c < 6 → rises (rng c) = true := by decide
theorem isR_tail (l : List (Int × Int)) (r : Int) (k : Nat) (h : k < l.length) : anyR (l.drop k) r = ((decide (l[k].1 ≤ r) && decide (r ≤ l[k].2)) || anyR (l.drop (k + 1)) r) := by
  rw [List.drop_eq_getElem_cons h]; rfl

set_option maxRecDepth 100000 in
set_option maxHeartbeats 1000000 in
theorem Is2_any (c : Nat) (hc : c < 6) (r : Int) (w : World) :
    Calls Tryz.prog 40 #[.int .i64 c, .int .i64 r] w fun e w' => e = .returned (.bool (isR (rng c) r)) ∧ Below w.heap.size w w' := by
  have hlen : (rng c).length ≤ 20 := by
    have : ∀ c, c < 6 → (rng c).length ≤ 20 := by decide
    exact this c hc
  rw [isR_any _ _ (rng_rises c hc)]
  have HO := Lib.hid (Ranges_any c hc w)
  go_enter Tryz.func40, Tryz.ntmps40
  go_wp2_with fail
  (with_reducible refine HO.out.mono ?_)
  rintro e w1 ⟨b, n, rfl, hn, hb, hbw, hcs⟩
  have HC := Lib.hid hcs
  clear hcs HO
  generalize hl : rng c = l at *
  have HL := Lib.hid hl
  clear hl
  have HN := Lib.hid hn
  have hn20 : n ≤ 20 := by omega
  clear hn hlen
  go_wp2_with fail
  go_loopw [10] (fun ix wr => ∃ k : Nat, ix = .int .i64 k ∧ k ≤ n ∧ Below w1.heap.size w1 wr ∧ Hid (anyR (l.drop k) r = anyR l r)) (fun ix _ => n - (intOf ix).toNat)
  case atStart => exact ⟨0, rfl, Nat.zero_le _, Below.refl _ _, Lib.hid rfl⟩
  case round =>
    obtain ⟨k, rfl, hk, hbr, hr⟩ := hrel
    by_cases hkn : k < n
    · have hkl : k < l.length := by rw [← HN.out]; exact hkn
      obtain ⟨e0, e1⟩ := HC.out k hkl
      have hd := hr.out
      rw [isR_tail l r k hkl] at hd
      rw [← hbr.cell (p := ⟨b, k * 2, none⟩) hb] at e0
      rw [← hbr.cell (p := ⟨b, k * 2 + 1, none⟩) hb] at e1
      generalize l[k] = p at *
      obtain ⟨lo, hi⟩ := p
      simp only at e0 e1 hd
      have hws : w1.heap.size ≤ wr.heap.size := hbr.size
      have HBW := Lib.hid (hbw.trans (hbr.mono hbw.size))
      have HBR := Lib.hid hbr
      have HD := Lib.hid hd
      have hwz : w.heap.size ≤ wr.heap.size := HBW.out.size
      clear hd hbr hr
      by_cases h1 : lo ≤ r
      · by_cases h2 : r ≤ hi
        · have HE : Hid (anyR l r = true) := Lib.hid (by rw [← HD.out, decide_eq_true h1, decide_eq_true h2]; rfl)
          clear HD
          go_wp2_with fail
          go_ret
          exact ⟨ret_bool (by rw [HL.out]; exact HE.out.symm), HBW.out.alloc hwz _⟩
        · have HE : Hid (anyR (l.drop (k + 1)) r = anyR l r) := Lib.hid (by rw [← HD.out, decide_eq_false h2, Bool.and_false, Bool.false_or])
          clear HD
          go_wp2_with fail
          go_roundw
          case rel => exact ⟨k + 1, by go_num, by omega, HBR.out.alloc hws _, HE⟩
          case measure => simp [intOf]; omega
      · have HE : Hid (anyR (l.drop (k + 1)) r = anyR l r) := Lib.hid (by rw [← HD.out, decide_eq_false h1, Bool.false_and, Bool.false_or])
        clear HD
        go_wp2_with fail
        go_roundw
        case rel => exact ⟨k + 1, by go_num, by omega, HBR.out.alloc hws _, HE⟩
        case measure => simp [intOf]; omega
    · have HE : Hid (anyR l r = false) := Lib.hid (by rw [← hr.out, List.drop_of_length_le (by rw [← HN.out]; omega)]; rfl)
      clear hr
      have hfin := hbw.trans (hbr.mono hbw.size)
      clear hbr
      go_wp2_with fail
      go_ret
      exact ⟨ret_bool (by rw [HL.out]; exact HE.out.symm), hfin⟩
theorem allowed_any (v : Int) (w : World) :
    Calls Tryz.prog 44 #[.int .i64 v] w fun e w' => e = .returned (.bool (isR (rng 0) v)) ∧ Below w.heap.size w w' := by
  have HI : Hid (∀ w, Calls Tryz.prog 40 #[.int .i64 0, .int .i64 v] w fun e w' => e = .returned (.bool (isR (rng 0) v)) ∧ Below w.heap.size w w') := Lib.hid (Is2_any 0 (by decide) v)
  go_enter Tryz.func44, Tryz.ntmps44
  go_wp2_with fail
  (with_reducible refine (HI.out _).mono ?_)
  rintro e w1 ⟨rfl, hb⟩
  go_wp2_with fail
  go_ret
  exact ⟨rfl, hb⟩

/-- what goes on: how deep the reckoning goes -/
theorem isR0_next (v : Int) (h0 : 0 < v) (h1 : v ≤ 1114111) (hR : isR (rng 0) v = false) (base : Int) (hb : base = 10 ∨ base = 16) :
    v * base ≤ 1114111 ∧ (isR (rng 0) (v * base) = true ∨ (v * base ≤ 31 ∧ v < v * base)) := by
  rcases isR0_not v hR (by omega) h1 with h | h
  · rcases hb with rfl | rfl
    · refine ⟨by omega, ?_⟩
      by_cases h3 : 32 ≤ v * 10
      · exact .inl (isR0_low _ h3 (by omega))
      · exact .inr ⟨by omega, by omega⟩
    · refine ⟨by omega, ?_⟩
      by_cases h3 : 32 ≤ v * 16
      · exact .inl (isR0_low _ h3 (by omega))
      · exact .inr ⟨by omega, by omega⟩
  · rcases hb with rfl | rfl
    · exact ⟨by omega, .inl (isR0_high _ (by omega) (by omega))⟩
    · exact ⟨by omega, .inl (isR0_high _ (by omega) (by omega))⟩

set_option maxHeartbeats 1000000 in
theorem goes_ok (v base : Int) (h : v ≤ 1114111) (hR : isR (rng 0) v = true ∨ v = 0) (w : World) :
    Calls Tryz.prog 43 #[.int .i64 v, .int .i64 base] w fun e w' => e = .returned (.bool true) ∧ Below w.heap.size w w' := by
  have HA := Lib.hid (allowed_any v)
  rcases hR with hR | rfl
  · rw [hR] at HA
    go_enter Tryz.func43, Tryz.ntmps43
    go_wp2_with fail
    (with_reducible refine (HA.out _).mono ?_)
    rintro e w1 ⟨rfl, hb⟩
    go_wp2_with fail
    go_ret
    exact ⟨rfl, hb⟩
  · rw [show isR (rng 0) 0 = false by decide] at HA
    go_enter Tryz.func43, Tryz.ntmps43
    go_wp2_with fail
    (with_reducible refine (HA.out _).mono ?_)
    rintro e w1 ⟨rfl, hb⟩
    go_wp2_with fail
    go_ret
    exact ⟨rfl, hb⟩

set_option maxHeartbeats 1000000 in
theorem goes_step (v base : Int) (h0 : 0 < v) (h : v ≤ 1114111) (hR : isR (rng 0) v = false) (hb : base = 10 ∨ base = 16) (w : World)
    (IH : ∀ w, Calls Tryz.prog 43 #[.int .i64 (v * base), .int .i64 base] w fun e w' => e = .returned (.bool true) ∧ Below w.heap.size w w') :
    Calls Tryz.prog 43 #[.int .i64 v, .int .i64 base] w fun e w' => e = .returned (.bool true) ∧ Below w.heap.size w w' := by
  have HA := Lib.hid (allowed_any v)
  rw [hR] at HA
  have HI := Lib.hid IH
  have hvb := (isR0_next v h0 h hR base hb).1
  have hb0 : 0 < base := by rcases hb with rfl | rfl <;> omega
  have hv0 : 0 ≤ v * base := Int.mul_nonneg (by omega) (by omega)
  have hz : (v == 0) = false := by simp; omega
  clear hR IH hb
  go_enter Tryz.func43, Tryz.ntmps43
  go_wp2_with fail
  (with_reducible refine (HA.out _).mono ?_)
  rintro e w1 ⟨rfl, hb1⟩
  go_wp2_with fail
  go_loop [5] (fun dx => dx = .int .i64 0) (fun _ => 0)
  case atStart => exact rfl
  case round =>
    subst hrel
    go_wp2_with fail
    (with_reducible refine (HI.out _).mono ?_)
    rintro e w2 ⟨rfl, hb2⟩
    go_wp2_with fail
    go_ret
    exact ⟨rfl, hb1.trans (hb2.mono hb1.size)⟩

theorem goes_low (base : Int) (hb : base = 10 ∨ base = 16) : ∀ (f : Nat) (v : Int), (32 - v).toNat ≤ f → 0 < v → v ≤ 1114111 → isR (rng 0) v = false → ∀ w,
    Calls Tryz.prog 43 #[.int .i64 v, .int .i64 base] w fun e w' => e = .returned (.bool true) ∧ Below w.heap.size w w' := by
  intro f
  induction f with
  | zero =>
    intro v hf h0 h1 hR w
    obtain ⟨h2, h3⟩ := isR0_next v h0 h1 hR base hb
    rcases h3 with h3 | h3
    · exact goes_step v base h0 h1 hR hb w (goes_ok _ base h2 (.inl h3))
    · exfalso; omega
  | succ f ih =>
    intro v hf h0 h1 hR w
    obtain ⟨h2, h3⟩ := isR0_next v h0 h1 hR base hb
    refine goes_step v base h0 h1 hR hb w ?_
    cases hR2 : isR (rng 0) (v * base) with
    | true => exact goes_ok _ base h2 (.inl hR2)
    | false =>
      rcases h3 with h3 | h3
      · rw [h3] at hR2; cases hR2
      · exact ih (v * base) (by omega) (by omega) h2 hR2

set_option maxHeartbeats 1000000 in
theorem goes_any (v base : Int) (h0 : 0 ≤ v) (hb : base = 10 ∨ base = 16) (w : World) :
    Calls Tryz.prog 43 #[.int .i64 v, .int .i64 base] w fun e w' => e = .returned (.bool (decide (v ≤ 1114111))) ∧ Below w.heap.size w w' := by
  by_cases h : v ≤ 1114111
  · rw [decide_eq_true h]
    cases hR : isR (rng 0) v with
    | true => exact goes_ok v base h (.inl hR) w
    | false =>
      by_cases hz : v = 0
      · exact goes_ok v base h (.inr hz) w
      · exact goes_low base hb _ v (Nat.le_refl _) (by omega) h hR w
  · rw [decide_eq_false h]
    have h' : 1114111 < v := by omega
    clear h
    go_enter Tryz.func43, Tryz.ntmps43
    go_wp2_with fail
    go_ret
    exact ⟨rfl, Below.refl _ _⟩
end Go.Proofs.YtlomcmichbnkaaaGreatDoor
