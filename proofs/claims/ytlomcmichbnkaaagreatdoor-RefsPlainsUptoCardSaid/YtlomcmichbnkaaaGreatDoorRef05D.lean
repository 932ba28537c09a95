/-
  gimletref05.Begins.
-/
import Derived.Test.YtlomcmichbnkaaaGreatDoorRef05C
namespace Go.Proofs.YtlomcmichbnkaaaGreatDoor
open Go.RowKit

theorem numR_pos (base : Int) (hb : 0 ≤ base) (l : List UInt8) : ∀ v r, 0 ≤ v → numR base l v = some r → 0 ≤ r := by
  induction l with
  | nil => intro v r hv h; injection h with h; omega
  | cons b l ih =>
    intro v r hv h
    simp only [numR] at h
    split at h
    · have := Int.mul_nonneg hv hb
      have := (valD_bd b.toNat).1
      exact ih _ r (by split <;> omega) h
    · cases h
theorem ext_take (l : List UInt8) (n : Nat) : (digS l).extract 0 n = digS (l.take n) := by rw [digS, ByteArray.extract_mk]; rfl
theorem ext_drop (l : List UInt8) (a n : Nat) (h : l.length = n) : (digS l).extract a n = digS (l.drop a) := by
  rw [digS, ByteArray.extract_mk, List.take_of_length_le (by rw [List.length_drop]; omega)]; rfl

set_option maxRecDepth 100000 in
set_option maxHeartbeats 2000000 in
theorem Begins_is (l : List UInt8) (hb : l.length ≤ 1125899906842624) (h : (isS l).2 = true) (w : World) :
    Calls Tryz.prog 27 #[.string (digS l)] w fun e w' => e = .returned (.bool true) ∧ Below w.heap.size w w' := by
  have HI := Lib.hid (Is5_any l hb)
  generalize isS l = t at *
  obtain ⟨r, ok⟩ := t
  obtain rfl : ok = true := h
  clear hb
  go_enter Tryz.func27, Tryz.ntmps27
  go_wp2_with fail
  (with_reducible refine (HI.out _).mono ?_)
  rintro e w1 ⟨rfl, hb1⟩
  go_wp2_with fail
  go_ret
  exact ⟨rfl, hb1⟩

set_option maxRecDepth 100000 in
set_option maxHeartbeats 2000000 in
theorem Begins_s0 (w : World) :
    Calls Tryz.prog 27 #[.string (digS [])] w fun e w' => e = .returned (.bool true) ∧ Below w.heap.size w w' := by
  have e : isS [] = (0, false) := by decide
  have HI := Lib.hid (Is5_any [] (by decide))
  rw [e] at HI
  clear e
  have t0 : (digS []).toList.isEmpty = true := by rw [str_toList]; rfl
  go_enter Tryz.func27, Tryz.ntmps27
  go_wp2_with fail
  (with_reducible refine (HI.out _).mono ?_)
  rintro e w1 ⟨rfl, hb1⟩
  go_wp2_with fail
  go_ret
  exact ⟨rfl, hb1⟩

set_option maxRecDepth 100000 in
set_option maxHeartbeats 2000000 in
theorem Begins_s1 (w : World) :
    Calls Tryz.prog 27 #[.string (digS [38])] w fun e w' => e = .returned (.bool true) ∧ Below w.heap.size w w' := by
  have e : isS [38] = (0, false) := by decide
  have HI := Lib.hid (Is5_any [38] (by decide))
  rw [e] at HI
  clear e
  have t0 : (digS [38]).toList.isEmpty = false := by rw [str_toList]; rfl
  have t1 : (digS [38]).toList = [38] := by rw [str_toList]
  go_enter Tryz.func27, Tryz.ntmps27
  go_wp2_with fail
  (with_reducible refine (HI.out _).mono ?_)
  rintro e w1 ⟨rfl, hb1⟩
  go_wp2_with fail
  go_ret
  exact ⟨rfl, hb1⟩

set_option maxRecDepth 100000 in
set_option maxHeartbeats 2000000 in
theorem Begins_s2 (w : World) :
    Calls Tryz.prog 27 #[.string (digS [38, 35])] w fun e w' => e = .returned (.bool true) ∧ Below w.heap.size w w' := by
  have e : isS [38, 35] = (0, false) := by decide
  have HI := Lib.hid (Is5_any [38, 35] (by decide))
  rw [e] at HI
  clear e
  have t0 : (digS [38, 35]).toList.isEmpty = false := by rw [str_toList]; rfl
  have t1 : ¬ (digS [38, 35]).toList = [38] := by rw [str_toList]; decide
  have t2 : (digS [38, 35]).toList = [38, 35] := by rw [str_toList]
  go_enter Tryz.func27, Tryz.ntmps27
  go_wp2_with fail
  (with_reducible refine (HI.out _).mono ?_)
  rintro e w1 ⟨rfl, hb1⟩
  go_wp2_with fail
  go_ret
  exact ⟨rfl, hb1⟩

set_option maxRecDepth 100000 in
set_option maxHeartbeats 2000000 in
theorem Begins_s3 (w : World) :
    Calls Tryz.prog 27 #[.string (digS [38, 35, 120])] w fun e w' => e = .returned (.bool true) ∧ Below w.heap.size w w' := by
  have e : isS [38, 35, 120] = (0, false) := by decide
  have HI := Lib.hid (Is5_any [38, 35, 120] (by decide))
  rw [e] at HI
  clear e
  have t0 : (digS [38, 35, 120]).toList.isEmpty = false := by rw [str_toList]; rfl
  have t1 : ¬ (digS [38, 35, 120]).toList = [38] := by rw [str_toList]; decide
  have t2 : ¬ (digS [38, 35, 120]).toList = [38, 35] := by rw [str_toList]; decide
  have t3 : (digS [38, 35, 120]).toList = [38, 35, 120] := by rw [str_toList]
  go_enter Tryz.func27, Tryz.ntmps27
  go_wp2_with fail
  (with_reducible refine (HI.out _).mono ?_)
  rintro e w1 ⟨rfl, hb1⟩
  go_wp2_with fail
  go_ret
  exact ⟨rfl, hb1⟩

set_option maxRecDepth 100000 in
set_option maxHeartbeats 4000000 in
theorem Begins_pre (l : List UInt8) (n : Nat) (hl : l.length = n) (hb : n ≤ 1125899906842624) (h : (isS l).2 = false) (h0 : l ≠ []) (h1 : l ≠ [38]) (h2 : l ≠ [38, 35]) (h3 : l ≠ [38, 35, 120]) (kk : Nat) (hkk : kk < 5) (hh : n < (wrapW (nmL kk)).length ∧ (wrapW (nmL kk)).take n = l) (w : World) :
    Calls Tryz.prog 27 #[.string (digS l)] w fun e w' => e = .returned (.bool true) ∧ Below w.heap.size w w' := by
  have HI := Lib.hid (Is5_any l (by omega))
  have t0 : (digS l).toList.isEmpty = false := by rw [str_toList]; cases l; exact absurd rfl h0; rfl
  have t1 : ((digS l).toList == [38]) = false := by rw [str_toList]; simpa using h1
  have t2 : ((digS l).toList == [38, 35]) = false := by rw [str_toList]; simpa using h2
  have t3 : ((digS l).toList == [38, 35, 120]) = false := by rw [str_toList]; simpa using h3
  have hsz : (digS l).size = n := by rw [digS_size, hl]
  have HH := Lib.hid hh
  clear hh
  have HL := Lib.hid hl
  clear hl h0 h1 h2 h3
  generalize isS l = t at *
  obtain ⟨r, ok⟩ := t
  obtain rfl : ok = false := h
  have HNM := Lib.hid Names5_any
  go_enter Tryz.func27, Tryz.ntmps27
  go_wp2_with fail
  (with_reducible refine (HI.out _).mono ?_)
  rintro e w1 ⟨rfl, hb1⟩
  go_wp2_with fail
  (with_reducible refine (HNM.out _).mono ?_)
  rintro e w2 ⟨b, rfl, hns, hb2⟩
  have HNS := Lib.hid hns
  clear hns
  have hb3 := hb1.trans (hb2.mono hb1.size)
  clear hb1 hb2 t0 t1 t2 t3
  go_wp2_with fail
  go_loop [8, 9, 42] (fun _ _ kx => ∃ k : Nat, kx = .int .i64 k ∧ k ≤ kk) (fun _ _ kx => 5 - (intOf kx).toNat)
  case atStart => exact ⟨0, rfl, Nat.zero_le _⟩
  case round =>
    obtain ⟨k, rfl, hk⟩ := hrel
    by_cases hlt : k < 5
    · have e0 := HNS.out.2 k hlt
      have hl4 := nmL_len k hlt
      have c1 : ∀ w, (Op.stringOp .add ⟨#[38]⟩ (digS (nmL k))).run Tryz.prog w = .ok (.string (digS (38 :: nmL k))) w := run_cat [38] _ (by simp) (by omega)
      have c2 : ∀ w, (Op.stringOp .add (digS (38 :: nmL k)) ⟨#[59]⟩).run Tryz.prog w = .ok (.string (digS (wrapW (nmL k)))) w := run_cat (38 :: nmL k) [59] (by simp; omega) (by simp)
      have hpw : (wrapW (nmL k)).length = (nmL k).length + 2 := by simp [wrapW]
      obtain ⟨p, hp⟩ : ∃ p, p = (wrapW (nmL k)).length := ⟨_, rfl⟩
      have hszw : (digS (wrapW (nmL k))).size = p := by rw [digS_size, hp]
      have hp6 : p ≤ 6 := by omega
      have hxt := ext_take (wrapW (nmL k)) n
      have HP := Lib.hid hp
      clear hp hpw
      by_cases hnp : n < p
      · by_cases heq : (wrapW (nmL k)).take n = l
        · have ht := str_eq heq
          clear heq
          go_wp2_with fail
          go_ret
          exact ⟨rfl, hb3⟩
        · have ht := str_ne heq
          have hne : k ≠ kk := by rintro rfl; exact heq HH.out.2
          have hk1 : k + 1 ≤ kk := by omega
          clear heq hne
          go_wp2_with fail
          go_round
          case rel => exact ⟨k + 1, by go_num, hk1⟩
          case measure => simp [intOf]; omega
      · have hnp' : decide (n < p) = false := by simp; omega
        have hne : k ≠ kk := by rintro rfl; exact hnp (by rw [HP.out]; exact HH.out.1)
        have hk1 : k + 1 ≤ kk := by omega
        clear hne
        go_wp2_with fail
        go_round
        case rel => exact ⟨k + 1, by go_num, hk1⟩
        case measure => simp [intOf]; omega
    · skip
      exact absurd (show k < 5 by omega) hlt

set_option maxRecDepth 100000 in
set_option maxHeartbeats 4000000 in
theorem Begins_short (l : List UInt8) (n : Nat) (hl : l.length = n) (hb : n ≤ 1125899906842624) (h : (isS l).2 = false) (h0 : l ≠ []) (h1 : l ≠ [38]) (h2 : l ≠ [38, 35]) (h3 : l ≠ [38, 35, 120]) (hh : ∀ k, k < 5 → ¬ (n < (wrapW (nmL k)).length ∧ (wrapW (nmL k)).take n = l)) (hn3 : n < 3) (w : World) :
    Calls Tryz.prog 27 #[.string (digS l)] w fun e w' => e = .returned (.bool false) ∧ Below w.heap.size w w' := by
  have HI := Lib.hid (Is5_any l (by omega))
  have t0 : (digS l).toList.isEmpty = false := by rw [str_toList]; cases l; exact absurd rfl h0; rfl
  have t1 : ((digS l).toList == [38]) = false := by rw [str_toList]; simpa using h1
  have t2 : ((digS l).toList == [38, 35]) = false := by rw [str_toList]; simpa using h2
  have t3 : ((digS l).toList == [38, 35, 120]) = false := by rw [str_toList]; simpa using h3
  have hsz : (digS l).size = n := by rw [digS_size, hl]
  have HH := Lib.hid hh
  clear hh
  have HL := Lib.hid hl
  clear hl h0 h1 h2 h3
  generalize isS l = t at *
  obtain ⟨r, ok⟩ := t
  obtain rfl : ok = false := h
  have HNM := Lib.hid Names5_any
  go_enter Tryz.func27, Tryz.ntmps27
  go_wp2_with fail
  (with_reducible refine (HI.out _).mono ?_)
  rintro e w1 ⟨rfl, hb1⟩
  go_wp2_with fail
  (with_reducible refine (HNM.out _).mono ?_)
  rintro e w2 ⟨b, rfl, hns, hb2⟩
  have HNS := Lib.hid hns
  clear hns
  have hb3 := hb1.trans (hb2.mono hb1.size)
  clear hb1 hb2 t0 t1 t2 t3
  go_wp2_with fail
  go_loop [8, 9, 42] (fun _ _ kx => ∃ k : Nat, kx = .int .i64 k ∧ k ≤ 5) (fun _ _ kx => 5 - (intOf kx).toNat)
  case atStart => exact ⟨0, rfl, Nat.zero_le _⟩
  case round =>
    obtain ⟨k, rfl, hk⟩ := hrel
    by_cases hlt : k < 5
    · have e0 := HNS.out.2 k hlt
      have hl4 := nmL_len k hlt
      have c1 : ∀ w, (Op.stringOp .add ⟨#[38]⟩ (digS (nmL k))).run Tryz.prog w = .ok (.string (digS (38 :: nmL k))) w := run_cat [38] _ (by simp) (by omega)
      have c2 : ∀ w, (Op.stringOp .add (digS (38 :: nmL k)) ⟨#[59]⟩).run Tryz.prog w = .ok (.string (digS (wrapW (nmL k)))) w := run_cat (38 :: nmL k) [59] (by simp; omega) (by simp)
      have hpw : (wrapW (nmL k)).length = (nmL k).length + 2 := by simp [wrapW]
      obtain ⟨p, hp⟩ : ∃ p, p = (wrapW (nmL k)).length := ⟨_, rfl⟩
      have hszw : (digS (wrapW (nmL k))).size = p := by rw [digS_size, hp]
      have hp6 : p ≤ 6 := by omega
      have hxt := ext_take (wrapW (nmL k)) n
      have HP := Lib.hid hp
      clear hp hpw
      by_cases hnp : n < p
      · by_cases heq : (wrapW (nmL k)).take n = l
        · have ht := str_eq heq
          exact absurd ⟨by rw [← HP.out]; exact hnp, heq⟩ (HH.out k hlt)
        · have ht := str_ne heq
          have hk1 : k + 1 ≤ 5 := by omega
          clear heq
          go_wp2_with fail
          go_round
          case rel => exact ⟨k + 1, by go_num, hk1⟩
          case measure => simp [intOf]; omega
      · have hnp' : decide (n < p) = false := by simp; omega
        have hk1 : k + 1 ≤ 5 := by omega
        go_wp2_with fail
        go_round
        case rel => exact ⟨k + 1, by go_num, hk1⟩
        case measure => simp [intOf]; omega
    · skip
      go_wp2_with fail
      go_ret
      exact ⟨rfl, hb3⟩

set_option maxRecDepth 100000 in
set_option maxHeartbeats 4000000 in
theorem Begins_two (l : List UInt8) (n : Nat) (hl : l.length = n) (hb : n ≤ 1125899906842624) (h : (isS l).2 = false) (h0 : l ≠ []) (h1 : l ≠ [38]) (h2 : l ≠ [38, 35]) (h3 : l ≠ [38, 35, 120]) (hh : ∀ k, k < 5 → ¬ (n < (wrapW (nmL k)).length ∧ (wrapW (nmL k)).take n = l)) (hn3 : 3 ≤ n) (hn2 : l.take 2 ≠ [38, 35]) (w : World) :
    Calls Tryz.prog 27 #[.string (digS l)] w fun e w' => e = .returned (.bool false) ∧ Below w.heap.size w w' := by
  have HI := Lib.hid (Is5_any l (by omega))
  have t0 : (digS l).toList.isEmpty = false := by rw [str_toList]; cases l; exact absurd rfl h0; rfl
  have t1 : ((digS l).toList == [38]) = false := by rw [str_toList]; simpa using h1
  have t2 : ((digS l).toList == [38, 35]) = false := by rw [str_toList]; simpa using h2
  have t3 : ((digS l).toList == [38, 35, 120]) = false := by rw [str_toList]; simpa using h3
  have hsz : (digS l).size = n := by rw [digS_size, hl]
  have HH := Lib.hid hh
  have hx2 := ext_take l 2
  have ht2 : ((digS (l.take 2)).toList == [38, 35]) = false := by rw [str_toList]; simpa using hn2
  have ht2' : ((digS (l.take 2)).toList != [38, 35]) = true := by rw [str_toList]; simpa using hn2
  have H2 := Lib.hid hn2
  clear hh hn2
  have HL := Lib.hid hl
  clear hl h0 h1 h2 h3
  generalize isS l = t at *
  obtain ⟨r, ok⟩ := t
  obtain rfl : ok = false := h
  have HNM := Lib.hid Names5_any
  go_enter Tryz.func27, Tryz.ntmps27
  go_wp2_with fail
  (with_reducible refine (HI.out _).mono ?_)
  rintro e w1 ⟨rfl, hb1⟩
  go_wp2_with fail
  (with_reducible refine (HNM.out _).mono ?_)
  rintro e w2 ⟨b, rfl, hns, hb2⟩
  have HNS := Lib.hid hns
  clear hns
  have hb3 := hb1.trans (hb2.mono hb1.size)
  clear hb1 hb2 t0 t1 t2 t3
  go_wp2_with fail
  go_loop [8, 9, 42] (fun _ _ kx => ∃ k : Nat, kx = .int .i64 k ∧ k ≤ 5) (fun _ _ kx => 5 - (intOf kx).toNat)
  case atStart => exact ⟨0, rfl, Nat.zero_le _⟩
  case round =>
    obtain ⟨k, rfl, hk⟩ := hrel
    by_cases hlt : k < 5
    · have e0 := HNS.out.2 k hlt
      have hl4 := nmL_len k hlt
      have c1 : ∀ w, (Op.stringOp .add ⟨#[38]⟩ (digS (nmL k))).run Tryz.prog w = .ok (.string (digS (38 :: nmL k))) w := run_cat [38] _ (by simp) (by omega)
      have c2 : ∀ w, (Op.stringOp .add (digS (38 :: nmL k)) ⟨#[59]⟩).run Tryz.prog w = .ok (.string (digS (wrapW (nmL k)))) w := run_cat (38 :: nmL k) [59] (by simp; omega) (by simp)
      have hpw : (wrapW (nmL k)).length = (nmL k).length + 2 := by simp [wrapW]
      obtain ⟨p, hp⟩ : ∃ p, p = (wrapW (nmL k)).length := ⟨_, rfl⟩
      have hszw : (digS (wrapW (nmL k))).size = p := by rw [digS_size, hp]
      have hp6 : p ≤ 6 := by omega
      have hxt := ext_take (wrapW (nmL k)) n
      have HP := Lib.hid hp
      clear hp hpw
      by_cases hnp : n < p
      · by_cases heq : (wrapW (nmL k)).take n = l
        · have ht := str_eq heq
          exact absurd ⟨by rw [← HP.out]; exact hnp, heq⟩ (HH.out k hlt)
        · have ht := str_ne heq
          have hk1 : k + 1 ≤ 5 := by omega
          clear heq
          go_wp2_with fail
          go_round
          case rel => exact ⟨k + 1, by go_num, hk1⟩
          case measure => simp [intOf]; omega
      · have hnp' : decide (n < p) = false := by simp; omega
        have hk1 : k + 1 ≤ 5 := by omega
        go_wp2_with fail
        go_round
        case rel => exact ⟨k + 1, by go_num, hk1⟩
        case measure => simp [intOf]; omega
    · skip
      go_wp2_with fail
      go_ret
      exact ⟨rfl, hb3⟩

set_option maxRecDepth 100000 in
set_option maxHeartbeats 4000000 in
theorem Begins_hex (l : List UInt8) (n : Nat) (hl : l.length = n) (hb : n ≤ 1125899906842624) (h : (isS l).2 = false) (h0 : l ≠ []) (h1 : l ≠ [38]) (h2 : l ≠ [38, 35]) (h3 : l ≠ [38, 35, 120]) (hh : ∀ k, k < 5 → ¬ (n < (wrapW (nmL k)).length ∧ (wrapW (nmL k)).take n = l)) (hn3 : 3 ≤ n) (hn2 : l.take 2 = [38, 35]) (c : UInt8) (hc : l[2]? = some c) (hc9 : ((c.toNat : Int) == 120) = true) (w : World) :
    Calls Tryz.prog 27 #[.string (digS l)] w fun e w' => e = .returned (.bool (goR 16 3 l)) ∧ Below w.heap.size w w' := by
  have HI := Lib.hid (Is5_any l (by omega))
  have t0 : (digS l).toList.isEmpty = false := by rw [str_toList]; cases l; exact absurd rfl h0; rfl
  have t1 : ((digS l).toList == [38]) = false := by rw [str_toList]; simpa using h1
  have t2 : ((digS l).toList == [38, 35]) = false := by rw [str_toList]; simpa using h2
  have t3 : ((digS l).toList == [38, 35, 120]) = false := by rw [str_toList]; simpa using h3
  have hsz : (digS l).size = n := by rw [digS_size, hl]
  have HH := Lib.hid hh
  have hx2 := ext_take l 2
  have ht2 : (digS (l.take 2)).toList = [38, 35] := by rw [str_toList]; exact hn2
  have hxc : ∀ W, (Instr.index 9 (.string (digS l)) (.int .i64 2)).run Tryz.prog W = .ok (.int .u8 c.toNat) W := fun W => run_index_str (P := Tryz.prog) 9 Tryz.underlying9 (digS l) 2 c (by simpa [digS] using hc) W
  have hx3 := ext_drop l 3 n hl
  have HNU : Hid (∀ w, Calls Tryz.prog 42 #[.string (digS (l.drop 3)), .int .i64 16] w fun e w' => RetNum e (numR 16 (l.drop 3) 0) ∧ w = w') := Lib.hid (Number_any _ (by simp; omega) 16 (by decide) (by decide))
  have HF : Hid (goR 16 3 l = match numR 16 (l.drop 3) 0 with | none => false | some v => decide (v ≤ 1114111)) := Lib.hid rfl
  have HV : Hid (∀ v, numR 16 (l.drop 3) 0 = some v → 0 ≤ v) := Lib.hid (fun v h => numR_pos 16 (by decide) _ 0 v (by decide) h)
  have HG := Lib.hid (fun v (h : 0 ≤ v) w => goes_any v 16 h (.inr rfl) w)
  generalize l.drop 3 = ds at *
  clear hh hn2 hc
  have HL := Lib.hid hl
  clear hl h0 h1 h2 h3
  generalize isS l = t at *
  obtain ⟨r, ok⟩ := t
  obtain rfl : ok = false := h
  have HNM := Lib.hid Names5_any
  go_enter Tryz.func27, Tryz.ntmps27
  go_wp2_with fail
  (with_reducible refine (HI.out _).mono ?_)
  rintro e w1 ⟨rfl, hb1⟩
  go_wp2_with fail
  (with_reducible refine (HNM.out _).mono ?_)
  rintro e w2 ⟨b, rfl, hns, hb2⟩
  have HNS := Lib.hid hns
  clear hns
  have hb3 := hb1.trans (hb2.mono hb1.size)
  clear hb1 hb2 t0 t1 t2 t3
  go_wp2_with fail
  go_loop [8, 9, 42] (fun _ _ kx => ∃ k : Nat, kx = .int .i64 k ∧ k ≤ 5) (fun _ _ kx => 5 - (intOf kx).toNat)
  case atStart => exact ⟨0, rfl, Nat.zero_le _⟩
  case round =>
    obtain ⟨k, rfl, hk⟩ := hrel
    by_cases hlt : k < 5
    · have e0 := HNS.out.2 k hlt
      have hl4 := nmL_len k hlt
      have c1 : ∀ w, (Op.stringOp .add ⟨#[38]⟩ (digS (nmL k))).run Tryz.prog w = .ok (.string (digS (38 :: nmL k))) w := run_cat [38] _ (by simp) (by omega)
      have c2 : ∀ w, (Op.stringOp .add (digS (38 :: nmL k)) ⟨#[59]⟩).run Tryz.prog w = .ok (.string (digS (wrapW (nmL k)))) w := run_cat (38 :: nmL k) [59] (by simp; omega) (by simp)
      have hpw : (wrapW (nmL k)).length = (nmL k).length + 2 := by simp [wrapW]
      obtain ⟨p, hp⟩ : ∃ p, p = (wrapW (nmL k)).length := ⟨_, rfl⟩
      have hszw : (digS (wrapW (nmL k))).size = p := by rw [digS_size, hp]
      have hp6 : p ≤ 6 := by omega
      have hxt := ext_take (wrapW (nmL k)) n
      have HP := Lib.hid hp
      clear hp hpw
      by_cases hnp : n < p
      · by_cases heq : (wrapW (nmL k)).take n = l
        · have ht := str_eq heq
          exact absurd ⟨by rw [← HP.out]; exact hnp, heq⟩ (HH.out k hlt)
        · have ht := str_ne heq
          have hk1 : k + 1 ≤ 5 := by omega
          clear heq
          go_wp2_with fail
          go_round
          case rel => exact ⟨k + 1, by go_num, hk1⟩
          case measure => simp [intOf]; omega
      · have hnp' : decide (n < p) = false := by simp; omega
        have hk1 : k + 1 ≤ 5 := by omega
        go_wp2_with fail
        go_round
        case rel => exact ⟨k + 1, by go_num, hk1⟩
        case measure => simp [intOf]; omega
    · skip
      go_wp2_with fail
      (with_reducible refine (HNU.out _).mono ?_)
      rintro e w3 ⟨he, rfl⟩
      generalize numR 16 ds 0 = o at *
      rcases o with _ | v
      · subst he
        go_wp2_with fail
        go_ret
        exact ⟨ret_bool (by rw [HF.out]), hb3⟩
      · subst he
        have hv := HV.out v rfl
        go_wp2_with fail
        (with_reducible refine (HG.out _ hv _).mono ?_)
        rintro e w4 ⟨rfl, hb4⟩
        have hb5 := hb3.trans (hb4.mono hb3.size)
        clear hb3 hb4
        generalize decide (v ≤ 1114111) = q at *
        go_wp2_with fail
        go_ret
        exact ⟨ret_bool (by rw [HF.out]), hb5⟩

set_option maxRecDepth 100000 in
set_option maxHeartbeats 4000000 in
theorem Begins_dec (l : List UInt8) (n : Nat) (hl : l.length = n) (hb : n ≤ 1125899906842624) (h : (isS l).2 = false) (h0 : l ≠ []) (h1 : l ≠ [38]) (h2 : l ≠ [38, 35]) (h3 : l ≠ [38, 35, 120]) (hh : ∀ k, k < 5 → ¬ (n < (wrapW (nmL k)).length ∧ (wrapW (nmL k)).take n = l)) (hn3 : 3 ≤ n) (hn2 : l.take 2 = [38, 35]) (c : UInt8) (hc : l[2]? = some c) (hc9 : ((c.toNat : Int) == 120) = false) (w : World) :
    Calls Tryz.prog 27 #[.string (digS l)] w fun e w' => e = .returned (.bool (goR 10 2 l)) ∧ Below w.heap.size w w' := by
  have HI := Lib.hid (Is5_any l (by omega))
  have t0 : (digS l).toList.isEmpty = false := by rw [str_toList]; cases l; exact absurd rfl h0; rfl
  have t1 : ((digS l).toList == [38]) = false := by rw [str_toList]; simpa using h1
  have t2 : ((digS l).toList == [38, 35]) = false := by rw [str_toList]; simpa using h2
  have t3 : ((digS l).toList == [38, 35, 120]) = false := by rw [str_toList]; simpa using h3
  have hsz : (digS l).size = n := by rw [digS_size, hl]
  have HH := Lib.hid hh
  have hx2 := ext_take l 2
  have ht2 : (digS (l.take 2)).toList = [38, 35] := by rw [str_toList]; exact hn2
  have hxc : ∀ W, (Instr.index 9 (.string (digS l)) (.int .i64 2)).run Tryz.prog W = .ok (.int .u8 c.toNat) W := fun W => run_index_str (P := Tryz.prog) 9 Tryz.underlying9 (digS l) 2 c (by simpa [digS] using hc) W
  have hx3 := ext_drop l 2 n hl
  have HNU : Hid (∀ w, Calls Tryz.prog 42 #[.string (digS (l.drop 2)), .int .i64 10] w fun e w' => RetNum e (numR 10 (l.drop 2) 0) ∧ w = w') := Lib.hid (Number_any _ (by simp; omega) 10 (by decide) (by decide))
  have HF : Hid (goR 10 2 l = match numR 10 (l.drop 2) 0 with | none => false | some v => decide (v ≤ 1114111)) := Lib.hid rfl
  have HV : Hid (∀ v, numR 10 (l.drop 2) 0 = some v → 0 ≤ v) := Lib.hid (fun v h => numR_pos 10 (by decide) _ 0 v (by decide) h)
  have HG := Lib.hid (fun v (h : 0 ≤ v) w => goes_any v 10 h (.inl rfl) w)
  generalize l.drop 2 = ds at *
  clear hh hn2 hc
  have HL := Lib.hid hl
  clear hl h0 h1 h2 h3
  generalize isS l = t at *
  obtain ⟨r, ok⟩ := t
  obtain rfl : ok = false := h
  have HNM := Lib.hid Names5_any
  go_enter Tryz.func27, Tryz.ntmps27
  go_wp2_with fail
  (with_reducible refine (HI.out _).mono ?_)
  rintro e w1 ⟨rfl, hb1⟩
  go_wp2_with fail
  (with_reducible refine (HNM.out _).mono ?_)
  rintro e w2 ⟨b, rfl, hns, hb2⟩
  have HNS := Lib.hid hns
  clear hns
  have hb3 := hb1.trans (hb2.mono hb1.size)
  clear hb1 hb2 t0 t1 t2 t3
  go_wp2_with fail
  go_loop [8, 9, 42] (fun _ _ kx => ∃ k : Nat, kx = .int .i64 k ∧ k ≤ 5) (fun _ _ kx => 5 - (intOf kx).toNat)
  case atStart => exact ⟨0, rfl, Nat.zero_le _⟩
  case round =>
    obtain ⟨k, rfl, hk⟩ := hrel
    by_cases hlt : k < 5
    · have e0 := HNS.out.2 k hlt
      have hl4 := nmL_len k hlt
      have c1 : ∀ w, (Op.stringOp .add ⟨#[38]⟩ (digS (nmL k))).run Tryz.prog w = .ok (.string (digS (38 :: nmL k))) w := run_cat [38] _ (by simp) (by omega)
      have c2 : ∀ w, (Op.stringOp .add (digS (38 :: nmL k)) ⟨#[59]⟩).run Tryz.prog w = .ok (.string (digS (wrapW (nmL k)))) w := run_cat (38 :: nmL k) [59] (by simp; omega) (by simp)
      have hpw : (wrapW (nmL k)).length = (nmL k).length + 2 := by simp [wrapW]
      obtain ⟨p, hp⟩ : ∃ p, p = (wrapW (nmL k)).length := ⟨_, rfl⟩
      have hszw : (digS (wrapW (nmL k))).size = p := by rw [digS_size, hp]
      have hp6 : p ≤ 6 := by omega
      have hxt := ext_take (wrapW (nmL k)) n
      have HP := Lib.hid hp
      clear hp hpw
      by_cases hnp : n < p
      · by_cases heq : (wrapW (nmL k)).take n = l
        · have ht := str_eq heq
          exact absurd ⟨by rw [← HP.out]; exact hnp, heq⟩ (HH.out k hlt)
        · have ht := str_ne heq
          have hk1 : k + 1 ≤ 5 := by omega
          clear heq
          go_wp2_with fail
          go_round
          case rel => exact ⟨k + 1, by go_num, hk1⟩
          case measure => simp [intOf]; omega
      · have hnp' : decide (n < p) = false := by simp; omega
        have hk1 : k + 1 ≤ 5 := by omega
        go_wp2_with fail
        go_round
        case rel => exact ⟨k + 1, by go_num, hk1⟩
        case measure => simp [intOf]; omega
    · skip
      go_wp2_with fail
      (with_reducible refine (HNU.out _).mono ?_)
      rintro e w3 ⟨he, rfl⟩
      generalize numR 10 ds 0 = o at *
      rcases o with _ | v
      · subst he
        go_wp2_with fail
        go_ret
        exact ⟨ret_bool (by rw [HF.out]), hb3⟩
      · subst he
        have hv := HV.out v rfl
        go_wp2_with fail
        (with_reducible refine (HG.out _ hv _).mono ?_)
        rintro e w4 ⟨rfl, hb4⟩
        have hb5 := hb3.trans (hb4.mono hb3.size)
        clear hb3 hb4
        generalize decide (v ≤ 1114111) = q at *
        go_wp2_with fail
        go_ret
        exact ⟨ret_bool (by rw [HF.out]), hb5⟩

theorem pre_some (l : List UInt8) (k : Nat) (hk : k < 5) (h : l.length < (wrapW (nmL k)).length ∧ (wrapW (nmL k)).take l.length = l) : preR l = true := by
  unfold preR
  rw [List.any_eq_true]
  refine ⟨refW.getD k ([], 0), ?_, ?_⟩
  · iterate 5 (rcases k with _ | k; · simp [refW])
    omega
  · simp only [Bool.and_eq_true, decide_eq_true_eq, beq_iff_eq]
    exact h
theorem pre_none (l : List UInt8) (h : ∀ k, k < 5 → ¬ (l.length < (wrapW (nmL k)).length ∧ (wrapW (nmL k)).take l.length = l)) : preR l = false := by
  unfold preR
  rw [List.any_eq_false]
  intro p hp
  simp only [Bool.and_eq_true, decide_eq_true_eq, beq_iff_eq]
  obtain ⟨k, hk, rfl⟩ := List.getElem_of_mem hp
  have hk5 : k < 5 := hk
  have e : refW[k] = refW.getD k ([], 0) := by rw [List.getD_eq_getElem?_getD, List.getElem?_eq_getElem hk]; rfl
  have h' := h k hk5
  unfold nmL at h'
  rw [← e] at h'
  exact h'

theorem Begins_any (l : List UInt8) (hb : l.length ≤ 1125899906842624) (w : World) :
    Calls Tryz.prog 27 #[.string (digS l)] w fun e w' => e = .returned (.bool (begS l)) ∧ Below w.heap.size w w' := by
  cases hi : (isS l).2 with
  | true =>
    have e : begS l = true := by unfold begS; rw [hi]; rfl
    rw [e]; exact Begins_is l hb hi w
  | false =>
    by_cases h0 : l = []
    · subst h0; exact Begins_s0 w
    by_cases h1 : l = [38]
    · subst h1; exact Begins_s1 w
    by_cases h2 : l = [38, 35]
    · subst h2; exact Begins_s2 w
    by_cases h3 : l = [38, 35, 120]
    · subst h3; exact Begins_s3 w
    have e : begS l = (preR l || (if l.length < 3 ∨ l.take 2 ≠ [38, 35] then false else if l[2]? = some 120 then goR 16 3 l else goR 10 2 l)) := by
      unfold begS
      rw [hi, beq_false_of_ne h0, beq_false_of_ne h1, beq_false_of_ne h2, beq_false_of_ne h3]
      simp only [Bool.false_or]
    rw [e]
    by_cases hp : ∃ k, k < 5 ∧ l.length < (wrapW (nmL k)).length ∧ (wrapW (nmL k)).take l.length = l
    · obtain ⟨k, hk, hh⟩ := hp
      rw [pre_some l k hk hh, Bool.true_or]
      exact Begins_pre l _ rfl hb hi h0 h1 h2 h3 k hk hh w
    · have hh : ∀ k, k < 5 → ¬ (l.length < (wrapW (nmL k)).length ∧ (wrapW (nmL k)).take l.length = l) := fun k hk h => hp ⟨k, hk, h⟩
      rw [pre_none l hh, Bool.false_or]
      by_cases hn3 : l.length < 3
      · rw [if_pos (.inl hn3)]
        exact Begins_short l _ rfl hb hi h0 h1 h2 h3 hh hn3 w
      · by_cases hn2 : l.take 2 = [38, 35]
        · rw [if_neg (fun h => h.elim hn3 (fun h => h hn2))]
          obtain ⟨c, hc⟩ : ∃ c, l[2]? = some c := ⟨_, List.getElem?_eq_getElem (by omega)⟩
          by_cases h120 : c.toNat = 120
          · obtain rfl : c = 120 := UInt8.toNat_inj.1 h120
            rw [if_pos hc]
            exact Begins_hex l _ rfl hb hi h0 h1 h2 h3 hh (by omega) hn2 120 hc (by decide) w
          · rw [if_neg (by rw [hc]; rintro h; injection h with h; exact h120 (by rw [h]; rfl))]
            exact Begins_dec l _ rfl hb hi h0 h1 h2 h3 hh (by omega) hn2 c hc (by simp; omega) w
        · rw [if_pos (.inr hn2)]
          exact Begins_two l _ rfl hb hi h0 h1 h2 h3 hh (by omega) hn2 w
end Go.Proofs.YtlomcmichbnkaaaGreatDoor
