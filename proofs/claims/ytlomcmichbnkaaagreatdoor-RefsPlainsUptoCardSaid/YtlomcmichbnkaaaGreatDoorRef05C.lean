/-
  gimletref05: Names, Is.
-/
import Derived.Test.YtlomcmichbnkaaaGreatDoorRef05A
import Derived.Test.YtlomcmichbnkaaaGreatDoorRef05B
namespace Go.Proofs.YtlomcmichbnkaaaGreatDoor
open Go.RowKit

def nmL (j : Nat) : List UInt8 := (refW.getD j ([], 0)).1
def chrR (j : Nat) : Int := (refW.getD j ([], 0)).2
theorem nmL_len : ∀ j, j < 5 → (nmL j).length ≤ 4 := by decide
/-- the list of names in memory -/
def NamesAt (w : World) (b : Nat) : Prop := b < w.heap.size ∧ ∀ j, j < 5 → w.cell? ⟨b, j, none⟩ = some (.string (digS (nmL j)))
theorem NamesAt.below {w w' : World} {b : Nat} (h : NamesAt w b) (hb : Below w.heap.size w w') : NamesAt w' b :=
  ⟨Nat.lt_of_lt_of_le h.1 hb.size, fun j hj => (hb.cell (p := ⟨b, j, none⟩) h.1).trans (h.2 j hj)⟩
def RetNames5 (w : World) (e : Ending) (w' : World) : Prop :=
  ∃ b, e = .returned (.tuple #[.slice (some ⟨b, 0, none⟩) 5 5, .string (digS [38, 60, 62, 34, 39])]) ∧ NamesAt w' b ∧ Below w.heap.size w w'
set_option maxHeartbeats 1000000 in
theorem Names5_any (w : World) :
    Calls Tryz.prog 41 #[] w fun e w' => RetNames5 w e w' := by
  go_enter Tryz.func41, Tryz.ntmps41
  go_wp2_with fail
  go_ret2
  refine ⟨w.heap.size, rfl, ⟨by simp, fun j hj => ?_⟩, (Below.refl _ _).alloc (Nat.le_refl _) _⟩
  rw [cell_heap (heap_alloc_new w _)]
  iterate 5 (rcases j with _ | j; · rfl)
  omega

theorem namR_none (l : List UInt8) (h : ∀ j, j < 5 → l ≠ wrapW (nmL j)) : namR l = none := by
  have h0 := h 0 (by omega)
  have h1 := h 1 (by omega)
  have h2 := h 2 (by omega)
  have h3 := h 3 (by omega)
  have h4 := h 4 (by omega)
  simp only [nmL, refW, List.getD_cons_zero, List.getD_cons_succ] at h0 h1 h2 h3 h4
  simp [namR, refW, h0, h1, h2, h3, h4]
theorem namR_some (l : List UInt8) (k : Nat) (hk : k < 5) (h : l = wrapW (nmL k)) : namR l = some (chrR k) := by
  subst h
  revert k
  decide

/-- what the reference says: the character, whether it is one -/
def RetIs (e : Ending) (t : Int × Bool) : Prop := e = .returned (.tuple #[.int .i64 t.1, .bool t.2])

theorem str_toList (l : List UInt8) : (digS l).toList = l := by rw [ByteArray.toList_eq]; simp [digS]
theorem str_eq {a b : List UInt8} (h : a = b) : ((digS a).toList == (digS b).toList) = true := by rw [h]; simp
theorem str_ne {a b : List UInt8} (h : a ≠ b) : ((digS a).toList == (digS b).toList) = false := by rw [str_toList, str_toList]; simpa using h
def chrs5 : List UInt8 := [38, 60, 62, 34, 39]
theorem chrs5_at : ∀ k, k < 5 → ∃ o : UInt8, chrs5[k]? = some o ∧ chrR k = (o.toNat : Int) := by
  intro k hk
  iterate 5 (rcases k with _ | k; · exact ⟨_, rfl, rfl⟩)
  omega

set_option maxRecDepth 100000 in
set_option maxHeartbeats 4000000 in
theorem Is5_named (l : List UInt8) (kk : Nat) (hkk : kk < 5) (h : l = wrapW (nmL kk)) (w : World) :
    Calls Tryz.prog 28 #[.string (digS l)] w fun e w' => RetIs e (chrR kk, true) ∧ Below w.heap.size w w' := by
  have H := Lib.hid h
  clear h
  have HNM := Lib.hid (Names5_any w)
  go_enter Tryz.func28, Tryz.ntmps28
  go_wp2_with fail
  (with_reducible refine HNM.out.mono ?_)
  rintro e w1 ⟨b, rfl, hns, hb1⟩
  have HNS := Lib.hid hns
  clear hns
  go_wp2_with fail
  go_loop [6, 7, 18] (fun _ _ kx => ∃ k : Nat, kx = .int .i64 k ∧ k ≤ kk) (fun _ _ kx => 5 - (intOf kx).toNat)
  case atStart => exact ⟨0, rfl, Nat.zero_le _⟩
  case round =>
    obtain ⟨k, rfl, hk⟩ := hrel
    have hlt : k < 5 := by omega
    have e0 := HNS.out.2 k hlt
    have hl4 := nmL_len k hlt
    have c1 : ∀ w, (Op.stringOp .add ⟨#[38]⟩ (digS (nmL k))).run Tryz.prog w = .ok (.string (digS (38 :: nmL k))) w := run_cat [38] _ (by simp) (by omega)
    have c2 : ∀ w, (Op.stringOp .add (digS (38 :: nmL k)) ⟨#[59]⟩).run Tryz.prog w = .ok (.string (digS (wrapW (nmL k)))) w := run_cat (38 :: nmL k) [59] (by simp; omega) (by simp)
    by_cases heq : l = wrapW (nmL k)
    · have ht := str_eq heq
      have hkeq : k = kk := by
        have h1 := H.out
        rw [h1] at heq
        have : ∀ a, a < 5 → ∀ b, b < 5 → wrapW (nmL a) = wrapW (nmL b) → b = a := by decide
        exact this kk hkk k hlt heq
      obtain ⟨o, ho, hc⟩ := chrs5_at k hlt
      have hx := fun W => run_index_str (P := Tryz.prog) 9 Tryz.underlying9 (digS [38, 60, 62, 34, 39]) k o (by simpa [digS, chrs5] using ho) W
      have hob : o.toNat < 256 := o.toNat_lt
      have HC := Lib.hid hc
      have HKE := Lib.hid hkeq
      clear heq hkeq ho hc
      go_wp2_with fail
      go_ret2
      exact ⟨by rw [← HKE.out, HC.out]; rfl, hb1⟩
    · have ht := str_ne heq
      have hne : k ≠ kk := by rintro rfl; exact heq H.out
      have hk1 : k + 1 ≤ kk := by omega
      clear heq hne
      go_wp2_with fail
      go_round
      case rel => exact ⟨k + 1, by go_num, hk1⟩
      case measure => simp [intOf]; omega

set_option maxRecDepth 100000 in
set_option maxHeartbeats 4000000 in
theorem Is5_short (l : List UInt8) (hl : l.length < 4) (h : ∀ j, j < 5 → l ≠ wrapW (nmL j)) (w : World) :
    Calls Tryz.prog 28 #[.string (digS l)] w fun e w' => RetIs e (0, false) ∧ Below w.heap.size w w' := by
  obtain ⟨n, hn⟩ : ∃ n, n = l.length := ⟨_, rfl⟩
  have hsz : (digS l).size = n := by rw [digS_size, hn]
  have hn4 : n < 4 := by omega
  have H := Lib.hid h
  clear hl hn h
  have HNM := Lib.hid (Names5_any w)
  go_enter Tryz.func28, Tryz.ntmps28
  go_wp2_with fail
  (with_reducible refine HNM.out.mono ?_)
  rintro e w1 ⟨b, rfl, hns, hb1⟩
  have HNS := Lib.hid hns
  clear hns
  go_wp2_with fail
  go_loop [6, 7, 18] (fun _ _ kx => ∃ k : Nat, kx = .int .i64 k ∧ k ≤ 5) (fun _ _ kx => 5 - (intOf kx).toNat)
  case atStart => exact ⟨0, rfl, Nat.zero_le _⟩
  case round =>
    obtain ⟨k, rfl, hk⟩ := hrel
    by_cases hlt : k < 5
    · have e0 := HNS.out.2 k hlt
      have hl4 := nmL_len k hlt
      have c1 : ∀ w, (Op.stringOp .add ⟨#[38]⟩ (digS (nmL k))).run Tryz.prog w = .ok (.string (digS (38 :: nmL k))) w := run_cat [38] _ (by simp) (by omega)
      have c2 : ∀ w, (Op.stringOp .add (digS (38 :: nmL k)) ⟨#[59]⟩).run Tryz.prog w = .ok (.string (digS (wrapW (nmL k)))) w := run_cat (38 :: nmL k) [59] (by simp; omega) (by simp)
      have ht := str_ne (H.out k hlt)
      go_wp2_with fail
      go_round
      case rel => exact ⟨k + 1, by go_num, by omega⟩
      case measure => simp [intOf]; omega
    · go_wp2_with fail
      go_ret2
      exact ⟨rfl, hb1⟩





set_option maxRecDepth 100000 in
set_option maxHeartbeats 4000000 in
theorem Is5_two (l : List UInt8) (m : Nat) (hl : l.length = m + 1) (hm3 : 3 ≤ m) (hmb : m ≤ 1125899906842624) (h : ∀ j, j < 5 → l ≠ wrapW (nmL j)) (h2 : l.take 2 ≠ [38, 35]) (w : World) :
    Calls Tryz.prog 28 #[.string (digS l)] w fun e w' => RetIs e (0, false) ∧ Below w.heap.size w w' := by
  have hsz : (digS l).size = m + 1 := by rw [digS_size, hl]
  have hx2 : (digS l).extract 0 2 = digS (l.take 2) := by rw [digS, ByteArray.extract_mk]; rfl
  have ht2 : ¬ (digS (l.take 2)).toList = [38, 35] := by rw [str_toList]; exact h2
  have H2 := Lib.hid h2
  clear h2
  have HL := Lib.hid hl
  have H := Lib.hid h
  clear hl h
  have HNM := Lib.hid (Names5_any w)
  go_enter Tryz.func28, Tryz.ntmps28
  go_wp2_with fail
  (with_reducible refine HNM.out.mono ?_)
  rintro e w1 ⟨b, rfl, hns, hb1⟩
  have HNS := Lib.hid hns
  clear hns
  go_wp2_with fail
  go_loop [6, 7, 18] (fun _ _ kx => ∃ k : Nat, kx = .int .i64 k ∧ k ≤ 5) (fun _ _ kx => 5 - (intOf kx).toNat)
  case atStart => exact ⟨0, rfl, Nat.zero_le _⟩
  case round =>
    obtain ⟨k, rfl, hk⟩ := hrel
    by_cases hlt : k < 5
    · have e0 := HNS.out.2 k hlt
      have hl4 := nmL_len k hlt
      have c1 : ∀ w, (Op.stringOp .add ⟨#[38]⟩ (digS (nmL k))).run Tryz.prog w = .ok (.string (digS (38 :: nmL k))) w := run_cat [38] _ (by simp) (by omega)
      have c2 : ∀ w, (Op.stringOp .add (digS (38 :: nmL k)) ⟨#[59]⟩).run Tryz.prog w = .ok (.string (digS (wrapW (nmL k)))) w := run_cat (38 :: nmL k) [59] (by simp; omega) (by simp)
      have ht := str_ne (H.out k hlt)
      go_wp2_with fail
      go_round
      case rel => exact ⟨k + 1, by go_num, by omega⟩
      case measure => simp [intOf]; omega
    · skip
      go_wp2_with fail
      go_ret2
      exact ⟨rfl, hb1⟩

set_option maxRecDepth 100000 in
set_option maxHeartbeats 4000000 in
theorem Is5_last (l : List UInt8) (m : Nat) (hl : l.length = m + 1) (hm3 : 3 ≤ m) (hmb : m ≤ 1125899906842624) (h : ∀ j, j < 5 → l ≠ wrapW (nmL j)) (h2 : l.take 2 = [38, 35]) (z : UInt8) (hz : l[m]? = some z) (hz9 : z.toNat ≠ 59) (w : World) :
    Calls Tryz.prog 28 #[.string (digS l)] w fun e w' => RetIs e (0, false) ∧ Below w.heap.size w w' := by
  have hsz : (digS l).size = m + 1 := by rw [digS_size, hl]
  have hx2 : (digS l).extract 0 2 = digS (l.take 2) := by rw [digS, ByteArray.extract_mk]; rfl
  have ht2 : (digS (l.take 2)).toList = [38, 35] := by rw [str_toList]; exact h2
  have hxz := fun W => run_index_str (P := Tryz.prog) 9 Tryz.underlying9 (digS l) m z (by simpa [digS] using hz) W
  have hz9' : ((z.toNat : Int) != 59) = true := by simp; omega
  clear h2 hz hz9
  have HL := Lib.hid hl
  have H := Lib.hid h
  clear hl h
  have HNM := Lib.hid (Names5_any w)
  go_enter Tryz.func28, Tryz.ntmps28
  go_wp2_with fail
  (with_reducible refine HNM.out.mono ?_)
  rintro e w1 ⟨b, rfl, hns, hb1⟩
  have HNS := Lib.hid hns
  clear hns
  go_wp2_with fail
  go_loop [6, 7, 18] (fun _ _ kx => ∃ k : Nat, kx = .int .i64 k ∧ k ≤ 5) (fun _ _ kx => 5 - (intOf kx).toNat)
  case atStart => exact ⟨0, rfl, Nat.zero_le _⟩
  case round =>
    obtain ⟨k, rfl, hk⟩ := hrel
    by_cases hlt : k < 5
    · have e0 := HNS.out.2 k hlt
      have hl4 := nmL_len k hlt
      have c1 : ∀ w, (Op.stringOp .add ⟨#[38]⟩ (digS (nmL k))).run Tryz.prog w = .ok (.string (digS (38 :: nmL k))) w := run_cat [38] _ (by simp) (by omega)
      have c2 : ∀ w, (Op.stringOp .add (digS (38 :: nmL k)) ⟨#[59]⟩).run Tryz.prog w = .ok (.string (digS (wrapW (nmL k)))) w := run_cat (38 :: nmL k) [59] (by simp; omega) (by simp)
      have ht := str_ne (H.out k hlt)
      go_wp2_with fail
      go_round
      case rel => exact ⟨k + 1, by go_num, by omega⟩
      case measure => simp [intOf]; omega
    · skip
      go_wp2_with fail
      go_ret2
      exact ⟨rfl, hb1⟩

set_option maxRecDepth 100000 in
set_option maxHeartbeats 4000000 in
theorem Is5_hex (l : List UInt8) (m : Nat) (hl : l.length = m + 1) (hm3 : 3 ≤ m) (hmb : m ≤ 1125899906842624) (h : ∀ j, j < 5 → l ≠ wrapW (nmL j)) (h2 : l.take 2 = [38, 35]) (hz : l[m]? = some 59) (c : UInt8) (hc : l[2]? = some c) (hc9 : ((c.toNat : Int) == 120) = true) (w : World) :
    Calls Tryz.prog 28 #[.string (digS l)] w fun e w' => RetIs e (finR 16 3 l) ∧ Below w.heap.size w w' := by
  have hsz : (digS l).size = m + 1 := by rw [digS_size, hl]
  have hx2 : (digS l).extract 0 2 = digS (l.take 2) := by rw [digS, ByteArray.extract_mk]; rfl
  have ht2 : (digS (l.take 2)).toList = [38, 35] := by rw [str_toList]; exact h2
  have hxz := fun W => run_index_str (P := Tryz.prog) 9 Tryz.underlying9 (digS l) m 59 (by simpa [digS] using hz) W
  have hxc : ∀ W, (Instr.index 9 (.string (digS l)) (.int .i64 2)).run Tryz.prog W = .ok (.int .u8 c.toNat) W := fun W => run_index_str (P := Tryz.prog) 9 Tryz.underlying9 (digS l) 2 c (by simpa [digS] using hc) W
  have hx3 : (digS l).extract 3 m = digS ((l.drop 3).take (m - 3)) := by rw [digS, ByteArray.extract_mk]; rfl
  have hfin : finR 16 3 l = match numR 16 ((l.drop 3).take (m - 3)) 0 with | none => (0, false) | some v => (v, decide (3 < m) && isR (rng 0) v) := by
    unfold finR; rw [hl]; rfl
  have HF := Lib.hid hfin
  clear h2 hz hc hfin
  have HNU : Hid (∀ w, Calls Tryz.prog 42 #[.string (digS ((l.drop 3).take (m - 3))), .int .i64 16] w fun e w' => RetNum e (numR 16 ((l.drop 3).take (m - 3)) 0) ∧ w = w') := Lib.hid (Number_any _ (by simp; omega) 16 (by decide) (by decide))
  generalize (l.drop 3).take (m - 3) = ds at *
  have HL := Lib.hid hl
  have H := Lib.hid h
  clear hl h
  have HNM := Lib.hid (Names5_any w)
  go_enter Tryz.func28, Tryz.ntmps28
  go_wp2_with fail
  (with_reducible refine HNM.out.mono ?_)
  rintro e w1 ⟨b, rfl, hns, hb1⟩
  have HNS := Lib.hid hns
  clear hns
  go_wp2_with fail
  go_loop [6, 7, 18] (fun _ _ kx => ∃ k : Nat, kx = .int .i64 k ∧ k ≤ 5) (fun _ _ kx => 5 - (intOf kx).toNat)
  case atStart => exact ⟨0, rfl, Nat.zero_le _⟩
  case round =>
    obtain ⟨k, rfl, hk⟩ := hrel
    by_cases hlt : k < 5
    · have e0 := HNS.out.2 k hlt
      have hl4 := nmL_len k hlt
      have c1 : ∀ w, (Op.stringOp .add ⟨#[38]⟩ (digS (nmL k))).run Tryz.prog w = .ok (.string (digS (38 :: nmL k))) w := run_cat [38] _ (by simp) (by omega)
      have c2 : ∀ w, (Op.stringOp .add (digS (38 :: nmL k)) ⟨#[59]⟩).run Tryz.prog w = .ok (.string (digS (wrapW (nmL k)))) w := run_cat (38 :: nmL k) [59] (by simp; omega) (by simp)
      have ht := str_ne (H.out k hlt)
      go_wp2_with fail
      go_round
      case rel => exact ⟨k + 1, by go_num, by omega⟩
      case measure => simp [intOf]; omega
    · skip
      go_wp2_with fail
      (with_reducible refine (HNU.out _).mono ?_)
      rintro e w2 ⟨he, rfl⟩
      generalize numR 16 ds 0 = o at *
      rcases o with _ | v
      · subst he
        go_wp2_with fail
        go_ret2
        exact ⟨by rw [HF.out]; rfl, hb1⟩
      · subst he
        by_cases hat : 3 < m
        · have HA := Lib.hid (allowed_any v)
          obtain ⟨ok, hok⟩ : ∃ ok, ok = isR (rng 0) v := ⟨_, rfl⟩
          rw [← hok] at HA
          have HOK := Lib.hid hok
          clear hok
          go_wp2_with fail
          (with_reducible refine (HA.out _).mono ?_)
          rintro e w3 ⟨rfl, hb3⟩
          go_wp2_with fail
          go_ret2
          exact ⟨by rw [HF.out, HOK.out]; simp [RetIs, hat], hb1.trans (hb3.mono hb1.size)⟩
        · go_wp2_with fail
          go_ret2
          exact ⟨by rw [HF.out]; simp [RetIs, hat], hb1⟩

set_option maxRecDepth 100000 in
set_option maxHeartbeats 4000000 in
theorem Is5_dec (l : List UInt8) (m : Nat) (hl : l.length = m + 1) (hm3 : 3 ≤ m) (hmb : m ≤ 1125899906842624) (h : ∀ j, j < 5 → l ≠ wrapW (nmL j)) (h2 : l.take 2 = [38, 35]) (hz : l[m]? = some 59) (c : UInt8) (hc : l[2]? = some c) (hc9 : ((c.toNat : Int) == 120) = false) (w : World) :
    Calls Tryz.prog 28 #[.string (digS l)] w fun e w' => RetIs e (finR 10 2 l) ∧ Below w.heap.size w w' := by
  have hsz : (digS l).size = m + 1 := by rw [digS_size, hl]
  have hx2 : (digS l).extract 0 2 = digS (l.take 2) := by rw [digS, ByteArray.extract_mk]; rfl
  have ht2 : (digS (l.take 2)).toList = [38, 35] := by rw [str_toList]; exact h2
  have hxz := fun W => run_index_str (P := Tryz.prog) 9 Tryz.underlying9 (digS l) m 59 (by simpa [digS] using hz) W
  have hxc : ∀ W, (Instr.index 9 (.string (digS l)) (.int .i64 2)).run Tryz.prog W = .ok (.int .u8 c.toNat) W := fun W => run_index_str (P := Tryz.prog) 9 Tryz.underlying9 (digS l) 2 c (by simpa [digS] using hc) W
  have hx3 : (digS l).extract 2 m = digS ((l.drop 2).take (m - 2)) := by rw [digS, ByteArray.extract_mk]; rfl
  have hfin : finR 10 2 l = match numR 10 ((l.drop 2).take (m - 2)) 0 with | none => (0, false) | some v => (v, decide (2 < m) && isR (rng 0) v) := by
    unfold finR; rw [hl]; rfl
  have HF := Lib.hid hfin
  clear h2 hz hc hfin
  have HNU : Hid (∀ w, Calls Tryz.prog 42 #[.string (digS ((l.drop 2).take (m - 2))), .int .i64 10] w fun e w' => RetNum e (numR 10 ((l.drop 2).take (m - 2)) 0) ∧ w = w') := Lib.hid (Number_any _ (by simp; omega) 10 (by decide) (by decide))
  generalize (l.drop 2).take (m - 2) = ds at *
  have HL := Lib.hid hl
  have H := Lib.hid h
  clear hl h
  have HNM := Lib.hid (Names5_any w)
  go_enter Tryz.func28, Tryz.ntmps28
  go_wp2_with fail
  (with_reducible refine HNM.out.mono ?_)
  rintro e w1 ⟨b, rfl, hns, hb1⟩
  have HNS := Lib.hid hns
  clear hns
  go_wp2_with fail
  go_loop [6, 7, 18] (fun _ _ kx => ∃ k : Nat, kx = .int .i64 k ∧ k ≤ 5) (fun _ _ kx => 5 - (intOf kx).toNat)
  case atStart => exact ⟨0, rfl, Nat.zero_le _⟩
  case round =>
    obtain ⟨k, rfl, hk⟩ := hrel
    by_cases hlt : k < 5
    · have e0 := HNS.out.2 k hlt
      have hl4 := nmL_len k hlt
      have c1 : ∀ w, (Op.stringOp .add ⟨#[38]⟩ (digS (nmL k))).run Tryz.prog w = .ok (.string (digS (38 :: nmL k))) w := run_cat [38] _ (by simp) (by omega)
      have c2 : ∀ w, (Op.stringOp .add (digS (38 :: nmL k)) ⟨#[59]⟩).run Tryz.prog w = .ok (.string (digS (wrapW (nmL k)))) w := run_cat (38 :: nmL k) [59] (by simp; omega) (by simp)
      have ht := str_ne (H.out k hlt)
      go_wp2_with fail
      go_round
      case rel => exact ⟨k + 1, by go_num, by omega⟩
      case measure => simp [intOf]; omega
    · skip
      go_wp2_with fail
      (with_reducible refine (HNU.out _).mono ?_)
      rintro e w2 ⟨he, rfl⟩
      generalize numR 10 ds 0 = o at *
      rcases o with _ | v
      · subst he
        go_wp2_with fail
        go_ret2
        exact ⟨by rw [HF.out]; rfl, hb1⟩
      · subst he
        by_cases hat : 2 < m
        · have HA := Lib.hid (allowed_any v)
          obtain ⟨ok, hok⟩ : ∃ ok, ok = isR (rng 0) v := ⟨_, rfl⟩
          rw [← hok] at HA
          have HOK := Lib.hid hok
          clear hok
          go_wp2_with fail
          (with_reducible refine (HA.out _).mono ?_)
          rintro e w3 ⟨rfl, hb3⟩
          go_wp2_with fail
          go_ret2
          exact ⟨by rw [HF.out, HOK.out]; simp [RetIs, hat], hb1.trans (hb3.mono hb1.size)⟩
        · exact absurd (show 2 < m by omega) hat

theorem Is5_any (l : List UInt8) (hb : l.length ≤ 1125899906842624) (w : World) :
    Calls Tryz.prog 28 #[.string (digS l)] w fun e w' => RetIs e (isS l) ∧ Below w.heap.size w w' := by
  by_cases hn : ∃ j, j < 5 ∧ l = wrapW (nmL j)
  · obtain ⟨j, hj, he⟩ := hn
    have e : isS l = (chrR j, true) := by unfold isS; rw [namR_some l j hj he]
    rw [e]
    exact Is5_named l j hj he w
  · have hn' : ∀ j, j < 5 → l ≠ wrapW (nmL j) := fun j hj he => hn ⟨j, hj, he⟩
    have e0 : isS l = if l.length < 4 ∨ l.take 2 ≠ [38, 35] ∨ l.getLast? ≠ some 59 then (0, false) else if l[2]? = some 120 then finR 16 3 l else finR 10 2 l := by
      unfold isS; rw [namR_none l hn']
    rw [e0]
    by_cases h4 : l.length < 4
    · rw [if_pos (.inl h4)]
      exact Is5_short l h4 hn' w
    · obtain ⟨m, hm⟩ : ∃ m, l.length = m + 1 := ⟨l.length - 1, by omega⟩
      by_cases h2 : l.take 2 = [38, 35]
      · obtain ⟨z, hz⟩ : ∃ z, l[m]? = some z := ⟨_, List.getElem?_eq_getElem (by omega)⟩
        have hz' : l.getLast? = some z := by rw [List.getLast?_eq_getElem?, hm]; exact hz
        by_cases h9 : z.toNat = 59
        · obtain rfl : z = 59 := UInt8.toNat_inj.1 h9
          rw [if_neg (fun h => h.elim h4 (fun h => h.elim (fun h => h h2) (fun h => h hz')))]
          obtain ⟨c, hc⟩ : ∃ c, l[2]? = some c := ⟨_, List.getElem?_eq_getElem (by omega)⟩
          by_cases h120 : c.toNat = 120
          · obtain rfl : c = 120 := UInt8.toNat_inj.1 h120
            rw [if_pos hc]
            exact Is5_hex l m hm (by omega) (by omega) hn' h2 hz 120 hc (by decide) w
          · rw [if_neg (by rw [hc]; rintro h; injection h with h; exact h120 (by rw [h]; rfl))]
            exact Is5_dec l m hm (by omega) (by omega) hn' h2 hz c hc (by simp; omega) w
        · rw [if_pos (.inr (.inr (by rw [hz']; rintro h; injection h with h; exact h9 (by rw [h]; rfl))))]
          exact Is5_last l m hm (by omega) (by omega) hn' h2 z hz h9 w
      · rw [if_pos (.inr (.inl h2))]
        exact Is5_two l m hm (by omega) (by omega) hn' h2 w
end Go.Proofs.YtlomcmichbnkaaaGreatDoor
