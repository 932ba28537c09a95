/-
  gimletlaw05.RefsNumbers: the walk.
-/
import Derived.Test.YthmngbbhbjkgkaaDoorLawDig
import Derived.Test.YthmngbbhbjkgkaaDoorNumsP
namespace Go.Proofs.YthmngbbhbjkgkaaDoor
open Go.RowKit

theorem digits_at (b : Nat) (hb2 : 2 ≤ b) (hb16 : b ≤ 16) (n nz : Nat) (hn : n < 4194304) (k : Nat) (hk : k = nz % 32) (w : World) :
    Calls Tryd.prog 13 #[.int .i64 n, .int .i64 (b : Int), .int .i64 ((nz : Int) % 32)] w fun e w' => e = .returned (.string (digS (digs b n k))) ∧ Below w.heap.size w w' := by
  have h := digits_any b hb2 hb16 n k hn (by omega) w
  have e : (k : Int) = (nz : Int) % 32 := by rw [hk]; rfl
  rw [e] at h
  exact h
theorem digs_len (b : Nat) (hb2 : 2 ≤ b) (n k : Nat) (hn : n < 4194304) (hk : k < 32) : (digs b n k).length ≤ 54 := by
  have := dig_len b hb2 n 21 (Nat.lt_of_lt_of_le hn (Nat.le_trans (by decide : 4194304 ≤ 2 ^ 22) (Nat.pow_le_pow_left hb2 22)))
  unfold digs
  simp; omega
theorem bytesV_digS (l : List UInt8) : bytesV (digS l) = u8s l := rfl

theorem digits10_at (n nz : Nat) (hn : n < 4194304) (k : Nat) (hk : k = nz % 32) (w : World) :
    Calls Tryd.prog 13 #[.int .i64 n, .int .i64 10, .int .i64 ((nz : Int) % 32)] w fun e w' => e = .returned (.string (digS (digs 10 n k))) ∧ Below w.heap.size w w' := digits_at 10 (by decide) (by decide) n nz hn k hk w
theorem digits16_at (n nz : Nat) (hn : n < 4194304) (k : Nat) (hk : k = nz % 32) (w : World) :
    Calls Tryd.prog 13 #[.int .i64 n, .int .i64 16, .int .i64 ((nz : Int) % 32)] w fun e w' => e = .returned (.string (digS (digs 16 n k))) ∧ Below w.heap.size w w' := digits_at 16 (by decide) (by decide) n nz hn k hk w
theorem Is_zero (r : Int) (w : World) (hR : RangesAt w 0) :
    Calls Tryd.prog 14 #[.int .i64 0, .int .i32 r] w fun e w' => e = .returned (.bool (isR (rng 0) r)) ∧ Below w.heap.size w w' := Is_any 0 (by decide) r w hR
set_option maxRecDepth 100000 in
set_option maxHeartbeats 4000000 in
theorem nums_hex (v : Nat) (nz : Nat) (hnz : nz < 256) (w : World) (hR : RangesAt w 0) :
    Calls Tryd.prog 4 #[.int .u32 v, .bool true, .int .u8 nz] w fun e w' => e = .returned (.bool true) ∧ Below w.heap.size w w' := by
  obtain ⟨n, hn⟩ : ∃ n, n = v % 4194304 := ⟨_, rfl⟩
  obtain ⟨k, hk⟩ : ∃ k, k = nz % 32 := ⟨_, rfl⟩
  have HR := Lib.hid hR
  clear hR
  have hn1 : n < 4194304 := by omega
  have hk1 : k < 32 := by omega
  have e1 : Int.tmod (v : Int) 4194304 = (n : Int) := by rw [hn]; rfl
  have D10 := Lib.hid (digits10_at n nz hn1 k hk)
  have D16 := Lib.hid (digits16_at n nz hn1 k hk)
  have hl10 := digs_len 10 (by decide) n k hn1 hk1
  have hl16 := digs_len 16 (by decide) n k hn1 hk1
  have hcl : cuts 16 n ≤ (digs 16 n k).length := Nat.le_trans (cuts_le 16 (by decide) n) (by simp [digs])
  have C10 := Lib.hid (fun w => run_cat (P := Tryd.prog) [38, 35] (digs 10 n k) (by simp) (by omega) w)
  have C16 := Lib.hid (fun w => run_cat (P := Tryd.prog) [38, 35, 120] (digs 16 n k) (by simp) (by omega) w)
  clear hn hk hk1
  obtain ⟨S, hS⟩ : ∃ S, S = [38, 35, 120] ++ digs 16 n k := ⟨_, rfl⟩
  obtain ⟨L, hL⟩ : ∃ L, L = 3 + (digs 16 n k).length := ⟨_, rfl⟩
  obtain ⟨Y, hY⟩ : ∃ Y, Y = L - cuts 16 n := ⟨_, rfl⟩
  have hSL : (digS S).size = L := by rw [digS_size, hS, hL]; simp; omega
  have hLb : L ≤ 57 := by omega
  have HY : Hid (Y + cuts 16 n = L) := Lib.hid (by omega)
  have HSZ : Hid ((digS (S ++ [59, 120])).size = L + 2) := Lib.hid (by have := hSL; rw [digS_size] at *; simp; omega)
  have HRD : Hid (readF (S ++ [59, 120]) = if isR (rng 0) n = true then ((n : Int), (L : Int) + 1, 0) else (0, (Y : Int), 2)) := Lib.hid (by rw [hS, hY, hL]; exact read_16 n k)
  have CS := Lib.hid (fun w => run_cat (P := Tryd.prog) S [59, 120] (by rw [digS_size] at hSL; omega) (by simp) w)
  have HS := Lib.hid hS
  have HSL := Lib.hid hSL
  clear hS hSL hL hY hl10 hl16 hcl
  go_enter Tryd.func4, Tryd.ntmps4
  go_wp2_with fail
  refine (fixed_any w HR.out).mono ?_
  rintro e w1 ⟨rfl, hb1⟩
  go_wp2_with fail
  (with_reducible refine (D10.out _).mono ?_)
  rintro e w2 ⟨rfl, hb2⟩
  have b2 := hb1.trans (hb2.mono hb1.size)
  clear hb1 hb2
  have c10 : ∀ w, (Op.stringOp .add ⟨#[38, 35]⟩ (digS (digs 10 n k))).run Tryd.prog w = _ := C10.out
  go_wp2_with fail
  (with_reducible refine (D16.out _).mono ?_)
  rintro e w3 ⟨rfl, hb3⟩
  have b2' := b2.trans (hb3.mono b2.size)
  clear b2 hb3
  have b2 := b2'
  clear b2'
  have c16 : ∀ w, (Op.stringOp .add ⟨#[38, 35, 120]⟩ (digS (digs 16 n k))).run Tryd.prog w = .ok (.string (digS S)) w := by rw [HS.out]; exact C16.out
  have cS : ∀ w, (Op.stringOp .add (digS S) ⟨#[59, 120]⟩).run Tryd.prog w = _ := CS.out
  have hcv := fun W => Lib.run_convert_string_bytes (P := Tryd.prog) W 9 22 5 (digS (S ++ [59, 120])) Tryd.underlying9 Tryd.underlying22 Tryd.underlying5
  go_wp2_with fail
  clear c10 c16 cS hcv
  have b3 := b2.trans ((bytesW_below w3 5 (digS (S ++ [59, 120]))).mono b2.size)
  (with_reducible refine (Read_any _ _ _ (S ++ [59, 120]) _ (bytesW_sl w3 5 (digS (S ++ [59, 120]))) (grownCap_ge _ _ _ _) (by rw [HSZ.out]; omega) (HR.out.below b3)).mono ?_)
  rintro e w4 ⟨he, hb4⟩
  rw [HRD.out] at he
  have b4 := b3.trans (hb4.mono b3.size)
  have HI := Lib.hid (Is_zero (n : Int) w4 (HR.out.below b4))
  clear b2 b3 hb4
  by_cases hR0 : isR (rng 0) n = true
  · rw [if_pos hR0] at he
    rw [hR0] at HI
    subst he
    go_wp2_with fail
    (with_reducible refine HI.out.mono ?_)
    rintro e w5 ⟨rfl, hb5⟩
    have b5 := b4.trans (hb5.mono b4.size)
    have hSL := HSL.out
    go_wp2_with fail
    go_ret
    exact ⟨rfl, b5⟩
  · rw [if_neg hR0] at he
    rw [show isR (rng 0) n = false by simpa using hR0] at HI
    clear hR0
    subst he
    go_wp2_with fail
    (with_reducible refine HI.out.mono ?_)
    rintro e w5 ⟨rfl, hb5⟩
    have b5 := b4.trans (hb5.mono b4.size)
    clear HI hb5 b4
    have hSL := HSL.out
    go_wp2_with fail
    clear hSL
    go_loop [12, 13] (fun wx mx => ∃ m x : Nat, mx = .int .i64 m ∧ wx = .int .i64 ((Y + x : Nat) : Int) ∧ m ≤ n ∧ Y + x ≤ 57 ∧ Hid (x = cuts 16 m)) (fun _ mx => (intOf mx).toNat)
    case atStart => exact ⟨n, cuts 16 n, rfl, by rw [HY.out], Nat.le_refl _, by rw [HY.out]; omega, Lib.hid rfl⟩
    case round =>
      obtain ⟨m, x, rfl, rfl, hm, hx, hc⟩ := hrel
      by_cases hgt : 1114111 < m
      · obtain ⟨q, hq⟩ : ∃ q, q = m / 16 := ⟨_, rfl⟩
        have e4 : Int.tdiv (m : Int) 16 = (q : Int) := by rw [hq]; rfl
        have hqm : q < m := by omega
        obtain ⟨y, hy⟩ : ∃ y, x = y + 1 := ⟨cuts 16 (m / 16), by rw [hc.out, cuts_big 16 m (by decide) hgt]⟩
        have hyc : Hid (y = cuts 16 q) := Lib.hid (by have h1 := hc.out; rw [cuts_big 16 m (by decide) hgt, hy, ← hq] at h1; omega)
        subst hy
        clear hq hc
        go_wp2_with fail
        go_round
        case rel => exact ⟨q, y, rfl, by go_num, by omega, by omega, hyc⟩
        case measure => simp [intOf]; omega
      · obtain rfl : x = 0 := by rw [hc.out, cuts_small 16 m (by omega)]
        go_wp2_with fail
        go_ret
        exact ⟨rfl, b5⟩
set_option maxRecDepth 100000 in
set_option maxHeartbeats 4000000 in
theorem nums_dec (v : Nat) (nz : Nat) (hnz : nz < 256) (w : World) (hR : RangesAt w 0) :
    Calls Tryd.prog 4 #[.int .u32 v, .bool false, .int .u8 nz] w fun e w' => e = .returned (.bool true) ∧ Below w.heap.size w w' := by
  obtain ⟨n, hn⟩ : ∃ n, n = v % 4194304 := ⟨_, rfl⟩
  obtain ⟨k, hk⟩ : ∃ k, k = nz % 32 := ⟨_, rfl⟩
  have HR := Lib.hid hR
  clear hR
  have hn1 : n < 4194304 := by omega
  have hk1 : k < 32 := by omega
  have e1 : Int.tmod (v : Int) 4194304 = (n : Int) := by rw [hn]; rfl
  have D10 := Lib.hid (digits10_at n nz hn1 k hk)
  have D16 := Lib.hid (digits16_at n nz hn1 k hk)
  have hl10 := digs_len 10 (by decide) n k hn1 hk1
  have hl16 := digs_len 16 (by decide) n k hn1 hk1
  have hcl : cuts 10 n ≤ (digs 10 n k).length := Nat.le_trans (cuts_le 10 (by decide) n) (by simp [digs])
  have C10 := Lib.hid (fun w => run_cat (P := Tryd.prog) [38, 35] (digs 10 n k) (by simp) (by omega) w)
  have C16 := Lib.hid (fun w => run_cat (P := Tryd.prog) [38, 35, 120] (digs 16 n k) (by simp) (by omega) w)
  clear hn hk hk1
  obtain ⟨S, hS⟩ : ∃ S, S = [38, 35] ++ digs 10 n k := ⟨_, rfl⟩
  obtain ⟨L, hL⟩ : ∃ L, L = 2 + (digs 10 n k).length := ⟨_, rfl⟩
  obtain ⟨Y, hY⟩ : ∃ Y, Y = L - cuts 10 n := ⟨_, rfl⟩
  have hSL : (digS S).size = L := by rw [digS_size, hS, hL]; simp; omega
  have hLb : L ≤ 57 := by omega
  have HY : Hid (Y + cuts 10 n = L) := Lib.hid (by omega)
  have HSZ : Hid ((digS (S ++ [59, 120])).size = L + 2) := Lib.hid (by have := hSL; rw [digS_size] at *; simp; omega)
  have HRD : Hid (readF (S ++ [59, 120]) = if isR (rng 0) n = true then ((n : Int), (L : Int) + 1, 0) else (0, (Y : Int), 2)) := Lib.hid (by rw [hS, hY, hL]; exact read_10 n k)
  have CS := Lib.hid (fun w => run_cat (P := Tryd.prog) S [59, 120] (by rw [digS_size] at hSL; omega) (by simp) w)
  have HS := Lib.hid hS
  have HSL := Lib.hid hSL
  clear hS hSL hL hY hl10 hl16 hcl
  go_enter Tryd.func4, Tryd.ntmps4
  go_wp2_with fail
  refine (fixed_any w HR.out).mono ?_
  rintro e w1 ⟨rfl, hb1⟩
  go_wp2_with fail
  (with_reducible refine (D10.out _).mono ?_)
  rintro e w2 ⟨rfl, hb2⟩
  have b2 := hb1.trans (hb2.mono hb1.size)
  clear hb1 hb2
  have c10 : ∀ w, (Op.stringOp .add ⟨#[38, 35]⟩ (digS (digs 10 n k))).run Tryd.prog w = .ok (.string (digS S)) w := by rw [HS.out]; exact C10.out
  have cS : ∀ w, (Op.stringOp .add (digS S) ⟨#[59, 120]⟩).run Tryd.prog w = _ := CS.out
  have hcv := fun W => Lib.run_convert_string_bytes (P := Tryd.prog) W 9 22 5 (digS (S ++ [59, 120])) Tryd.underlying9 Tryd.underlying22 Tryd.underlying5
  go_wp2_with fail
  clear c10 cS hcv
  have b3 := b2.trans ((bytesW_below w2 5 (digS (S ++ [59, 120]))).mono b2.size)
  (with_reducible refine (Read_any _ _ _ (S ++ [59, 120]) _ (bytesW_sl w2 5 (digS (S ++ [59, 120]))) (grownCap_ge _ _ _ _) (by rw [HSZ.out]; omega) (HR.out.below b3)).mono ?_)
  rintro e w4 ⟨he, hb4⟩
  rw [HRD.out] at he
  have b4 := b3.trans (hb4.mono b3.size)
  have HI := Lib.hid (Is_zero (n : Int) w4 (HR.out.below b4))
  clear b2 b3 hb4
  by_cases hR0 : isR (rng 0) n = true
  · rw [if_pos hR0] at he
    rw [hR0] at HI
    subst he
    go_wp2_with fail
    (with_reducible refine HI.out.mono ?_)
    rintro e w5 ⟨rfl, hb5⟩
    have b5 := b4.trans (hb5.mono b4.size)
    have hSL := HSL.out
    go_wp2_with fail
    go_ret
    exact ⟨rfl, b5⟩
  · rw [if_neg hR0] at he
    rw [show isR (rng 0) n = false by simpa using hR0] at HI
    clear hR0
    subst he
    go_wp2_with fail
    (with_reducible refine HI.out.mono ?_)
    rintro e w5 ⟨rfl, hb5⟩
    have b5 := b4.trans (hb5.mono b4.size)
    clear HI hb5 b4
    have hSL := HSL.out
    go_wp2_with fail
    clear hSL
    go_loop [12, 13] (fun wx mx => ∃ m x : Nat, mx = .int .i64 m ∧ wx = .int .i64 ((Y + x : Nat) : Int) ∧ m ≤ n ∧ Y + x ≤ 57 ∧ Hid (x = cuts 10 m)) (fun _ mx => (intOf mx).toNat)
    case atStart => exact ⟨n, cuts 10 n, rfl, by rw [HY.out], Nat.le_refl _, by rw [HY.out]; omega, Lib.hid rfl⟩
    case round =>
      obtain ⟨m, x, rfl, rfl, hm, hx, hc⟩ := hrel
      by_cases hgt : 1114111 < m
      · obtain ⟨q, hq⟩ : ∃ q, q = m / 10 := ⟨_, rfl⟩
        have e4 : Int.tdiv (m : Int) 10 = (q : Int) := by rw [hq]; rfl
        have hqm : q < m := by omega
        obtain ⟨y, hy⟩ : ∃ y, x = y + 1 := ⟨cuts 10 (m / 10), by rw [hc.out, cuts_big 10 m (by decide) hgt]⟩
        have hyc : Hid (y = cuts 10 q) := Lib.hid (by have h1 := hc.out; rw [cuts_big 10 m (by decide) hgt, hy, ← hq] at h1; omega)
        subst hy
        clear hq hc
        go_wp2_with fail
        go_round
        case rel => exact ⟨q, y, rfl, by go_num, by omega, by omega, hyc⟩
        case measure => simp [intOf]; omega
      · obtain rfl : x = 0 := by rw [hc.out, cuts_small 10 m (by omega)]
        go_wp2_with fail
        go_ret
        exact ⟨rfl, b5⟩
theorem nums_any (v : Nat) (hex : Bool) (nz : Nat) (hnz : nz < 256) (w : World) (hR : RangesAt w 0) :
    Calls Tryd.prog 4 #[.int .u32 v, .bool hex, .int .u8 nz] w fun e w' => e = .returned (.bool true) ∧ Below w.heap.size w w' := by
  cases hex
  · exact nums_dec v nz hnz w hR
  · exact nums_hex v nz hnz w hR
theorem wf_u32 {z : Int} (h : (Lit.int .u32 z).wf = true) : ∃ x : Nat, z = x ∧ x < 4294967296 := by
  simp only [Lit.wf, Bool.and_eq_true, decide_eq_true_eq] at h
  have e1 : IntKind.u32.min = 0 := by decide
  have e2 : IntKind.u32.max = 4294967295 := by decide
  exact ⟨z.toNat, by omega, by omega⟩
theorem wf_u8 {z : Int} (h : (Lit.int .u8 z).wf = true) : ∃ x : Nat, z = x ∧ x < 256 := by
  simp only [Lit.wf, Bool.and_eq_true, decide_eq_true_eq] at h
  have e1 : IntKind.u8.min = 0 := by decide
  have e2 : IntKind.u8.max = 255 := by decide
  exact ⟨z.toNat, by omega, by omega⟩
end Go.Proofs.YthmngbbhbjkgkaaDoor
