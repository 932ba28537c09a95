/-
  gimletlaw21.TapeAll: the walk.
-/
import Derived.Test.YthmngbbhbjkgkaaLawTapeA
import Derived.Test.YthmngbbhbjkgkaaTapeR
import Derived.Test.YthmngbbhbjkgkaaTapeO
namespace Go.Proofs.Ythmngbbhbjkgkaa
open Go.RowKit

/-- both tapes hold the same -/
structure Both (w : World) (R tb mb : Nat) (all : List UInt8) (first front : Nat) : Prop where
  t : TapeAt w R tb all first front
  m : RefAt w mb all front
  ne : mb ≠ tb
  lt : mb < R
theorem Both.below {w w' : World} {R tb mb : Nat} {all : List UInt8} {first front : Nat} (h : Both w R tb mb all first front) (hb : Below w.heap.size w w') : Both w' R tb mb all first front :=
  ⟨h.t.below hb, (hb.block mb (Nat.lt_of_lt_of_le h.lt h.t.le)).trans h.m, h.ne, h.lt⟩
theorem Both.drewN {w : World} {R tb mb : Nat} {all : List UInt8} {first front : Nat} (h : Both w R tb mb all first front) (n : Nat) : Both (w.drewN n) R tb mb all first front :=
  ⟨h.t.drewN n, h.m, h.ne, h.lt⟩
def Inv21 (w : World) (R tb mb L : Nat) : Prop := ∃ all first front, Both w R tb mb all first front ∧ all.length ≤ 8 * L

set_option maxRecDepth 100000 in
set_option maxHeartbeats 8000000 in
theorem tapeAll_any (a : Option Addr) (n c : Nat) (ops : List Op21) (w : World) (hO : OpsAt w a n ops) (hn : n ≤ 1048576) (hw : wtO ops ≤ 1048576) :
    Calls Try.prog 3 #[.slice a n c] w fun e w' => e = .returned (.bool true) ∧ Below w.heap.size w w' := by
  have HO := Lib.hid hO
  have HL : Hid (ops.length = n) := Lib.hid hO.1.symm
  have HW := Lib.hid hw
  have HN := Lib.hid (tape_new w)
  clear hO hw
  go_enter Try.func3, Try.ntmps3
  go_wp2_with fail
  (with_reducible refine HN.out.mono ?_)
  rintro e w1 ⟨rfl, rfl⟩
  have b1 : Below w.heap.size w (w.alloc (.cells #[.slice none 0 0, .int .i64 0, .int .i64 0] 55)) := (Below.refl _ _).alloc (Nat.le_refl _) _
  have z1 : (w.alloc (.cells #[.slice none 0 0, .int .i64 0, .int .i64 0] 55)).heap[w.heap.size]? = some (.cells #[.slice none 0 0, .int .i64 0, .int .i64 0] 55 (0, 0)) := heap_alloc_new w _
  have s1 : (w.alloc (.cells #[.slice none 0 0, .int .i64 0, .int .i64 0] 55)).heap.size = w.heap.size + 1 := by simp
  have B1 := Lib.hid b1
  have Z1 := Lib.hid z1
  have S1 := Lib.hid s1
  clear b1 z1 s1
  generalize w.alloc (.cells #[.slice none 0 0, .int .i64 0, .int .i64 0] 55) = W1 at *
  go_wp2_with fail
  refine (awake21_any W1).mono ?_
  rintro e w2 ⟨rfl, b2⟩
  have B2 := Lib.hid b2
  clear b2
  go_wp2_with fail
  have hb3 : Below w.heap.size w (w2.alloc (.cells #[.string ⟨#[]⟩, .int .i64 0] 27)) := (B1.out.trans (B2.out.mono B1.out.size)).alloc (Nat.le_trans B1.out.size B2.out.size) _
  have hI : Inv21 (w2.alloc (.cells #[.string ⟨#[]⟩, .int .i64 0] 27)) (w2.heap.size + 1) w.heap.size w2.heap.size 0 := by
    have h2 : w.heap.size < w2.heap.size := by have := S1.out; have := B2.out.size; omega
    refine ⟨[], 0, 0, ⟨?_, heap_alloc_new w2 _, by omega, by omega⟩, by simp⟩
    have h := tapeAt_new (w := w) (w' := w2.alloc (.cells #[.string ⟨#[]⟩, .int .i64 0] 27)) (by simp; omega) (by
      rw [heap_alloc_old _ _ h2, B2.out.block _ (by have := S1.out; omega)]
      exact Z1.out)
    simpa using h
  have HB3 := Lib.hid hb3
  have HI := Lib.hid hI
  have htb : w.heap.size < w2.heap.size := by have := S1.out; have := B2.out.size; omega
  clear hb3 hI
  generalize w2.alloc (.cells #[.string ⟨#[]⟩, .int .i64 0] 27) = W3 at *
  go_loopw [20] (fun ix wr => ∃ i : Nat, ix = .int .i64 i ∧ i ≤ n ∧ Hid (Below w.heap.size w wr) ∧ Hid (Inv21 wr (w2.heap.size + 1) w.heap.size w2.heap.size (wtO (ops.take i)))) (fun ix _ => n - (intOf ix).toNat)
  case atStart => exact ⟨0, rfl, Nat.zero_le _, HB3, HI⟩
  case round =>
    obtain ⟨i, rfl, hi, hbr, hinv⟩ := hrel
    by_cases hin : i < n
    · have hil : i < ops.length := by rw [HL.out]; exact hin
      obtain ⟨b, o, A, m, cc, rfl, hb, hmc, hA, hc'⟩ := HO.out.2 i hil
      have hc : ∀ j, j < 11 → wr.cell? ⟨b, o + i * 11 + j, none⟩ = (opC ops[i] A m cc)[j]? := fun j hj => (hbr.out.cell (p := ⟨b, o + i * 11 + j, none⟩) hb).trans (hc' j hj)
      clear hc'
      have hwt := wtO_take ops i hil
      have hwl := wtO_le ops (i + 1)
      generalize ops[i] = op at *
      obtain ⟨kind, oa, ob, ev⟩ := op
      obtain ⟨all, first, front, hboth, hlen⟩ := hinv.out
      obtain ⟨ek, en, ed, ename, eats, etext, efr, ett⟩ := ev
      have c0 : wr.cell? ⟨b, o + i * 11, none⟩ = some (.int .i64 kind) := hc 0 (by decide)
      have c1 : wr.cell? ⟨b, o + i * 11 + 1, none⟩ = some (.int .i64 oa) := hc 1 (by decide)
      have c2 : wr.cell? ⟨b, o + i * 11 + 2, none⟩ = some (.int .i64 ob) := hc 2 (by decide)
      have c3 : wr.cell? ⟨b, o + i * 11 + 3, none⟩ = some (.int .i64 ek) := hc 3 (by decide)
      have c4 : wr.cell? ⟨b, o + i * 11 + 4, none⟩ = some (.int .i64 en) := hc 4 (by decide)
      have c5 : wr.cell? ⟨b, o + i * 11 + 5, none⟩ = some (.int .i64 ed) := hc 5 (by decide)
      have c6 : wr.cell? ⟨b, o + i * 11 + 6, none⟩ = some (.string (strL ename)) := hc 6 (by decide)
      have c7 : wr.cell? ⟨b, o + i * 11 + 7, none⟩ = some (.slice A m cc) := hc 7 (by decide)
      have c8 : wr.cell? ⟨b, o + i * 11 + 8, none⟩ = some (.string (strL etext)) := hc 8 (by decide)
      have c9 : wr.cell? ⟨b, o + i * 11 + 9, none⟩ = some (.int .i64 efr) := hc 9 (by decide)
      have c10 : wr.cell? ⟨b, o + i * 11 + 10, none⟩ = some (.int .i64 ett) := hc 10 (by decide)
      have HE : Hid (∀ W, Below w.heap.size w W → Calls Try.prog 9 #[.agg (evC ek en ed ename A m cc etext efr ett)] W fun r w' => r = .returned (.string (strL (evOut ⟨ek, en, ed, ename, eats, etext, efr, ett⟩))) ∧ Below W.heap.size W w') :=
        Lib.hid (fun W hW => Event_cells (cs := (evC ek en ed ename A m cc etext efr ett).toList) ⟨A, m, cc, rfl, hmc, hA.below hW⟩ (by have := HW.out; simp only at hwt; omega))
      have hol := evOut_len ⟨ek, en, ed, ename, eats, etext, efr, ett⟩
      have hob : all.length + (evOut ⟨ek, en, ed, ename, eats, etext, efr, ett⟩).length ≤ 8 * wtO (ops.take (i + 1)) := by
        rw [hwt]; simp only; omega
      have hlb : 8 * wtO (ops.take (i + 1)) ≤ 8388608 := by have := HW.out; omega
      have hl0 : all.length ≤ 8 * wtO (ops.take (i + 1)) := by omega
      generalize evOut ⟨ek, en, ed, ename, eats, etext, efr, ett⟩ = out at *
      have HOB := Lib.hid hob
      have HLB := Lib.hid hlb
      have HL0 := Lib.hid hl0
      have HBO := Lib.hid hboth
      have hR : w2.heap.size + 1 ≤ wr.heap.size := hboth.t.le
      have hq4 : (wr.alloc (.cells #[.int .i64 kind, .int .i64 oa, .int .i64 ob, .int .i64 ek, .int .i64 en, .int .i64 ed, .string (strL ename), .slice A m cc, .string (strL etext), .int .i64 efr, .int .i64 ett] 33)).heap[wr.heap.size]? = some (.cells #[.int .i64 kind, .int .i64 oa, .int .i64 ob, .int .i64 ek, .int .i64 en, .int .i64 ed, .string (strL ename), .slice A m cc, .string (strL etext), .int .i64 efr, .int .i64 ett] 33 (0, 0)) := heap_alloc_new wr _
      have hb4 : Below wr.heap.size wr (wr.alloc (.cells #[.int .i64 kind, .int .i64 oa, .int .i64 ob, .int .i64 ek, .int .i64 en, .int .i64 ed, .string (strL ename), .slice A m cc, .string (strL etext), .int .i64 efr, .int .i64 ett] 33)) := (Below.refl _ _).alloc (Nat.le_refl _) _
      have s4 : (wr.alloc (.cells #[.int .i64 kind, .int .i64 oa, .int .i64 ob, .int .i64 ek, .int .i64 en, .int .i64 ed, .string (strL ename), .slice A m cc, .string (strL etext), .int .i64 efr, .int .i64 ett] 33)).heap.size = wr.heap.size + 1 := by simp
      have HQ4 := Lib.hid hq4
      have HB4 := Lib.hid hb4
      have S4 := Lib.hid s4
      have HB0 : Hid (Below w.heap.size w (wr.alloc (.cells #[.int .i64 kind, .int .i64 oa, .int .i64 ob, .int .i64 ek, .int .i64 en, .int .i64 ed, .string (strL ename), .slice A m cc, .string (strL etext), .int .i64 efr, .int .i64 ett] 33))) := Lib.hid (hbr.out.trans (hb4.mono (by omega)))
      have BO4 : Hid (Both (wr.alloc (.cells #[.int .i64 kind, .int .i64 oa, .int .i64 ob, .int .i64 ek, .int .i64 en, .int .i64 ed, .string (strL ename), .slice A m cc, .string (strL etext), .int .i64 efr, .int .i64 ett] 33)) (w2.heap.size + 1) w.heap.size w2.heap.size all first front) := Lib.hid (hboth.below hb4)
      have HU : Hid (∀ v k, (wr.alloc (.cells #[.int .i64 kind, .int .i64 oa, .int .i64 ob, .int .i64 ek, .int .i64 en, .int .i64 ed, .string (strL ename), .slice A m cc, .string (strL etext), .int .i64 efr, .int .i64 ett] 33)).cell? ⟨w.heap.size, 0, none⟩ = some v → v.ownBlock = some k → k < wr.heap.size) := Lib.hid (hboth.t.under (hb4.block _ (by omega)))
      clear hc hwt hwl hA hmc hlen hob hlb hl0 hol hboth hq4 hb4 s4 hinv hbr
      by_cases hk1 : kind = 1
      · subst hk1
        go_wp2_with fail
        clear c0 c1 c2 c3 c4 c5 c6 c7 c8 c9 c10
        generalize wr.alloc (.cells #[.int .i64 1, .int .i64 oa, .int .i64 ob, .int .i64 ek, .int .i64 en, .int .i64 ed, .string (strL ename), .slice A m cc, .string (strL etext), .int .i64 efr, .int .i64 ett] 33) = W4 at *
        refine (tape_add (w2.heap.size + 1) w.heap.size all first front ek en ed efr ett ename etext A m cc out W4 BO4.out.t (fun w1 hb1 => HE.out w1 (HB0.out.trans (hb1.mono HB0.out.size))) (by have := HOB.out; have := HLB.out; omega) wr.heap.size HU.out).mono ?_
        rintro e w5 ⟨rfl, hT5, hO5⟩
        have hx5 : Below w.heap.size w w5 := HB0.out.trans (hO5.below (Nat.le_refl _) (by omega))
        have hM5 : RefAt w5 w2.heap.size all front := (hO5.block _ (by omega) (.inl (by omega))).trans BO4.out.m
        have hQ5 := (hO5.block wr.heap.size (by omega) (.inr ⟨Nat.le_refl _, by rw [S4.out]; omega⟩)).trans HQ4.out
        have q3 : w5.cell? ⟨wr.heap.size, 3, none⟩ = some (.int .i64 ek) := by rw [cell_heap hQ5]; rfl
        have q4 : w5.cell? ⟨wr.heap.size, 4, none⟩ = some (.int .i64 en) := by rw [cell_heap hQ5]; rfl
        have q5 : w5.cell? ⟨wr.heap.size, 5, none⟩ = some (.int .i64 ed) := by rw [cell_heap hQ5]; rfl
        have q6 : w5.cell? ⟨wr.heap.size, 6, none⟩ = some (.string (strL ename)) := by rw [cell_heap hQ5]; rfl
        have q7 : w5.cell? ⟨wr.heap.size, 7, none⟩ = some (.slice A m cc) := by rw [cell_heap hQ5]; rfl
        have q8 : w5.cell? ⟨wr.heap.size, 8, none⟩ = some (.string (strL etext)) := by rw [cell_heap hQ5]; rfl
        have q9 : w5.cell? ⟨wr.heap.size, 9, none⟩ = some (.int .i64 efr) := by rw [cell_heap hQ5]; rfl
        have q10 : w5.cell? ⟨wr.heap.size, 10, none⟩ = some (.int .i64 ett) := by rw [cell_heap hQ5]; rfl
        have m0 : w5.cell? ⟨w2.heap.size, 0, none⟩ = some (.string (strL all)) := by rw [cell_heap hM5]; rfl
        have hcat : ∀ W, (Op.stringOp .add (strL all) (strL out)).run Try.prog W = .ok (.string (strL (all ++ out))) W := run_catL all out (by have := HOB.out; have := HLB.out; omega)
        have hlt5 : w2.heap.size < w5.heap.size := heap_lt hM5
        have HT5 := Lib.hid hT5
        have HX5 := Lib.hid hx5
        have HM5 := Lib.hid hM5
        obtain ⟨all', hall⟩ : ∃ all', all' = all ++ out := ⟨_, rfl⟩
        rw [← hall] at hcat HT5
        have HLEN : Hid (all'.length ≤ 8 * wtO (ops.take (i + 1))) := Lib.hid (by rw [hall, List.length_append]; exact HOB.out)
        clear hT5 hx5 hM5 hQ5 hO5 HU BO4 hall
        go_wp2_with fail
        go_region_with (first | (go_at_call 9; refine (HE.out _ (HX5.out.drew)).mono ?_; rintro e w6 ⟨rfl, hb6⟩; have m6 := (hb6.cell (p := ⟨w2.heap.size, 0, none⟩) hlt5).trans m0; have hM6 : w6.heap[w2.heap.size]? = _ := (hb6.block w2.heap.size hlt5).trans HM5.out; have f6 := frozen_heap (i := 0) hM6))
        all_goals
          have hb7 : Below w5.heap.size w5 w6 := ((Below.refl _ _).drew).trans hb6
          have hB7 := Lib.hid (HX5.out.trans (hb7.mono HX5.out.size))
          have hT6 := HT5.out.below hb7
          have BO : Hid (Both (w6.setCell ⟨w2.heap.size, 0, none⟩ (.string (strL all'))) (w2.heap.size + 1) w.heap.size w2.heap.size all' first front) := Lib.hid ⟨hT6.keep (by simp [World.setCell]) (Below.heap_setCell _ _ _ _ (by show w.heap.size ≠ w2.heap.size; omega)) (fun k hk _ => Below.heap_setCell _ _ _ _ (by show k ≠ w2.heap.size; omega)), setCell_heap hM6 _, by omega, by omega⟩
          have HBX : Hid (Below w.heap.size w (w6.setCell ⟨w2.heap.size, 0, none⟩ (.string (strL all')))) := Lib.hid (hB7.out.setCell (p := ⟨w2.heap.size, 0, none⟩) (by show w.heap.size ≤ w2.heap.size; omega) _)
          clear hb7 hb6 hM6 f6 m6 hT6 q3 q4 q5 q6 q7 q8 q9 q10 m0 hcat
          go_wp2_with fail
          generalize w6.setCell ⟨w2.heap.size, 0, none⟩ (.string (strL all')) = W7 at *
          obtain ⟨first', hf1⟩ : ∃ x, x = first := ⟨_, rfl⟩
          obtain ⟨front', hf2⟩ : ∃ x, x = front := ⟨_, rfl⟩
          rw [← hf1, ← hf2] at BO
          clear hf1 hf2
          have hbo := BO.out
          obtain ⟨N, hN⟩ : ∃ N, N = all'.length := ⟨_, rfl⟩
          have hNb : N ≤ 1099511627776 := by have := hbo.t.small; omega
          have hfN : front' ≤ N := by have := hbo.t.fa; omega
          have m0 : W7.cell? ⟨w2.heap.size, 0, none⟩ = some (.string (strL all')) := by rw [cell_heap hbo.m]; rfl
          have m1 : W7.cell? ⟨w2.heap.size, 1, none⟩ = some (.int .i64 front') := by rw [cell_heap hbo.m]; rfl
          have hz : (strL all').size = N := by rw [strL_size, hN]
          have HP := Lib.hid (fun d => tape_place (w2.heap.size + 1) w.heap.size all' first' front' (W7.drewN d) (hbo.t.drewN d))
          have HHd := Lib.hid (fun d => tape_held (w2.heap.size + 1) w.heap.size all' first' front' (W7.drewN d) (hbo.t.drewN d))
          rw [← hN] at HP HHd
          obtain ⟨hh, hhh⟩ : ∃ hh, hh = N - front' := ⟨_, rfl⟩
          rw [← hhh] at HHd
          have e1 : IntKind.i64.wrap ((N : Int) - (front' : Int)) = (hh : Int) := by rw [IntWalk.i64_in _ (by omega)]; omega
          clear hbo hN hhh
          go_quiet (first | (go_at_call 14; exact Calls.quiet_of (HP.out _)) | (go_at_call 15; exact Calls.quiet_of (HHd.out _)))
          go_wp2_with fail
          go_roundw
          case rel => exact ⟨i + 1, by go_num, by omega, Lib.hid (Below.drewN HBX.out _), Lib.hid ⟨all', first', front', BO.out.drewN _, HLEN.out⟩⟩
          case measure => simp [intOf]; omega
      · have t1 : (kind == 1) = false := by simpa using hk1
        have HLEN0 : Hid (all.length ≤ 8 * wtO (ops.take (i + 1))) := HL0
        by_cases hk2 : kind = 2
        · subst hk2
          clear t1
          go_wp2_with fail
          clear c0 c1 c2 c3 c4 c5 c6 c7 c8 c9 c10
          generalize wr.alloc (.cells #[.int .i64 2, .int .i64 oa, .int .i64 ob, .int .i64 ek, .int .i64 en, .int .i64 ed, .string (strL ename), .slice A m cc, .string (strL etext), .int .i64 efr, .int .i64 ett] 33) = W4 at *
          have q1 : W4.cell? ⟨wr.heap.size, 1, none⟩ = some (.int .i64 oa) := by rw [cell_heap HQ4.out]; rfl
          have q2 : W4.cell? ⟨wr.heap.size, 2, none⟩ = some (.int .i64 ob) := by rw [cell_heap HQ4.out]; rfl
          have HC1 := Lib.hid (tape_cut (w2.heap.size + 1) w.heap.size all first front oa ob W4 BO4.out.t)
          have HC2 := Lib.hid (fun d => ref_cut w2.heap.size all front oa ob (W4.drewN d) (BO4.out.drewN d).m)
          generalize cutW all front oa ob = cw at *
          obtain ⟨cs, ck⟩ := cw
          (with_reducible refine HC1.out.mono ?_)
          rintro e w5 ⟨rfl, d, rfl⟩
          go_wp2_with fail
          (with_reducible refine (HC2.out d).mono ?_)
          rintro e w6 ⟨rfl, rfl⟩
          go_wp2_with fail
          have BO : Hid (Both (W4.drewN d) (w2.heap.size + 1) w.heap.size w2.heap.size all first front) := Lib.hid (BO4.out.drewN d)
          have HBX : Hid (Below w.heap.size w (W4.drewN d)) := Lib.hid (Below.drewN HB0.out d)
          clear HC1 HC2 q1 q2
          generalize W4.drewN d = W7 at *
          obtain ⟨all', ha0⟩ : ∃ x, x = all := ⟨_, rfl⟩
          obtain ⟨first', hf1⟩ : ∃ x, x = first := ⟨_, rfl⟩
          obtain ⟨front', hf2⟩ : ∃ x, x = front := ⟨_, rfl⟩
          rw [← ha0, ← hf1, ← hf2] at BO
          have HLEN : Hid (all'.length ≤ 8 * wtO (ops.take (i + 1))) := Lib.hid (by rw [ha0]; exact HL0.out)
          clear ha0 hf1 hf2
          have hbo := BO.out
          obtain ⟨N, hN⟩ : ∃ N, N = all'.length := ⟨_, rfl⟩
          have hNb : N ≤ 1099511627776 := by have := hbo.t.small; omega
          have hfN : front' ≤ N := by have := hbo.t.fa; omega
          have m0 : W7.cell? ⟨w2.heap.size, 0, none⟩ = some (.string (strL all')) := by rw [cell_heap hbo.m]; rfl
          have m1 : W7.cell? ⟨w2.heap.size, 1, none⟩ = some (.int .i64 front') := by rw [cell_heap hbo.m]; rfl
          have hz : (strL all').size = N := by rw [strL_size, hN]
          have HP := Lib.hid (fun d => tape_place (w2.heap.size + 1) w.heap.size all' first' front' (W7.drewN d) (hbo.t.drewN d))
          have HHd := Lib.hid (fun d => tape_held (w2.heap.size + 1) w.heap.size all' first' front' (W7.drewN d) (hbo.t.drewN d))
          rw [← hN] at HP HHd
          obtain ⟨hh, hhh⟩ : ∃ hh, hh = N - front' := ⟨_, rfl⟩
          rw [← hhh] at HHd
          have e1 : IntKind.i64.wrap ((N : Int) - (front' : Int)) = (hh : Int) := by rw [IntWalk.i64_in _ (by omega)]; omega
          clear hbo hN hhh
          go_quiet (first | (go_at_call 14; exact Calls.quiet_of (HP.out _)) | (go_at_call 15; exact Calls.quiet_of (HHd.out _)))
          go_wp2_with fail
          go_roundw
          case rel => exact ⟨i + 1, by go_num, by omega, Lib.hid (Below.drewN HBX.out _), Lib.hid ⟨all', first', front', BO.out.drewN _, HLEN.out⟩⟩
          case measure => simp [intOf]; omega
        · have t2 : (kind == 2) = false := by simpa using hk2
          by_cases hk3 : kind = 3
          · subst hk3
            clear t1 t2
            go_wp2_with fail
            clear c0 c1 c2 c3 c4 c5 c6 c7 c8 c9 c10
            generalize wr.alloc (.cells #[.int .i64 3, .int .i64 oa, .int .i64 ob, .int .i64 ek, .int .i64 en, .int .i64 ed, .string (strL ename), .slice A m cc, .string (strL etext), .int .i64 efr, .int .i64 ett] 33) = W4 at *
            have q1 : W4.cell? ⟨wr.heap.size, 1, none⟩ = some (.int .i64 oa) := by rw [cell_heap HQ4.out]; rfl
            generalize hdw : dropW all front oa = dw at *
            obtain ⟨dk, df⟩ := dw
            have HD : Hid (∀ W, TapeAt W (w2.heap.size + 1) w.heap.size all first front → Calls Try.prog 12 #[.pointer (some ⟨w.heap.size, 0, none⟩), .int .i64 oa] W fun e w' => e = .returned (.int .i64 dk) ∧ ∃ f, TapeAt w' (w2.heap.size + 1) w.heap.size all f df ∧ Only (w2.heap.size + 1) w.heap.size wr.heap.size W w') := Lib.hid (fun W h => by
              have := tape_drop wr.heap.size (w2.heap.size + 1) w.heap.size all first front oa W h
              unfold RetDrop at this
              rw [hdw] at this
              exact this)
            have HRD : Hid (∀ W, RefAt W w2.heap.size all front → Calls Try.prog 13 #[.pointer (some ⟨w2.heap.size, 0, none⟩), .int .i64 oa] W fun e w' => e = .returned (.int .i64 dk) ∧ RefAt w' w2.heap.size all df ∧ W.heap.size = w'.heap.size ∧ (∀ k, k ≠ w2.heap.size → w'.heap[k]? = W.heap[k]?) ∧ w'.os = W.os ∧ w'.tape = W.tape ∧ w'.output = W.output) := Lib.hid (fun W h => by
              have := ref_drop w2.heap.size all front oa W h
              unfold RetRDrop at this
              rw [hdw] at this
              exact this)
            clear hdw
            go_region_with (first | (go_at_call 12; refine (HD.out W4.drew (BO4.out.t.keep (w' := W4.drew) (Nat.le_refl _) rfl (fun _ _ _ => rfl))).mono ?_; rintro e w5 ⟨rfl, f5, hT5, hO5⟩; have hM5 : RefAt w5 w2.heap.size all front := (hO5.block _ (by omega) (.inl (by omega))).trans BO4.out.m; have hQ5 := (hO5.block wr.heap.size (by omega) (.inr ⟨Nat.le_refl _, by have := S4.out; show wr.heap.size < W4.heap.size; omega⟩)).trans HQ4.out; have q5 : w5.cell? ⟨wr.heap.size, 1, none⟩ = some (.int .i64 oa) := (by rw [cell_heap hQ5]; rfl)) | (go_at_call 13; refine (HRD.out _ hM5).mono ?_; rintro e w6 ⟨rfl, hM6, hs6, hk6, ho6, ht6, hp6⟩))
            all_goals
              have hX5 : Below w.heap.size w w5 := (HB0.out.drew).trans (hO5.below (Nat.le_refl _) (by omega))
              have h56 : Below w.heap.size w5 w6 := ⟨ho6, ht6, hp6, Nat.le_of_eq hs6, fun k hk => hk6 k (by omega)⟩
              have HBX : Hid (Below w.heap.size w w6) := Lib.hid (hX5.trans h56)
              have BO : Hid (Both w6 (w2.heap.size + 1) w.heap.size w2.heap.size all f5 df) := Lib.hid ⟨hT5.keep (Nat.le_of_eq hs6) (hk6 _ (by omega)) (fun k hk _ => hk6 k (by omega)), hM6, by omega, by omega⟩
              clear hX5 h56 hT5 hM6 hs6 hk6 ho6 ht6 hp6 hO5 hM5 hQ5 q5
              go_wp2_with fail
              obtain ⟨all', ha0⟩ : ∃ x, x = all := ⟨_, rfl⟩
              obtain ⟨first', hf1⟩ : ∃ x, x = f5 := ⟨_, rfl⟩
              obtain ⟨front', hf2⟩ : ∃ x, x = df := ⟨_, rfl⟩
              rw [← ha0, ← hf1, ← hf2] at BO
              have HLEN : Hid (all'.length ≤ 8 * wtO (ops.take (i + 1))) := Lib.hid (by rw [ha0]; exact HL0.out)
              clear ha0 hf1 hf2
              have hbo := BO.out
              obtain ⟨N, hN⟩ : ∃ N, N = all'.length := ⟨_, rfl⟩
              have hNb : N ≤ 1099511627776 := by have := hbo.t.small; omega
              have hfN : front' ≤ N := by have := hbo.t.fa; omega
              have m0 : w6.cell? ⟨w2.heap.size, 0, none⟩ = some (.string (strL all')) := by rw [cell_heap hbo.m]; rfl
              have m1 : w6.cell? ⟨w2.heap.size, 1, none⟩ = some (.int .i64 front') := by rw [cell_heap hbo.m]; rfl
              have hz : (strL all').size = N := by rw [strL_size, hN]
              have HP := Lib.hid (fun d => tape_place (w2.heap.size + 1) w.heap.size all' first' front' (w6.drewN d) (hbo.t.drewN d))
              have HHd := Lib.hid (fun d => tape_held (w2.heap.size + 1) w.heap.size all' first' front' (w6.drewN d) (hbo.t.drewN d))
              rw [← hN] at HP HHd
              obtain ⟨hh, hhh⟩ : ∃ hh, hh = N - front' := ⟨_, rfl⟩
              rw [← hhh] at HHd
              have e1 : IntKind.i64.wrap ((N : Int) - (front' : Int)) = (hh : Int) := by rw [IntWalk.i64_in _ (by omega)]; omega
              clear hbo hN hhh
              go_quiet (first | (go_at_call 14; exact Calls.quiet_of (HP.out _)) | (go_at_call 15; exact Calls.quiet_of (HHd.out _)))
              go_wp2_with fail
              go_roundw
              case rel => exact ⟨i + 1, by go_num, by omega, Lib.hid (Below.drewN HBX.out _), Lib.hid ⟨all', first', front', BO.out.drewN _, HLEN.out⟩⟩
              case measure => simp [intOf]; omega
          · have t3 : (kind == 3) = false := by simpa using hk3
            go_wp2_with fail
            clear c0 c1 c2 c3 c4 c5 c6 c7 c8 c9 c10
            generalize wr.alloc (.cells #[.int .i64 kind, .int .i64 oa, .int .i64 ob, .int .i64 ek, .int .i64 en, .int .i64 ed, .string (strL ename), .slice A m cc, .string (strL etext), .int .i64 efr, .int .i64 ett] 33) = W4 at *
            have BO := BO4
            have HBX := HB0
            clear BO4
            obtain ⟨all', ha0⟩ : ∃ x, x = all := ⟨_, rfl⟩
            obtain ⟨first', hf1⟩ : ∃ x, x = first := ⟨_, rfl⟩
            obtain ⟨front', hf2⟩ : ∃ x, x = front := ⟨_, rfl⟩
            rw [← ha0, ← hf1, ← hf2] at BO
            have HLEN : Hid (all'.length ≤ 8 * wtO (ops.take (i + 1))) := Lib.hid (by rw [ha0]; exact HL0.out)
            clear ha0 hf1 hf2
            have hbo := BO.out
            obtain ⟨N, hN⟩ : ∃ N, N = all'.length := ⟨_, rfl⟩
            have hNb : N ≤ 1099511627776 := by have := hbo.t.small; omega
            have hfN : front' ≤ N := by have := hbo.t.fa; omega
            have m0 : W4.cell? ⟨w2.heap.size, 0, none⟩ = some (.string (strL all')) := by rw [cell_heap hbo.m]; rfl
            have m1 : W4.cell? ⟨w2.heap.size, 1, none⟩ = some (.int .i64 front') := by rw [cell_heap hbo.m]; rfl
            have hz : (strL all').size = N := by rw [strL_size, hN]
            have HP := Lib.hid (fun d => tape_place (w2.heap.size + 1) w.heap.size all' first' front' (W4.drewN d) (hbo.t.drewN d))
            have HHd := Lib.hid (fun d => tape_held (w2.heap.size + 1) w.heap.size all' first' front' (W4.drewN d) (hbo.t.drewN d))
            rw [← hN] at HP HHd
            obtain ⟨hh, hhh⟩ : ∃ hh, hh = N - front' := ⟨_, rfl⟩
            rw [← hhh] at HHd
            have e1 : IntKind.i64.wrap ((N : Int) - (front' : Int)) = (hh : Int) := by rw [IntWalk.i64_in _ (by omega)]; omega
            clear hbo hN hhh
            go_quiet (first | (go_at_call 14; exact Calls.quiet_of (HP.out _)) | (go_at_call 15; exact Calls.quiet_of (HHd.out _)))
            go_wp2_with fail
            go_roundw
            case rel => exact ⟨i + 1, by go_num, by omega, Lib.hid (Below.drewN HBX.out _), Lib.hid ⟨all', first', front', BO.out.drewN _, HLEN.out⟩⟩
            case measure => simp [intOf]; omega
    · have hfin := hbr.out
      clear hbr hinv
      go_wp2_with fail
      go_ret
      exact ⟨rfl, hfin⟩
end Go.Proofs.Ythmngbbhbjkgkaa
