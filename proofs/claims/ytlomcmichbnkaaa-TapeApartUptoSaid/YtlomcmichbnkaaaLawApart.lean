/-
  gimletlaw21.TapeApart: the walk.
-/
import Derived.Test.YtlomcmichbnkaaaLawTapeA
import Derived.Test.YtlomcmichbnkaaaOpenE
import Derived.BigRegion
import Derived.Test.YtlomcmichbnkaaaApart8
namespace Go.Proofs.Ytlomcmichbnkaaa
open Go.RowKit

def evA (e : Ev) (A : Option Addr) (m c : Nat) : Array Value := evC e.kind e.num e.dep e.name A m c e.text e.fr e.tt

theorem add_nil21 (kind num dep fr tt : Int) (name text : List UInt8) (A : Option Addr) (m c : Nat) (w : World) :
    Calls Try.prog 6 #[.pointer none, .agg (evC kind num dep name A m c text fr tt)] w fun e w' => e = .returned (.int .i64 1) ∧ Below w.heap.size w w' := by
  unfold evC
  go_enter Try.func6, Try.ntmps6
  go_wp2_with fail
  go_ret
  exact ⟨rfl, (Below.refl _ _).alloc (Nat.le_refl _) _⟩

set_option maxRecDepth 100000 in
set_option maxHeartbeats 8000000 in
theorem tapeApart_any (ek en ed efr ett : Int) (ename etext : List UInt8) (eats : List (List UInt8 × List UInt8)) (A : Option Addr) (m c : Nat) (fk fn fd ffr ftt : Int) (fname ftext : List UInt8) (fats : List (List UInt8 × List UInt8)) (B : Option Addr) (m2 c2 : Nat) (from' to' : Int) (w : World)
    (hA : AttrsAt w A m eats) (hmc : m ≤ c) (hB : AttrsAt w B m2 fats) (hmc2 : m2 ≤ c2) (hwe : wtE ⟨ek, en, ed, ename, eats, etext, efr, ett⟩ ≤ 1048576) (hwf : wtE ⟨fk, fn, fd, fname, fats, ftext, ffr, ftt⟩ ≤ 1048576) :
    Calls Try.prog 3 #[.agg #[.int .i64 ek, .int .i64 en, .int .i64 ed, .string (strL ename), .slice A m c, .string (strL etext), .int .i64 efr, .int .i64 ett, .int .i64 fk, .int .i64 fn, .int .i64 fd, .string (strL fname), .slice B m2 c2, .string (strL ftext), .int .i64 ffr, .int .i64 ftt, .int .i64 from', .int .i64 to']] w fun e w' => e = .returned (.bool true) ∧ Below w.heap.size w w' := by
  have HE : Hid (∀ W, Below w.heap.size w W → Calls Try.prog 8 #[.agg (evC ek en ed ename A m c etext efr ett)] W fun r w' => r = .returned (.string (strL (evOut ⟨ek, en, ed, ename, eats, etext, efr, ett⟩))) ∧ Below W.heap.size W w') :=
    Lib.hid (fun W hW => Event_cells (cs := (evC ek en ed ename A m c etext efr ett).toList) ⟨A, m, c, rfl, hmc, hA.below hW⟩ hwe)
  have HF : Hid (∀ W, Below w.heap.size w W → Calls Try.prog 8 #[.agg (evC fk fn fd fname B m2 c2 ftext ffr ftt)] W fun r w' => r = .returned (.string (strL (evOut ⟨fk, fn, fd, fname, fats, ftext, ffr, ftt⟩))) ∧ Below W.heap.size W w') :=
    Lib.hid (fun W hW => Event_cells (cs := (evC fk fn fd fname B m2 c2 ftext ffr ftt).toList) ⟨B, m2, c2, rfl, hmc2, hB.below hW⟩ hwf)
  have hle := evOut_len ⟨ek, en, ed, ename, eats, etext, efr, ett⟩
  have hlf := evOut_len ⟨fk, fn, fd, fname, fats, ftext, ffr, ftt⟩
  generalize evOut ⟨ek, en, ed, ename, eats, etext, efr, ett⟩ = oa at *
  generalize evOut ⟨fk, fn, fd, fname, fats, ftext, ffr, ftt⟩ = ob at *
  have HLE : Hid (oa.length ≤ 8388608) := Lib.hid (by omega)
  have HLF : Hid (ob.length ≤ 8388608) := Lib.hid (by omega)
  clear hA hB hmc hmc2 hwe hwf hle hlf
  go_enter Try.func3, Try.ntmps3
  go_wp2_with fail
  refine (awake21_any _).mono ?_
  rintro e w1 ⟨rfl, b1⟩
  have hb1 := ((Below.refl w.heap.size w).alloc (Nat.le_refl _) (.cells #[.int .i64 ek, .int .i64 en, .int .i64 ed, .string (strL ename), .slice A m c, .string (strL etext), .int .i64 efr, .int .i64 ett, .int .i64 fk, .int .i64 fn, .int .i64 fd, .string (strL fname), .slice B m2 c2, .string (strL ftext), .int .i64 ffr, .int .i64 ftt, .int .i64 from', .int .i64 to'] 27)).trans (b1.mono (by simp))
  have hq := (b1.block w.heap.size (by simp)).trans (heap_alloc_new w _)
  have hw1 : w.heap.size < w1.heap.size := heap_lt hq
  clear b1
  have z0 : w1.cell? ⟨w.heap.size, 0, none⟩ = some (.int .i64 ek) := by rw [cell_heap hq]; rfl
  have z1 : w1.cell? ⟨w.heap.size, 1, none⟩ = some (.int .i64 en) := by rw [cell_heap hq]; rfl
  have z2 : w1.cell? ⟨w.heap.size, 2, none⟩ = some (.int .i64 ed) := by rw [cell_heap hq]; rfl
  have z3 : w1.cell? ⟨w.heap.size, 3, none⟩ = some (.string (strL ename)) := by rw [cell_heap hq]; rfl
  have z4 : w1.cell? ⟨w.heap.size, 4, none⟩ = some (.slice A m c) := by rw [cell_heap hq]; rfl
  have z5 : w1.cell? ⟨w.heap.size, 5, none⟩ = some (.string (strL etext)) := by rw [cell_heap hq]; rfl
  have z6 : w1.cell? ⟨w.heap.size, 6, none⟩ = some (.int .i64 efr) := by rw [cell_heap hq]; rfl
  have z7 : w1.cell? ⟨w.heap.size, 7, none⟩ = some (.int .i64 ett) := by rw [cell_heap hq]; rfl
  have z8 : w1.cell? ⟨w.heap.size, 8, none⟩ = some (.int .i64 fk) := by rw [cell_heap hq]; rfl
  have z9 : w1.cell? ⟨w.heap.size, 9, none⟩ = some (.int .i64 fn) := by rw [cell_heap hq]; rfl
  have z10 : w1.cell? ⟨w.heap.size, 10, none⟩ = some (.int .i64 fd) := by rw [cell_heap hq]; rfl
  have z11 : w1.cell? ⟨w.heap.size, 11, none⟩ = some (.string (strL fname)) := by rw [cell_heap hq]; rfl
  have z12 : w1.cell? ⟨w.heap.size, 12, none⟩ = some (.slice B m2 c2) := by rw [cell_heap hq]; rfl
  have z13 : w1.cell? ⟨w.heap.size, 13, none⟩ = some (.string (strL ftext)) := by rw [cell_heap hq]; rfl
  have z14 : w1.cell? ⟨w.heap.size, 14, none⟩ = some (.int .i64 ffr) := by rw [cell_heap hq]; rfl
  have z15 : w1.cell? ⟨w.heap.size, 15, none⟩ = some (.int .i64 ftt) := by rw [cell_heap hq]; rfl
  have z16 : w1.cell? ⟨w.heap.size, 16, none⟩ = some (.int .i64 from') := by rw [cell_heap hq]; rfl
  have z17 : w1.cell? ⟨w.heap.size, 17, none⟩ = some (.int .i64 to') := by rw [cell_heap hq]; rfl
  clear hq
  have HB1 := Lib.hid hb1
  clear hb1
  go_wp2_with fail
  go_region
  · clear z0 z1 z2 z3 z4 z5 z6 z7 z8 z9 z10 z11 z12 z13 z14 z15 z16 z17
    have hbw : Below w.heap.size w ((w1.alloc (.cells #[.int .i64 ek, .int .i64 en, .int .i64 ed, .string (strL ename), .slice A m c, .string (strL etext), .int .i64 efr, .int .i64 ett] 25)).alloc (.cells #[.int .i64 fk, .int .i64 fn, .int .i64 fd, .string (strL fname), .slice B m2 c2, .string (strL ftext), .int .i64 ffr, .int .i64 ftt] 25)).drew := (((HB1.out.alloc (by omega) _).alloc (by simp; omega) _).drew)
    have hA0 : (((w1.alloc (.cells #[.int .i64 ek, .int .i64 en, .int .i64 ed, .string (strL ename), .slice A m c, .string (strL etext), .int .i64 efr, .int .i64 ett] 25)).alloc (.cells #[.int .i64 fk, .int .i64 fn, .int .i64 fd, .string (strL fname), .slice B m2 c2, .string (strL ftext), .int .i64 ffr, .int .i64 ftt] 25)).drew).heap[w1.heap.size]? = some (.cells #[.int .i64 ek, .int .i64 en, .int .i64 ed, .string (strL ename), .slice A m c, .string (strL etext), .int .i64 efr, .int .i64 ett] 25 (0, 0)) := (heap_alloc_old _ _ (by simp)).trans (heap_alloc_new w1 _)
    have hA1 : (((w1.alloc (.cells #[.int .i64 ek, .int .i64 en, .int .i64 ed, .string (strL ename), .slice A m c, .string (strL etext), .int .i64 efr, .int .i64 ett] 25)).alloc (.cells #[.int .i64 fk, .int .i64 fn, .int .i64 fd, .string (strL fname), .slice B m2 c2, .string (strL ftext), .int .i64 ffr, .int .i64 ftt] 25)).drew).heap[w1.heap.size + 1]? = some (.cells #[.int .i64 fk, .int .i64 fn, .int .i64 fd, .string (strL fname), .slice B m2 c2, .string (strL ftext), .int .i64 ffr, .int .i64 ftt] 25 (0, 0)) := by
      have h := heap_alloc_new (w1.alloc (.cells #[.int .i64 ek, .int .i64 en, .int .i64 ed, .string (strL ename), .slice A m c, .string (strL etext), .int .i64 efr, .int .i64 ett] 25)) (.cells #[.int .i64 fk, .int .i64 fn, .int .i64 fd, .string (strL fname), .slice B m2 c2, .string (strL ftext), .int .i64 ffr, .int .i64 ftt] 25)
      rw [show (w1.alloc (.cells #[.int .i64 ek, .int .i64 en, .int .i64 ed, .string (strL ename), .slice A m c, .string (strL etext), .int .i64 efr, .int .i64 ett] 25)).heap.size = w1.heap.size + 1 by simp] at h
      exact h
    have hsz : (((w1.alloc (.cells #[.int .i64 ek, .int .i64 en, .int .i64 ed, .string (strL ename), .slice A m c, .string (strL etext), .int .i64 efr, .int .i64 ett] 25)).alloc (.cells #[.int .i64 fk, .int .i64 fn, .int .i64 fd, .string (strL fname), .slice B m2 c2, .string (strL ftext), .int .i64 ffr, .int .i64 ftt] 25)).drew).heap.size = w1.heap.size + 2 := by simp
    have HBW := Lib.hid hbw
    have HA0 := Lib.hid hA0
    have HA1 := Lib.hid hA1
    have HSZ := Lib.hid hsz
    clear hbw hA0 hA1 hsz
    generalize ((w1.alloc (.cells #[.int .i64 ek, .int .i64 en, .int .i64 ed, .string (strL ename), .slice A m c, .string (strL etext), .int .i64 efr, .int .i64 ett] 25)).alloc (.cells #[.int .i64 fk, .int .i64 fn, .int .i64 fd, .string (strL fname), .slice B m2 c2, .string (strL ftext), .int .i64 ffr, .int .i64 ftt] 25)).drew = W at *
    obtain ⟨q3, hq3⟩ : ∃ q, q = w1.heap.size := ⟨_, rfl⟩
    obtain ⟨q4, hq4⟩ : ∃ q, q = (w1.heap.size + 1) := ⟨_, rfl⟩
    have h3 : W.heap[q3]? = some (.cells #[.int .i64 ek, .int .i64 en, .int .i64 ed, .string (strL ename), .slice A m c, .string (strL etext), .int .i64 efr, .int .i64 ett] 25 (0, 0)) := by rw [hq3]; exact HA0.out
    have h4 : W.heap[q4]? = some (.cells #[.int .i64 fk, .int .i64 fn, .int .i64 fd, .string (strL fname), .slice B m2 c2, .string (strL ftext), .int .i64 ffr, .int .i64 ftt] 25 (0, 0)) := by rw [hq4]; exact HA1.out
    have hql3 : q3 < W.heap.size := by rw [HSZ.out]; omega
    have hql4 : q4 < W.heap.size := by rw [HSZ.out]; omega
    have hqw : w.heap.size ≤ W.heap.size := by rw [HSZ.out]; omega
    simp only [← hq4]
    simp only [← hq3]
    have H3 := Lib.hid h3
    have H4 := Lib.hid h4
    clear hq3 hq4 h3 h4 HA0 HA1 HSZ HB1 hw1
    go_wp2_with fail
    refine (tape_new W).mono ?_
    rintro e w2 ⟨rfl, rfl⟩
    have b2 : Below W.heap.size W (W.alloc (.cells #[.slice none 0 0, .int .i64 0, .int .i64 0] 41)) := (Below.refl _ _).alloc (Nat.le_refl _) _
    have n2 : (W.alloc (.cells #[.slice none 0 0, .int .i64 0, .int .i64 0] 41)).heap[W.heap.size]? = some (.cells #[.slice none 0 0, .int .i64 0, .int .i64 0] 41 (0, 0)) := heap_alloc_new W _
    have s2 : (W.alloc (.cells #[.slice none 0 0, .int .i64 0, .int .i64 0] 41)).heap.size = W.heap.size + 1 := by simp
    have B2 := Lib.hid b2
    have N2 := Lib.hid n2
    have S2 := Lib.hid s2
    clear b2 n2 s2
    generalize W.alloc (.cells #[.slice none 0 0, .int .i64 0, .int .i64 0] 41) = W2 at *
    go_wp2_with fail
    refine (tape_new W2).mono ?_
    rintro e w3 ⟨rfl, rfl⟩
    have b3 : Below W2.heap.size W2 (W2.alloc (.cells #[.slice none 0 0, .int .i64 0, .int .i64 0] 41)) := (Below.refl _ _).alloc (Nat.le_refl _) _
    have n3 : (W2.alloc (.cells #[.slice none 0 0, .int .i64 0, .int .i64 0] 41)).heap[W.heap.size + 1]? = some (.cells #[.slice none 0 0, .int .i64 0, .int .i64 0] 41 (0, 0)) := by
      rw [← S2.out]; exact heap_alloc_new W2 _
    have s3 : (W2.alloc (.cells #[.slice none 0 0, .int .i64 0, .int .i64 0] 41)).heap.size = W.heap.size + 2 := by simp [S2.out]
    have hu : W2.heap.size = W.heap.size + 1 := S2.out
    simp only [hu]
    have B3 : Hid (Below W.heap.size W (W2.alloc (.cells #[.slice none 0 0, .int .i64 0, .int .i64 0] 41))) := Lib.hid (B2.out.trans (b3.mono (by omega)))
    have N2' : Hid ((W2.alloc (.cells #[.slice none 0 0, .int .i64 0, .int .i64 0] 41)).heap[W.heap.size]? = some (.cells #[.slice none 0 0, .int .i64 0, .int .i64 0] 41 (0, 0))) := Lib.hid ((b3.block _ (by omega)).trans N2.out)
    have N3 := Lib.hid n3
    have S3 := Lib.hid s3
    clear b3 n3 s3 hu
    generalize W2.alloc (.cells #[.slice none 0 0, .int .i64 0, .int .i64 0] 41) = W3 at *
    have hT3 : TapeAt W3 (W.heap.size + 2) W.heap.size [] 0 0 := ⟨by omega, by rw [S3.out]; exact Nat.le_refl _, Nat.le_refl _, Nat.le_refl _, by simp, .slice none 0 0, N2'.out, ⟨rfl, .inl ⟨rfl, rfl⟩⟩⟩
    have HT3 := Lib.hid hT3
    have HX3 : Hid (Below w.heap.size w W3) := Lib.hid (HBW.out.trans (B3.out.mono hqw))
    have e3 : W3.heap[q3]? = _ := (B3.out.block q3 hql3).trans H3.out
    have e4 : W3.heap[q4]? = _ := (B3.out.block q4 hql4).trans H4.out
    have x0 : W3.cell? ⟨q3, 0, none⟩ = some (.int .i64 ek) := by rw [cell_heap e3]; rfl
    have x1 : W3.cell? ⟨q3, 1, none⟩ = some (.int .i64 en) := by rw [cell_heap e3]; rfl
    have x2 : W3.cell? ⟨q3, 2, none⟩ = some (.int .i64 ed) := by rw [cell_heap e3]; rfl
    have x3 : W3.cell? ⟨q3, 3, none⟩ = some (.string (strL ename)) := by rw [cell_heap e3]; rfl
    have x4 : W3.cell? ⟨q3, 4, none⟩ = some (.slice A m c) := by rw [cell_heap e3]; rfl
    have x5 : W3.cell? ⟨q3, 5, none⟩ = some (.string (strL etext)) := by rw [cell_heap e3]; rfl
    have x6 : W3.cell? ⟨q3, 6, none⟩ = some (.int .i64 efr) := by rw [cell_heap e3]; rfl
    have x7 : W3.cell? ⟨q3, 7, none⟩ = some (.int .i64 ett) := by rw [cell_heap e3]; rfl
    have y0 : W3.cell? ⟨q4, 0, none⟩ = some (.int .i64 fk) := by rw [cell_heap e4]; rfl
    have y1 : W3.cell? ⟨q4, 1, none⟩ = some (.int .i64 fn) := by rw [cell_heap e4]; rfl
    have y2 : W3.cell? ⟨q4, 2, none⟩ = some (.int .i64 fd) := by rw [cell_heap e4]; rfl
    have y3 : W3.cell? ⟨q4, 3, none⟩ = some (.string (strL fname)) := by rw [cell_heap e4]; rfl
    have y4 : W3.cell? ⟨q4, 4, none⟩ = some (.slice B m2 c2) := by rw [cell_heap e4]; rfl
    have y5 : W3.cell? ⟨q4, 5, none⟩ = some (.string (strL ftext)) := by rw [cell_heap e4]; rfl
    have y6 : W3.cell? ⟨q4, 6, none⟩ = some (.int .i64 ffr) := by rw [cell_heap e4]; rfl
    have y7 : W3.cell? ⟨q4, 7, none⟩ = some (.int .i64 ftt) := by rw [cell_heap e4]; rfl
    clear hT3
    go_wp2_with fail
    clear x0 x1 x2 x3 x4 x5 x6 x7 y0 y1 y2 y3 y4 y5 y6 y7
    refine (tape_add (W.heap.size + 2) W.heap.size [] 0 0 ek en ed efr ett ename etext A m c oa W3 HT3.out (fun w1 hb1 => HE.out w1 (HX3.out.trans (hb1.mono HX3.out.size))) (by have := HLE.out; simp; omega) _ (HT3.out.under rfl)).mono ?_
    rintro e w5 ⟨rfl, hT5, hO5⟩
    have hN5 := (hO5.block (W.heap.size + 1) (by omega) (.inl (by omega))).trans N3.out
    have e3 := (hO5.block q3 (by omega) (.inl (by omega))).trans e3
    have e4 := (hO5.block q4 (by omega) (.inl (by omega))).trans e4
    have hX5 : Below w.heap.size w w5 := HX3.out.trans (hO5.below hqw (by omega))
    have hs5 : W.heap.size + 2 ≤ w5.heap.size := hT5.le
    have hU5 : TapeAt w5 w5.heap.size (W.heap.size + 1) [] 0 0 := ⟨by omega, Nat.le_refl _, Nat.le_refl _, Nat.le_refl _, by simp, .slice none 0 0, hN5, ⟨rfl, .inl ⟨rfl, rfl⟩⟩⟩
    have HT5 := Lib.hid hT5
    have HU5 := Lib.hid hU5
    have HX5 := Lib.hid hX5
    clear hT5 hU5 hX5 hO5 hN5
    have x0 : w5.cell? ⟨q3, 0, none⟩ = some (.int .i64 ek) := by rw [cell_heap e3]; rfl
    have x1 : w5.cell? ⟨q3, 1, none⟩ = some (.int .i64 en) := by rw [cell_heap e3]; rfl
    have x2 : w5.cell? ⟨q3, 2, none⟩ = some (.int .i64 ed) := by rw [cell_heap e3]; rfl
    have x3 : w5.cell? ⟨q3, 3, none⟩ = some (.string (strL ename)) := by rw [cell_heap e3]; rfl
    have x4 : w5.cell? ⟨q3, 4, none⟩ = some (.slice A m c) := by rw [cell_heap e3]; rfl
    have x5 : w5.cell? ⟨q3, 5, none⟩ = some (.string (strL etext)) := by rw [cell_heap e3]; rfl
    have x6 : w5.cell? ⟨q3, 6, none⟩ = some (.int .i64 efr) := by rw [cell_heap e3]; rfl
    have x7 : w5.cell? ⟨q3, 7, none⟩ = some (.int .i64 ett) := by rw [cell_heap e3]; rfl
    have y0 : w5.cell? ⟨q4, 0, none⟩ = some (.int .i64 fk) := by rw [cell_heap e4]; rfl
    have y1 : w5.cell? ⟨q4, 1, none⟩ = some (.int .i64 fn) := by rw [cell_heap e4]; rfl
    have y2 : w5.cell? ⟨q4, 2, none⟩ = some (.int .i64 fd) := by rw [cell_heap e4]; rfl
    have y3 : w5.cell? ⟨q4, 3, none⟩ = some (.string (strL fname)) := by rw [cell_heap e4]; rfl
    have y4 : w5.cell? ⟨q4, 4, none⟩ = some (.slice B m2 c2) := by rw [cell_heap e4]; rfl
    have y5 : w5.cell? ⟨q4, 5, none⟩ = some (.string (strL ftext)) := by rw [cell_heap e4]; rfl
    have y6 : w5.cell? ⟨q4, 6, none⟩ = some (.int .i64 ffr) := by rw [cell_heap e4]; rfl
    have y7 : w5.cell? ⟨q4, 7, none⟩ = some (.int .i64 ftt) := by rw [cell_heap e4]; rfl
    go_wp2_with fail
    clear x0 x1 x2 x3 x4 x5 x6 x7 y0 y1 y2 y3 y4 y5 y6 y7
    refine (tape_add w5.heap.size (W.heap.size + 1) [] 0 0 fk fn fd ffr ftt fname ftext B m2 c2 ob w5 HU5.out (fun w1 hb1 => HF.out w1 (HX5.out.trans (hb1.mono HX5.out.size))) (by have := HLF.out; simp; omega) (W.heap.size + 2) (by
      have hcell : w5.cell? ⟨W.heap.size + 1, 0, none⟩ = some (.slice none 0 0) := by
        obtain ⟨v, hv, ho⟩ := HU5.out.at'
        rw [cell_heap hv]
        rcases ho.2 with ⟨rfl, _⟩ | ⟨g, cap, cur, rfl, hg, hh, _⟩
        · rfl
        · exact absurd (heap_lt hh) (by omega)
      intro v k hv hk
      rw [hcell] at hv
      simp only [Option.some.injEq] at hv
      subst hv
      simp [Value.ownBlock] at hk)).mono ?_
    rintro e w6 ⟨rfl, hU6, hO6⟩
    have e3 := (hO6.block q3 (by omega) (.inl (by omega))).trans e3
    have e4 := (hO6.block q4 (by omega) (.inl (by omega))).trans e4
    have hX6 : Below w.heap.size w w6 := HX5.out.trans (hO6.below (by omega) (by omega))
    have hk6 : w6.heap[W.heap.size]? = w5.heap[W.heap.size]? := hO6.block _ (by omega) (.inl (by omega))
    have hT6 : TapeAt w6 (W.heap.size + 2) W.heap.size oa 0 0 := HT5.out.keep hO6.size hk6 (fun k hk hk2 => hO6.block k (by omega) (.inl (by omega)))
    have hun := HT5.out.under hk6
    have HT6 := Lib.hid hT6
    have HU6 := Lib.hid hU6
    have HX6 := Lib.hid hX6
    have HUN := Lib.hid hun
    have HS6 := Lib.hid hO6.size
    clear hT6 hU6 hX6 hO6 hk6 hun
    have y0 : w6.cell? ⟨q4, 0, none⟩ = some (.int .i64 fk) := by rw [cell_heap e4]; rfl
    have y1 : w6.cell? ⟨q4, 1, none⟩ = some (.int .i64 fn) := by rw [cell_heap e4]; rfl
    have y2 : w6.cell? ⟨q4, 2, none⟩ = some (.int .i64 fd) := by rw [cell_heap e4]; rfl
    have y3 : w6.cell? ⟨q4, 3, none⟩ = some (.string (strL fname)) := by rw [cell_heap e4]; rfl
    have y4 : w6.cell? ⟨q4, 4, none⟩ = some (.slice B m2 c2) := by rw [cell_heap e4]; rfl
    have y5 : w6.cell? ⟨q4, 5, none⟩ = some (.string (strL ftext)) := by rw [cell_heap e4]; rfl
    have y6 : w6.cell? ⟨q4, 6, none⟩ = some (.int .i64 ffr) := by rw [cell_heap e4]; rfl
    have y7 : w6.cell? ⟨q4, 7, none⟩ = some (.int .i64 ftt) := by rw [cell_heap e4]; rfl
    go_wp2_with fail
    clear y0 y1 y2 y3 y4 y5 y6 y7
    refine (tape_add (W.heap.size + 2) W.heap.size oa 0 0 fk fn fd ffr ftt fname ftext B m2 c2 ob w6 HT6.out (fun w1 hb1 => HF.out w1 (HX6.out.trans (hb1.mono HX6.out.size))) (by have := HLF.out; have := HLE.out; omega) w5.heap.size HUN.out).mono ?_
    rintro e w7 ⟨rfl, hT7, hO7⟩
    have e3 := (hO7.block q3 (by omega) (.inl (by omega))).trans e3
    have e4 := (hO7.block q4 (by omega) (.inl (by omega))).trans e4
    have hX7 : Below w.heap.size w w7 := HX6.out.trans (hO7.below hqw (by omega))
    have hU7 : TapeAt w7 w5.heap.size (W.heap.size + 1) ob 0 0 := HU6.out.keep hO7.size (hO7.block _ (by omega) (.inl (by omega))) (fun k hk hk2 => hO7.block k (by omega) (.inr ⟨hk, hk2⟩))
    obtain ⟨SInv, hSI⟩ : ∃ S : World → Prop, S = fun w' => TapeAt w' (W.heap.size + 2) W.heap.size (oa ++ ob) 0 0 ∧ (∃ f1 f2, TapeAt w' w5.heap.size (W.heap.size + 1) ob f1 f2) ∧ Below w.heap.size w w' ∧ w'.heap[q3]? = some (.cells #[.int .i64 ek, .int .i64 en, .int .i64 ed, .string (strL ename), .slice A m c, .string (strL etext), .int .i64 efr, .int .i64 ett] 25 (0, 0)) ∧ w'.heap[q4]? = some (.cells #[.int .i64 fk, .int .i64 fn, .int .i64 fd, .string (strL fname), .slice B m2 c2, .string (strL ftext), .int .i64 ffr, .int .i64 ftt] 25 (0, 0)) := ⟨_, rfl⟩
    have hS7 : SInv w7 := by rw [hSI]; exact ⟨hT7, ⟨0, 0, hU7⟩, hX7, e3, e4⟩
    have hS7d : SInv w7.drew := by rw [hSI] at hS7 ⊢; exact ⟨hT7.keep (Nat.le_refl _) rfl (fun _ _ _ => rfl), ⟨0, 0, hU7.keep (Nat.le_refl _) rfl (fun _ _ _ => rfl)⟩, hX7.drew, e3, e4⟩
    obtain ⟨LA, hLA⟩ : ∃ LA, LA = oa.length := ⟨_, rfl⟩
    obtain ⟨LB, hLB⟩ : ∃ LB, LB = ob.length := ⟨_, rfl⟩
    have hab : (oa ++ ob).length = LA + LB := by rw [List.length_append, hLA, hLB]
    have za : (strL oa).size = LA := by rw [strL_size, hLA]
    have zb : (strL ob).size = LB := by rw [strL_size, hLB]
    have el : IntKind.i64.wrap ((LA : Int) + (LB : Int)) = (LA : Int) + (LB : Int) := IntWalk.i64_in _ (by have := HLE.out; have := HLF.out; omega)
    have mkS : ∀ w', SInv w' → w'.cell? ⟨q3, 0, none⟩ = some (.int .i64 ek) ∧ w'.cell? ⟨q3, 1, none⟩ = some (.int .i64 en) ∧ w'.cell? ⟨q3, 2, none⟩ = some (.int .i64 ed) ∧ w'.cell? ⟨q3, 3, none⟩ = some (.string (strL ename)) ∧ w'.cell? ⟨q3, 4, none⟩ = some (.slice A m c) ∧ w'.cell? ⟨q3, 5, none⟩ = some (.string (strL etext)) ∧ w'.cell? ⟨q3, 6, none⟩ = some (.int .i64 efr) ∧ w'.cell? ⟨q3, 7, none⟩ = some (.int .i64 ett) ∧ w'.cell? ⟨q4, 0, none⟩ = some (.int .i64 fk) ∧ w'.cell? ⟨q4, 1, none⟩ = some (.int .i64 fn) ∧ w'.cell? ⟨q4, 2, none⟩ = some (.int .i64 fd) ∧ w'.cell? ⟨q4, 3, none⟩ = some (.string (strL fname)) ∧ w'.cell? ⟨q4, 4, none⟩ = some (.slice B m2 c2) ∧ w'.cell? ⟨q4, 5, none⟩ = some (.string (strL ftext)) ∧ w'.cell? ⟨q4, 6, none⟩ = some (.int .i64 ffr) ∧ w'.cell? ⟨q4, 7, none⟩ = some (.int .i64 ftt) ∧ SInv w' := by
      intro w' h
      have h' := h
      rw [hSI] at h
      obtain ⟨_, _, _, h3, h4⟩ := h
      refine ⟨?_, ?_, ?_, ?_, ?_, ?_, ?_, ?_, ?_, ?_, ?_, ?_, ?_, ?_, ?_, ?_, h'⟩
      all_goals first | (rw [cell_heap h3]; rfl) | (rw [cell_heap h4]; rfl)
    have quiet : ∀ w' d, SInv w' → SInv (w'.drewN d) := by
      intro w' d h
      rw [hSI] at h ⊢
      obtain ⟨h0, ⟨f1, f2, h1⟩, h2, h3, h4⟩ := h
      exact ⟨h0.drewN d, ⟨f1, f2, h1.drewN d⟩, Below.drewN h2 d, h3, h4⟩
    have below : ∀ w' w'', SInv w' → Below w'.heap.size w' w'' → SInv w'' := by
      intro w' w'' h hb
      rw [hSI] at h ⊢
      obtain ⟨h0, ⟨f1, f2, h1⟩, h2, h3, h4⟩ := h
      exact ⟨h0.below hb, ⟨f1, f2, h1.below hb⟩, h2.trans (hb.mono h2.size), (hb.block q3 (heap_lt h3)).trans h3, (hb.block q4 (heap_lt h4)).trans h4⟩
    have KPt : ∀ w', SInv w' → Calls Try.prog 7 #[.pointer (some ⟨W.heap.size, 0, none⟩)] w' fun e w'' => e = .returned (.int .i64 ((LA : Int) + (LB : Int))) ∧ SInv w'' := by
      intro w' h
      have h' := h
      rw [hSI] at h
      refine (tape_place _ _ _ _ _ w' h.1).mono ?_
      rintro e w'' ⟨rfl, d, rfl⟩
      exact ⟨by rw [hab]; rfl, quiet w' d h'⟩
    have KPu : ∀ w', SInv w' → Calls Try.prog 7 #[.pointer (some ⟨W.heap.size + 1, 0, none⟩)] w' fun e w'' => e = .returned (.int .i64 (LB : Int)) ∧ SInv w'' := by
      intro w' h
      have h' := h
      rw [hSI] at h
      obtain ⟨_, ⟨f1, f2, h1⟩, _, _, _⟩ := h
      refine (tape_place _ _ _ _ _ w' h1).mono ?_
      rintro e w'' ⟨rfl, d, rfl⟩
      exact ⟨by rw [hLB], quiet w' d h'⟩
    have KH : ∀ w', SInv w' → Calls Try.prog 10 #[.pointer (some ⟨W.heap.size, 0, none⟩)] w' fun e w'' => e = .returned (.int .i64 ((LA : Int) + (LB : Int))) ∧ SInv w'' := by
      intro w' h
      have h' := h
      rw [hSI] at h
      refine (tape_held _ _ _ _ _ w' h.1).mono ?_
      rintro e w'' ⟨rfl, d, rfl⟩
      exact ⟨by rw [hab]; rfl, quiet w' d h'⟩
    have KD : ∀ w', SInv w' → Calls Try.prog 9 #[.pointer (some ⟨W.heap.size + 1, 0, none⟩), .int .i64 (LB : Int)] w' fun e w'' => e = .returned (.int .i64 0) ∧ SInv w'' := by
      intro w' h
      rw [hSI] at h
      obtain ⟨h0, ⟨f1, f2, h1⟩, h2, h3, h4⟩ := h
      refine (tape_drop_ok 0 _ _ _ _ _ LB w' h1 (by rw [hLB]; exact Nat.le_refl _)).mono ?_
      rintro e w'' ⟨rfl, f, h5, ho⟩
      refine ⟨rfl, ?_⟩
      rw [hSI]
      exact ⟨h0.keep ho.size (ho.block _ (by omega) (.inl (by omega))) (fun k hk hk2 => ho.block k (by omega) (.inr ⟨Nat.zero_le _, hk2⟩)), ⟨f, _, h5⟩, h2.trans (ho.below (by omega) (by omega)), (ho.block q3 (by omega) (.inl (by omega))).trans h3, (ho.block q4 (by omega) (.inl (by omega))).trans h4⟩
    have KEa : ∀ w', SInv w' → Calls Try.prog 8 #[.agg #[.int .i64 ek, .int .i64 en, .int .i64 ed, .string (strL ename), .slice A m c, .string (strL etext), .int .i64 efr, .int .i64 ett]] w' fun e w'' => e = .returned (.string (strL oa)) ∧ SInv w'' := by
      intro w' h
      have h' := h
      rw [hSI] at h
      refine (HE.out w' h.2.2.1).mono ?_
      rintro e w'' ⟨rfl, hb⟩
      exact ⟨rfl, below w' w'' h' hb⟩
    have KEb : ∀ w', SInv w' → Calls Try.prog 8 #[.agg #[.int .i64 fk, .int .i64 fn, .int .i64 fd, .string (strL fname), .slice B m2 c2, .string (strL ftext), .int .i64 ffr, .int .i64 ftt]] w' fun e w'' => e = .returned (.string (strL ob)) ∧ SInv w'' := by
      intro w' h
      have h' := h
      rw [hSI] at h
      refine (HF.out w' h.2.2.1).mono ?_
      rintro e w'' ⟨rfl, hb⟩
      exact ⟨rfl, below w' w'' h' hb⟩
    have KX : ∀ w', SInv w' → Below w.heap.size w w' := by intro w' h; rw [hSI] at h; exact h.2.2.1
    have KX := Lib.hid KX
    have KPt := Lib.hid KPt
    have KPu := Lib.hid KPu
    have KH := Lib.hid KH
    have KD := Lib.hid KD
    have KEa := Lib.hid KEa
    have KEb := Lib.hid KEb
    have MKS := Lib.hid mkS
    clear hSI hT7 hU7 hX7 hLA hLB hab mkS quiet below e3 e4
    go_wp2_with fail
    refine apart8 SInv q3 q4 W.heap.size (W.heap.size + 1) LA LB oa ob ek en ed efr ett ename etext A m c fk fn fd ffr ftt fname ftext B m2 c2 _ _ _ _ _ _ _ _ _ _ _ _ _ _ _ _ _ _ _ _ _ _ _ _ _ _ _ _ _ _ _ _ _ _ _ _ _ _ _ _ _ _ _ _ _ _ _ _ _ _ _ _ _ _ _ _ _ _ _ _ _ _ _ _ _ _ _ _ _ _ _ _ _ _ _ _ _ _ _ _ _ _ _ _ _ _ _ _ _ _ _ _ _ _ _ _ _ _ _ _ _ _ _ _ _ _ _ _ _ _ _ za zb el KPt KPu KH KD KEa KEb MKS w7 hS7d _ ?_
    intro wz hs
    clear za zb el hS7d KPt KPu KH KD KEa KEb
    have hX := KX.out wz hs
    obtain ⟨x0, x1, x2, x3, x4, x5, x6, x7, y0, y1, y2, y3, y4, y5, y6, y7, _⟩ := MKS.out wz hs
    have HXF := Lib.hid hX
    clear hX y0 y1 y2 y3 y4 y5 y6 y7
    have hem : (strL []).toList.isEmpty = true := by rw [ByteArray.toList_eq]; rfl
    go_wp2_with fail
    refine (tape_cut_nil from' to' _).mono ?_
    rintro e wy ⟨rfl, rfl⟩
    go_wp2_with fail
    refine (add_nil21 ek en ed efr ett ename etext A m c _).mono ?_
    rintro e wx ⟨rfl, hbx⟩
    have hfin := HXF.out.trans (hbx.mono HXF.out.size)
    clear hbx x0 x1 x2 x3 x4 x5 x6 x7
    go_wp2_with fail
    refine (tape_drop_nil to' wx).mono ?_
    rintro e wv ⟨rfl, rfl⟩
    go_wp2_with fail
    refine (tape_place_nil wx).mono ?_
    rintro e wv ⟨rfl, rfl⟩
    go_wp2_with fail
    refine (tape_held_nil wx).mono ?_
    rintro e wv ⟨rfl, rfl⟩
    go_wp2_with fail
    go_ret
    exact ⟨rfl, hfin⟩
  · clear z0 z1 z2 z3 z4 z5 z6 z7 z8 z9 z10 z11 z12 z13 z14 z15 z16 z17
    have hbw : Below w.heap.size w ((w1.alloc (.cells #[.int .i64 fk, .int .i64 fn, .int .i64 fd, .string (strL fname), .slice B m2 c2, .string (strL ftext), .int .i64 ffr, .int .i64 ftt] 25)).alloc (.cells #[.int .i64 ek, .int .i64 en, .int .i64 ed, .string (strL ename), .slice A m c, .string (strL etext), .int .i64 efr, .int .i64 ett] 25)).drew := (((HB1.out.alloc (by omega) _).alloc (by simp; omega) _).drew)
    have hA0 : (((w1.alloc (.cells #[.int .i64 fk, .int .i64 fn, .int .i64 fd, .string (strL fname), .slice B m2 c2, .string (strL ftext), .int .i64 ffr, .int .i64 ftt] 25)).alloc (.cells #[.int .i64 ek, .int .i64 en, .int .i64 ed, .string (strL ename), .slice A m c, .string (strL etext), .int .i64 efr, .int .i64 ett] 25)).drew).heap[w1.heap.size]? = some (.cells #[.int .i64 fk, .int .i64 fn, .int .i64 fd, .string (strL fname), .slice B m2 c2, .string (strL ftext), .int .i64 ffr, .int .i64 ftt] 25 (0, 0)) := (heap_alloc_old _ _ (by simp)).trans (heap_alloc_new w1 _)
    have hA1 : (((w1.alloc (.cells #[.int .i64 fk, .int .i64 fn, .int .i64 fd, .string (strL fname), .slice B m2 c2, .string (strL ftext), .int .i64 ffr, .int .i64 ftt] 25)).alloc (.cells #[.int .i64 ek, .int .i64 en, .int .i64 ed, .string (strL ename), .slice A m c, .string (strL etext), .int .i64 efr, .int .i64 ett] 25)).drew).heap[w1.heap.size + 1]? = some (.cells #[.int .i64 ek, .int .i64 en, .int .i64 ed, .string (strL ename), .slice A m c, .string (strL etext), .int .i64 efr, .int .i64 ett] 25 (0, 0)) := by
      have h := heap_alloc_new (w1.alloc (.cells #[.int .i64 fk, .int .i64 fn, .int .i64 fd, .string (strL fname), .slice B m2 c2, .string (strL ftext), .int .i64 ffr, .int .i64 ftt] 25)) (.cells #[.int .i64 ek, .int .i64 en, .int .i64 ed, .string (strL ename), .slice A m c, .string (strL etext), .int .i64 efr, .int .i64 ett] 25)
      rw [show (w1.alloc (.cells #[.int .i64 fk, .int .i64 fn, .int .i64 fd, .string (strL fname), .slice B m2 c2, .string (strL ftext), .int .i64 ffr, .int .i64 ftt] 25)).heap.size = w1.heap.size + 1 by simp] at h
      exact h
    have hsz : (((w1.alloc (.cells #[.int .i64 fk, .int .i64 fn, .int .i64 fd, .string (strL fname), .slice B m2 c2, .string (strL ftext), .int .i64 ffr, .int .i64 ftt] 25)).alloc (.cells #[.int .i64 ek, .int .i64 en, .int .i64 ed, .string (strL ename), .slice A m c, .string (strL etext), .int .i64 efr, .int .i64 ett] 25)).drew).heap.size = w1.heap.size + 2 := by simp
    have HBW := Lib.hid hbw
    have HA0 := Lib.hid hA0
    have HA1 := Lib.hid hA1
    have HSZ := Lib.hid hsz
    clear hbw hA0 hA1 hsz
    generalize ((w1.alloc (.cells #[.int .i64 fk, .int .i64 fn, .int .i64 fd, .string (strL fname), .slice B m2 c2, .string (strL ftext), .int .i64 ffr, .int .i64 ftt] 25)).alloc (.cells #[.int .i64 ek, .int .i64 en, .int .i64 ed, .string (strL ename), .slice A m c, .string (strL etext), .int .i64 efr, .int .i64 ett] 25)).drew = W at *
    obtain ⟨q3, hq3⟩ : ∃ q, q = (w1.heap.size + 1) := ⟨_, rfl⟩
    obtain ⟨q4, hq4⟩ : ∃ q, q = w1.heap.size := ⟨_, rfl⟩
    have h3 : W.heap[q3]? = some (.cells #[.int .i64 ek, .int .i64 en, .int .i64 ed, .string (strL ename), .slice A m c, .string (strL etext), .int .i64 efr, .int .i64 ett] 25 (0, 0)) := by rw [hq3]; exact HA1.out
    have h4 : W.heap[q4]? = some (.cells #[.int .i64 fk, .int .i64 fn, .int .i64 fd, .string (strL fname), .slice B m2 c2, .string (strL ftext), .int .i64 ffr, .int .i64 ftt] 25 (0, 0)) := by rw [hq4]; exact HA0.out
    have hql3 : q3 < W.heap.size := by rw [HSZ.out]; omega
    have hql4 : q4 < W.heap.size := by rw [HSZ.out]; omega
    have hqw : w.heap.size ≤ W.heap.size := by rw [HSZ.out]; omega
    simp only [← hq3]
    simp only [← hq4]
    have H3 := Lib.hid h3
    have H4 := Lib.hid h4
    clear hq3 hq4 h3 h4 HA0 HA1 HSZ HB1 hw1
    go_wp2_with fail
    refine (tape_new W).mono ?_
    rintro e w2 ⟨rfl, rfl⟩
    have b2 : Below W.heap.size W (W.alloc (.cells #[.slice none 0 0, .int .i64 0, .int .i64 0] 41)) := (Below.refl _ _).alloc (Nat.le_refl _) _
    have n2 : (W.alloc (.cells #[.slice none 0 0, .int .i64 0, .int .i64 0] 41)).heap[W.heap.size]? = some (.cells #[.slice none 0 0, .int .i64 0, .int .i64 0] 41 (0, 0)) := heap_alloc_new W _
    have s2 : (W.alloc (.cells #[.slice none 0 0, .int .i64 0, .int .i64 0] 41)).heap.size = W.heap.size + 1 := by simp
    have B2 := Lib.hid b2
    have N2 := Lib.hid n2
    have S2 := Lib.hid s2
    clear b2 n2 s2
    generalize W.alloc (.cells #[.slice none 0 0, .int .i64 0, .int .i64 0] 41) = W2 at *
    go_wp2_with fail
    refine (tape_new W2).mono ?_
    rintro e w3 ⟨rfl, rfl⟩
    have b3 : Below W2.heap.size W2 (W2.alloc (.cells #[.slice none 0 0, .int .i64 0, .int .i64 0] 41)) := (Below.refl _ _).alloc (Nat.le_refl _) _
    have n3 : (W2.alloc (.cells #[.slice none 0 0, .int .i64 0, .int .i64 0] 41)).heap[W.heap.size + 1]? = some (.cells #[.slice none 0 0, .int .i64 0, .int .i64 0] 41 (0, 0)) := by
      rw [← S2.out]; exact heap_alloc_new W2 _
    have s3 : (W2.alloc (.cells #[.slice none 0 0, .int .i64 0, .int .i64 0] 41)).heap.size = W.heap.size + 2 := by simp [S2.out]
    have hu : W2.heap.size = W.heap.size + 1 := S2.out
    simp only [hu]
    have B3 : Hid (Below W.heap.size W (W2.alloc (.cells #[.slice none 0 0, .int .i64 0, .int .i64 0] 41))) := Lib.hid (B2.out.trans (b3.mono (by omega)))
    have N2' : Hid ((W2.alloc (.cells #[.slice none 0 0, .int .i64 0, .int .i64 0] 41)).heap[W.heap.size]? = some (.cells #[.slice none 0 0, .int .i64 0, .int .i64 0] 41 (0, 0))) := Lib.hid ((b3.block _ (by omega)).trans N2.out)
    have N3 := Lib.hid n3
    have S3 := Lib.hid s3
    clear b3 n3 s3 hu
    generalize W2.alloc (.cells #[.slice none 0 0, .int .i64 0, .int .i64 0] 41) = W3 at *
    have hT3 : TapeAt W3 (W.heap.size + 2) W.heap.size [] 0 0 := ⟨by omega, by rw [S3.out]; exact Nat.le_refl _, Nat.le_refl _, Nat.le_refl _, by simp, .slice none 0 0, N2'.out, ⟨rfl, .inl ⟨rfl, rfl⟩⟩⟩
    have HT3 := Lib.hid hT3
    have HX3 : Hid (Below w.heap.size w W3) := Lib.hid (HBW.out.trans (B3.out.mono hqw))
    have e3 : W3.heap[q3]? = _ := (B3.out.block q3 hql3).trans H3.out
    have e4 : W3.heap[q4]? = _ := (B3.out.block q4 hql4).trans H4.out
    have x0 : W3.cell? ⟨q3, 0, none⟩ = some (.int .i64 ek) := by rw [cell_heap e3]; rfl
    have x1 : W3.cell? ⟨q3, 1, none⟩ = some (.int .i64 en) := by rw [cell_heap e3]; rfl
    have x2 : W3.cell? ⟨q3, 2, none⟩ = some (.int .i64 ed) := by rw [cell_heap e3]; rfl
    have x3 : W3.cell? ⟨q3, 3, none⟩ = some (.string (strL ename)) := by rw [cell_heap e3]; rfl
    have x4 : W3.cell? ⟨q3, 4, none⟩ = some (.slice A m c) := by rw [cell_heap e3]; rfl
    have x5 : W3.cell? ⟨q3, 5, none⟩ = some (.string (strL etext)) := by rw [cell_heap e3]; rfl
    have x6 : W3.cell? ⟨q3, 6, none⟩ = some (.int .i64 efr) := by rw [cell_heap e3]; rfl
    have x7 : W3.cell? ⟨q3, 7, none⟩ = some (.int .i64 ett) := by rw [cell_heap e3]; rfl
    have y0 : W3.cell? ⟨q4, 0, none⟩ = some (.int .i64 fk) := by rw [cell_heap e4]; rfl
    have y1 : W3.cell? ⟨q4, 1, none⟩ = some (.int .i64 fn) := by rw [cell_heap e4]; rfl
    have y2 : W3.cell? ⟨q4, 2, none⟩ = some (.int .i64 fd) := by rw [cell_heap e4]; rfl
    have y3 : W3.cell? ⟨q4, 3, none⟩ = some (.string (strL fname)) := by rw [cell_heap e4]; rfl
    have y4 : W3.cell? ⟨q4, 4, none⟩ = some (.slice B m2 c2) := by rw [cell_heap e4]; rfl
    have y5 : W3.cell? ⟨q4, 5, none⟩ = some (.string (strL ftext)) := by rw [cell_heap e4]; rfl
    have y6 : W3.cell? ⟨q4, 6, none⟩ = some (.int .i64 ffr) := by rw [cell_heap e4]; rfl
    have y7 : W3.cell? ⟨q4, 7, none⟩ = some (.int .i64 ftt) := by rw [cell_heap e4]; rfl
    clear hT3
    go_wp2_with fail
    clear x0 x1 x2 x3 x4 x5 x6 x7 y0 y1 y2 y3 y4 y5 y6 y7
    refine (tape_add (W.heap.size + 2) W.heap.size [] 0 0 ek en ed efr ett ename etext A m c oa W3 HT3.out (fun w1 hb1 => HE.out w1 (HX3.out.trans (hb1.mono HX3.out.size))) (by have := HLE.out; simp; omega) _ (HT3.out.under rfl)).mono ?_
    rintro e w5 ⟨rfl, hT5, hO5⟩
    have hN5 := (hO5.block (W.heap.size + 1) (by omega) (.inl (by omega))).trans N3.out
    have e3 := (hO5.block q3 (by omega) (.inl (by omega))).trans e3
    have e4 := (hO5.block q4 (by omega) (.inl (by omega))).trans e4
    have hX5 : Below w.heap.size w w5 := HX3.out.trans (hO5.below hqw (by omega))
    have hs5 : W.heap.size + 2 ≤ w5.heap.size := hT5.le
    have hU5 : TapeAt w5 w5.heap.size (W.heap.size + 1) [] 0 0 := ⟨by omega, Nat.le_refl _, Nat.le_refl _, Nat.le_refl _, by simp, .slice none 0 0, hN5, ⟨rfl, .inl ⟨rfl, rfl⟩⟩⟩
    have HT5 := Lib.hid hT5
    have HU5 := Lib.hid hU5
    have HX5 := Lib.hid hX5
    clear hT5 hU5 hX5 hO5 hN5
    have x0 : w5.cell? ⟨q3, 0, none⟩ = some (.int .i64 ek) := by rw [cell_heap e3]; rfl
    have x1 : w5.cell? ⟨q3, 1, none⟩ = some (.int .i64 en) := by rw [cell_heap e3]; rfl
    have x2 : w5.cell? ⟨q3, 2, none⟩ = some (.int .i64 ed) := by rw [cell_heap e3]; rfl
    have x3 : w5.cell? ⟨q3, 3, none⟩ = some (.string (strL ename)) := by rw [cell_heap e3]; rfl
    have x4 : w5.cell? ⟨q3, 4, none⟩ = some (.slice A m c) := by rw [cell_heap e3]; rfl
    have x5 : w5.cell? ⟨q3, 5, none⟩ = some (.string (strL etext)) := by rw [cell_heap e3]; rfl
    have x6 : w5.cell? ⟨q3, 6, none⟩ = some (.int .i64 efr) := by rw [cell_heap e3]; rfl
    have x7 : w5.cell? ⟨q3, 7, none⟩ = some (.int .i64 ett) := by rw [cell_heap e3]; rfl
    have y0 : w5.cell? ⟨q4, 0, none⟩ = some (.int .i64 fk) := by rw [cell_heap e4]; rfl
    have y1 : w5.cell? ⟨q4, 1, none⟩ = some (.int .i64 fn) := by rw [cell_heap e4]; rfl
    have y2 : w5.cell? ⟨q4, 2, none⟩ = some (.int .i64 fd) := by rw [cell_heap e4]; rfl
    have y3 : w5.cell? ⟨q4, 3, none⟩ = some (.string (strL fname)) := by rw [cell_heap e4]; rfl
    have y4 : w5.cell? ⟨q4, 4, none⟩ = some (.slice B m2 c2) := by rw [cell_heap e4]; rfl
    have y5 : w5.cell? ⟨q4, 5, none⟩ = some (.string (strL ftext)) := by rw [cell_heap e4]; rfl
    have y6 : w5.cell? ⟨q4, 6, none⟩ = some (.int .i64 ffr) := by rw [cell_heap e4]; rfl
    have y7 : w5.cell? ⟨q4, 7, none⟩ = some (.int .i64 ftt) := by rw [cell_heap e4]; rfl
    go_wp2_with fail
    clear x0 x1 x2 x3 x4 x5 x6 x7 y0 y1 y2 y3 y4 y5 y6 y7
    refine (tape_add w5.heap.size (W.heap.size + 1) [] 0 0 fk fn fd ffr ftt fname ftext B m2 c2 ob w5 HU5.out (fun w1 hb1 => HF.out w1 (HX5.out.trans (hb1.mono HX5.out.size))) (by have := HLF.out; simp; omega) (W.heap.size + 2) (by
      have hcell : w5.cell? ⟨W.heap.size + 1, 0, none⟩ = some (.slice none 0 0) := by
        obtain ⟨v, hv, ho⟩ := HU5.out.at'
        rw [cell_heap hv]
        rcases ho.2 with ⟨rfl, _⟩ | ⟨g, cap, cur, rfl, hg, hh, _⟩
        · rfl
        · exact absurd (heap_lt hh) (by omega)
      intro v k hv hk
      rw [hcell] at hv
      simp only [Option.some.injEq] at hv
      subst hv
      simp [Value.ownBlock] at hk)).mono ?_
    rintro e w6 ⟨rfl, hU6, hO6⟩
    have e3 := (hO6.block q3 (by omega) (.inl (by omega))).trans e3
    have e4 := (hO6.block q4 (by omega) (.inl (by omega))).trans e4
    have hX6 : Below w.heap.size w w6 := HX5.out.trans (hO6.below (by omega) (by omega))
    have hk6 : w6.heap[W.heap.size]? = w5.heap[W.heap.size]? := hO6.block _ (by omega) (.inl (by omega))
    have hT6 : TapeAt w6 (W.heap.size + 2) W.heap.size oa 0 0 := HT5.out.keep hO6.size hk6 (fun k hk hk2 => hO6.block k (by omega) (.inl (by omega)))
    have hun := HT5.out.under hk6
    have HT6 := Lib.hid hT6
    have HU6 := Lib.hid hU6
    have HX6 := Lib.hid hX6
    have HUN := Lib.hid hun
    have HS6 := Lib.hid hO6.size
    clear hT6 hU6 hX6 hO6 hk6 hun
    have y0 : w6.cell? ⟨q4, 0, none⟩ = some (.int .i64 fk) := by rw [cell_heap e4]; rfl
    have y1 : w6.cell? ⟨q4, 1, none⟩ = some (.int .i64 fn) := by rw [cell_heap e4]; rfl
    have y2 : w6.cell? ⟨q4, 2, none⟩ = some (.int .i64 fd) := by rw [cell_heap e4]; rfl
    have y3 : w6.cell? ⟨q4, 3, none⟩ = some (.string (strL fname)) := by rw [cell_heap e4]; rfl
    have y4 : w6.cell? ⟨q4, 4, none⟩ = some (.slice B m2 c2) := by rw [cell_heap e4]; rfl
    have y5 : w6.cell? ⟨q4, 5, none⟩ = some (.string (strL ftext)) := by rw [cell_heap e4]; rfl
    have y6 : w6.cell? ⟨q4, 6, none⟩ = some (.int .i64 ffr) := by rw [cell_heap e4]; rfl
    have y7 : w6.cell? ⟨q4, 7, none⟩ = some (.int .i64 ftt) := by rw [cell_heap e4]; rfl
    go_wp2_with fail
    clear y0 y1 y2 y3 y4 y5 y6 y7
    refine (tape_add (W.heap.size + 2) W.heap.size oa 0 0 fk fn fd ffr ftt fname ftext B m2 c2 ob w6 HT6.out (fun w1 hb1 => HF.out w1 (HX6.out.trans (hb1.mono HX6.out.size))) (by have := HLF.out; have := HLE.out; omega) w5.heap.size HUN.out).mono ?_
    rintro e w7 ⟨rfl, hT7, hO7⟩
    have e3 := (hO7.block q3 (by omega) (.inl (by omega))).trans e3
    have e4 := (hO7.block q4 (by omega) (.inl (by omega))).trans e4
    have hX7 : Below w.heap.size w w7 := HX6.out.trans (hO7.below hqw (by omega))
    have hU7 : TapeAt w7 w5.heap.size (W.heap.size + 1) ob 0 0 := HU6.out.keep hO7.size (hO7.block _ (by omega) (.inl (by omega))) (fun k hk hk2 => hO7.block k (by omega) (.inr ⟨hk, hk2⟩))
    obtain ⟨SInv, hSI⟩ : ∃ S : World → Prop, S = fun w' => TapeAt w' (W.heap.size + 2) W.heap.size (oa ++ ob) 0 0 ∧ (∃ f1 f2, TapeAt w' w5.heap.size (W.heap.size + 1) ob f1 f2) ∧ Below w.heap.size w w' ∧ w'.heap[q3]? = some (.cells #[.int .i64 ek, .int .i64 en, .int .i64 ed, .string (strL ename), .slice A m c, .string (strL etext), .int .i64 efr, .int .i64 ett] 25 (0, 0)) ∧ w'.heap[q4]? = some (.cells #[.int .i64 fk, .int .i64 fn, .int .i64 fd, .string (strL fname), .slice B m2 c2, .string (strL ftext), .int .i64 ffr, .int .i64 ftt] 25 (0, 0)) := ⟨_, rfl⟩
    have hS7 : SInv w7 := by rw [hSI]; exact ⟨hT7, ⟨0, 0, hU7⟩, hX7, e3, e4⟩
    have hS7d : SInv w7.drew := by rw [hSI] at hS7 ⊢; exact ⟨hT7.keep (Nat.le_refl _) rfl (fun _ _ _ => rfl), ⟨0, 0, hU7.keep (Nat.le_refl _) rfl (fun _ _ _ => rfl)⟩, hX7.drew, e3, e4⟩
    obtain ⟨LA, hLA⟩ : ∃ LA, LA = oa.length := ⟨_, rfl⟩
    obtain ⟨LB, hLB⟩ : ∃ LB, LB = ob.length := ⟨_, rfl⟩
    have hab : (oa ++ ob).length = LA + LB := by rw [List.length_append, hLA, hLB]
    have za : (strL oa).size = LA := by rw [strL_size, hLA]
    have zb : (strL ob).size = LB := by rw [strL_size, hLB]
    have el : IntKind.i64.wrap ((LA : Int) + (LB : Int)) = (LA : Int) + (LB : Int) := IntWalk.i64_in _ (by have := HLE.out; have := HLF.out; omega)
    have mkS : ∀ w', SInv w' → w'.cell? ⟨q3, 0, none⟩ = some (.int .i64 ek) ∧ w'.cell? ⟨q3, 1, none⟩ = some (.int .i64 en) ∧ w'.cell? ⟨q3, 2, none⟩ = some (.int .i64 ed) ∧ w'.cell? ⟨q3, 3, none⟩ = some (.string (strL ename)) ∧ w'.cell? ⟨q3, 4, none⟩ = some (.slice A m c) ∧ w'.cell? ⟨q3, 5, none⟩ = some (.string (strL etext)) ∧ w'.cell? ⟨q3, 6, none⟩ = some (.int .i64 efr) ∧ w'.cell? ⟨q3, 7, none⟩ = some (.int .i64 ett) ∧ w'.cell? ⟨q4, 0, none⟩ = some (.int .i64 fk) ∧ w'.cell? ⟨q4, 1, none⟩ = some (.int .i64 fn) ∧ w'.cell? ⟨q4, 2, none⟩ = some (.int .i64 fd) ∧ w'.cell? ⟨q4, 3, none⟩ = some (.string (strL fname)) ∧ w'.cell? ⟨q4, 4, none⟩ = some (.slice B m2 c2) ∧ w'.cell? ⟨q4, 5, none⟩ = some (.string (strL ftext)) ∧ w'.cell? ⟨q4, 6, none⟩ = some (.int .i64 ffr) ∧ w'.cell? ⟨q4, 7, none⟩ = some (.int .i64 ftt) ∧ SInv w' := by
      intro w' h
      have h' := h
      rw [hSI] at h
      obtain ⟨_, _, _, h3, h4⟩ := h
      refine ⟨?_, ?_, ?_, ?_, ?_, ?_, ?_, ?_, ?_, ?_, ?_, ?_, ?_, ?_, ?_, ?_, h'⟩
      all_goals first | (rw [cell_heap h3]; rfl) | (rw [cell_heap h4]; rfl)
    have quiet : ∀ w' d, SInv w' → SInv (w'.drewN d) := by
      intro w' d h
      rw [hSI] at h ⊢
      obtain ⟨h0, ⟨f1, f2, h1⟩, h2, h3, h4⟩ := h
      exact ⟨h0.drewN d, ⟨f1, f2, h1.drewN d⟩, Below.drewN h2 d, h3, h4⟩
    have below : ∀ w' w'', SInv w' → Below w'.heap.size w' w'' → SInv w'' := by
      intro w' w'' h hb
      rw [hSI] at h ⊢
      obtain ⟨h0, ⟨f1, f2, h1⟩, h2, h3, h4⟩ := h
      exact ⟨h0.below hb, ⟨f1, f2, h1.below hb⟩, h2.trans (hb.mono h2.size), (hb.block q3 (heap_lt h3)).trans h3, (hb.block q4 (heap_lt h4)).trans h4⟩
    have KPt : ∀ w', SInv w' → Calls Try.prog 7 #[.pointer (some ⟨W.heap.size, 0, none⟩)] w' fun e w'' => e = .returned (.int .i64 ((LA : Int) + (LB : Int))) ∧ SInv w'' := by
      intro w' h
      have h' := h
      rw [hSI] at h
      refine (tape_place _ _ _ _ _ w' h.1).mono ?_
      rintro e w'' ⟨rfl, d, rfl⟩
      exact ⟨by rw [hab]; rfl, quiet w' d h'⟩
    have KPu : ∀ w', SInv w' → Calls Try.prog 7 #[.pointer (some ⟨W.heap.size + 1, 0, none⟩)] w' fun e w'' => e = .returned (.int .i64 (LB : Int)) ∧ SInv w'' := by
      intro w' h
      have h' := h
      rw [hSI] at h
      obtain ⟨_, ⟨f1, f2, h1⟩, _, _, _⟩ := h
      refine (tape_place _ _ _ _ _ w' h1).mono ?_
      rintro e w'' ⟨rfl, d, rfl⟩
      exact ⟨by rw [hLB], quiet w' d h'⟩
    have KH : ∀ w', SInv w' → Calls Try.prog 10 #[.pointer (some ⟨W.heap.size, 0, none⟩)] w' fun e w'' => e = .returned (.int .i64 ((LA : Int) + (LB : Int))) ∧ SInv w'' := by
      intro w' h
      have h' := h
      rw [hSI] at h
      refine (tape_held _ _ _ _ _ w' h.1).mono ?_
      rintro e w'' ⟨rfl, d, rfl⟩
      exact ⟨by rw [hab]; rfl, quiet w' d h'⟩
    have KD : ∀ w', SInv w' → Calls Try.prog 9 #[.pointer (some ⟨W.heap.size + 1, 0, none⟩), .int .i64 (LB : Int)] w' fun e w'' => e = .returned (.int .i64 0) ∧ SInv w'' := by
      intro w' h
      rw [hSI] at h
      obtain ⟨h0, ⟨f1, f2, h1⟩, h2, h3, h4⟩ := h
      refine (tape_drop_ok 0 _ _ _ _ _ LB w' h1 (by rw [hLB]; exact Nat.le_refl _)).mono ?_
      rintro e w'' ⟨rfl, f, h5, ho⟩
      refine ⟨rfl, ?_⟩
      rw [hSI]
      exact ⟨h0.keep ho.size (ho.block _ (by omega) (.inl (by omega))) (fun k hk hk2 => ho.block k (by omega) (.inr ⟨Nat.zero_le _, hk2⟩)), ⟨f, _, h5⟩, h2.trans (ho.below (by omega) (by omega)), (ho.block q3 (by omega) (.inl (by omega))).trans h3, (ho.block q4 (by omega) (.inl (by omega))).trans h4⟩
    have KEa : ∀ w', SInv w' → Calls Try.prog 8 #[.agg #[.int .i64 ek, .int .i64 en, .int .i64 ed, .string (strL ename), .slice A m c, .string (strL etext), .int .i64 efr, .int .i64 ett]] w' fun e w'' => e = .returned (.string (strL oa)) ∧ SInv w'' := by
      intro w' h
      have h' := h
      rw [hSI] at h
      refine (HE.out w' h.2.2.1).mono ?_
      rintro e w'' ⟨rfl, hb⟩
      exact ⟨rfl, below w' w'' h' hb⟩
    have KEb : ∀ w', SInv w' → Calls Try.prog 8 #[.agg #[.int .i64 fk, .int .i64 fn, .int .i64 fd, .string (strL fname), .slice B m2 c2, .string (strL ftext), .int .i64 ffr, .int .i64 ftt]] w' fun e w'' => e = .returned (.string (strL ob)) ∧ SInv w'' := by
      intro w' h
      have h' := h
      rw [hSI] at h
      refine (HF.out w' h.2.2.1).mono ?_
      rintro e w'' ⟨rfl, hb⟩
      exact ⟨rfl, below w' w'' h' hb⟩
    have KX : ∀ w', SInv w' → Below w.heap.size w w' := by intro w' h; rw [hSI] at h; exact h.2.2.1
    have KX := Lib.hid KX
    have KPt := Lib.hid KPt
    have KPu := Lib.hid KPu
    have KH := Lib.hid KH
    have KD := Lib.hid KD
    have KEa := Lib.hid KEa
    have KEb := Lib.hid KEb
    have MKS := Lib.hid mkS
    clear hSI hT7 hU7 hX7 hLA hLB hab mkS quiet below e3 e4
    go_wp2_with fail
    refine apart8 SInv q3 q4 W.heap.size (W.heap.size + 1) LA LB oa ob ek en ed efr ett ename etext A m c fk fn fd ffr ftt fname ftext B m2 c2 _ _ _ _ _ _ _ _ _ _ _ _ _ _ _ _ _ _ _ _ _ _ _ _ _ _ _ _ _ _ _ _ _ _ _ _ _ _ _ _ _ _ _ _ _ _ _ _ _ _ _ _ _ _ _ _ _ _ _ _ _ _ _ _ _ _ _ _ _ _ _ _ _ _ _ _ _ _ _ _ _ _ _ _ _ _ _ _ _ _ _ _ _ _ _ _ _ _ _ _ _ _ _ _ _ _ _ _ _ _ _ za zb el KPt KPu KH KD KEa KEb MKS w7 hS7d _ ?_
    intro wz hs
    clear za zb el hS7d KPt KPu KH KD KEa KEb
    have hX := KX.out wz hs
    obtain ⟨x0, x1, x2, x3, x4, x5, x6, x7, y0, y1, y2, y3, y4, y5, y6, y7, _⟩ := MKS.out wz hs
    have HXF := Lib.hid hX
    clear hX y0 y1 y2 y3 y4 y5 y6 y7
    have hem : (strL []).toList.isEmpty = true := by rw [ByteArray.toList_eq]; rfl
    go_wp2_with fail
    refine (tape_cut_nil from' to' _).mono ?_
    rintro e wy ⟨rfl, rfl⟩
    go_wp2_with fail
    refine (add_nil21 ek en ed efr ett ename etext A m c _).mono ?_
    rintro e wx ⟨rfl, hbx⟩
    have hfin := HXF.out.trans (hbx.mono HXF.out.size)
    clear hbx x0 x1 x2 x3 x4 x5 x6 x7
    go_wp2_with fail
    refine (tape_drop_nil to' wx).mono ?_
    rintro e wv ⟨rfl, rfl⟩
    go_wp2_with fail
    refine (tape_place_nil wx).mono ?_
    rintro e wv ⟨rfl, rfl⟩
    go_wp2_with fail
    refine (tape_held_nil wx).mono ?_
    rintro e wv ⟨rfl, rfl⟩
    go_wp2_with fail
    go_ret
    exact ⟨rfl, hfin⟩
end Go.Proofs.Ytlomcmichbnkaaa
