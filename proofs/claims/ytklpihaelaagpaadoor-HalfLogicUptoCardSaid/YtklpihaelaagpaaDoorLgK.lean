/-
  half: what one node tells of a test, and of a text that still grows.
-/
import Derived.Test.YtklpihaelaagpaaDoorLgH
import Derived.Test.YtklpihaelaagpaaDoorLgJ
import Derived.Test.YtklpihaelaagpaaDoorLgF
namespace Go.Proofs.YtklpihaelaagpaaDoor
open Go.RowKit

def hnL (h : HN) (A : Option Addr) (m c : Nat) : List Value := evL h.ev A m c ++ [.int .i64 h.kd, .int .i64 h.par, .bool h.op, .string (strL h.txt), .int .i64 h.bg, .int .i64 h.en]
theorem hnL_length (h : HN) (A : Option Addr) (m c : Nat) : (hnL h A m c).length = 14 := rfl
theorem hnL_eq (h : HN) (A : Option Addr) (m c : Nat) : hnL h A m c = [.int .i64 h.ev.kind, .int .i64 h.ev.num, .int .i64 h.ev.dep, .string (strL h.ev.name), .slice A m c, .string (strL h.ev.text), .int .i64 h.ev.fr, .int .i64 h.ev.tt, .int .i64 h.kd, .int .i64 h.par, .bool h.op, .string (strL h.txt), .int .i64 h.bg, .int .i64 h.en] := rfl
theorem strL_cmpH (a b : List UInt8) : ((strL a).toList == (strL b).toList) = decide (a = b) := by
  by_cases h : a = b
  · rw [decide_eq_true h]; exact cmpU_eq h
  · rw [decide_eq_false h]; exact cmpU_ne h
def saidT (never always : Bool) : Int := if always then 2 else if never then 0 else 1
set_option maxRecDepth 100000 in
set_option maxHeartbeats 1000000 in
theorem hsaid_any (a b : Bool) (w : World) : Calls Tryd.prog 67 #[.bool a, .bool b] w fun e w' => e = .returned (.int .i64 (saidT a b)) ∧ w' = w := by
  cases b with
  | true =>
    go_enter Tryd.func67, Tryd.ntmps67
    go_wp2_with fail
    go_ret
    exact ⟨rfl, rfl⟩
  | false =>
    cases a with
    | true =>
      go_enter Tryd.func67, Tryd.ntmps67
      go_wp2_with fail
      go_ret
      exact ⟨rfl, rfl⟩
    | false =>
      go_enter Tryd.func67, Tryd.ntmps67
      go_wp2_with fail
      go_ret
      exact ⟨rfl, rfl⟩
theorem earlyT_eq (v : List UInt8) (x : PX) : earlyT v x = (if x.cmp = 0 then 2 else if x.cmp = 1 then saidT (!standsL (runesOf (strL x.text)) (runesOf (strL v)) 0) false else if x.cmp = 2 then saidT false (!standsL (runesOf (strL x.text)) (runesOf (strL v)) 0) else if x.cmp = 3 then saidT (!standsL (runesOf (strL x.text)) (runesOf (strL v)) 0) (standsL (runesOf (strL v)) (runesOf (strL x.text)) 0) else if x.cmp = 5 then saidT false (decide (0 ≤ findL (runesOf (strL v)) (runesOf (strL x.text)))) else if x.cmp = 6 then saidT (decide (x.num < ((runesOf (strL v)).length : Int))) false else if x.cmp = 7 then saidT false (decide (x.num < ((runesOf (strL v)).length : Int))) else if x.cmp = 8 then saidT (decide (x.num ≤ ((runesOf (strL v)).length : Int))) false else 1) := by
  unfold earlyT saidT
  simp only
  repeat' split
  all_goals first | rfl | (exfalso; simp_all; done) | (exfalso; simp_all; omega)
set_option maxRecDepth 100000 in
set_option maxHeartbeats 4000000 in
theorem hearly_any (h : HN) (A : Option Addr) (m c : Nat) (x : PX) (aa : Option Addr) (ac : Nat) (pa : Option Addr) (pc : Nat) (w : World) (h1 : h.txt.length ≤ 1048576) (h2 : x.text.length ≤ 1048576) :
    Calls Tryd.prog 50 #[.agg (hnL h A m c).toArray, .agg (exprC x aa ac pa pc).toArray] w fun e w' => e = .returned (.int .i64 (earlyT h.txt x)) ∧ Below w.heap.size w w' := by
  have hs' : (strL h.txt).size ≤ 1048576 := by rw [strL_size]; exact h1
  have ht' : (strL x.text).size ≤ 1048576 := by rw [strL_size]; exact h2
  rw [hnL_eq, earlyT_eq]
  unfold exprC
  have HB0 : Hid (∀ W, Below (w.heap.size + 2) ((w.alloc (.cells #[.int .i64 h.ev.kind, .int .i64 h.ev.num, .int .i64 h.ev.dep, .string (strL h.ev.name), .slice A m c, .string (strL h.ev.text), .int .i64 h.ev.fr, .int .i64 h.ev.tt, .int .i64 h.kd, .int .i64 h.par, .bool h.op, .string (strL h.txt), .int .i64 h.bg, .int .i64 h.en] 79)).alloc (.cells #[.int .i64 x.op, .slice aa x.args.length ac, .slice pa x.path.length pc, .string (strL x.attr), .int .i64 x.cmp, .string (strL x.text), .int .i64 x.num] 30)) W → Below w.heap.size w W ∧ W.cell? ⟨w.heap.size, 11, none⟩ = some (.string (strL h.txt)) ∧ W.cell? ⟨w.heap.size + 1, 4, none⟩ = some (.int .i64 x.cmp) ∧ W.cell? ⟨w.heap.size + 1, 5, none⟩ = some (.string (strL x.text)) ∧ W.cell? ⟨w.heap.size + 1, 6, none⟩ = some (.int .i64 x.num) ∧ w.heap.size + 2 ≤ W.heap.size) := Lib.hid fun W hW => by
    have hb0 := ((Below.refl w.heap.size w).alloc (Nat.le_refl _) (.cells #[.int .i64 h.ev.kind, .int .i64 h.ev.num, .int .i64 h.ev.dep, .string (strL h.ev.name), .slice A m c, .string (strL h.ev.text), .int .i64 h.ev.fr, .int .i64 h.ev.tt, .int .i64 h.kd, .int .i64 h.par, .bool h.op, .string (strL h.txt), .int .i64 h.bg, .int .i64 h.en] 79)).alloc (by simp) (.cells #[.int .i64 x.op, .slice aa x.args.length ac, .slice pa x.path.length pc, .string (strL x.attr), .int .i64 x.cmp, .string (strL x.text), .int .i64 x.num] 30)
    have kn := heap_alloc_new (w.alloc (.cells #[.int .i64 h.ev.kind, .int .i64 h.ev.num, .int .i64 h.ev.dep, .string (strL h.ev.name), .slice A m c, .string (strL h.ev.text), .int .i64 h.ev.fr, .int .i64 h.ev.tt, .int .i64 h.kd, .int .i64 h.par, .bool h.op, .string (strL h.txt), .int .i64 h.bg, .int .i64 h.en] 79)) (.cells #[.int .i64 x.op, .slice aa x.args.length ac, .slice pa x.path.length pc, .string (strL x.attr), .int .i64 x.cmp, .string (strL x.text), .int .i64 x.num] 30)
    rw [World.size_alloc] at kn
    have k0 := (Below.heap_alloc (w.alloc (.cells #[.int .i64 h.ev.kind, .int .i64 h.ev.num, .int .i64 h.ev.dep, .string (strL h.ev.name), .slice A m c, .string (strL h.ev.text), .int .i64 h.ev.fr, .int .i64 h.ev.tt, .int .i64 h.kd, .int .i64 h.par, .bool h.op, .string (strL h.txt), .int .i64 h.bg, .int .i64 h.en] 79)) (.cells #[.int .i64 x.op, .slice aa x.args.length ac, .slice pa x.path.length pc, .string (strL x.attr), .int .i64 x.cmp, .string (strL x.text), .int .i64 x.num] 30) w.heap.size (by simp)).trans (heap_alloc_new w _)
    have k := fun j => hW.cell (p := ⟨w.heap.size + 1, j, none⟩) (Nat.lt_succ_self _)
    refine ⟨hb0.trans (hW.mono (by omega)), (hW.cell (p := ⟨w.heap.size, 11, none⟩) (by show w.heap.size < w.heap.size + 2; omega)).trans ?_, (k 4).trans ?_, (k 5).trans ?_, (k 6).trans ?_, ?_⟩
    · rw [cell_heap k0]; rfl
    · rw [cell_heap kn]; rfl
    · rw [cell_heap kn]; rfl
    · rw [cell_heap kn]; rfl
    · have := hW.size; simp at this; omega
  have HS : Hid (((w.alloc (.cells #[.int .i64 h.ev.kind, .int .i64 h.ev.num, .int .i64 h.ev.dep, .string (strL h.ev.name), .slice A m c, .string (strL h.ev.text), .int .i64 h.ev.fr, .int .i64 h.ev.tt, .int .i64 h.kd, .int .i64 h.par, .bool h.op, .string (strL h.txt), .int .i64 h.bg, .int .i64 h.en] 79)).alloc (.cells #[.int .i64 x.op, .slice aa x.args.length ac, .slice pa x.path.length pc, .string (strL x.attr), .int .i64 x.cmp, .string (strL x.text), .int .i64 x.num] 30)).heap.size = w.heap.size + 2) := Lib.hid (by simp)
  have HBS := Lib.hid fun W => Begins_any (strL x.text) (strL h.txt) W ht' hs'
  have HBG := Lib.hid fun W => Begins_any (strL h.txt) (strL x.text) W hs' ht'
  have HFI := Lib.hid fun W => Find_any (strL h.txt) (strL x.text) W hs' ht'
  have HLE := Lib.hid fun W => Length_any (strL h.txt) W hs'
  have HSD := Lib.hid hsaid_any
  clear h1 h2 hs' ht'
  generalize standsL (runesOf (strL x.text)) (runesOf (strL h.txt)) 0 = vs at *
  generalize standsL (runesOf (strL h.txt)) (runesOf (strL x.text)) 0 = vb at *
  generalize findL (runesOf (strL h.txt)) (runesOf (strL x.text)) = vf at *
  generalize ((runesOf (strL h.txt)).length : Int) = vl at *
  obtain ⟨R, hR⟩ : ∃ R, (if x.cmp = 0 then 2 else if x.cmp = 1 then saidT (!vs) false else if x.cmp = 2 then saidT false (!vs) else if x.cmp = 3 then saidT (!vs) vb else if x.cmp = 5 then saidT false (decide (0 ≤ vf)) else if x.cmp = 6 then saidT (decide (x.num < vl)) false else if x.cmp = 7 then saidT false (decide (x.num < vl)) else if x.cmp = 8 then saidT (decide (x.num ≤ vl)) false else 1 : Int) = R := ⟨_, rfl⟩
  rw [hR]
  have HR := Lib.hid hR
  clear hR
  generalize x.cmp = cm at *
  generalize x.num = nu at *
  generalize strL x.text = tx at *
  generalize strL h.txt = ht at *
  go_enter Tryd.func50, Tryd.ntmps50
  go_wp2_with fail
  (with_reducible refine (HBS.out _).mono ?_)
  rintro e w1 ⟨rfl, hb1⟩
  rw [HS.out] at hb1
  obtain ⟨_, c1, c2, c3, c4, _⟩ := HB0.out w1 hb1
  have HB1 := Lib.hid hb1
  clear hb1
  go_wp2_with fail
  (with_reducible refine (HLE.out _).mono ?_)
  rintro e w2 ⟨rfl, hb2⟩
  have hb2' := HB1.out.trans (hb2.mono (HB0.out w1 HB1.out).2.2.2.2.2)
  obtain ⟨_, d1, d2, d3, d4, _⟩ := HB0.out w2 hb2'
  have HB2 := Lib.hid hb2'
  clear hb2 hb2' c1 c2 c3 c4 HB1
  by_cases hc : cm = 0 ∨ cm = 1 ∨ cm = 2 ∨ cm = 3 ∨ cm = 5 ∨ cm = 6 ∨ cm = 7 ∨ cm = 8
  · rcases hc with rfl | rfl | rfl | rfl | rfl | rfl | rfl | rfl
    · go_wp2_with fail
      go_ret
      exact ⟨ret_int HR.out, (HB0.out w2 HB2.out).1⟩
    · go_wp2_with fail
      (with_reducible refine (HSD.out _ _ _).mono ?_)
      rintro e w3 ⟨rfl, rfl⟩
      go_wp2_with fail
      go_ret
      exact ⟨ret_int HR.out, (HB0.out _ HB2.out).1⟩
    · go_wp2_with fail
      (with_reducible refine (HSD.out _ _ _).mono ?_)
      rintro e w3 ⟨rfl, rfl⟩
      go_wp2_with fail
      go_ret
      exact ⟨ret_int HR.out, (HB0.out _ HB2.out).1⟩
    · go_wp2_with fail
      (with_reducible refine (HBG.out _).mono ?_)
      rintro e w3 ⟨rfl, hb3⟩
      have HB3 := Lib.hid (HB2.out.trans (hb3.mono (HB0.out w2 HB2.out).2.2.2.2.2))
      clear hb3
      go_wp2_with fail
      (with_reducible refine (HSD.out _ _ _).mono ?_)
      rintro e w4 ⟨rfl, rfl⟩
      go_wp2_with fail
      go_ret
      exact ⟨ret_int HR.out, (HB0.out _ HB3.out).1⟩
    · go_wp2_with fail
      (with_reducible refine (HFI.out _).mono ?_)
      rintro e w3 ⟨rfl, hb3⟩
      have HB3 := Lib.hid (HB2.out.trans (hb3.mono (HB0.out w2 HB2.out).2.2.2.2.2))
      clear hb3
      go_wp2_with fail
      (with_reducible refine (HSD.out _ _ _).mono ?_)
      rintro e w4 ⟨rfl, rfl⟩
      go_wp2_with fail
      go_ret
      exact ⟨ret_int HR.out, (HB0.out _ HB3.out).1⟩
    · go_wp2_with fail
      (with_reducible refine (HSD.out _ _ _).mono ?_)
      rintro e w3 ⟨rfl, rfl⟩
      go_wp2_with fail
      go_ret
      exact ⟨ret_int HR.out, (HB0.out _ HB2.out).1⟩
    · go_wp2_with fail
      (with_reducible refine (HSD.out _ _ _).mono ?_)
      rintro e w3 ⟨rfl, rfl⟩
      go_wp2_with fail
      go_ret
      exact ⟨ret_int HR.out, (HB0.out _ HB2.out).1⟩
    · go_wp2_with fail
      (with_reducible refine (HSD.out _ _ _).mono ?_)
      rintro e w3 ⟨rfl, rfl⟩
      go_wp2_with fail
      go_ret
      exact ⟨ret_int HR.out, (HB0.out _ HB2.out).1⟩
  · have t0 : (cm == 0) = false := by simp; omega
    have t1 : (cm == 1) = false := by simp; omega
    have t2 : (cm == 2) = false := by simp; omega
    have t3 : (cm == 3) = false := by simp; omega
    have t5 : (cm == 5) = false := by simp; omega
    have t6 : (cm == 6) = false := by simp; omega
    have t7 : (cm == 7) = false := by simp; omega
    have t8 : (cm == 8) = false := by simp; omega
    have HF : Hid ((1 : Int) = R) := Lib.hid (by
      have := HR.out
      rw [if_neg (by omega), if_neg (by omega), if_neg (by omega), if_neg (by omega), if_neg (by omega), if_neg (by omega), if_neg (by omega), if_neg (by omega)] at this
      exact this)
    clear hc
    go_wp2_with fail
    go_ret
    exact ⟨ret_int HF.out, (HB0.out _ HB2.out).1⟩
set_option maxRecDepth 100000 in
set_option maxHeartbeats 4000000 in
theorem htest_any (h : HN) (A : Option Addr) (m c : Nat) (s : PS) (wa : Option Addr) (wc : Nat) (w : World) :
    Calls Tryd.prog 52 #[.agg (hnL h A m c).toArray, .agg (stepC s wa wc).toArray] w fun e w' => e = .returned (.int .i64 (testT h s)) ∧ Below w.heap.size w w' := by
  rw [hnL_eq]
  unfold stepC
  have HTR := Lib.hid truth_any
  have HB0 : Hid (∀ o q, Below w.heap.size w ((w.alloc o).alloc q)) := Lib.hid fun o q => ((Below.refl w.heap.size w).alloc (Nat.le_refl _) o).alloc (by simp) q
  have hcmp : ((strL h.ev.name).toList == (strL s.name).toList) = decide (h.ev.name = s.name) := strL_cmpH _ _
  obtain ⟨R, hR⟩ : ∃ R, testT h s = R := ⟨_, rfl⟩
  rw [hR]
  unfold testT at hR
  have HR := Lib.hid hR
  clear hR
  by_cases h0 : s.test = 0
  · by_cases hk : h.kd = 1
    · have HF : Hid (truthI (decide (h.ev.name = s.name)) = R) := Lib.hid (by have := HR.out; rw [if_pos h0, hk] at this; simpa using this)
      clear HR
      generalize decide (h.ev.name = s.name) = d at *
      generalize s.test = st at *
      generalize h.kd = kd at *
      subst h0 hk
      go_enter Tryd.func52, Tryd.ntmps52
      go_wp2_with fail
      (with_reducible refine (HTR.out _ _).mono ?_)
      rintro e w1 ⟨rfl, rfl⟩
      go_wp2_with fail
      go_ret
      exact ⟨ret_int HF.out, HB0.out _ _⟩
    · have HF : Hid (truthI false = R) := Lib.hid (by have := HR.out; rw [if_pos h0, decide_eq_false hk, Bool.false_and] at this; exact this)
      have t1 : ((h.kd : Int) == 1) = false := by simpa using hk
      clear HR hcmp hk
      generalize s.test = st at *
      generalize h.kd = kd at *
      subst h0
      go_enter Tryd.func52, Tryd.ntmps52
      go_wp2_with fail
      (with_reducible refine (HTR.out _ _).mono ?_)
      rintro e w1 ⟨rfl, rfl⟩
      go_wp2_with fail
      go_ret
      exact ⟨ret_int HF.out, HB0.out _ _⟩
  clear hcmp
  by_cases h1 : s.test = 1
  · have HF : Hid (truthI (decide (h.kd = 1)) = R) := Lib.hid (by have := HR.out; rw [if_neg h0, if_pos h1] at this; exact this)
    clear HR h0
    generalize hd : decide (h.kd = 1) = d at *
    have t1 : ((h.kd : Int) == 1) = d := by rw [← hd]; rfl
    clear hd
    generalize s.test = st at *
    subst h1
    go_enter Tryd.func52, Tryd.ntmps52
    go_wp2_with fail
    (with_reducible refine (HTR.out _ _).mono ?_)
    rintro e w1 ⟨rfl, rfl⟩
    go_wp2_with fail
    go_ret
    exact ⟨ret_int HF.out, HB0.out _ _⟩
  by_cases h2 : s.test = 2
  · have HF : Hid (truthI (decide (h.kd = 2)) = R) := Lib.hid (by have := HR.out; rw [if_neg h0, if_neg h1, if_pos h2] at this; exact this)
    clear HR h0 h1
    generalize hd : decide (h.kd = 2) = d at *
    have t1 : ((h.kd : Int) == 2) = d := by rw [← hd]; rfl
    clear hd
    generalize s.test = st at *
    subst h2
    go_enter Tryd.func52, Tryd.ntmps52
    go_wp2_with fail
    (with_reducible refine (HTR.out _ _).mono ?_)
    rintro e w1 ⟨rfl, rfl⟩
    go_wp2_with fail
    go_ret
    exact ⟨ret_int HF.out, HB0.out _ _⟩
  have HF : Hid ((2 : Int) = R) := Lib.hid (by have := HR.out; rw [if_neg h0, if_neg h1, if_neg h2] at this; exact this)
  have t0 : ((s.test : Int) == 0) = false := by simpa using h0
  have t1 : ((s.test : Int) == 1) = false := by simpa using h1
  have t2 : ((s.test : Int) == 2) = false := by simpa using h2
  clear HR h0 h1 h2
  generalize s.test = st at *
  go_enter Tryd.func52, Tryd.ntmps52
  go_wp2_with fail
  go_ret
  exact ⟨ret_int HF.out, HB0.out _ _⟩
end Go.Proofs.YtklpihaelaagpaaDoor

namespace Go.Proofs.YtklpihaelaagpaaDoor
open Go.RowKit

theorem find_stepH {α : Type} (l : List α) (p : α → Bool) (j : Nat) (hj : j < l.length) (hn : ∀ i (hi : i < l.length), i < j → p l[i] = false) (hp : p l[j] = true) : l.find? p = some l[j] := by
  rw [List.find?_eq_some_iff_getElem]
  exact ⟨hp, j, hj, rfl, fun i hi => by simp [hn i (by omega) hi]⟩
theorem find_noneH {α : Type} (l : List α) (p : α → Bool) (hn : ∀ i (hi : i < l.length), p l[i] = false) : l.find? p = none := by
  rw [List.find?_eq_none]
  intro x hx
  obtain ⟨i, hi, rfl⟩ := List.getElem_of_mem hx
  rw [hn i hi]; decide
set_option maxRecDepth 100000 in
set_option maxHeartbeats 4000000 in
theorem hasks_any (h : HN) (A : Option Addr) (m c : Nat) (x : PX) (aa : Option Addr) (ac : Nat) (pa : Option Addr) (pc : Nat) (w : World) (hA : AttrsAt w A m h.ev.ats) (hm : m ≤ 1048576) (hsm : ∀ p ∈ h.ev.ats, p.2.length ≤ 1048576) (h1 : h.txt.length ≤ 1048576) (h2 : x.text.length ≤ 1048576) :
    Calls Tryd.prog 30 #[.agg (hnL h A m c).toArray, .agg (exprC x aa ac pa pc).toArray] w fun e w' => e = .returned (.int .i64 (asksT h x)) ∧ Below w.heap.size w w' := by
  obtain ⟨R, hR⟩ : ∃ R, asksT h x = R := ⟨_, rfl⟩
  rw [hR]
  have HR := Lib.hid hR
  unfold asksT at HR
  clear hR
  have HE := Lib.hid fun W => hearly_any h A m c x aa ac pa pc W h1 h2
  have HTR := Lib.hid truth_any
  rw [hnL_eq] at *
  unfold exprC at *
  have HB0 : Hid (∀ W, Below (w.heap.size + 2) ((w.alloc (.cells #[.int .i64 h.ev.kind, .int .i64 h.ev.num, .int .i64 h.ev.dep, .string (strL h.ev.name), .slice A m c, .string (strL h.ev.text), .int .i64 h.ev.fr, .int .i64 h.ev.tt, .int .i64 h.kd, .int .i64 h.par, .bool h.op, .string (strL h.txt), .int .i64 h.bg, .int .i64 h.en] 79)).alloc (.cells #[.int .i64 x.op, .slice aa x.args.length ac, .slice pa x.path.length pc, .string (strL x.attr), .int .i64 x.cmp, .string (strL x.text), .int .i64 x.num] 30)) W → Below w.heap.size w W ∧ w.heap.size + 2 ≤ W.heap.size ∧ (∀ j, j < 14 → W.cell? ⟨w.heap.size, j, none⟩ = (hnL h A m c)[j]?) ∧ (∀ j, j < 7 → W.cell? ⟨w.heap.size + 1, j, none⟩ = (exprC x aa ac pa pc)[j]?)) := Lib.hid fun W hW => by
    have hb0 := ((Below.refl w.heap.size w).alloc (Nat.le_refl _) (.cells #[.int .i64 h.ev.kind, .int .i64 h.ev.num, .int .i64 h.ev.dep, .string (strL h.ev.name), .slice A m c, .string (strL h.ev.text), .int .i64 h.ev.fr, .int .i64 h.ev.tt, .int .i64 h.kd, .int .i64 h.par, .bool h.op, .string (strL h.txt), .int .i64 h.bg, .int .i64 h.en] 79)).alloc (by simp) (.cells #[.int .i64 x.op, .slice aa x.args.length ac, .slice pa x.path.length pc, .string (strL x.attr), .int .i64 x.cmp, .string (strL x.text), .int .i64 x.num] 30)
    have kn := heap_alloc_new (w.alloc (.cells #[.int .i64 h.ev.kind, .int .i64 h.ev.num, .int .i64 h.ev.dep, .string (strL h.ev.name), .slice A m c, .string (strL h.ev.text), .int .i64 h.ev.fr, .int .i64 h.ev.tt, .int .i64 h.kd, .int .i64 h.par, .bool h.op, .string (strL h.txt), .int .i64 h.bg, .int .i64 h.en] 79)) (.cells #[.int .i64 x.op, .slice aa x.args.length ac, .slice pa x.path.length pc, .string (strL x.attr), .int .i64 x.cmp, .string (strL x.text), .int .i64 x.num] 30)
    rw [World.size_alloc] at kn
    have k0 := (Below.heap_alloc (w.alloc (.cells #[.int .i64 h.ev.kind, .int .i64 h.ev.num, .int .i64 h.ev.dep, .string (strL h.ev.name), .slice A m c, .string (strL h.ev.text), .int .i64 h.ev.fr, .int .i64 h.ev.tt, .int .i64 h.kd, .int .i64 h.par, .bool h.op, .string (strL h.txt), .int .i64 h.bg, .int .i64 h.en] 79)) (.cells #[.int .i64 x.op, .slice aa x.args.length ac, .slice pa x.path.length pc, .string (strL x.attr), .int .i64 x.cmp, .string (strL x.text), .int .i64 x.num] 30) w.heap.size (by simp)).trans (heap_alloc_new w _)
    refine ⟨hb0.trans (hW.mono (by omega)), by have := hW.size; simp at this; omega, fun j hj => (hW.cell (p := ⟨w.heap.size, j, none⟩) (by show w.heap.size < w.heap.size + 2; omega)).trans ?_, fun j hj => (hW.cell (p := ⟨w.heap.size + 1, j, none⟩) (Nat.lt_succ_self _)).trans ?_⟩
    · rw [cell_heap k0, hnL_eq]; simp
    · rw [cell_heap kn]; unfold exprC; simp
  have HS : Hid (((w.alloc (.cells #[.int .i64 h.ev.kind, .int .i64 h.ev.num, .int .i64 h.ev.dep, .string (strL h.ev.name), .slice A m c, .string (strL h.ev.text), .int .i64 h.ev.fr, .int .i64 h.ev.tt, .int .i64 h.kd, .int .i64 h.par, .bool h.op, .string (strL h.txt), .int .i64 h.bg, .int .i64 h.en] 79)).alloc (.cells #[.int .i64 x.op, .slice aa x.args.length ac, .slice pa x.path.length pc, .string (strL x.attr), .int .i64 x.cmp, .string (strL x.text), .int .i64 x.num] 30)).heap.size = w.heap.size + 2) := Lib.hid (by simp)
  have HCP : Hid (∀ (s : List UInt8) W, s.length ≤ 1048576 → Calls Tryd.prog 49 #[.string (strL s), .int .i64 x.cmp, .string (strL x.text), .int .i64 x.num] W fun e w' => e = .returned (.tuple #[.bool ((cmpB s x.cmp x.text x.num).getD false), .int .i64 (if (cmpB s x.cmp x.text x.num).isSome then 0 else 4)]) ∧ Below W.heap.size W w') := Lib.hid fun s W hs => Compared_any s x.text x.cmp x.num W hs h2
  have hae : (strL x.attr).toList.isEmpty = x.attr.isEmpty := strU_empty x.attr
  by_cases ha : x.attr = []
  · rw [if_neg (by simpa using ha)] at HR
    have hae2 : (strL x.attr).toList.isEmpty = true := by rw [hae, ha]; rfl
    cases hop : h.op with
    | true =>
      have HF : Hid (earlyT h.txt x = R) := Lib.hid (by have := HR.out; rw [hop] at this; exact this)
      simp only [hop] at HE HB0 HS
      clear HR HCP hA hsm hae
      generalize earlyT h.txt x = R0 at *
      generalize strL x.attr = at3 at *
      go_enter Tryd.func30, Tryd.ntmps30
      go_wp2_with fail
      (with_reducible refine (HE.out _).mono ?_)
      rintro e w2 ⟨rfl, hb2⟩
      rw [HS.out] at hb2
      have HB2 := Lib.hid hb2
      clear hb2
      go_wp2_with fail
      go_ret
      exact ⟨ret_int HF.out, (HB0.out _ HB2.out).1⟩
    | false =>
      have HF : Hid (truthI ((cmpB h.txt x.cmp x.text x.num).getD false) = R) := Lib.hid (by have := HR.out; rw [hop] at this; exact this)
      simp only [hop] at HE HB0 HS
      have HCV := Lib.hid fun W => HCP.out _ W h1
      clear HR HCP hA hsm hae HE
      generalize (cmpB h.txt x.cmp x.text x.num).getD false = R0 at *
      generalize (if (cmpB h.txt x.cmp x.text x.num).isSome then (0 : Int) else 4) = R1 at *
      generalize strL x.attr = at3 at *
      generalize strL x.text = tx at *
      generalize strL h.txt = sv' at *
      generalize x.cmp = cm at *
      go_enter Tryd.func30, Tryd.ntmps30
      go_wp2_with fail
      (with_reducible refine (HCV.out _).mono ?_)
      rintro e w3 ⟨rfl, hb3⟩
      rw [HS.out] at hb3
      have HB3 := Lib.hid hb3
      clear hb3
      go_wp2_with fail
      (with_reducible refine (HTR.out _ _).mono ?_)
      rintro e w4 ⟨rfl, rfl⟩
      go_wp2_with fail
      go_ret
      exact ⟨ret_int HF.out, (HB0.out _ HB3.out).1⟩
  · rw [if_pos ha] at HR
    have hae2 : (strL x.attr).toList.isEmpty = false := by
      rw [hae]
      cases hx : x.attr with
      | nil => exact absurd hx ha
      | cons _ _ => rfl
    have HSM := Lib.hid hsm
    have HA := Lib.hid hA
    have HMA : Hid (m = h.ev.ats.length) := Lib.hid hA.1
    clear HE hA hsm hae ha
    generalize hats : h.ev.ats = ats at *
    go_enter Tryd.func30, Tryd.ntmps30
    go_wp2_with fail
    have HBR := Lib.hid (Below.refl (w.heap.size + 2) ((w.alloc (.cells #[.int .i64 h.ev.kind, .int .i64 h.ev.num, .int .i64 h.ev.dep, .string (strL h.ev.name), .slice A m c, .string (strL h.ev.text), .int .i64 h.ev.fr, .int .i64 h.ev.tt, .int .i64 h.kd, .int .i64 h.par, .bool h.op, .string (strL h.txt), .int .i64 h.bg, .int .i64 h.en] 79)).alloc (.cells #[.int .i64 x.op, .slice aa x.args.length ac, .slice pa x.path.length pc, .string (strL x.attr), .int .i64 x.cmp, .string (strL x.text), .int .i64 x.num] 30)))
    generalize ((w.alloc (.cells #[.int .i64 h.ev.kind, .int .i64 h.ev.num, .int .i64 h.ev.dep, .string (strL h.ev.name), .slice A m c, .string (strL h.ev.text), .int .i64 h.ev.fr, .int .i64 h.ev.tt, .int .i64 h.kd, .int .i64 h.par, .bool h.op, .string (strL h.txt), .int .i64 h.bg, .int .i64 h.en] 79)).alloc (.cells #[.int .i64 x.op, .slice aa x.args.length ac, .slice pa x.path.length pc, .string (strL x.attr), .int .i64 x.cmp, .string (strL x.text), .int .i64 x.num] 30)) = w3 at *
    go_loopw [18] (fun jv wr => ∃ j : Nat, jv = .int .i64 j ∧ j ≤ m ∧ Hid (Below (w.heap.size + 2) w3 wr ∧ ∀ i (hi : i < ats.length), i < j → (ats[i].1 == x.attr) = false)) (fun jv _ => m - (intOf jv).toNat)
    case atStart => exact ⟨0, rfl, Nat.zero_le _, Lib.hid ⟨HBR.out, fun _ _ h => absurd h (Nat.not_lt_zero _)⟩⟩
    case round =>
      obtain ⟨j, rfl, hjm, HJ⟩ := hrel
      by_cases hlt : j < m
      · have hjl : j < ats.length := by rw [← HMA.out]; exact hlt
        obtain ⟨ab, ao, rfl, hab, k0, k1⟩ := (HA.out.below (HB0.out _ HJ.out.1).1).2 j hjl
        have hcmp : ((strL ats[j].1).toList == (strL x.attr).toList) = decide (ats[j].1 = x.attr) := strL_cmpH _ _
        have HLV := Lib.hid (HSM.out _ (List.getElem_mem hjl))
        have HFN : Hid ((∀ i (hi : i < ats.length), i < j → (ats[i].1 == x.attr) = false) → (ats[j].1 == x.attr) = true → ats.find? (fun p => p.1 == x.attr) = some ats[j]) := Lib.hid fun h1 h2 => find_stepH ats (fun p => p.1 == x.attr) j hjl h1 h2
        have HNX : Hid ((ats[j].1 == x.attr) = false → ∀ i (hi : i < ats.length), i < j + 1 → (ats[i].1 == x.attr) = false) := Lib.hid fun h2 i hi hij => by
          rcases Nat.lt_or_ge i j with h | h
          · exact HJ.out.2 i hi h
          · have : i = j := by omega
            subst this; exact h2
        generalize ats[j] = p at *
        have hj1 : (j : Int) < (m : Int) := by omega
        have hj2 : (0 : Int) ≤ (j : Int) := by omega
        have ewj : IntKind.i64.wrap ((j : Int) + 1) = (j : Int) + 1 := IntWalk.i64_in _ (by omega)
        have HBW : Hid (∀ o, Below (w.heap.size + 2) w3 (wr.alloc o) ∧ w.heap.size + 2 ≤ (wr.alloc o).heap.size) := Lib.hid fun o => by
          have h2 := (HB0.out _ HJ.out.1).2.1
          exact ⟨HJ.out.1.alloc h2 o, by simp; omega⟩
        obtain ⟨_, _, _, cx⟩ := HB0.out _ (HBW.out (.cells #[.string (strL p.1), .string (strL p.2)] 89)).1
        have c3 := cx 3 (by decide)
        have c4 := cx 4 (by decide)
        have c5 := cx 5 (by decide)
        have c6 := cx 6 (by decide)
        unfold exprC at c3 c4 c5 c6
        simp only [List.getElem?_cons_succ, List.getElem?_cons_zero] at c3 c4 c5 c6
        clear cx
        cases hpx : (p.1 == x.attr) with
        | true =>
          have hpe : p.1 = x.attr := by simpa using hpx
          have hcm : ((strL p.1).toList == (strL x.attr).toList) = true := by rw [hcmp, decide_eq_true hpe]
          have HF : Hid (truthI ((cmpB p.2 x.cmp x.text x.num).getD false) = R) := Lib.hid (by
            have h1 := HR.out
            rw [HFN.out HJ.out.2 hpx] at h1
            exact h1)
          have HCV := Lib.hid fun W => HCP.out p.2 W HLV.out
          clear hcmp hpx hpe
          generalize (cmpB p.2 x.cmp x.text x.num).getD false = R0 at *
          generalize (if (cmpB p.2 x.cmp x.text x.num).isSome then (0 : Int) else 4) = R1 at *
          go_wp2_with fail
          (with_reducible refine (HCV.out _).mono ?_)
          rintro e w5 ⟨rfl, hb5⟩
          have HB5 := Lib.hid ((HBW.out (.cells #[.string (strL p.1), .string (strL p.2)] 89)).1.trans (hb5.mono (HBW.out (.cells #[.string (strL p.1), .string (strL p.2)] 89)).2))
          clear hb5
          go_wp2_with fail
          (with_reducible refine (HTR.out _ _).mono ?_)
          rintro e w6 ⟨rfl, rfl⟩
          go_wp2_with fail
          go_ret
          exact ⟨ret_int HF.out, (HB0.out _ HB5.out).1⟩
        | false =>
          have hpe : ¬ p.1 = x.attr := by simpa using hpx
          have hcm : ((strL p.1).toList == (strL x.attr).toList) = false := by rw [hcmp, decide_eq_false hpe]
          have HNN := Lib.hid (HNX.out hpx)
          have HBA := Lib.hid (HBW.out (.cells #[.string (strL p.1), .string (strL p.2)] 89)).1
          clear hcmp hpx hpe
          go_wp2_with fail
          go_roundw
          case rel => exact ⟨j + 1, by go_num, by omega, Lib.hid ⟨HBA.out, HNN.out⟩⟩
          case measure => simp [intOf]; omega
      · have HF : Hid ((0 : Int) = R) := Lib.hid (by
          have h1 := HR.out
          rw [find_noneH ats _ fun i hi => HJ.out.2 i hi (by have := HMA.out; omega)] at h1
          exact h1)
        have hj1 : (m : Int) ≤ (j : Int) := by omega
        go_wp2_with fail
        go_ret
        exact ⟨ret_int HF.out, (HB0.out _ HJ.out.1).1⟩
end Go.Proofs.YtklpihaelaagpaaDoor
