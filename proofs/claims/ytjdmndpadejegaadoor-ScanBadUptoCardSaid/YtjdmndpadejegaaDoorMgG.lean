/-
  Scan, plain law: a step of the scanner, and the steps up to a tag.
-/
import Derived.Test.YtjdmndpadejegaaDoorMgF
import Derived.Test.YtjdmndpadejegaaDoorMgA
import Derived.Test.YtjdmndpadejegaaDoorProg
import Derived.OwnWalk
namespace Go.Proofs.YtjdmndpadejegaaDoor
open Go.RowKit

inductive Mk where
  | com
  | sec (t : List Nat)
  | tag (t : Tok)
  | skip
  | put (r : Nat) (w : Bool)
def bangF (F inn : Nat) (l : List UInt8) : Sc Mk := pk l fun x l =>
  if x.toNat = 91 ∧ inn = 1 then (lit [91, 67, 68, 65, 84, 65, 91] l).next l fun _ l => (secGo F false [] l).next l fun t l => doneP (.sec t) l
  else (lit [45, 45] l).next l fun _ l => (comGo F 0 l).next l fun _ l => doneP .com l
theorem det_bang (F inn : Nat) : Det 0 (bangF F inn) := by
  refine det_pk (fun x => det_if _ ((det_lit _).next0 fun _ => (det_sec F false []).next0 fun t => det_done _) ((det_lit _).next0 fun _ => (det_com F 0).next0 fun _ => det_done _)) fun x => ?_
  split <;> rfl
def lessF (F inn : Nat) (name : List UInt8) (l : List UInt8) : Sc Mk := pk l fun x l =>
  if x.toNat = 33 then on1 (bangF F inn) l else if inn = 2 then badP l else if x.toNat = 47 ∧ inn = 1 then on1 (fun l => (endF F name l).next l fun t l => doneP (.tag t) l) l
  else (openF F l).next l fun t l => doneP (.tag t) l
theorem open_nil (F : Nat) : openF F [] = .wait := rfl
theorem det_less (F inn : Nat) (name : List UInt8) : Det 0 (lessF F inn name) := by
  refine det_pk (fun x => det_if _ (det_on1 (det_bang F inn)) (det_if _ (det_bad 0) (det_if _ (det_on1 ((det_endF F name).next0 fun t => det_done _)) ((det_open F).next0 fun t => det_done _)))) fun x => ?_
  split
  · rfl
  · split
    · rfl
    · split
      · rfl
      · rw [open_nil]; rfl
def stepF (F inn : Nat) (name : List UInt8) (two : Bool) (l : List UInt8) : Sc Mk := pk l fun x l =>
  if x.toNat = 60 then on1 (lessF F inn name) l else if inn ≠ 1 then (if blankB x = true then on1 (doneP .skip) l else badP l)
  else if x.toNat = 38 then (refL l).next l fun r l => doneP (.put r false) l else if x.toNat = 62 ∧ two = true then badP l else (charL 0 l).next l fun r l => doneP (.put r true) l
theorem det_step (F inn : Nat) (name : List UInt8) (two : Bool) : Det 0 (stepF F inn name two) := by
  refine det_pk (fun x => det_if _ (det_on1 (det_less F inn name)) (det_if _ (det_if _ (det_on1 (det_done _)) (det_bad 0)) (det_if _ (det_ref.next0 fun r => det_done _) (det_if _ (det_bad 0) ((det_char 0 (.inl rfl)).next0 fun r => det_done _))))) fun x => ?_
  split
  · rfl
  · split
    · split <;> rfl
    · split
      · rw [refL_nil]; rfl
      · split <;> rfl
structure St where
  i : Nat
  beg : Int
  br : Nat
  text : List Nat
  cr : Bool
def St.zero : St := ⟨0, -1, 0, [], false⟩
def St.act (σ : St) (a : Mk) (n : Nat) : St :=
  match a with
  | .com => { σ with i := σ.i + n, br := 0, cr := false }
  | .sec t => { i := σ.i + n, beg := if σ.text = [] ∧ t ≠ [] then (σ.i : Int) else σ.beg, br := 0, text := σ.text ++ t, cr := false }
  | .tag _ => σ
  | .skip => { σ with i := σ.i + n, cr := false }
  | .put r w =>
    if w = true ∧ r = 10 ∧ σ.cr = true then { σ with i := σ.i + n, br := 0, cr := false }
    else { i := σ.i + n, beg := if σ.text = [] then (σ.i : Int) else σ.beg, br := if w = true ∧ r = 93 then σ.br + 1 else 0, text := σ.text ++ [if w = true ∧ r = 13 then 10 else r], cr := decide (w = true ∧ r = 13) }
def goF (F inn : Nat) (name : List UInt8) : Nat → St → List UInt8 → St × Sc Tok
  | 0, σ, _ => (σ, .wait)
  | f + 1, σ, l =>
    match stepF F inn name (decide (2 ≤ σ.br)) l with
    | .wait => (σ, .wait)
    | .bad n => (σ, .bad (σ.i + n))
    | .ok (.tag t) n => (σ, .ok t (σ.i + n))
    | .ok a n => goF F inn name f (σ.act a n) (l.drop n)
theorem step_pos (F inn : Nat) (name : List UInt8) (two : Bool) (l : List UInt8) (a : Mk) (n : Nat) (h : stepF F inn name two l = .ok a n) : 1 ≤ n ∧ n ≤ l.length := by
  obtain ⟨h1, h2, h3⟩ := (det_step F inn name two).ok _ _ _ h
  refine ⟨?_, h1⟩
  rcases Nat.eq_zero_or_pos n with rfl | h0
  · have := h2 []
    rw [Nat.add_zero, List.take_zero, List.nil_append] at this
    cases this
  · exact h0
theorem act_i (σ : St) (a : Mk) (n : Nat) (h : ∀ t, a ≠ .tag t) : (σ.act a n).i = σ.i + n := by
  cases a with
  | tag t => exact absurd rfl (h t)
  | put r w => simp only [St.act]; split <;> rfl
  | com => rfl
  | sec t => rfl
  | skip => rfl
end Go.Proofs.YtjdmndpadejegaaDoor

namespace Go.Proofs.YtjdmndpadejegaaDoor
open Go.RowKit

structure Cu where
  i : Nat
  how : Nat
  out : Bool
  tk : Nat
  tn : List UInt8
  ta : Value
  st : Nat
  tv : Value
  beg : Int
  mi : Int
  mn : List UInt8
  mk' : Nat
  mb : Int
  mr : Nat
  mt : Value
def cuC (bv : Value) (inn : Nat) (nm : List UInt8) (c : Cu) : Array Value :=
  #[bv, .int .i64 c.i, .int .i64 inn, .string (strL nm), .int .i64 c.how, .bool c.out, .int .i64 c.tk, .string (strL c.tn), c.ta, .string (strL []), .int .i64 0, .int .i64 0, .int .i64 0, .int .i64 0, .int .i64 0, .int .i64 0, .int .i64 0, .int .i64 0,
    .int .i64 c.st, c.tv, .int .i64 c.beg, .int .i64 c.mi, .string (strL c.mn), .int .i64 c.mk', .int .i64 c.mb, .int .i64 c.mr, c.mt]
def CuAt (w : World) (cb : Nat) (bv : Value) (inn : Nat) (nm : List UInt8) (c : Cu) : Prop := w.heap[cb]? = some (.cells (cuC bv inn nm c) 77 (0, 0))
theorem CuAt.cell {w : World} {cb : Nat} {bv : Value} {inn : Nat} {nm : List UInt8} {c : Cu} (h : CuAt w cb bv inn nm c) (j : Nat) {u : Value} (hj : (cuC bv inn nm c)[j]? = some u) : w.cell? ⟨cb, j, none⟩ = some u := by
  rw [cell_heap h]; exact hj
section
variable {w : World} {cb : Nat} {bv : Value} {inn : Nat} {nm : List UInt8} {c : Cu}
theorem CuAt.c_b (h : CuAt w cb bv inn nm c) : w.cell? ⟨cb, 0, none⟩ = some bv := h.cell 0 rfl
theorem CuAt.c_i (h : CuAt w cb bv inn nm c) : w.cell? ⟨cb, 1, none⟩ = some (.int .i64 c.i) := h.cell 1 rfl
theorem CuAt.c_in (h : CuAt w cb bv inn nm c) : w.cell? ⟨cb, 2, none⟩ = some (.int .i64 inn) := h.cell 2 rfl
theorem CuAt.c_nm (h : CuAt w cb bv inn nm c) : w.cell? ⟨cb, 3, none⟩ = some (.string (strL nm)) := h.cell 3 rfl
theorem CuAt.c_how (h : CuAt w cb bv inn nm c) : w.cell? ⟨cb, 4, none⟩ = some (.int .i64 c.how) := h.cell 4 rfl
theorem CuAt.c_out (h : CuAt w cb bv inn nm c) : w.cell? ⟨cb, 5, none⟩ = some (.bool c.out) := h.cell 5 rfl
theorem CuAt.c_st (h : CuAt w cb bv inn nm c) : w.cell? ⟨cb, 18, none⟩ = some (.int .i64 c.st) := h.cell 18 rfl
theorem CuAt.c_tv (h : CuAt w cb bv inn nm c) : w.cell? ⟨cb, 19, none⟩ = some c.tv := h.cell 19 rfl
theorem CuAt.c_beg (h : CuAt w cb bv inn nm c) : w.cell? ⟨cb, 20, none⟩ = some (.int .i64 c.beg) := h.cell 20 rfl
theorem CuAt.fz (h : CuAt w cb bv inn nm c) (j : Nat) : w.frozen? ⟨cb, j, none⟩ = false := frozen_heap h
end
theorem CuAt.lt {w : World} {cb : Nat} {bv : Value} {inn : Nat} {nm : List UInt8} {c : Cu} (h : CuAt w cb bv inn nm c) : cb < w.heap.size := heap_lt h
theorem CuAt.keep {S : Nat → Prop} {w w' : World} {cb : Nat} {bv : Value} {inn : Nat} {nm : List UInt8} {c : Cu} (h : CuAt w cb bv inn nm c) (k : Kp S w w') (hn : ¬ S cb) : CuAt w' cb bv inn nm c := k.heap h hn
theorem CuAt.below {w w' : World} {cb : Nat} {bv : Value} {inn : Nat} {nm : List UInt8} {c : Cu} (h : CuAt w cb bv inn nm c) (k : Below w.heap.size w w') : CuAt w' cb bv inn nm c := (k.block cb h.lt).trans h
section
variable {w : World} {cb : Nat} {bv : Value} {inn : Nat} {nm : List UInt8} {c : Cu}
theorem CuAt.set_i (h : CuAt w cb bv inn nm c) (i : Nat) : CuAt (w.setCell ⟨cb, 1, none⟩ (.int .i64 i)) cb bv inn nm { c with i := i } := setCell_heap h _
theorem CuAt.set_iz (h : CuAt w cb bv inn nm c) (z : Int) (i : Nat) (hz : z = (i : Int)) : CuAt (w.setCell ⟨cb, 1, none⟩ (.int .i64 z)) cb bv inn nm { c with i := i } := by subst hz; exact h.set_i i
theorem CuAt.set_how (h : CuAt w cb bv inn nm c) (k : Nat) : CuAt (w.setCell ⟨cb, 4, none⟩ (.int .i64 k)) cb bv inn nm { c with how := k } := setCell_heap h _
theorem CuAt.set_out (h : CuAt w cb bv inn nm c) (b : Bool) : CuAt (w.setCell ⟨cb, 5, none⟩ (.bool b)) cb bv inn nm { c with out := b } := setCell_heap h _
theorem CuAt.set_st (h : CuAt w cb bv inn nm c) (k : Nat) : CuAt (w.setCell ⟨cb, 18, none⟩ (.int .i64 k)) cb bv inn nm { c with st := k } := setCell_heap h _
theorem CuAt.set_tv (h : CuAt w cb bv inn nm c) (v : Value) : CuAt (w.setCell ⟨cb, 19, none⟩ v) cb bv inn nm { c with tv := v } := setCell_heap h _
theorem CuAt.set_beg (h : CuAt w cb bv inn nm c) (k : Int) : CuAt (w.setCell ⟨cb, 20, none⟩ (.int .i64 k)) cb bv inn nm { c with beg := k } := setCell_heap h _
end
structure CE (w0 w : World) (cb : Nat) (a : Option Addr) (n cap : Nat) (l : List UInt8) : Prop where
  glob : Below w0.heap.size w0 w
  low : w0.heap.size ≤ cb
  sl : Sl w a n (u8s l)
  ne : ∀ b o, a = some ⟨b, o, none⟩ → b ≠ cb
  lt : ∀ b o, a = some ⟨b, o, none⟩ → b < w.heap.size
  cap : n ≤ cap
  small : n ≤ 1099511627776
section
variable {w0 w w' : World} {cb : Nat} {a : Option Addr} {n cap : Nat} {l : List UInt8}
theorem CE.len (h : CE w0 w cb a n cap l) : n = l.length := by have := h.sl.len; rwa [u8s_length] at this
theorem CE.keep {S : Nat → Prop} (h : CE w0 w cb a n cap l) (k : Kp S w w') (h1 : ∀ k, S k → w0.heap.size ≤ k) (h2 : ∀ b o, a = some ⟨b, o, none⟩ → ¬ S b) : CE w0 w' cb a n cap l :=
  ⟨h.glob.trans (k.below h.glob.size h1), h.low, k.sl h.sl h2, h.ne, fun b o e => Nat.lt_of_lt_of_le (h.lt b o e) k.size, h.cap, h.small⟩
theorem CE.keep1 (h : CE w0 w cb a n cap l) (k : Kp (· = cb) w w') : CE w0 w' cb a n cap l := h.keep k (fun _ e => by rw [e]; exact h.low) fun b o e => h.ne b o e
theorem CE.below (h : CE w0 w cb a n cap l) (k : Below w.heap.size w w') : CE w0 w' cb a n cap l := h.keep (S := fun _ => False) (Kp.of k) (fun _ e => e.elim) fun _ _ _ e => e
theorem CE.byte (h : CE w0 w cb a n cap l) {i : Nat} (hi : i < n) : ∃ b o x t, a = some ⟨b, o, none⟩ ∧ b < w.heap.size ∧ b ≠ cb ∧ l.drop i = x :: t ∧ t = l.drop (i + 1) ∧ w.cell? ⟨b, o + i, none⟩ = some (.int .u8 x.toNat) := by
  have hl := h.len
  obtain ⟨b, o, ha, hb, hc⟩ := h.sl.cell i (by rw [u8s_length]; omega)
  refine ⟨b, o, l[i]'(by omega), l.drop (i + 1), ha, hb, h.ne b o ha, by rw [List.drop_eq_getElem_cons (by omega)], rfl, ?_⟩
  rw [hc]
  simp only [u8s, List.getElem_map]
theorem CE.none (h : CE w0 w cb a n cap l) {i : Nat} (hi : n ≤ i) : l.drop i = [] := List.drop_of_length_le (by have := h.len; omega)
end
def Aft {α : Type} (c c' : Cu) : Sc α → Prop
  | .wait => ∃ i, c' = { c with i := i, how := 1 }
  | .bad k => c' = { c with i := c.i + k, how := 2 }
  | .ok _ k => c' = { c with i := c.i + k }
def Sc.good {α : Type} : Sc α → Bool
  | .ok _ _ => true
  | _ => false
theorem Aft.ok {α : Type} {c c' : Cu} {x : α} {k : Nat} : Aft c c' (Sc.ok x k) ↔ c' = { c with i := c.i + k } := Iff.rfl
theorem Aft.next {β : Type} {c c1 c2 : Cu} {k : Nat} {s : Sc β} (h : c1 = { c with i := c.i + k }) (h2 : Aft c1 c2 s) : Aft c c2 (s.up k) := by
  subst h
  cases s with
  | wait => obtain ⟨i, rfl⟩ := h2; exact ⟨i, rfl⟩
  | bad n => show c2 = _; rw [show c2 = _ from h2]; simp [Nat.add_assoc]
  | ok y n => show c2 = _; rw [show c2 = _ from h2]; simp [Nat.add_assoc]
end Go.Proofs.YtjdmndpadejegaaDoor

namespace Go.Proofs.YtjdmndpadejegaaDoor
open Go.RowKit

section
variable {w0 w : World} {cb : Nat} {a : Option Addr} {n cap : Nat} {l : List UInt8} {inn : Nat} {nm : List UInt8} {c : Cu}
theorem byte_some (hE : CE w0 w cb a n cap l) (hC : CuAt w cb (.slice a n cap) inn nm c) (x : UInt8) (t : List UInt8) (hx : l.drop c.i = x :: t) :
    Calls Tryd.prog 28 #[.pointer (some ⟨cb, 0, none⟩)] w fun e w' => e = .returned (.tuple #[.int .u8 x.toNat, .bool true]) ∧ Below w.heap.size w w' := by
  have hlt : c.i < n := by
    rcases Nat.lt_or_ge c.i n with h | h
    · exact h
    · rw [hE.none h] at hx; cases hx
  obtain ⟨b, o, x', t', rfl, hb, _, hd, _, e0⟩ := hE.byte hlt
  rw [hx] at hd
  cases hd
  have c0 := hC.c_b
  have c1 := hC.c_i
  have hsm := hE.small
  have hcb := hC.lt
  have hli : ¬ (n : Int) ≤ (c.i : Int) := by omega
  clear hE hC hx
  generalize c.i = i at *
  go_enter Tryd.func28, Tryd.ntmps28
  go_wp2_with fail
  go_quiet (fail)
  go_wp2_with fail
  go_quiet (fail)
  go_wp2_with fail
  go_ret2
  exact ⟨rfl, Below.drewN (Below.drewN (Below.refl _ _) _) _⟩
theorem byte_none (hE : CE w0 w cb a n cap l) (hC : CuAt w cb (.slice a n cap) inn nm c) (hx : l.drop c.i = []) :
    Calls Tryd.prog 28 #[.pointer (some ⟨cb, 0, none⟩)] w fun e w' => e = .returned (.tuple #[.int .u8 0, .bool false]) ∧ CuAt w' cb (.slice a n cap) inn nm { c with how := 1 } ∧ Kp (· = cb) w w' := by
  have hlt : n ≤ c.i := by
    rcases Nat.lt_or_ge c.i n with h | h
    · obtain ⟨b, o, x', t', _, _, _, hd, _⟩ := hE.byte h
      rw [hx] at hd; cases hd
    · exact h
  have c0 := hC.c_b
  have c1 := hC.c_i
  have c4 := hC.c_how
  have f4 : w.frozen? ⟨cb, 4, none⟩ = false := hC.fz 4
  have hsm := hE.small
  have hcb := hC.lt
  have hli : (n : Int) ≤ (c.i : Int) := by omega
  have HC := Lib.hid hC
  clear hE hC hx
  obtain ⟨i, hi⟩ : ∃ i, c.i = i := ⟨_, rfl⟩
  obtain ⟨hw, hhw⟩ : ∃ hw, c.how = hw := ⟨_, rfl⟩
  rw [hi] at c1 hli hlt
  rw [hhw] at c4
  clear hi hhw
  go_enter Tryd.func28, Tryd.ntmps28
  go_wp2_with fail
  go_quiet (fail)
  go_wp2_with fail
  go_ret2
  refine ⟨rfl, ?_, ?_⟩
  · exact setCell_heap HC.out _
  · exact ((Kp.refl (· = cb) w).drewN _).set (.inl rfl) _ _
theorem wrong_any (hC : CuAt w cb (.slice a n cap) inn nm c) :
    Calls Tryd.prog 31 #[.pointer (some ⟨cb, 0, none⟩)] w fun e w' => e = .returned (.bool false) ∧ CuAt w' cb (.slice a n cap) inn nm { c with how := 2 } ∧ Kp (· = cb) w w' := by
  have c4 := hC.c_how
  have f4 : w.frozen? ⟨cb, 4, none⟩ = false := hC.fz 4
  have hcb := hC.lt
  have HC := Lib.hid hC
  clear hC
  obtain ⟨hw, hhw⟩ : ∃ hw, c.how = hw := ⟨_, rfl⟩
  rw [hhw] at c4
  clear hhw
  go_enter Tryd.func31, Tryd.ntmps31
  go_wp2_with fail
  go_ret
  exact ⟨rfl, setCell_heap HC.out _, (Kp.refl (· = cb) w).set (.inl rfl) _ _⟩
theorem blank_any (x : UInt8) (w : World) :
    Calls Tryd.prog 30 #[.int .u8 x.toNat] w fun e w' => e = .returned (.bool (blankB x)) ∧ w' = w := by
  have hx := x.toNat_lt
  unfold blankB
  generalize x.toNat = n at *
  by_cases h1 : n = 32
  · subst h1
    go_enter Tryd.func30, Tryd.ntmps30
    go_wp2_with fail
    go_ret
    exact ⟨rfl, rfl⟩
  by_cases h2 : n = 9
  · subst h2
    go_enter Tryd.func30, Tryd.ntmps30
    go_wp2_with fail
    go_ret
    exact ⟨rfl, rfl⟩
  by_cases h3 : n = 10
  · subst h3
    go_enter Tryd.func30, Tryd.ntmps30
    go_wp2_with fail
    go_ret
    exact ⟨rfl, rfl⟩
  by_cases h4 : n = 13
  · subst h4
    go_enter Tryd.func30, Tryd.ntmps30
    go_wp2_with fail
    go_ret
    exact ⟨rfl, rfl⟩
  have e1 : ((n : Int) == 32) = false := by simp; omega
  have e2 : ((n : Int) == 9) = false := by simp; omega
  have e3 : ((n : Int) == 10) = false := by simp; omega
  have e4 : ((n : Int) == 13) = false := by simp; omega
  go_enter Tryd.func30, Tryd.ntmps30
  go_wp2_with fail
  go_ret
  exact ⟨ret_bool (by simp [h1, h2, h3, h4]), rfl⟩
end
end Go.Proofs.YtjdmndpadejegaaDoor

namespace Go.Proofs.YtjdmndpadejegaaDoor
open Go.RowKit

theorem w64_id (n : Int) (h0 : -9223372036854775808 ≤ n) (h1 : n ≤ 9223372036854775807) : wrap64 n = n := by unfold wrap64; omega
def BR {α : Type} (w : World) (cb : Nat) (bv : Value) (inn : Nat) (nm : List UInt8) (c : Cu) (s : Sc α) (e : Ending) (w' : World) : Prop :=
  e = .returned (.bool s.good) ∧ ∃ c', Aft c c' s ∧ CuAt w' cb bv inn nm c' ∧ Kp (· = cb) w w'
section
variable {w0 w : World} {cb : Nat} {a : Option Addr} {n cap : Nat} {l : List UInt8} {inn : Nat} {nm : List UInt8} {c : Cu}
set_option maxHeartbeats 2000000 in
theorem blanks_any (hE : CE w0 w cb a n cap l) (hC : CuAt w cb (.slice a n cap) inn nm c) (F : Nat) (hF : (l.drop c.i).length < F) :
    Calls Tryd.prog 75 #[.pointer (some ⟨cb, 0, none⟩)] w fun e w' => BR w cb (.slice a n cap) inn nm c (blanksGo F (l.drop c.i)) e w' := by
  have HE := Lib.hid hE
  have HC := Lib.hid hC
  have hcb := hC.lt
  obtain ⟨S, hS⟩ : ∃ S, blanksGo F (l.drop c.i) = S := ⟨_, rfl⟩
  rw [hS]
  have HS := Lib.hid hS
  have HF := Lib.hid hF
  have hlen := hE.len
  have hsm := hE.small
  have HLN := Lib.hid hlen
  clear hE hC hS hF hlen
  go_enter Tryd.func75, Tryd.ntmps75
  go_wp2_with fail
  go_loopw [3] (fun _ wr => ∃ (k f : Nat) (c1 : Cu), c1 = { c with i := c.i + k } ∧ Hid (CuAt wr cb (.slice a n cap) inn nm c1 ∧ Kp (· = cb) w wr ∧ (l.drop c1.i).length < f ∧ (blanksGo f (l.drop c1.i)).up k = S)) (fun _ wr => n - (match wr.cell? ⟨cb, 1, none⟩ with | some v => (intOf v).toNat | none => 0))
  case atStart => exact ⟨0, F, c, rfl, HC.out, Kp.refl _ _, HF.out, by rw [Sc.up_zero]; exact HS.out⟩
  case round =>
    obtain ⟨k, f, c1, hc1, hh⟩ := hrel
    obtain ⟨hC1, hK1, hf1, hs1⟩ := hh.out
    have hE1 := HE.out.keep1 hK1
    have HC1E := Lib.hid hc1
    clear hc1
    obtain ⟨f, rfl⟩ : ∃ g, f = g + 1 := ⟨f - 1, by omega⟩
    have HC1 := Lib.hid hC1
    have HK1 := Lib.hid hK1
    have HE1 := Lib.hid hE1
    have hcb1 := hC1.lt
    cases hx : l.drop c1.i with
    | nil =>
      have HB := Lib.hid (byte_none hE1 hC1 hx)
      rw [hx] at hs1
      have HS1 := Lib.hid hs1
      clear hh hC1 hK1 hE1 hs1 hf1 hx
      go_wp2_with (go_at_call 28; (with_reducible refine HB.out.mono ?_); rintro e w1 ⟨rfl, h1, h2⟩)
      go_ret
      refine ⟨?_, ?_⟩
      · rw [← HS1.out]; rfl
      · refine ⟨_, ?_, h1, HK1.out.trans h2 fun k e => .inl e⟩
        rw [← HS1.out]
        exact ⟨c1.i, by rw [HC1E.out]⟩
    | cons x t =>
      have HB := Lib.hid (byte_some hE1 hC1 x t hx)
      have HBL := Lib.hid (fun W => blank_any x W)
      have hlt : c1.i < n := by
        rcases Nat.lt_or_ge c1.i n with h | h
        · exact h
        · rw [hE1.none h] at hx; cases hx
      have ht : t = l.drop (c1.i + 1) := by
        have := congrArg (List.drop 1) hx
        rw [List.drop_drop] at this
        simpa using this.symm
      have hs2 : (if blankB x = true then on1 (blanksGo f) (x :: t) else retP () (x :: t)).up k = S := by rw [← hs1, hx]; rfl
      have HS2 := Lib.hid hs2
      have HT := Lib.hid ht
      rw [hx] at hf1
      have HF1 := Lib.hid hf1
      have hci := hC1.c_i
      have hfz := hC1.fz 1
      have hcl : w.heap.size ≤ wr.heap.size := hK1.size
      clear hh hC1 hK1 hE1 hs1 hf1 hx hs2 ht
      cases hb : blankB x with
      | false =>
        rw [hb] at HS2 HBL
        go_wp2_with (first | (go_at_call 28; (with_reducible refine HB.out.mono ?_); rintro e w1 ⟨rfl, hb1⟩) | (go_at_call 30; (with_reducible refine (HBL.out _).mono ?_); rintro e w2 ⟨rfl, rfl⟩))
        go_ret
        refine ⟨?_, c1, ?_, HC1.out.below hb1, HK1.out.on hb1⟩
        · rw [← HS2.out]; rfl
        · rw [← HS2.out]; exact HC1E.out
      | true =>
        rw [hb] at HS2 HBL
        have hw64 : wrap64 ((c1.i : Int) + 1) = ((c1.i + 1 : Nat) : Int) := by rw [w64_id _ (by omega) (by omega)]; simp
        go_wp2_with (first | (go_at_call 28; (with_reducible refine HB.out.mono ?_); rintro e w1 ⟨rfl, hb1⟩; have d1 := (hb1.cell (p := ⟨cb, 1, none⟩) hcb1).trans hci; have d2 := (hb1.frozen (p := ⟨cb, 1, none⟩) hcb1).trans hfz; have hb1s := hb1.size) | (go_at_call 30; (with_reducible refine (HBL.out _).mono ?_); rintro e w2 ⟨rfl, rfl⟩))
        go_roundw
        case rel =>
          have hC2 := HC1.out.below hb1
          refine ⟨k + 1, f, { c1 with i := c1.i + 1 }, by rw [HC1E.out]; simp [Nat.add_assoc], hC2.set_iz _ _ (by simp), (HK1.out.on hb1).set (.inl rfl) _ _, ?_, ?_⟩
          · have := HF1.out
            rw [HT.out] at this
            simpa using this
          · rw [← HS2.out]
            simp only [if_true]
            show _ = ((blanksGo f t).up 1).up k
            rw [Sc.up_up, HT.out]
        case measure =>
          have hC2 := (HC1.out.below hb1).set_iz ((c1.i : Int) + 1) (c1.i + 1) (by simp)
          rw [hC2.c_i, HC1.out.c_i]
          simp [intOf]; omega
set_option maxHeartbeats 2000000 in
theorem literal_any (hE : CE w0 w cb a n cap l) (hC : CuAt w cb (.slice a n cap) inn nm c) (q : List UInt8) (hq : q.length ≤ 1099511627776) :
    Calls Tryd.prog 56 #[.pointer (some ⟨cb, 0, none⟩), .string (strL q)] w fun e w' => BR w cb (.slice a n cap) inn nm c (lit q (l.drop c.i)) e w' := by
  have HE := Lib.hid hE
  have HC := Lib.hid hC
  have hcb := hC.lt
  obtain ⟨S, hS⟩ : ∃ S, lit q (l.drop c.i) = S := ⟨_, rfl⟩
  rw [hS]
  have HS := Lib.hid hS
  have hsm := hE.small
  obtain ⟨m, hm⟩ : ∃ m, (strL q).size = m := ⟨_, rfl⟩
  have hmq : m = q.length := by rw [← hm, strL_size]
  have HM := Lib.hid hm
  have HMQ := Lib.hid hmq
  have hm40 : m ≤ 1099511627776 := by omega
  clear hE hC hS hm hmq hq
  go_enter Tryd.func56, Tryd.ntmps56
  go_wp2_with fail
  go_loopw [5] (fun kx wr => ∃ (k : Nat) (c1 : Cu), kx = .int .i64 k ∧ k ≤ m ∧ c1 = { c with i := c.i + k } ∧ Hid (CuAt wr cb (.slice a n cap) inn nm c1 ∧ Kp (· = cb) w wr ∧ (lit (q.drop k) (l.drop c1.i)).up k = S)) (fun kx _ => m - (intOf kx).toNat)
  case atStart => exact ⟨0, c, rfl, Nat.zero_le _, rfl, HC.out, Kp.refl _ _, by rw [Sc.up_zero]; exact HS.out⟩
  case round =>
    obtain ⟨k, c1, rfl, hkm, hc1, hh⟩ := hrel
    obtain ⟨hC1, hK1, hs1⟩ := hh.out
    have hE1 := HE.out.keep1 hK1
    have HC1E := Lib.hid hc1
    have HC1 := Lib.hid hC1
    have HK1 := Lib.hid hK1
    have hcb1 := hC1.lt
    have hms : ((strL q).size : Int) = (m : Int) := by rw [HM.out]
    clear hc1 hh
    by_cases hk : k < m
    · have hks : k < (strL q).size := by rw [HM.out]; exact hk
      have hkq : k < q.length := by rw [← HMQ.out]; exact hk
      have hksi : (k : Int) < ((strL q).size : Int) := by omega
      obtain ⟨y, hy⟩ : ∃ y, (strL q)[k]'hks = y := ⟨_, rfl⟩
      have hy2 : q.drop k = y :: q.drop (k + 1) := by
        rw [List.drop_eq_getElem_cons hkq, ← hy]; rfl
      have hs2 : (pk (l.drop c1.i) fun x l => if x = y then on1 (lit (q.drop (k + 1))) l else badP l).up k = S := by rw [← hs1, hy2]; rfl
      cases hx : l.drop c1.i with
      | nil =>
        have HB := Lib.hid (byte_none hE1 hC1 hx)
        rw [hx] at hs2
        have HS2 := Lib.hid hs2
        clear hC1 hK1 hE1 hs1 hs2 hx hy2
        go_wp2_with (go_at_call 28; (with_reducible refine HB.out.mono ?_); rintro e w1 ⟨rfl, h1, h2⟩)
        go_ret
        refine ⟨?_, ?_⟩
        · rw [← HS2.out]; rfl
        · refine ⟨_, ?_, h1, HK1.out.trans h2 fun k e => .inl e⟩
          rw [← HS2.out]
          exact ⟨c1.i, by rw [HC1E.out]⟩
      | cons x t =>
        have HB := Lib.hid (byte_some hE1 hC1 x t hx)
        have hlt : c1.i < n := by
          rcases Nat.lt_or_ge c1.i n with h | h
          · exact h
          · rw [hE1.none h] at hx; cases hx
        have ht : t = l.drop (c1.i + 1) := by
          have := congrArg (List.drop 1) hx
          rw [List.drop_drop] at this
          simpa using this.symm
        rw [hx] at hs2
        have hs3 : (if x = y then on1 (lit (q.drop (k + 1))) (x :: t) else badP (x :: t)).up k = S := hs2
        have HS2 := Lib.hid hs3
        have HT := Lib.hid ht
        have hci := hC1.c_i
        have hfz := hC1.fz 1
        have hcl : w.heap.size ≤ wr.heap.size := hK1.size
        clear hC1 hK1 hE1 hs1 hs2 hs3 hx hy2 ht
        by_cases hxy : x = y
        · subst hxy
          have hne : ((x.toNat : Int) != (x.toNat : Int)) = false := by simp
          have hw64 : wrap64 ((c1.i : Int) + 1) = ((c1.i + 1 : Nat) : Int) := by rw [w64_id _ (by omega) (by omega)]; simp
          go_wp2_with (go_at_call 28; (with_reducible refine HB.out.mono ?_); rintro e w1 ⟨rfl, hb1⟩; have d1 := (hb1.cell (p := ⟨cb, 1, none⟩) hcb1).trans hci; have d2 := (hb1.frozen (p := ⟨cb, 1, none⟩) hcb1).trans hfz; have hb1s := hb1.size)
          go_roundw
          case rel =>
            have hC2 := HC1.out.below hb1
            refine ⟨k + 1, { c1 with i := c1.i + 1 }, by go_num, by omega, by rw [HC1E.out]; simp [Nat.add_assoc], hC2.set_iz _ _ (by simp), (HK1.out.on hb1).set (.inl rfl) _ _, ?_⟩
            rw [← HS2.out]
            simp only [if_true]
            show _ = ((lit (q.drop (k + 1)) t).up 1).up k
            rw [Sc.up_up, HT.out]
          case measure => simp [intOf]; omega
        · have hne : ((x.toNat : Int) != (y.toNat : Int)) = true := by
            simp only [bne_iff_ne, ne_eq]
            intro h
            exact hxy (UInt8.toNat_inj.1 (by omega))
          have HW := Lib.hid (fun w1 (hb : Below wr.heap.size wr w1) => wrong_any (HC1.out.below hb))
          go_wp2_with (first | (go_at_call 28; (with_reducible refine HB.out.mono ?_); rintro e w1 ⟨rfl, hb1⟩) | (go_at_call 31; (with_reducible refine (HW.out _ hb1).mono ?_); rintro e w2 ⟨rfl, h1, h2⟩))
          go_ret
          rw [if_neg hxy] at HS2
          refine ⟨?_, ?_⟩
          · rw [← HS2.out]; rfl
          · refine ⟨_, ?_, h1, (HK1.out.on hb1).trans h2 fun k e => .inl e⟩
            rw [← HS2.out]
            show _ = _
            rw [HC1E.out]
            simp
    · have hkm2 : k = m := by omega
      have hs2 : (Sc.ok () 0 : Sc Unit).up k = S := by rw [← hs1, List.drop_of_length_le (by rw [← HMQ.out]; omega)]; rfl
      have HS2 := Lib.hid hs2
      clear hC1 hE1 hs1 hs2
      go_wp2_with fail
      go_ret
      refine ⟨?_, c1, ?_, HC1.out, HK1.out⟩
      · rw [← HS2.out]; rfl
      · rw [← HS2.out]
        show _ = _
        rw [HC1E.out]
        simp
end
end Go.Proofs.YtjdmndpadejegaaDoor

namespace Go.Proofs.YtjdmndpadejegaaDoor
open Go.RowKit

theorem sl_bytes {w : World} {a : Option Addr} {n : Nat} {l : List UInt8} (hs : Sl w a n (u8s l)) (h : l ≠ []) : ∃ b o, a = some ⟨b, o, none⟩ ∧ b < w.heap.size ∧ n = l.length ∧ ∀ i, i < l.length → w.cell? ⟨b, o + i, none⟩ = some (.int .u8 (l.getD i 0).toNat) := by
  obtain ⟨b, o, rfl, hb, _⟩ := hs.cell 0 (by rw [u8s_length]; exact List.length_pos_iff.2 h)
  refine ⟨b, o, rfl, hb, by have := hs.len; rw [u8s_length] at this; exact this, fun i hi => ?_⟩
  obtain ⟨_, _, he, _, e⟩ := hs.cell i (by rw [u8s_length]; exact hi)
  injection he with he
  injection he with he1 he2
  subst he1
  subst he2
  rw [e]
  simp only [u8s, List.getElem_map, List.getD_eq_getElem?_getD, List.getElem?_eq_getElem hi, Option.getD_some]
theorem results_tmp4 {fn : Func} {t u v x : Tmp} (h : fn.results = #[.tmp t, .tmp u, .tmp v, .tmp x]) (tmps : Array Value) (P : Program) (w : World) :
    (results fn tmps).run P w = .ok (.tuple #[tmps.getD t undef, tmps.getD u undef, tmps.getD v undef, tmps.getD x undef]) w := by
  simp [results, h]
end Go.Proofs.YtjdmndpadejegaaDoor
