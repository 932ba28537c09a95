/-
  gimletlaw06's drain: the rounds.
-/
import Derived.Test.YtjdmndpadejegaaDoorMhA
import Derived.Deep.LoopGhost
import Derived.Deep.CutRange
import Derived.Deep.CutBlock
namespace Go.Proofs.YtjdmndpadejegaaDoor
open Go.RowKit

def frLp (rb sb most i : Nat) (t : Array Value) : Array Value := #[.pointer (some ⟨rb, 0, none⟩), .pointer (some ⟨sb, 0, none⟩), .int .i64 most, slotOf t 3, slotOf t 4, slotOf t 5, .bool false, .int .i64 i, slotOf t 8, slotOf t 9, slotOf t 10, slotOf t 11, slotOf t 12, slotOf t 13, slotOf t 14, slotOf t 15, slotOf t 16, slotOf t 17, slotOf t 18, slotOf t 19, slotOf t 20, slotOf t 21, slotOf t 22, slotOf t 23, slotOf t 24, slotOf t 25, slotOf t 26, slotOf t 27, slotOf t 28, slotOf t 29, slotOf t 30, slotOf t 31, slotOf t 32, slotOf t 33, slotOf t 34, slotOf t 35, slotOf t 36, slotOf t 37, slotOf t 38, slotOf t 39, slotOf t 40, slotOf t 41, slotOf t 42, slotOf t 43, slotOf t 44, slotOf t 45, slotOf t 46, slotOf t 47, slotOf t 48, slotOf t 49, slotOf t 50, slotOf t 51, slotOf t 52, slotOf t 53, slotOf t 54, slotOf t 55, slotOf t 56, slotOf t 57, slotOf t 58, slotOf t 59, slotOf t 60, slotOf t 61, slotOf t 62, slotOf t 63, slotOf t 64, slotOf t 65, slotOf t 66, slotOf t 67, slotOf t 68, slotOf t 69, slotOf t 70, slotOf t 71, slotOf t 72, slotOf t 73, slotOf t 74, slotOf t 75, slotOf t 76, slotOf t 77, slotOf t 78, slotOf t 79, slotOf t 80, slotOf t 81, slotOf t 82, slotOf t 83, slotOf t 84, slotOf t 85, slotOf t 86, slotOf t 87, slotOf t 88, slotOf t 89, slotOf t 90, slotOf t 91, slotOf t 92, slotOf t 93, slotOf t 94, slotOf t 95, slotOf t 96, slotOf t 97, slotOf t 98, slotOf t 99, slotOf t 100, slotOf t 101, slotOf t 102, slotOf t 103, slotOf t 104, slotOf t 105, slotOf t 106, slotOf t 107, slotOf t 108, slotOf t 109, slotOf t 110, slotOf t 111, slotOf t 112, slotOf t 113, slotOf t 114, slotOf t 115, slotOf t 116, slotOf t 117, slotOf t 118, slotOf t 119]
def frNm (rb sb most i : Nat) (nm : List UInt8) (t : Array Value) : Array Value := #[.pointer (some ⟨rb, 0, none⟩), .pointer (some ⟨sb, 0, none⟩), .int .i64 most, slotOf t 3, slotOf t 4, slotOf t 5, .bool false, .int .i64 i, .string (strL nm), slotOf t 9, slotOf t 10, slotOf t 11, slotOf t 12, slotOf t 13, slotOf t 14, slotOf t 15, slotOf t 16, slotOf t 17, slotOf t 18, slotOf t 19, slotOf t 20, slotOf t 21, slotOf t 22, slotOf t 23, slotOf t 24, slotOf t 25, slotOf t 26, slotOf t 27, slotOf t 28, slotOf t 29, slotOf t 30, slotOf t 31, slotOf t 32, slotOf t 33, slotOf t 34, slotOf t 35, slotOf t 36, slotOf t 37, slotOf t 38, slotOf t 39, slotOf t 40, slotOf t 41, slotOf t 42, slotOf t 43, slotOf t 44, slotOf t 45, slotOf t 46, slotOf t 47, slotOf t 48, slotOf t 49, slotOf t 50, slotOf t 51, slotOf t 52, slotOf t 53, slotOf t 54, slotOf t 55, slotOf t 56, slotOf t 57, slotOf t 58, slotOf t 59, slotOf t 60, slotOf t 61, slotOf t 62, slotOf t 63, slotOf t 64, slotOf t 65, slotOf t 66, slotOf t 67, slotOf t 68, slotOf t 69, slotOf t 70, slotOf t 71, slotOf t 72, slotOf t 73, slotOf t 74, slotOf t 75, slotOf t 76, slotOf t 77, slotOf t 78, slotOf t 79, slotOf t 80, slotOf t 81, slotOf t 82, slotOf t 83, slotOf t 84, slotOf t 85, slotOf t 86, slotOf t 87, slotOf t 88, slotOf t 89, slotOf t 90, slotOf t 91, slotOf t 92, slotOf t 93, slotOf t 94, slotOf t 95, slotOf t 96, slotOf t 97, slotOf t 98, slotOf t 99, slotOf t 100, slotOf t 101, slotOf t 102, slotOf t 103, slotOf t 104, slotOf t 105, slotOf t 106, slotOf t 107, slotOf t 108, slotOf t 109, slotOf t 110, slotOf t 111, slotOf t 112, slotOf t 113, slotOf t 114, slotOf t 115, slotOf t 116, slotOf t 117, slotOf t 118, slotOf t 119]
def rnd : Code → Code
  | .seq _ (.seq (.seq _ (.block _ (.loop (.seq (.seq _ (.block _ c)) _)))) _) => c
  | .seq _ (.seq (.seq _ (.block _ (.loop (.seq _ (.seq (.block _ c) _))))) _) => c
  | c => c
def howO : Out → Nat
  | .tok _ => 0
  | .wait => 1
  | .bad _ => 2
  | .done => 3
def plO (all : List UInt8) : Out → Pl
  | .bad k => PLof all k
  | _ => plz
structure DrJ (F G : Nat) (all : List UInt8) (en : Bool) (w : World) (rb sb : Nat) (s : Dr) (how : Nat) (p : Pl) (tks : List (TokP × Value)) (S : Sn) (frR frS : Nat → Prop) : Prop where
  run : RunAt G w rb all tks s.stk s.inn how p frR
  tke : tks.map (·.1) = s.toks
  sn : SnAt G w sb S frS
  ok : SnOk F S
  eall : S.all = all
  efr : S.fr = s.fr
  een : S.ended = en
  dj : ∀ k, frR k → ¬ frS k
  dr : DrOk 1073741824 s
set_option maxRecDepth 100000 in
set_option maxHeartbeats 8000000 in
theorem drain_name (G : Nat) (w : World) (rb sb most i : Nat) (all : List UInt8) (tks : List (TokP × Value)) (s : Dr) (how : Nat) (p : Pl) (fr : Nat → Prop) (hR : RunAt G w rb all tks s.stk s.inn how p fr) (hn : s.stk.length ≤ 1073741824)
    (K : Act → World → Prop) (Q : Exit → Act → World → Prop) (a' : Act) (ha : a' = { tmps := frLp rb sb most i a'.tmps, defers := [] })
    (H : ∀ a2 d, a2 = { tmps := frNm rb sb most i s.nm a2.tmps, defers := [] } → K a2 (w.drewN d)) :
    (Code.seq (((Tryd.f19).body.bind (regNo 4)).getD .skip) (Code.seq (((Tryd.f19).body.bind (regNo 5)).getD .skip) (Code.cond (.tmp 22) (((Tryd.f19).body.bind (regNo 6)).getD .skip) Code.skip))).wp Tryd.prog (Exit.then K Q) a' w := by
  obtain ⟨tv, ov, h1, h2, h3, h4, h5, h6⟩ := hR.at'
  have hrb := heap_lt h1
  have HH := Lib.hid H
  obtain ⟨t', dd⟩ := a'
  obtain ⟨ha1, rfl⟩ := Act.mk.inj ha
  rw [ha1]
  clear ha ha1 H
  dsimp only [frLp]
  conv => arg 2; arg 1; whnf
  conv => arg 2; arg 2; arg 1; whnf
  conv => arg 2; arg 2; arg 2; arg 2; whnf
  by_cases hs : s.stk = []
  · have hnm : s.nm = [] := by unfold Dr.nm; rw [hs]; rfl
    obtain ⟨oa, oc, rfl, _⟩ := h3.slice
    have c6 : w.cell? ⟨rb, 6, none⟩ = some (.slice oa 0 oc) := by rw [cell_heap h1]; show some (Value.slice oa s.stk.length oc) = _; rw [hs]; rfl
    rw [hnm] at HH
    clear h1 h2 h3 h4 h5 h6 hR hn hs hnm
    go_wp2_with fail
    refine HH.out _ 0 ?_
    rfl
  · obtain ⟨n, hnn⟩ : ∃ n, s.stk.length = n + 1 := ⟨s.stk.length - 1, by have : 0 < s.stk.length := List.length_pos_iff.2 hs; omega⟩
    rw [hnn] at h3 hn
    obtain ⟨g, o, oc, rfl, hoc, hgl, _, hcell⟩ := h3.here
    have c6 : w.cell? ⟨rb, 6, none⟩ = some (.slice (some ⟨g, o, none⟩) (n + 1) oc) := by rw [cell_heap h1]; rfl
    have hnm : (stRow s.stk)[n]? = some (.string (strL s.nm)) := by
      unfold Dr.nm stRow
      rw [List.getElem?_map, List.getLast?_eq_getElem?, hnn, Nat.add_sub_cancel]
      obtain ⟨q, hq⟩ : ∃ q, s.stk[n]? = some q := ⟨_, List.getElem?_eq_getElem (by omega)⟩
      rw [hq]; rfl
    have cn := hcell n _ hnm
    obtain ⟨m, hm⟩ : ∃ m, n + 1 = m := ⟨_, rfl⟩
    rw [hm] at c6
    have e1 : IntKind.i64.wrap ((m : Int) - 1) = (n : Int) := by rw [IntWalk.i64_in _ (by omega)]; omega
    have hi1 : (0 : Int) ≤ (n : Int) := by omega
    have hi2 : (n : Int) < (m : Int) := by omega
    have hi3 : (0 : Int) < (m : Int) := by omega
    clear hm hoc
    clear h1 h2 h3 h4 h5 h6 hR hn hs hnm hnn hcell
    go_wp2_with fail
    go_quiet (fail)
    go_wp2_with fail
    refine HH.out _ _ ?_
    rfl
theorem run_told {G : Nat} {w : World} {rb : Nat} {all : List UInt8} {tks : List (TokP × Value)} {stk : List (List UInt8)} {inn how : Nat} {p : Pl} {fr : Nat → Prop} {tv ov : Value} (h : RunAt G w rb all tks stk inn how p fr) (h1 : w.heap[rb]? = some (.cells (runC tv how p ov inn) 61 (0, 0))) (h' : Nat) (q : Pl) :
    RunAt G (((((w.setCell ⟨rb, 1, none⟩ (.int .i64 h')).setCell ⟨rb, 2, none⟩ (.int .i64 q.byte)).setCell ⟨rb, 3, none⟩ (.int .i64 q.rune)).setCell ⟨rb, 4, none⟩ (.int .i64 q.line)).setCell ⟨rb, 5, none⟩ (.int .i64 q.col)) rb all tks stk inn h' q fr ∧
    Kp (· = rb) w (((((w.setCell ⟨rb, 1, none⟩ (.int .i64 h')).setCell ⟨rb, 2, none⟩ (.int .i64 q.byte)).setCell ⟨rb, 3, none⟩ (.int .i64 q.rune)).setCell ⟨rb, 4, none⟩ (.int .i64 q.line)).setCell ⟨rb, 5, none⟩ (.int .i64 q.col)) ∧
    (((((w.setCell ⟨rb, 1, none⟩ (.int .i64 h')).setCell ⟨rb, 2, none⟩ (.int .i64 q.byte)).setCell ⟨rb, 3, none⟩ (.int .i64 q.rune)).setCell ⟨rb, 4, none⟩ (.int .i64 q.line)).setCell ⟨rb, 5, none⟩ (.int .i64 q.col)).heap[rb]? = some (.cells (runC tv h' q ov inn) 61 (0, 0)) := by
  have hb := setCell_heap (i := 5) (setCell_heap (i := 4) (setCell_heap (i := 3) (setCell_heap (i := 2) (setCell_heap (i := 1) h1 (.int .i64 h')) (.int .i64 q.byte)) (.int .i64 q.rune)) (.int .i64 q.line)) (.int .i64 q.col)
  have hk : Kp (· = rb) w (((((w.setCell ⟨rb, 1, none⟩ (.int .i64 h')).setCell ⟨rb, 2, none⟩ (.int .i64 q.byte)).setCell ⟨rb, 3, none⟩ (.int .i64 q.rune)).setCell ⟨rb, 4, none⟩ (.int .i64 q.line)).setCell ⟨rb, 5, none⟩ (.int .i64 q.col)) := (((((Kp.refl (· = rb) w).set (.inl rfl) _ _).set (.inl rfl) _ _).set (.inl rfl) _ _).set (.inl rfl) _ _).set (.inl rfl) _ _
  exact ⟨h.head h1 hb hk, hk, hb⟩
set_option maxRecDepth 100000 in
set_option maxHeartbeats 8000000 in
theorem drain_no (w0 : World) (hL : Laid w0) (F G : Nat) (all : List UInt8) (hall : all.length ≤ 1073741824) (en : Bool) (wr : World) (hw0 : Below w0.heap.size w0 wr) (hG0 : w0.heap.size ≤ G) (hGw : G ≤ wr.heap.size) (rb sb most i : Nat) (s : Dr) (how : Nat) (p : Pl) (tks : List (TokP × Value)) (S : Sn) (fR fS : Nat → Prop)
    (hJ : DrJ F G all en wr rb sb s how p tks S fR fS) (O : Out) (hO : O.no) (fr' : Nat) (hn : nextN F all s.fr en s.inn s.nm = (O, fr'))
    (Q : Exit → Act → World → Prop) (a' : Act) (ha : a' = { tmps := frNm rb sb most i s.nm a'.tmps, defers := [] })
    (H : ∀ a2 w2 S' fS', a2.tmps.getD 6 undef = .bool true → a2.defers = [] → DrJ F G all en w2 rb sb s (howO O) (plO all O) tks S' fR fS' → Kp (fun k => fR k ∨ fS k) wr w2 → (∀ k, fS' k → fS k ∨ wr.heap.size ≤ k) → Q .ret a2 w2) :
    (sndN 2 (rnd ((Tryd.f19).body.getD .skip))).wp Tryd.prog Q a' wr := by
  obtain ⟨tv, ov, h1, h2, h3, h4, h5, h6⟩ := hJ.run.at'
  have hrb := heap_lt h1
  have hnx := next_any w0 hL F (s.inn : Int) s.nm (Nat.le_trans hJ.dr.nm (by decide)) wr hw0 sb G hG0 hGw S hJ.ok (by rw [hJ.eall]; exact hall) fS hJ.sn
  have hin : innOf (s.inn : Int) = s.inn := by
    have := hJ.dr.inn2
    unfold innOf
    by_cases h0 : s.inn = 0
    · rw [h0]; rfl
    · rw [if_neg (by omega)]
      by_cases h1 : s.inn = 1
      · rw [h1]; rfl
      · rw [if_neg (by omega)]; omega
  rw [hin] at hnx
  have c7 : wr.cell? ⟨rb, 7, none⟩ = some (.int .i64 s.inn) := by rw [cell_heap h1]; rfl
  obtain ⟨q, hq⟩ : ∃ q, plO all O = q := ⟨_, rfl⟩
  obtain ⟨h, hh⟩ : ∃ h, howO O = h := ⟨_, rfl⟩
  have HNX : Hid (Calls Tryd.prog 14 #[.pointer (some ⟨sb, 0, none⟩), .int .i64 (s.inn : Int), .string (strL s.nm)] wr fun e w' => e = .returned (.tuple #[.agg #[.int .i64 0, .string ⟨#[]⟩, .slice none 0 0, .string ⟨#[]⟩, .int .i64 0, .int .i64 0, .int .i64 0, .int .i64 0, .int .i64 0, .int .i64 0, .int .i64 0, .int .i64 0], .agg #[.int .i64 q.byte, .int .i64 q.rune, .int .i64 q.line, .int .i64 q.col], .int .i64 h]) ∧ w'.heap[rb]? = some (.cells (runC tv how p ov s.inn) 61 (0, 0)) ∧
      ∃ S' fS', SnAt G w' sb S' fS' ∧ Kp fS wr w' ∧ (∀ k, fS' k → fS k ∨ wr.heap.size ≤ k) ∧ SnOk F S' ∧ S'.all = all ∧ S'.fr = s.fr ∧ S'.ended = en) := Lib.hid (hnx.mono (by
    rintro e w' ⟨⟨fp', n1, n2, n3, n4⟩, n5⟩
    rw [hJ.eall, hJ.efr, hJ.een, hn] at n4
    obtain ⟨f1, f2, f3⟩ := S.next_fr F s.inn s.nm
    rw [hJ.eall, hJ.efr, hJ.een, hn] at f1
    have hfr : fr' = s.fr := next_no hn hO
    refine ⟨?_, (n2.block rb hrb (fun e => hJ.dj rb hJ.run.mem e)).trans h1, _, fp', n1, n2, n3, n5, by rw [f2, hJ.eall], by rw [f1, hfr], by rw [f3, hJ.een]⟩
    rw [← hq, ← hh]
    cases O with
    | tok t => exact hO.elim
    | wait => exact n4
    | done => exact n4
    | bad k => rw [show e = _ from n4, hJ.eall]; rfl))
  have hne : h ≠ 0 := by
    rw [← hh]
    cases O with
    | tok t => exact hO.elim
    | wait => decide
    | done => decide
    | bad k => exact (by decide : (2 : Nat) ≠ 0)
  have t1 : ((h : Int) != 0) = true := by simp; omega
  have HH := Lib.hid H
  have HJ := Lib.hid hJ
  rw [hq, hh] at HH
  have hsn : sb ≠ rb := fun e => hJ.dj rb hJ.run.mem (by rw [← e]; exact hJ.sn.mem)
  clear hnx hn h1 h2 h3 h4 h5 h6 H hJ hq hh hin hO hne
  obtain ⟨inn, hinn⟩ : ∃ x, s.inn = x := ⟨_, rfl⟩
  rw [hinn] at HNX c7
  have HI := Lib.hid hinn
  clear hinn
  generalize s.nm = nm at *
  obtain ⟨t', dd⟩ := a'
  obtain ⟨ha1, rfl⟩ := Act.mk.inj ha
  rw [ha1]
  clear ha ha1
  dsimp only [frNm]
  conv => arg 2; whnf
  go_wp2_with (go_at_call 14; go_loud ((with_reducible refine HNX.out.mono ?_); rintro e1 w1 ⟨rfl, hrb1, hx⟩; have HX := Lib.hid hx; have HR1 := Lib.hid hrb1; have hl1 := heap_lt hrb1; have hb2 : ∀ o o', ((w1.alloc o).alloc o').heap[rb]? = some (.cells (runC tv how p ov inn) 61 (0, 0)) := (fun o o' => (heap_alloc_old (w1.alloc o) o' (by simp; omega)).trans ((heap_alloc_old w1 o hl1).trans hrb1)); have d1 : ∀ o o', ((w1.alloc o).alloc o').cell? ⟨rb, 1, none⟩ = some (.int .i64 how) := (fun o o' => by rw [cell_heap (hb2 o o')]; rfl); have g1 : w1.cell? ⟨rb, 1, none⟩ = some (.int .i64 how) := (by rw [cell_heap hrb1]; rfl); have d2 : ∀ o o', ((w1.alloc o).alloc o').cell? ⟨rb, 2, none⟩ = some (.int .i64 p.byte) := (fun o o' => by rw [cell_heap (hb2 o o')]; rfl); have g2 : w1.cell? ⟨rb, 2, none⟩ = some (.int .i64 p.byte) := (by rw [cell_heap hrb1]; rfl); have d3 : ∀ o o', ((w1.alloc o).alloc o').cell? ⟨rb, 3, none⟩ = some (.int .i64 p.rune) := (fun o o' => by rw [cell_heap (hb2 o o')]; rfl); have g3 : w1.cell? ⟨rb, 3, none⟩ = some (.int .i64 p.rune) := (by rw [cell_heap hrb1]; rfl); have d4 : ∀ o o', ((w1.alloc o).alloc o').cell? ⟨rb, 4, none⟩ = some (.int .i64 p.line) := (fun o o' => by rw [cell_heap (hb2 o o')]; rfl); have g4 : w1.cell? ⟨rb, 4, none⟩ = some (.int .i64 p.line) := (by rw [cell_heap hrb1]; rfl); have d5 : ∀ o o', ((w1.alloc o).alloc o').cell? ⟨rb, 5, none⟩ = some (.int .i64 p.col) := (fun o o' => by rw [cell_heap (hb2 o o')]; rfl); have g5 : w1.cell? ⟨rb, 5, none⟩ = some (.int .i64 p.col) := (by rw [cell_heap hrb1]; rfl); have fz : ∀ o o' i, ((w1.alloc o).alloc o').frozen? ⟨rb, i, none⟩ = false := (fun o o' i => frozen_heap (hb2 o o')); have fz1 : ∀ i, w1.frozen? ⟨rb, i, none⟩ = false := (fun i => frozen_heap hrb1); clear hb2 hrb1; clear hx))

  obtain ⟨S', fS', x1, x2, x3, x4, x5, x6, x7⟩ := HX.out
  have hkR : ∀ k, fR k → w1.heap[k]? = wr.heap[k]? := fun k hk => x2.block k (HJ.out.run.dom k hk).2 (HJ.out.dj k hk)
  have r1 := HJ.out.run.keep x2.size hkR
  rw [HI.out] at r1
  obtain ⟨r2, r3, r4⟩ := run_told r1 HR1.out h q
  refine HH.out _ _ S' fS' (by rfl) (by rfl) ⟨(HI.out ▸ r2 : RunAt G _ rb all tks s.stk s.inn h q fR).below ?_, HJ.out.tke, ?_, x4, x5, x6, x7, ?_, HJ.out.dr⟩ ?_ x3
  · exact ((Below.refl _ _).alloc (Nat.le_refl _) _).alloc (by simp) _
  · refine (x1.keepKp r3 fun k hk e => ?_).below (((Below.refl _ _).alloc (Nat.le_refl _) _).alloc (by simp) _)
    rcases x3 k hk with h | h
    · rw [e] at h; exact HJ.out.dj rb HJ.out.run.mem h
    · omega
  · intro k hk hk2
    rcases x3 k hk2 with h | h
    · exact HJ.out.dj k hk h
    · have := (HJ.out.run.dom k hk).2; omega
  · exact (((x2.mono fun k _ h => .inr h).trans (S' := (· = rb)) r3 fun k e => .inl (.inl (by rw [e]; exact HJ.out.run.mem))).alloc _).alloc _
end Go.Proofs.YtjdmndpadejegaaDoor

namespace Go.Proofs.YtjdmndpadejegaaDoor
open Go.RowKit

theorem inn_of {n : Nat} (h : n ≤ 2) : innOf (n : Int) = n := by
  unfold innOf
  by_cases h0 : n = 0
  · rw [h0]; rfl
  · rw [if_neg (by omega)]
    by_cases h1 : n = 1
    · rw [h1]; rfl
    · rw [if_neg (by omega)]; omega
theorem own_slk {w : World} {G n : Nat} {v : Value} {xs : List Value} {e : TypeId} {sz : Nat} (h : w.ownsRow G e sz v n xs) : ∃ a c, v = .slice a n c ∧ ∀ k, v.ownBlock = some k → G ≤ k ∧ k < w.heap.size := by
  rcases h.2 with ⟨e, h0⟩ | ⟨g, cap, cur, e, hg, hh, _⟩
  · subst e; subst h0; exact ⟨none, 0, rfl, fun k e => by cases e⟩
  · subst e; exact ⟨_, cap, rfl, fun k e => by injection e with e; subst e; exact ⟨hg, heap_lt hh⟩⟩
structure TkJ (F G : Nat) (all : List UInt8) (en : Bool) (w w3 : World) (rb sb TB : Nat) (stk : List (List UInt8)) (inn : Nat) (tks : List (TokP × Value)) (S' : Sn) (fR fS fR' fS' : Nat → Prop) (t : TokP) (av : Value) (fr' : Nat) : Prop where
  run : RunAt G w3 rb all tks stk inn 0 plz fR'
  sn : SnAt G w3 sb S' fS'
  ok : SnOk F S'
  eall : S'.all = all
  efr : S'.fr = fr'
  een : S'.ended = en
  dj : ∀ k, fR' k → ¬ fS' k
  blk : w3.heap[TB]? = some (.cells (tkV t.kind t.name av (encs t.text) (PLof all t.frm) (PLof all t.fin)) 41 (0, 0))
  tbR : ¬ fR' TB
  kp : Kp (fun k => fR k ∨ fS k) w w3
  subR : ∀ k, fR' k → fR k ∨ w.heap.size ≤ k
  sub : ∀ k, fS' k → fS k ∨ w.heap.size ≤ k
  gw : G ≤ w3.heap.size
theorem TkJ.step {F G : Nat} {all : List UInt8} {en : Bool} {w w2 w3 : World} {rb sb TB : Nat} {stk stk' : List (List UInt8)} {inn inn' : Nat} {tks tks' : List (TokP × Value)} {S' : Sn} {fR fS fR' fS' fR3 : Nat → Prop} {t : TokP} {av : Value} {fr' : Nat} (h : TkJ F G all en w w2 rb sb TB stk inn tks S' fR fS fR' fS' t av fr')
    (hr : RunAt G w3 rb all tks' stk' inn' 0 plz fR3) (k : Kp fR' w2 w3) (hs : ∀ k, fR3 k → fR' k ∨ w2.heap.size ≤ k) : TkJ F G all en w w3 rb sb TB stk' inn' tks' S' fR fS fR3 fS' t av fr' where
  run := hr
  sn := h.sn.keepKp k fun j hj e => h.dj j e hj
  ok := h.ok
  eall := h.eall
  efr := h.efr
  een := h.een
  dj := fun j hj e => (hs j hj).elim (fun hj => h.dj j hj e) fun hj => by have := (h.sn.dom j e).2; omega
  blk := k.heap h.blk h.tbR
  tbR := fun e => (hs TB e).elim h.tbR fun hj => by have := heap_lt h.blk; omega
  kp := h.kp.trans k fun j hj => (h.subR j hj).elim (fun e => .inl (.inl e)) .inr
  subR := fun j hj => (hs j hj).elim (h.subR j) fun hj => .inr (Nat.le_trans h.kp.size hj)
  sub := h.sub
  gw := Nat.le_trans h.gw k.size
set_option maxRecDepth 100000 in
set_option maxHeartbeats 8000000 in
theorem drain_t1 (w0 : World) (hL : Laid w0) (F G : Nat) (all : List UInt8) (hall : all.length ≤ 1073741824) (en : Bool) (wr : World) (hw0 : Below w0.heap.size w0 wr) (hG0 : w0.heap.size ≤ G) (hGw : G ≤ wr.heap.size) (rb sb most i : Nat) (s : Dr) (how : Nat) (p : Pl) (tks : List (TokP × Value)) (S : Sn) (fR fS : Nat → Prop)
    (hJ : DrJ F G all en wr rb sb s how p tks S fR fS) (t : TokP) (fr' : Nat) (hn : nextN F all s.fr en s.inn s.nm = (.tok t, fr'))
    (Q : Exit → Act → World → Prop) (a' : Act) (ha : a' = { tmps := frNm rb sb most i s.nm a'.tmps, defers := [] })
    (hnt : tks.length ≤ 1073741824)
    (H : ∀ a2 w2 S' fR' fS' TB av, a2 = { tmps := frDr rb sb most i TB a2.tmps, defers := [] } → TkJ F G all en wr w2 rb sb TB s.stk s.inn (tks ++ [(t, av)]) S' fR fS fR' fS' t av fr' → (sndN 7 (rnd ((Tryd.f19).body.getD .skip))).wp Tryd.prog Q a2 w2) :
    (sndN 2 (rnd ((Tryd.f19).body.getD .skip))).wp Tryd.prog Q a' wr := by
  obtain ⟨tv, ov, h1, h2, h3, h4, h5, h6⟩ := hJ.run.at'
  have hrb := heap_lt h1
  have hnx := next_any w0 hL F (s.inn : Int) s.nm (Nat.le_trans hJ.dr.nm (by decide)) wr hw0 sb G hG0 hGw S hJ.ok (by rw [hJ.eall]; exact hall) fS hJ.sn
  rw [inn_of hJ.dr.inn2] at hnx
  have c7 : wr.cell? ⟨rb, 7, none⟩ = some (.int .i64 s.inn) := by rw [cell_heap h1]; rfl
  obtain ⟨kd, hkd⟩ : ∃ x, t.kind = x := ⟨_, rfl⟩
  obtain ⟨tnm, htn⟩ : ∃ x, t.name = x := ⟨_, rfl⟩
  obtain ⟨tx, htx⟩ : ∃ x, encs t.text = x := ⟨_, rfl⟩
  obtain ⟨p0, hp0⟩ : ∃ x, PLof all t.frm = x := ⟨_, rfl⟩
  obtain ⟨p1, hp1⟩ : ∃ x, PLof all t.fin = x := ⟨_, rfl⟩
  obtain ⟨an, han⟩ : ∃ x, t.attrs.length = x := ⟨_, rfl⟩
  have HNX : Hid (Calls Tryd.prog 14 #[.pointer (some ⟨sb, 0, none⟩), .int .i64 (s.inn : Int), .string (strL s.nm)] wr fun e w' => ∃ aa ac, e = .returned (.tuple #[.agg #[.int .i64 kd, .string (strL tnm), .slice aa an ac, .string (strL tx), .int .i64 p0.byte, .int .i64 p0.rune, .int .i64 p0.line, .int .i64 p0.col, .int .i64 p1.byte, .int .i64 p1.rune, .int .i64 p1.line, .int .i64 p1.col], .agg #[.int .i64 0, .int .i64 0, .int .i64 0, .int .i64 0], .int .i64 0]) ∧ w'.heap[rb]? = some (.cells (runC tv how p ov s.inn) 61 (0, 0)) ∧ AtsR w' aa t.attrs ∧ (∀ k, (Value.slice aa an ac).ownBlock = some k → wr.heap.size ≤ k ∧ k < w'.heap.size) ∧
      ∃ S' fS', SnAt G w' sb S' fS' ∧ Kp fS wr w' ∧ (∀ k, fS' k → fS k) ∧ SnOk F S' ∧ S'.all = all ∧ S'.fr = fr' ∧ S'.ended = en) := Lib.hid (hnx.mono (by
    rintro e w' ⟨⟨fp', n1, n2, n3, n4⟩, n5⟩
    rw [hJ.eall, hJ.efr, hJ.een, hn] at n4
    obtain ⟨f1, f2, f3⟩ := S.next_fr F s.inn s.nm
    rw [hJ.eall, hJ.efr, hJ.een, hn] at f1
    obtain ⟨av, m1, m2, m3⟩ := n4
    obtain ⟨aa, ac, rfl, m4⟩ := own_slk m2
    refine ⟨aa, ac, ?_, (n2.block rb hrb (fun e => hJ.dj rb hJ.run.mem e)).trans h1, AtsR.of m2, by rw [← han]; exact m4, _, fp', n1, n2, m3, n5, by rw [f2, hJ.eall], f1, by rw [f3, hJ.een]⟩
    rw [← hkd, ← htn, ← htx, ← hp0, ← hp1, ← han, m1, hJ.eall]
    rfl))
  have t1 : ((0 : Int) != 0) = false := by decide
  have HH := Lib.hid H
  have HJ := Lib.hid hJ
  have HN : Hid (t.kind = kd ∧ t.name = tnm ∧ encs t.text = tx ∧ PLof all t.frm = p0 ∧ PLof all t.fin = p1 ∧ t.attrs.length = an) := Lib.hid ⟨hkd, htn, htx, hp0, hp1, han⟩
  have hsn : sb ≠ rb := fun e => hJ.dj rb hJ.run.mem (by rw [← e]; exact hJ.sn.mem)
  clear hnx hn h1 h2 h3 h4 h5 h6 H hJ hkd htn htx hp0 hp1 han
  obtain ⟨inn, hinn⟩ : ∃ x, s.inn = x := ⟨_, rfl⟩
  rw [hinn] at HNX c7
  have HI := Lib.hid hinn
  clear hinn
  generalize s.nm = nm at *
  obtain ⟨t', dd⟩ := a'
  obtain ⟨ha1, rfl⟩ := Act.mk.inj ha
  rw [ha1]
  clear ha ha1
  dsimp only [frNm]
  conv => arg 2; whnf
  go_upto_region 12 with (go_at_call 14; go_loud ((with_reducible refine HNX.out.mono ?_); rintro e1 w1 ⟨aa, ac, rfl, hrb1, hx⟩; have HX := Lib.hid hx; have HR1 := Lib.hid hrb1; have hl1 := heap_lt hrb1; have hb2 : ∀ o o', ((w1.alloc o).alloc o').heap[rb]? = some (.cells (runC tv how p ov inn) 61 (0, 0)) := (fun o o' => (heap_alloc_old (w1.alloc o) o' (by simp; omega)).trans ((heap_alloc_old w1 o hl1).trans hrb1)); have d1 : ∀ o o', ((w1.alloc o).alloc o').cell? ⟨rb, 1, none⟩ = some (.int .i64 how) := (fun o o' => by rw [cell_heap (hb2 o o')]; rfl); have g1 : w1.cell? ⟨rb, 1, none⟩ = some (.int .i64 how) := (by rw [cell_heap hrb1]; rfl); have d2 : ∀ o o', ((w1.alloc o).alloc o').cell? ⟨rb, 2, none⟩ = some (.int .i64 p.byte) := (fun o o' => by rw [cell_heap (hb2 o o')]; rfl); have g2 : w1.cell? ⟨rb, 2, none⟩ = some (.int .i64 p.byte) := (by rw [cell_heap hrb1]; rfl); have d3 : ∀ o o', ((w1.alloc o).alloc o').cell? ⟨rb, 3, none⟩ = some (.int .i64 p.rune) := (fun o o' => by rw [cell_heap (hb2 o o')]; rfl); have g3 : w1.cell? ⟨rb, 3, none⟩ = some (.int .i64 p.rune) := (by rw [cell_heap hrb1]; rfl); have d4 : ∀ o o', ((w1.alloc o).alloc o').cell? ⟨rb, 4, none⟩ = some (.int .i64 p.line) := (fun o o' => by rw [cell_heap (hb2 o o')]; rfl); have g4 : w1.cell? ⟨rb, 4, none⟩ = some (.int .i64 p.line) := (by rw [cell_heap hrb1]; rfl); have d5 : ∀ o o', ((w1.alloc o).alloc o').cell? ⟨rb, 5, none⟩ = some (.int .i64 p.col) := (fun o o' => by rw [cell_heap (hb2 o o')]; rfl); have g5 : w1.cell? ⟨rb, 5, none⟩ = some (.int .i64 p.col) := (by rw [cell_heap hrb1]; rfl); have fz : ∀ o o' i, ((w1.alloc o).alloc o').frozen? ⟨rb, i, none⟩ = false := (fun o o' i => frozen_heap (hb2 o o')); have fz1 : ∀ i, w1.frozen? ⟨rb, i, none⟩ = false := (fun i => frozen_heap hrb1); clear hb2 hrb1; clear hx))
  rename_i K hK
  obtain ⟨x1, x2, S', fS', x3, x4, x5, x6, x7, x8, x9⟩ := HX.out
  have hkR : ∀ k, fR k → w1.heap[k]? = wr.heap[k]? := fun k hk => x4.block k (HJ.out.run.dom k hk).2 (HJ.out.dj k hk)
  have r1 := HJ.out.run.keep x4.size hkR
  rw [HI.out] at r1
  obtain ⟨r2, r3, r4⟩ := run_told r1 HR1.out 0 plz
  have hsz := r3.size
  have hfr : ∀ k, fR k → k < wr.heap.size := fun k hk => (HJ.out.run.dom k hk).2
  have hfs : ∀ k, fS k → k < wr.heap.size := fun k hk => (HJ.out.sn.dom k hk).2
  have hs1 := x4.size
  obtain ⟨W5, hW5⟩ : ∃ W5, W5 = (((((w1.setCell ⟨rb, 1, none⟩ (.int .i64 0)).setCell ⟨rb, 2, none⟩ (.int .i64 0)).setCell ⟨rb, 3, none⟩ (.int .i64 0)).setCell ⟨rb, 4, none⟩ (.int .i64 0)).setCell ⟨rb, 5, none⟩ (.int .i64 0)) := ⟨_, rfl⟩
  have e5 : W5.heap.size = w1.heap.size := by rw [hW5]; simp [World.setCell]
  replace r2 : RunAt G W5 rb all tks s.stk inn 0 plz fR := by rw [hW5]; exact r2
  replace r3 : Kp (· = rb) w1 W5 := by rw [hW5]; exact r3
  rw [← hW5]
  have hB : ∀ o o', Below W5.heap.size W5 ((W5.alloc o).alloc o') := fun o o' => ((Below.refl _ _).alloc (Nat.le_refl _) o).alloc (by simp) o'
  have hK5 : Kp (fun k => fR k ∨ fS k) wr W5 := (x4.mono fun k _ h => .inr h).trans (S' := (· = rb)) r3 fun k e => .inl (.inl (by rw [e]; exact HJ.out.run.mem))
  clear hsz r4 hW5
  have hn := HN.out
  refine run12 G _ (by simp; omega) rb sb most i w1.heap.size all tks s.stk inn 0 plz fR (r2.below (hB _ _)) hnt t (.slice aa an ac) ?_ (fun e => by have := hfr _ e; omega) aa ac (by rw [hn.2.2.2.2.2]) ?_ ?_ K Q _ (by rfl) ?_
  · rw [hn.1, hn.2.1, hn.2.2.1, hn.2.2.2.1, hn.2.2.2.2.1, ← e5]
    exact (heap_alloc_old _ _ (by simp)).trans (heap_alloc_new _ _)
  · have y1 : AtsR W5 aa t.attrs := x1.keepB r3.size fun b o e => r3.block b (x2 b (by rw [e]; rfl)).2 fun e2 => by have := (x2 b (by rw [e]; rfl)).1; rw [e2] at this; omega
    exact y1.below (hB _ _)
  · intro k e
    have := x2 k e
    refine ⟨by omega, by simp; omega, fun e2 => by have := hfr k e2; omega⟩
  · intro a3 w3 fr3 ha3 q1 q2 q3
    refine hK _ _ (HH.out a3 w3 S' fr3 fS' w1.heap.size (.slice aa an ac) ha3 ⟨HI.out ▸ q1, ?_, x6, x7, x8, x9, ?_, ?_, ?_, ?_, ?_, fun k hk => .inl (x5 k hk), ?_⟩)
    · refine ((x3.keepKp r3 fun k hk e => ?_).below (hB _ _)).keepKp q2 fun k hk e => HJ.out.dj k e (x5 k hk)
      rw [e] at hk
      exact HJ.out.dj rb HJ.out.run.mem (x5 rb hk)
    · intro k hk e
      have h0 := hfs k (x5 k e)
      rcases q3 k hk with h | h | h
      · exact HJ.out.dj k h (x5 k e)
      · simp at h; omega
      · have := x2 k h; omega
    · refine q2.heap ?_ fun e => by have := hfr _ e; omega
      rw [hn.1, hn.2.1, hn.2.2.1, hn.2.2.2.1, hn.2.2.2.2.1, ← e5]
      exact (heap_alloc_old _ _ (by simp)).trans (heap_alloc_new _ _)
    · intro e
      rcases q3 _ e with h | h | h
      · have := hfr _ h; omega
      · simp at h; omega
      · have := x2 _ h; omega
    · exact (hK5.on (hB _ _)).trans q2 fun k e => .inl (.inl e)
    · intro k e
      rcases q3 _ e with h | h | h
      · exact .inl h
      · simp at h; exact .inr (by omega)
      · exact .inr (x2 _ h).1
    · have := q2.size; simp at this; omega
end Go.Proofs.YtjdmndpadejegaaDoor

namespace Go.Proofs.YtjdmndpadejegaaDoor
open Go.RowKit

def stkT (stk : List (List UInt8)) (t : TokP) : List (List UInt8) := if t.kind = 1 then stk ++ [t.name] else if t.kind = 2 then stk.dropLast else stk
theorem TkJ.inn {F G : Nat} {all : List UInt8} {en : Bool} {w w3 : World} {rb sb TB : Nat} {stk : List (List UInt8)} {inn : Nat} {tks : List (TokP × Value)} {S' : Sn} {fR fS fR' fS' : Nat → Prop} {t : TokP} {av : Value} {fr' : Nat} (h : TkJ F G all en w w3 rb sb TB stk inn tks S' fR fS fR' fS' t av fr')
    (n : Nat) : TkJ F G all en w (w3.setCell ⟨rb, 7, none⟩ (.int .i64 n)) rb sb TB stk n tks S' fR fS fR' fS' t av fr' := by
  obtain ⟨tv, ov, h1, _⟩ := h.run.at'
  have hk : Kp (· = rb) w3 (w3.setCell ⟨rb, 7, none⟩ (.int .i64 n)) := (Kp.refl (· = rb) w3).set (.inl rfl) _ _
  exact h.step (h.run.head h1 (setCell_heap (i := 7) h1 _) hk) (hk.mono fun k _ e => by rw [e]; exact h.run.mem) fun k e => .inl e
theorem TkJ.c7 {F G : Nat} {all : List UInt8} {en : Bool} {w w3 : World} {rb sb TB : Nat} {stk : List (List UInt8)} {inn : Nat} {tks : List (TokP × Value)} {S' : Sn} {fR fS fR' fS' : Nat → Prop} {t : TokP} {av : Value} {fr' : Nat} (h : TkJ F G all en w w3 rb sb TB stk inn tks S' fR fS fR' fS' t av fr') :
    rb < w3.heap.size ∧ w3.cell? ⟨rb, 7, none⟩ = some (.int .i64 inn) ∧ w3.frozen? ⟨rb, 7, none⟩ = false ∧ TB < w3.heap.size ∧ w3.cell? ⟨TB, 0, none⟩ = some (.int .i64 t.kind) ∧ ∃ oa oc, w3.cell? ⟨rb, 6, none⟩ = some (.slice oa stk.length oc) := by
  obtain ⟨tv, ov, h1, h2, h3, _⟩ := h.run.at'
  obtain ⟨oa, oc, rfl, _⟩ := h3.slice
  exact ⟨heap_lt h1, by rw [cell_heap h1]; rfl, frozen_heap h1, heap_lt h.blk, (tkv_cells h.blk).1, oa, oc, by rw [cell_heap h1]; rfl⟩
set_option maxRecDepth 100000 in
set_option maxHeartbeats 8000000 in
theorem drain_t2 (F G : Nat) (all : List UInt8) (en : Bool) (wr w2 : World) (rb sb TB most i : Nat) (stk : List (List UInt8)) (inn : Nat) (tks : List (TokP × Value)) (S' : Sn) (fR fS fR' fS' : Nat → Prop) (t : TokP) (av : Value) (fr' : Nat)
    (hT : TkJ F G all en wr w2 rb sb TB stk inn tks S' fR fS fR' fS' t av fr') (hk2 : t.kind = 2 → stk ≠ []) (hn : stk.length ≤ 1073741824)
    (Q : Exit → Act → World → Prop) (a' : Act) (ha : a' = { tmps := frDr rb sb most i TB a'.tmps, defers := [] })
    (H : ∀ a3 w3 fR3, a3 = { tmps := frDr rb sb most i TB a3.tmps, defers := [] } → TkJ F G all en wr w3 rb sb TB (stkT stk t) (if t.kind = 1 then 1 else inn) tks S' fR fS fR3 fS' t av fr' → (sndN 8 (rnd ((Tryd.f19).body.getD .skip))).wp Tryd.prog Q a3 w3) :
    (sndN 7 (rnd ((Tryd.f19).body.getD .skip))).wp Tryd.prog Q a' w2 := by
  obtain ⟨hrb, c7, f7, hTB, x0, oa, oc, c6⟩ := hT.c7
  have HT := Lib.hid hT
  have HH := Lib.hid H
  have HK2 := Lib.hid hk2
  obtain ⟨t', dd⟩ := a'
  obtain ⟨ha1, rfl⟩ := Act.mk.inj ha
  rw [ha1]
  conv => arg 2; whnf
  refine wp_seq_k fun K hK => ?_
  have HJ : Hid (∀ a w, (sndN 8 (rnd ((Tryd.f19).body.getD .skip))).wp Tryd.prog Q a w → K a w) := Lib.hid fun a w h => hK a w h
  clear hK ha ha1 H hT
  dsimp only [frDr]
  by_cases h1 : t.kind = 1
  · unfold stkT at HH
    simp only [h1, if_true] at HH
    rw [h1] at x0
    replace x0 : w2.cell? ⟨TB, 0, none⟩ = some (.int .i64 1) := x0
    have HN := Lib.hid h1
    have HNN := Lib.hid hn
    clear h1 hk2 hn c6 c7 f7
    go_upto_region 15 with fail
    rename_i K5 hK5
    refine run15 G _ HT.out.gw rb sb most i TB all tks stk inn 0 plz fR' HT.out.run HNN.out t.kind t.name av (encs t.text) (PLof all t.frm) (PLof all t.fin) HT.out.blk HT.out.tbR K5 _ _ (by rfl) ?_
    intro a3 w3 fr3 ha3 q1 q2 q3
    apply hK5
    clear hK5
    have hT3 := HT.out.step q1 q2 q3
    obtain ⟨hrb3, c73, f73, hTB3, x03, _⟩ := hT3.c7
    have HT3 := Lib.hid hT3
    clear hT3 q1 q2 q3 x0 hrb hTB
    obtain ⟨t3, dd⟩ := a3
    obtain ⟨ha1, rfl⟩ := Act.mk.inj ha3
    rw [ha1]
    clear ha1 ha3
    dsimp only [frDr]
    go_wp2_with fail
    exact HJ.out _ _ (HH.out _ _ _ (by rfl) (HT3.out.inn 1))
  · by_cases h2 : t.kind = 2
    · unfold stkT at HH
      simp only [if_neg h1, if_pos h2] at HH
      rw [h2] at x0
      replace x0 : w2.cell? ⟨TB, 0, none⟩ = some (.int .i64 2) := x0
      have hne := hk2 h2
      have hl0 : ((stk.length : Int) == 0) = false := by
        have : 0 < stk.length := List.length_pos_iff.2 hne
        simp; exact hne
      have HN := Lib.hid h2
      have HNE := Lib.hid hne
      have HNN := Lib.hid hn
      clear h1 h2 hk2 hn c7 f7 hne
      generalize hln : stk.length = n at hl0 c6
      have HLN := Lib.hid hln
      clear hln
      go_upto_region 20 with fail
      refine Code.wp_mono (fun e a w h => ?_) (run20 G _ rb sb most i TB all tks stk inn 0 plz fR' HT.out.run HNN.out HNE.out K (Exit.inBlock 2 (Exit.then K Q)) _ (by rfl) ?_)
      · cases e <;> exact h
      intro a3 w3 ha3 q1 q2
      refine HJ.out _ _ (HH.out _ _ fR' ha3 ?_)
      exact HT.out.step q1 q2 fun k e => .inl e
    · unfold stkT at HH
      simp only [if_neg h1, if_neg h2] at HH
      have t1 : ((t.kind : Int) == 1) = false := by simp; omega
      have t2 : ((t.kind : Int) == 2) = false := by simp; omega
      generalize hln : t.kind = n at t1 t2 x0
      have HLN := Lib.hid hln
      clear hln h1 h2 hk2 hn c7 f7 c6
      go_wp2_with fail
      exact HJ.out _ _ (HH.out _ _ fR' (by rfl) HT.out)
end Go.Proofs.YtjdmndpadejegaaDoor

namespace Go.Proofs.YtjdmndpadejegaaDoor
open Go.RowKit

set_option maxRecDepth 100000 in
set_option maxHeartbeats 8000000 in
theorem drain_nm (G : Nat) (w : World) (rb sb most i : Nat) (all : List UInt8) (tks : List (TokP × Value)) (s : Dr) (how : Nat) (p : Pl) (fr : Nat → Prop) (hR : RunAt G w rb all tks s.stk s.inn how p fr) (hn : s.stk.length ≤ 1073741824)
    (Q : Exit → Act → World → Prop) (a' : Act) (ha : a' = { tmps := frLp rb sb most i a'.tmps, defers := [] })
    (H : ∀ a2 d, a2 = { tmps := frNm rb sb most i s.nm a2.tmps, defers := [] } → (sndN 2 (rnd ((Tryd.f19).body.getD .skip))).wp Tryd.prog Q a2 (w.drewN d)) :
    (rnd ((Tryd.f19).body.getD .skip)).wp Tryd.prog Q a' w := by
  obtain ⟨tv, ov, h1, h2, h3, h4, h5, h6⟩ := hR.at'
  have hrb := heap_lt h1
  have HH := Lib.hid H
  obtain ⟨t', dd⟩ := a'
  obtain ⟨ha1, rfl⟩ := Act.mk.inj ha
  rw [ha1]
  clear ha ha1 H
  dsimp only [frLp]
  conv => arg 2; whnf
  refine wp_seq_k fun K0 hK0 => ?_
  have HK0 := Lib.hid hK0
  clear hK0
  go_wp2_with fail
  apply HK0.out
  clear HK0 K0
  refine wp_seq_k fun K hK => ?_
  have HJ : Hid (∀ a w, (sndN 2 (rnd ((Tryd.f19).body.getD .skip))).wp Tryd.prog Q a w → K a w) := Lib.hid fun a w h => hK a w h
  clear hK
  by_cases hs : s.stk = []
  · have hnm : s.nm = [] := by unfold Dr.nm; rw [hs]; rfl
    obtain ⟨oa, oc, rfl, _⟩ := h3.slice
    have c6 : w.cell? ⟨rb, 6, none⟩ = some (.slice oa 0 oc) := by rw [cell_heap h1]; show some (Value.slice oa s.stk.length oc) = _; rw [hs]; rfl
    rw [hnm] at HH
    clear h1 h2 h3 h4 h5 h6 hR hn hs hnm
    go_wp2_with fail
    exact HJ.out _ _ (HH.out _ 0 (by rfl))
  · obtain ⟨n, hnn⟩ : ∃ n, s.stk.length = n + 1 := ⟨s.stk.length - 1, by have : 0 < s.stk.length := List.length_pos_iff.2 hs; omega⟩
    rw [hnn] at h3 hn
    obtain ⟨g, o, oc, rfl, hoc, hgl, _, hcell⟩ := h3.here
    have c6 : w.cell? ⟨rb, 6, none⟩ = some (.slice (some ⟨g, o, none⟩) (n + 1) oc) := by rw [cell_heap h1]; rfl
    have hnm : (stRow s.stk)[n]? = some (.string (strL s.nm)) := by
      unfold Dr.nm stRow
      rw [List.getElem?_map, List.getLast?_eq_getElem?, hnn, Nat.add_sub_cancel]
      obtain ⟨q, hq⟩ : ∃ q, s.stk[n]? = some q := ⟨_, List.getElem?_eq_getElem (by omega)⟩
      rw [hq]; rfl
    have cn := hcell n _ hnm
    obtain ⟨m, hm⟩ : ∃ m, n + 1 = m := ⟨_, rfl⟩
    rw [hm] at c6
    have e1 : IntKind.i64.wrap ((m : Int) - 1) = (n : Int) := by rw [IntWalk.i64_in _ (by omega)]; omega
    have hi1 : (0 : Int) ≤ (n : Int) := by omega
    have hi2 : (n : Int) < (m : Int) := by omega
    have hi3 : (0 : Int) < (m : Int) := by omega
    clear hm hoc
    clear h1 h2 h3 h4 h5 h6 hR hn hs hnm hnn hcell
    go_wp2_with fail
    go_quiet (fail)
    go_wp2_with fail
    exact HJ.out _ _ (HH.out _ _ (by rfl))
theorem frLp_of {rb sb most i TB : Nat} {a : Act} (h : a = { tmps := frDr rb sb most i TB a.tmps, defers := [] }) : a = { tmps := frLp rb sb most i a.tmps, defers := [] } := by
  obtain ⟨t, d⟩ := a
  obtain ⟨h1, rfl⟩ := Act.mk.inj h
  dsimp only at h1 ⊢
  rw [h1]
  rfl
set_option maxRecDepth 100000 in
set_option maxHeartbeats 8000000 in
theorem drain_t3 (F G : Nat) (all : List UInt8) (en : Bool) (wr w2 : World) (rb sb TB most i : Nat) (stk : List (List UInt8)) (inn : Nat) (tks : List (TokP × Value)) (S' : Sn) (fR fS fR' fS' : Nat → Prop) (t : TokP) (av : Value) (fr' : Nat)
    (hT : TkJ F G all en wr w2 rb sb TB stk inn tks S' fR fS fR' fS' t av fr')
    (Q : Exit → Act → World → Prop) (a' : Act) (ha : a' = { tmps := frDr rb sb most i TB a'.tmps, defers := [] })
    (H : ∀ a3 w3, a3 = { tmps := frDr rb sb most i TB a3.tmps, defers := [] } → TkJ F G all en wr w3 rb sb TB stk (if stk = [] ∧ t.kind ≠ 0 then 2 else inn) tks S' fR fS fR' fS' t av fr' → Q .normal a3 w3) :
    (sndN 8 (rnd ((Tryd.f19).body.getD .skip))).wp Tryd.prog Q a' w2 := by
  obtain ⟨hrb, c7, f7, hTB, x0, oa, oc, c6⟩ := hT.c7
  have HT := Lib.hid hT
  have HH := Lib.hid H
  obtain ⟨t', dd⟩ := a'
  obtain ⟨ha1, rfl⟩ := Act.mk.inj ha
  rw [ha1]
  clear ha ha1 H hT
  conv => arg 2; whnf
  dsimp only [frDr]
  by_cases h1 : stk = []
  · have hl : ((stk.length : Int) == 0) = true := by rw [h1]; rfl
    by_cases h2 : t.kind = 0
    · have t1 : ((t.kind : Int) != 0) = false := by rw [h2]; rfl
      simp only [if_neg (show ¬ (stk = [] ∧ t.kind ≠ 0) from fun h => h.2 h2)] at HH
      generalize stk.length = n at hl c6
      generalize hkd : t.kind = kd at t1 x0
      clear h1 h2 hkd
      go_wp2_with fail
      exact HH.out _ _ (by rfl) HT.out
    · have t1 : ((t.kind : Int) != 0) = true := by simp; omega
      simp only [if_pos (show (stk = [] ∧ t.kind ≠ 0) from ⟨h1, h2⟩)] at HH
      generalize stk.length = n at hl c6
      generalize hkd : t.kind = kd at t1 x0
      clear h1 h2 hkd
      go_wp2_with fail
      exact HH.out _ _ (by rfl) (HT.out.inn 2)
  · have hl : ((stk.length : Int) == 0) = false := by
      have : 0 < stk.length := List.length_pos_iff.2 h1
      simp; exact h1
    simp only [if_neg (show ¬ (stk = [] ∧ t.kind ≠ 0) from fun h => h1 h.1)] at HH
    generalize stk.length = n at hl c6
    clear h1
    go_wp2_with fail
    exact HH.out _ _ (by rfl) HT.out
theorem DrJ.drewN {F G : Nat} {all : List UInt8} {en : Bool} {w : World} {rb sb : Nat} {s : Dr} {how : Nat} {p : Pl} {tks : List (TokP × Value)} {S : Sn} {fR fS : Nat → Prop} (h : DrJ F G all en w rb sb s how p tks S fR fS) (d : Nat) : DrJ F G all en (w.drewN d) rb sb s how p tks S fR fS :=
  { h with run := h.run.keep (Nat.le_refl _) fun _ _ => rfl, sn := h.sn.keep (Nat.le_refl _) fun _ _ => rfl }
theorem drain_rnd (w0 : World) (hL : Laid w0) (F G : Nat) (all : List UInt8) (hall : all.length ≤ 1073741824) (en : Bool) (w : World) (hw0 : Below w0.heap.size w0 w) (hG0 : w0.heap.size ≤ G) (hGw : G ≤ w.heap.size) (rb sb most i : Nat) (s : Dr) (how : Nat) (p : Pl) (tks : List (TokP × Value)) (S : Sn) (fR fS : Nat → Prop)
    (hJ : DrJ F G all en w rb sb s how p tks S fR fS) (hfr : s.fr ≤ all.length) (htk : s.toks.length ≤ s.fr)
    (Q : Exit → Act → World → Prop) (a' : Act) (ha : a' = { tmps := frLp rb sb most i a'.tmps, defers := [] })
    (H1 : ∀ t fr', nextN F all s.fr en s.inn s.nm = (.tok t, fr') → ∀ a4 w4 tks' S' fR' fS', a4 = { tmps := frLp rb sb most i a4.tmps, defers := [] } → DrJ F G all en w4 rb sb (s.go t fr') 0 plz tks' S' fR' fS' → Kp (fun k => fR k ∨ fS k) w w4 → (∀ k, fR' k → fR k ∨ w.heap.size ≤ k) → (∀ k, fS' k → fS k ∨ w.heap.size ≤ k) → Q .normal a4 w4)
    (H2 : ∀ O fr', O.no → nextN F all s.fr en s.inn s.nm = (O, fr') → ∀ a2 w2 S' fS', a2.tmps.getD 6 undef = .bool true → a2.defers = [] → DrJ F G all en w2 rb sb s (howO O) (plO all O) tks S' fR fS' → Kp (fun k => fR k ∨ fS k) w w2 → (∀ k, fS' k → fS k ∨ w.heap.size ≤ k) → Q .ret a2 w2) :
    (rnd ((Tryd.f19).body.getD .skip)).wp Tryd.prog Q a' w := by
  have htl : tks.length ≤ 1073741824 := by rw [← List.length_map (f := (·.1)), hJ.tke]; omega
  have hsl : s.stk.length ≤ 1073741824 := by have := hJ.dr.stl; omega
  refine drain_nm G w rb sb most i all tks s how p fR hJ.run hsl Q a' ha fun a2 d ha2 => ?_
  have hJd := hJ.drewN d
  have hwd : Below w0.heap.size w0 (w.drewN d) := ⟨hw0.os, hw0.tape, hw0.output, hw0.size, hw0.block⟩
  rcases hn : nextN F all s.fr en s.inn s.nm with ⟨O, fr'⟩
  by_cases hO : O.no
  · exact drain_no w0 hL F G all hall en (w.drewN d) hwd hG0 hGw rb sb most i s how p tks S fR fS hJd O hO fr' hn Q a2 ha2 fun a3 w3 S' fS' h1 h2 h3 h4 h5 => H2 O fr' hO hn a3 w3 S' fS' h1 h2 h3 ⟨h4.os, h4.tape, h4.output, h4.size, h4.block⟩ h5
  · cases O with
    | wait => exact (hO trivial).elim
    | done => exact (hO trivial).elim
    | bad k => exact (hO trivial).elim
    | tok t =>
      obtain ⟨n1, n2, n3⟩ := next_tok hn
      refine drain_t1 w0 hL F G all hall en (w.drewN d) hwd hG0 hGw rb sb most i s how p tks S fR fS hJd t fr' hn Q a2 ha2 htl fun a3 w3 S' fR' fS' TB av ha3 hT => ?_
      refine drain_t2 F G all en _ w3 rb sb TB most i s.stk s.inn _ S' fR fS fR' fS' t av fr' hT (fun e => hJ.dr.stk1 (n1 e)) hsl Q a3 ha3 fun a4 w4 fR4 ha4 hT4 => ?_
      refine drain_t3 F G all en _ w4 rb sb TB most i _ _ _ S' fR fS fR4 fS' t av fr' hT4 Q a4 ha4 fun a5 w5 ha5 hT5 => ?_
      have hnm : t.name.length ≤ 1073741824 := n3.elim (fun h => Nat.le_trans h hall) fun h => by rw [h]; exact hJ.dr.nm
      refine H1 t fr' hn a5 w5 _ S' fR4 fS' (frLp_of ha5) ⟨hT5.run, ?_, hT5.sn, hT5.ok, hT5.eall, hT5.efr, hT5.een, hT5.dj, hJ.dr.go t fr' hnm⟩ ⟨hT5.kp.os, hT5.kp.tape, hT5.kp.output, hT5.kp.size, hT5.kp.block⟩ hT5.subR hT5.sub
      rw [List.map_append, hJ.tke]
      rfl
end Go.Proofs.YtjdmndpadejegaaDoor
