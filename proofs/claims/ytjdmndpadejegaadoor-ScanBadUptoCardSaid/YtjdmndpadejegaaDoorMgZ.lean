/-
  The scanner: Next's eighth region alone: the cursor takes over a mark.
-/
import Derived.Test.YtjdmndpadejegaaDoorMgX
import Derived.Test.YtjdmndpadejegaaDoorMgY
import Derived.BigRegion
import Derived.Deep.RegionHeld3
import Derived.Deep.CutRange
import Derived.Deep.CutBlock
namespace Go.Proofs.YtjdmndpadejegaaDoor
open Go.RowKit

def regNo (n : Nat) : Code → Option Code
  | .region id ops b => if id == n then some (.region id ops b) else none
  | .seq a b => match regNo n a with
    | some c => some c
    | none => regNo n b
  | .loop c => regNo n c
  | .block _ c => regNo n c
  | .scope c => regNo n c
  | .cond _ a b => match regNo n a with
    | some c => some c
    | none => regNo n b
  | _ => none
theorem mark_setK {w : World} {cb : Nat} {bv : Value} {inn : Nat} {nm : List UInt8} {c : Cu} (hC : CuAt w cb bv inn nm c) (k : Nat) (m : List UInt8) (i : Nat) (be : Int) (br : Nat) (tv : Value) :
    CuAt (w.setCells cb 21 [.int .i64 k, .string (strL m), .int .i64 i, .int .i64 be, .int .i64 br, tv]) cb bv inn nm { c with mi := k, mn := m, mk' := i, mb := be, mr := br, mt := tv } ∧ Kp (· = cb) w (w.setCells cb 21 [.int .i64 k, .string (strL m), .int .i64 i, .int .i64 be, .int .i64 br, tv]) := by
  obtain ⟨h1, h2, h3, h4, h5, h6⟩ := setCells_mid cb 77 [] [.int .i64 k, .string (strL m), .int .i64 i, .int .i64 be, .int .i64 br, tv] w
    [bv, .int .i64 c.i, .int .i64 inn, .string (strL nm), .int .i64 c.how, .bool c.out, .int .i64 c.tk, .string (strL c.tn), c.ta, .string (strL []), .int .i64 0, .int .i64 0, .int .i64 0, .int .i64 0, .int .i64 0, .int .i64 0, .int .i64 0, .int .i64 0, .int .i64 c.st, c.tv, .int .i64 c.beg]
    [.int .i64 c.mi, .string (strL c.mn), .int .i64 c.mk', .int .i64 c.mb, .int .i64 c.mr, c.mt] hC rfl
  exact ⟨h1, ⟨h4, h5, h6, Nat.le_of_eq h3.symm, fun j _ hj => h2 j hj⟩⟩
def frN0 (sb B inn : Nat) (nm : List UInt8) (t : Array Value) : Array Value := #[.pointer (some ⟨sb, 0, none⟩), .int .i64 inn, .string (strL nm), slotOf t 3, slotOf t 4, slotOf t 5, .pointer (some ⟨B, 0, none⟩), .pointer (some ⟨B + 1, 0, none⟩), .int .i64 0, slotOf t 9, slotOf t 10, slotOf t 11, slotOf t 12, slotOf t 13, slotOf t 14, slotOf t 15, slotOf t 16, slotOf t 17, slotOf t 18, slotOf t 19, slotOf t 20, slotOf t 21, slotOf t 22, slotOf t 23, slotOf t 24, slotOf t 25, slotOf t 26, slotOf t 27, slotOf t 28, slotOf t 29, slotOf t 30, slotOf t 31, slotOf t 32, slotOf t 33, slotOf t 34, slotOf t 35, slotOf t 36, slotOf t 37, slotOf t 38, slotOf t 39, slotOf t 40, slotOf t 41, slotOf t 42, slotOf t 43, slotOf t 44, slotOf t 45, slotOf t 46, slotOf t 47, slotOf t 48, slotOf t 49, slotOf t 50, slotOf t 51, slotOf t 52, slotOf t 53, slotOf t 54, slotOf t 55, slotOf t 56, slotOf t 57, slotOf t 58, slotOf t 59, slotOf t 60, slotOf t 61, slotOf t 62, slotOf t 63, slotOf t 64, slotOf t 65, slotOf t 66, slotOf t 67, slotOf t 68, slotOf t 69, slotOf t 70, slotOf t 71, slotOf t 72, slotOf t 73, slotOf t 74, slotOf t 75, slotOf t 76, slotOf t 77, slotOf t 78, slotOf t 79, slotOf t 80, slotOf t 81, slotOf t 82, slotOf t 83, slotOf t 84, slotOf t 85, slotOf t 86, slotOf t 87, slotOf t 88, slotOf t 89, slotOf t 90, slotOf t 91, slotOf t 92, slotOf t 93, slotOf t 94, slotOf t 95, slotOf t 96, slotOf t 97, slotOf t 98, slotOf t 99, slotOf t 100, slotOf t 101, slotOf t 102, slotOf t 103, slotOf t 104, slotOf t 105, slotOf t 106, slotOf t 107, slotOf t 108, slotOf t 109, slotOf t 110, slotOf t 111, slotOf t 112, slotOf t 113, slotOf t 114, slotOf t 115, slotOf t 116, slotOf t 117, slotOf t 118, slotOf t 119, slotOf t 120, slotOf t 121, slotOf t 122, slotOf t 123, slotOf t 124, slotOf t 125, slotOf t 126, slotOf t 127, slotOf t 128, slotOf t 129, slotOf t 130, slotOf t 131, slotOf t 132, slotOf t 133, slotOf t 134, slotOf t 135, slotOf t 136, slotOf t 137, slotOf t 138, slotOf t 139, slotOf t 140, slotOf t 141, slotOf t 142, slotOf t 143, slotOf t 144, slotOf t 145, slotOf t 146, slotOf t 147, slotOf t 148, slotOf t 149, slotOf t 150, slotOf t 151, slotOf t 152, slotOf t 153, slotOf t 154, slotOf t 155, slotOf t 156, slotOf t 157, slotOf t 158, slotOf t 159, slotOf t 160, slotOf t 161, slotOf t 162, slotOf t 163, slotOf t 164, slotOf t 165, slotOf t 166, slotOf t 167, slotOf t 168, slotOf t 169, slotOf t 170, slotOf t 171, slotOf t 172, slotOf t 173, slotOf t 174, slotOf t 175, slotOf t 176, slotOf t 177, slotOf t 178, slotOf t 179, slotOf t 180, slotOf t 181, slotOf t 182, slotOf t 183, slotOf t 184, slotOf t 185, slotOf t 186, slotOf t 187, slotOf t 188, slotOf t 189, slotOf t 190, slotOf t 191, slotOf t 192, slotOf t 193, slotOf t 194, slotOf t 195, slotOf t 196, slotOf t 197, slotOf t 198, slotOf t 199, slotOf t 200, slotOf t 201, slotOf t 202, slotOf t 203, slotOf t 204, slotOf t 205, slotOf t 206, slotOf t 207, slotOf t 208, slotOf t 209, slotOf t 210, slotOf t 211, slotOf t 212, slotOf t 213]
def frN1 (sb B inn : Nat) (nm : List UInt8) (t : Array Value) : Array Value := #[.pointer (some ⟨sb, 0, none⟩), .int .i64 inn, .string (strL nm), slotOf t 3, slotOf t 4, slotOf t 5, .pointer (some ⟨B, 0, none⟩), .pointer (some ⟨B + 1, 0, none⟩), .int .i64 0, .pointer (some ⟨B + 1 + 1, 0, none⟩), slotOf t 10, slotOf t 11, slotOf t 12, slotOf t 13, slotOf t 14, slotOf t 15, slotOf t 16, slotOf t 17, slotOf t 18, slotOf t 19, slotOf t 20, slotOf t 21, slotOf t 22, slotOf t 23, slotOf t 24, slotOf t 25, slotOf t 26, slotOf t 27, slotOf t 28, slotOf t 29, slotOf t 30, slotOf t 31, slotOf t 32, slotOf t 33, slotOf t 34, slotOf t 35, slotOf t 36, slotOf t 37, slotOf t 38, slotOf t 39, slotOf t 40, slotOf t 41, slotOf t 42, slotOf t 43, slotOf t 44, slotOf t 45, slotOf t 46, slotOf t 47, slotOf t 48, slotOf t 49, slotOf t 50, slotOf t 51, slotOf t 52, slotOf t 53, slotOf t 54, slotOf t 55, slotOf t 56, slotOf t 57, slotOf t 58, slotOf t 59, slotOf t 60, slotOf t 61, slotOf t 62, slotOf t 63, slotOf t 64, slotOf t 65, slotOf t 66, slotOf t 67, slotOf t 68, slotOf t 69, slotOf t 70, slotOf t 71, slotOf t 72, slotOf t 73, slotOf t 74, slotOf t 75, slotOf t 76, slotOf t 77, slotOf t 78, slotOf t 79, slotOf t 80, slotOf t 81, slotOf t 82, slotOf t 83, slotOf t 84, slotOf t 85, slotOf t 86, slotOf t 87, slotOf t 88, slotOf t 89, slotOf t 90, slotOf t 91, slotOf t 92, slotOf t 93, slotOf t 94, slotOf t 95, slotOf t 96, slotOf t 97, slotOf t 98, slotOf t 99, slotOf t 100, slotOf t 101, slotOf t 102, slotOf t 103, slotOf t 104, slotOf t 105, slotOf t 106, slotOf t 107, slotOf t 108, slotOf t 109, slotOf t 110, slotOf t 111, slotOf t 112, slotOf t 113, slotOf t 114, slotOf t 115, slotOf t 116, slotOf t 117, slotOf t 118, slotOf t 119, slotOf t 120, slotOf t 121, slotOf t 122, slotOf t 123, slotOf t 124, slotOf t 125, slotOf t 126, slotOf t 127, slotOf t 128, slotOf t 129, slotOf t 130, slotOf t 131, slotOf t 132, slotOf t 133, slotOf t 134, slotOf t 135, slotOf t 136, slotOf t 137, slotOf t 138, slotOf t 139, slotOf t 140, slotOf t 141, slotOf t 142, slotOf t 143, slotOf t 144, slotOf t 145, slotOf t 146, slotOf t 147, slotOf t 148, slotOf t 149, slotOf t 150, slotOf t 151, slotOf t 152, slotOf t 153, slotOf t 154, slotOf t 155, slotOf t 156, slotOf t 157, slotOf t 158, slotOf t 159, slotOf t 160, slotOf t 161, slotOf t 162, slotOf t 163, slotOf t 164, slotOf t 165, slotOf t 166, slotOf t 167, slotOf t 168, slotOf t 169, slotOf t 170, slotOf t 171, slotOf t 172, slotOf t 173, slotOf t 174, slotOf t 175, slotOf t 176, slotOf t 177, slotOf t 178, slotOf t 179, slotOf t 180, slotOf t 181, slotOf t 182, slotOf t 183, slotOf t 184, slotOf t 185, slotOf t 186, slotOf t 187, slotOf t 188, slotOf t 189, slotOf t 190, slotOf t 191, slotOf t 192, slotOf t 193, slotOf t 194, slotOf t 195, slotOf t 196, slotOf t 197, slotOf t 198, slotOf t 199, slotOf t 200, slotOf t 201, slotOf t 202, slotOf t 203, slotOf t 204, slotOf t 205, slotOf t 206, slotOf t 207, slotOf t 208, slotOf t 209, slotOf t 210, slotOf t 211, slotOf t 212, slotOf t 213]
def frN8 (sb B mb inn : Nat) (nm : List UInt8) (t : Array Value) : Array Value := #[.pointer (some ⟨sb, 0, none⟩), .int .i64 inn, .string (strL nm), slotOf t 3, slotOf t 4, slotOf t 5, .pointer (some ⟨B, 0, none⟩), .pointer (some ⟨B + 1, 0, none⟩), .int .i64 0, .pointer (some ⟨B + 1 + 1, 0, none⟩), .pointer (some ⟨mb, 0, none⟩), slotOf t 11, slotOf t 12, slotOf t 13, slotOf t 14, slotOf t 15, slotOf t 16, slotOf t 17, slotOf t 18, slotOf t 19, slotOf t 20, slotOf t 21, slotOf t 22, slotOf t 23, slotOf t 24, slotOf t 25, slotOf t 26, slotOf t 27, slotOf t 28, slotOf t 29, slotOf t 30, slotOf t 31, slotOf t 32, slotOf t 33, slotOf t 34, slotOf t 35, slotOf t 36, slotOf t 37, slotOf t 38, slotOf t 39, slotOf t 40, slotOf t 41, slotOf t 42, slotOf t 43, slotOf t 44, slotOf t 45, slotOf t 46, slotOf t 47, slotOf t 48, slotOf t 49, slotOf t 50, slotOf t 51, slotOf t 52, slotOf t 53, slotOf t 54, slotOf t 55, slotOf t 56, slotOf t 57, slotOf t 58, slotOf t 59, slotOf t 60, slotOf t 61, slotOf t 62, slotOf t 63, slotOf t 64, slotOf t 65, slotOf t 66, slotOf t 67, slotOf t 68, slotOf t 69, slotOf t 70, slotOf t 71, slotOf t 72, slotOf t 73, slotOf t 74, slotOf t 75, slotOf t 76, slotOf t 77, slotOf t 78, slotOf t 79, slotOf t 80, slotOf t 81, slotOf t 82, slotOf t 83, slotOf t 84, slotOf t 85, slotOf t 86, slotOf t 87, slotOf t 88, slotOf t 89, slotOf t 90, slotOf t 91, slotOf t 92, slotOf t 93, slotOf t 94, slotOf t 95, slotOf t 96, slotOf t 97, slotOf t 98, slotOf t 99, slotOf t 100, slotOf t 101, slotOf t 102, slotOf t 103, slotOf t 104, slotOf t 105, slotOf t 106, slotOf t 107, slotOf t 108, slotOf t 109, slotOf t 110, slotOf t 111, slotOf t 112, slotOf t 113, slotOf t 114, slotOf t 115, slotOf t 116, slotOf t 117, slotOf t 118, slotOf t 119, slotOf t 120, slotOf t 121, slotOf t 122, slotOf t 123, slotOf t 124, slotOf t 125, slotOf t 126, slotOf t 127, slotOf t 128, slotOf t 129, slotOf t 130, slotOf t 131, slotOf t 132, slotOf t 133, slotOf t 134, slotOf t 135, slotOf t 136, slotOf t 137, slotOf t 138, slotOf t 139, slotOf t 140, slotOf t 141, slotOf t 142, slotOf t 143, slotOf t 144, slotOf t 145, slotOf t 146, slotOf t 147, slotOf t 148, slotOf t 149, slotOf t 150, slotOf t 151, slotOf t 152, slotOf t 153, slotOf t 154, slotOf t 155, slotOf t 156, slotOf t 157, slotOf t 158, slotOf t 159, slotOf t 160, slotOf t 161, slotOf t 162, slotOf t 163, slotOf t 164, slotOf t 165, slotOf t 166, slotOf t 167, slotOf t 168, slotOf t 169, slotOf t 170, slotOf t 171, slotOf t 172, slotOf t 173, slotOf t 174, slotOf t 175, slotOf t 176, slotOf t 177, slotOf t 178, slotOf t 179, slotOf t 180, slotOf t 181, slotOf t 182, slotOf t 183, slotOf t 184, slotOf t 185, slotOf t 186, slotOf t 187, slotOf t 188, slotOf t 189, slotOf t 190, slotOf t 191, slotOf t 192, slotOf t 193, slotOf t 194, slotOf t 195, slotOf t 196, slotOf t 197, slotOf t 198, slotOf t 199, slotOf t 200, slotOf t 201, slotOf t 202, slotOf t 203, slotOf t 204, slotOf t 205, slotOf t 206, slotOf t 207, slotOf t 208, slotOf t 209, slotOf t 210, slotOf t 211, slotOf t 212, slotOf t 213]
set_option maxRecDepth 100000 in
set_option maxHeartbeats 8000000 in
theorem nx8 (sb B mb i inn : Nat) (nm m : List UInt8) (σ : St) (ta : Option Addr) (tn tc : Nat) (bv : Value) (c : Cu) (w1 : World) (a' : Act) (ha : a' = { tmps := frN8 sb B mb inn nm a'.tmps, defers := [] }) (Q : Exit → Act → World → Prop) (hne : mb ≠ B + 1 + 1)
    (hC : CuAt w1 (B + 1 + 1) bv inn nm c) (hm : w1.heap[mb]? = some (.cells (keptC i m σ (.slice ta tn tc)) 75 (0, 0)))
    (hQ : ∀ a2 w2, a2 = { tmps := frN1 sb B inn nm a2.tmps, defers := [] } → CuAt w2 (B + 1 + 1) bv inn nm { c with i := σ.i, beg := σ.beg, tv := .slice ta tn tc, mi := i, mn := m, mk' := σ.i, mb := σ.beg, mr := σ.br, mt := .slice ta tn tc } → Kp (· = B + 1 + 1) w1 w2 → Q .normal a2 w2) :
    Code.wp Tryd.prog (((Tryd.f14).body.bind (regNo 8)).getD .skip) Q a' w1 := by
  conv => arg 2; whnf
  obtain ⟨t, dd⟩ := a'
  obtain ⟨ha1, rfl⟩ := Act.mk.inj ha
  rw [ha1]
  clear ha ha1
  dsimp only [frN8]
  generalize hcbB : B + 1 + 1 = cb at *
  have HCB := Lib.hid hcbB
  clear hcbB
  have m0 : w1.cell? ⟨mb, 0, none⟩ = some (.int .i64 i) := by rw [cell_heap hm]; rfl
  have m1 : w1.cell? ⟨mb, 1, none⟩ = some (.string (strL m)) := by rw [cell_heap hm]; rfl
  have m2 : w1.cell? ⟨mb, 2, none⟩ = some (.int .i64 σ.i) := by rw [cell_heap hm]; rfl
  have m3 : w1.cell? ⟨mb, 3, none⟩ = some (.int .i64 σ.beg) := by rw [cell_heap hm]; rfl
  have m4 : w1.cell? ⟨mb, 4, none⟩ = some (.int .i64 σ.br) := by rw [cell_heap hm]; rfl
  have m5 : w1.cell? ⟨mb, 5, none⟩ = some (.slice ta tn tc) := by rw [cell_heap hm]; rfl
  have HQ := Lib.hid hQ
  have HC := Lib.hid hC
  have hcb := hC.lt
  have hmb := heap_lt hm
  have k1 := hC.c_i
  have k19 := hC.c_tv
  have k20 := hC.c_beg
  have k21 := hC.cell 21 rfl
  have k22 := hC.cell 22 rfl
  have k23 := hC.cell 23 rfl
  have k24 := hC.cell 24 rfl
  have k25 := hC.cell 25 rfl
  have k26 := hC.cell 26 rfl
  have z := fun j => hC.fz j
  have z1 := z 1
  have z19 := z 19
  have z20 := z 20
  have z21 := z 21
  have z22 := z 22
  have z23 := z 23
  have z24 := z 24
  have z25 := z 25
  have z26 := z 26
  have HK : Hid (∀ (W : World) j v, (W.drew.cell? ⟨mb, 0, none⟩ = some (.int .i64 i) ∧ W.drew.cell? ⟨mb, 1, none⟩ = some (.string (strL m)) ∧ W.drew.cell? ⟨mb, 2, none⟩ = some (.int .i64 σ.i) ∧ W.drew.cell? ⟨mb, 3, none⟩ = some (.int .i64 σ.beg) ∧ W.drew.cell? ⟨mb, 4, none⟩ = some (.int .i64 σ.br) ∧ W.drew.cell? ⟨mb, 5, none⟩ = some (.slice ta tn tc)) → ((W.setCell ⟨cb, j, none⟩ v).drew.cell? ⟨mb, 0, none⟩ = some (.int .i64 i) ∧ (W.setCell ⟨cb, j, none⟩ v).drew.cell? ⟨mb, 1, none⟩ = some (.string (strL m)) ∧ (W.setCell ⟨cb, j, none⟩ v).drew.cell? ⟨mb, 2, none⟩ = some (.int .i64 σ.i) ∧ (W.setCell ⟨cb, j, none⟩ v).drew.cell? ⟨mb, 3, none⟩ = some (.int .i64 σ.beg) ∧ (W.setCell ⟨cb, j, none⟩ v).drew.cell? ⟨mb, 4, none⟩ = some (.int .i64 σ.br) ∧ (W.setCell ⟨cb, j, none⟩ v).drew.cell? ⟨mb, 5, none⟩ = some (.slice ta tn tc))) := Lib.hid fun W j v ⟨h0, h1, h2, h3, h4, h5⟩ => by
    have e : ∀ k, (W.setCell ⟨cb, j, none⟩ v).drew.cell? ⟨mb, k, none⟩ = W.drew.cell? ⟨mb, k, none⟩ := fun k => World.cell?_of_block (w := W.drew) (w' := (W.setCell ⟨cb, j, none⟩ v).drew) (a := ⟨mb, k, none⟩) (Below.heap_setCell _ _ _ _ hne)
    exact ⟨(e 0).trans h0, (e 1).trans h1, (e 2).trans h2, (e 3).trans h3, (e 4).trans h4, (e 5).trans h5⟩
  have HS0 : Hid (w1.drew.cell? ⟨mb, 0, none⟩ = some (.int .i64 i) ∧ w1.drew.cell? ⟨mb, 1, none⟩ = some (.string (strL m)) ∧ w1.drew.cell? ⟨mb, 2, none⟩ = some (.int .i64 σ.i) ∧ w1.drew.cell? ⟨mb, 3, none⟩ = some (.int .i64 σ.beg) ∧ w1.drew.cell? ⟨mb, 4, none⟩ = some (.int .i64 σ.br) ∧ w1.drew.cell? ⟨mb, 5, none⟩ = some (.slice ta tn tc)) := Lib.hid ⟨m0, m1, m2, m3, m4, m5⟩
  clear hQ hC hm z
  go_region_held3 (fun w' => w'.cell? ⟨mb, 0, none⟩ = some (.int .i64 i) ∧ w'.cell? ⟨mb, 1, none⟩ = some (.string (strL m)) ∧ w'.cell? ⟨mb, 2, none⟩ = some (.int .i64 σ.i) ∧ w'.cell? ⟨mb, 3, none⟩ = some (.int .i64 σ.beg) ∧ w'.cell? ⟨mb, 4, none⟩ = some (.int .i64 σ.br) ∧ w'.cell? ⟨mb, 5, none⟩ = some (.slice ta tn tc)) (first | (with_reducible exact HS0.out) | (with_reducible exact HK.out _ _ _ ‹_›) | (with_reducible exact HK.out _ _ _ (HK.out _ _ _ (HK.out _ _ _ (HK.out _ _ _ (HK.out _ _ _ (HK.out _ _ _ ‹_›)))))) | fail) (fail)
  obtain rfl := HCB.out
  refine HQ.out _ _ (by rfl) ?_ ?_
  · exact ((mark_setK (((HC.out.set_i σ.i).set_beg σ.beg).set_tv (.slice ta tn tc)) i m σ.i σ.beg σ.br (.slice ta tn tc)).1).below ((Below.refl _ _).drew)
  · exact (((((Kp.refl (· = B + 1 + 1) w1).set (b := B + 1 + 1) (.inl rfl) 1 (.int .i64 σ.i)).set (b := B + 1 + 1) (.inl rfl) 20 (.int .i64 σ.beg)).set (b := B + 1 + 1) (.inl rfl) 19 (.slice ta tn tc)).trans (mark_setK (((HC.out.set_i σ.i).set_beg σ.beg).set_tv (.slice ta tn tc)) i m σ.i σ.beg σ.br (.slice ta tn tc)).2 fun k e => .inl e).drew
end Go.Proofs.YtjdmndpadejegaaDoor

namespace Go.Proofs.YtjdmndpadejegaaDoor
open Go.RowKit


def tkV (k : Nat) (q : List UInt8) (av : Value) (t : List UInt8) (p0 p1 : Pl) : Array Value := #[.int .i64 k, .string (strL q), av, .string (strL t), .int .i64 p0.byte, .int .i64 p0.rune, .int .i64 p0.line, .int .i64 p0.col, .int .i64 p1.byte, .int .i64 p1.rune, .int .i64 p1.line, .int .i64 p1.col]
def plz : Pl := ⟨0, 0, 0, 0⟩
def tkz : Array Value := tkV 0 [] (.slice none 0 0) [] plz plz
theorem results_cct {fn : Func} {p q u : Tmp} {ty tz : TypeId} (h : fn.results = #[.cell p ty, .cell q tz, .tmp u]) (tmps : Array Value) (P : Program) (w : World) (g1 g2 : Addr) (cs ds : Value)
    (hp : tmps.getD p undef = .pointer (some g1)) (hg1 : (loadVar ty g1).run P w = .ok cs w) (hq : tmps.getD q undef = .pointer (some g2)) (hg2 : (loadVar tz g2).run P w = .ok ds w) :
    (results fn tmps).run P w = .ok (.tuple #[cs, ds, tmps.getD u undef]) w := by
  have hp' : tmps[p]?.getD undef = .pointer (some g1) := by simpa using hp
  have hq' : tmps[q]?.getD undef = .pointer (some g2) := by simpa using hq
  simp [results, h, hp', hq', asAddr, hg1, hg2]
theorem tkSz : (Tryd.prog.info? 41).map (·.size) = some 12 := by kernel_rfl
theorem plSz : (Tryd.prog.info? 39).map (·.size) = some 4 := by kernel_rfl
theorem next_ret {tmps : Array Value} {ds : List Deferred} {w : World} {Post : Ending → World → Prop} (B : Nat) (cs pl : Array Value) (hcs : cs.size = 12) (hpl : pl.size = 4) (k : Value) (h6 : tmps.getD 6 undef = .pointer (some ⟨B, 0, none⟩)) (h7 : tmps.getD 7 undef = .pointer (some ⟨B + 1, 0, none⟩)) (h8 : tmps.getD 8 undef = k)
    (hg1 : w.heap[B]? = some (.cells cs 41 (0, 0))) (hg2 : w.heap[B + 1]? = some (.cells pl 39 (0, 0))) (hds : ds = []) (hP : Post (.returned (.tuple #[.agg cs, .agg pl, k])) w) : bodyPost Tryd.prog Tryd.f14 Post .ret { tmps := tmps, defers := ds } w := by
  subst h8
  subst hds
  exact ⟨rfl, _, results_cct rfl tmps Tryd.prog w ⟨B, 0, none⟩ ⟨B + 1, 0, none⟩ (.agg cs) (.agg pl) h6 (run_loadVar_row w B 41 41 cs (0, 0) _ hg1 Tryd.underlying41 rfl (by rw [hcs]; exact tkSz)) h7 (run_loadVar_row w (B + 1) 39 39 pl (0, 0) _ hg2 Tryd.underlying39 rfl (by rw [hpl]; exact plSz)), hP⟩
set_option maxRecDepth 100000 in
set_option maxHeartbeats 4000000 in
theorem next_nil (z : Int) (nm : ByteArray) (w : World) :
    Calls Tryd.prog 14 #[.pointer none, .int .i64 z, .string nm] w fun e w' => e = .returned (.tuple #[.agg tkz, .agg (plC plz), .int .i64 0]) ∧ Below w.heap.size w w' := by
  have g1 := heap_alloc_new w (.cells tkz 41)
  have g2 := heap_alloc_new (w.alloc (.cells tkz 41)) (.cells (plC plz) 39)
  have hb : Below w.heap.size w ((w.alloc (.cells tkz 41)).alloc (.cells (plC plz) 39)) := ((Below.refl _ w).alloc (Nat.le_refl _) _).alloc (by simp) _
  rw [World.size_alloc] at g2
  have G1 := Lib.hid ((Below.heap_alloc _ (.cells (plC plz) 39) w.heap.size (by simp)).trans g1)
  have G2 := Lib.hid g2
  have HB := Lib.hid hb
  clear g1 g2 hb
  go_enter Tryd.func14, Tryd.ntmps14
  go_wp2_with fail
  exact next_ret w.heap.size tkz (plC plz) rfl rfl (.int .i64 0) rfl rfl rfl G1.out G2.out rfl ⟨rfl, HB.out⟩
structure NxI (G : Nat) (w : World) (sb : Nat) (rv mv : Value) (fp : Nat → Prop) (o : Option (Nat × List UInt8 × St)) (inn : Nat) (nm : List UInt8) (a : Option Addr) (σ : St) (w1 : World) : Prop where
  bel : Below w.heap.size w w1
  tk : w1.heap[w.heap.size]? = some (.cells tkz 41 (0, 0))
  pl : w1.heap[w.heap.size + 1]? = some (.cells (plC plz) 39 (0, 0))
  cu : ∃ c, CuAt w1 (w.heap.size + 1 + 1) rv inn nm c ∧ c.i = σ.i ∧ c.beg = σ.beg ∧ c.mr = σ.br ∧ c.how = 0 ∧ c.out = false ∧ TX G (w.heap.size + 1 + 1) a w1 c.tv σ.text ∧ c.ta = .slice none 0 0 ∧
    (∀ k, c.tv.ownBlock = some k → fp k ∧ k ≠ sb ∧ rv.ownBlock ≠ some k) ∧ ∀ W, Kp (SV (w.heap.size + 1 + 1) c.tv) w1 W → TX G (w.heap.size + 1 + 1) a W c.tv σ.text → MkAt G W sb rv mv fp o
def J0 (w : World) (sb : Nat) (inn : Nat) (nm : List UInt8) (a' : Act) (wr : World) : Prop :=
  a' = { tmps := frN0 sb w.heap.size inn nm a'.tmps, defers := [] } ∧ wr = (w.alloc (.cells tkz 41)).alloc (.cells (plC plz) 39)
def J1 (G : Nat) (w : World) (sb : Nat) (rv mv : Value) (fp : Nat → Prop) (o : Option (Nat × List UInt8 × St)) (inn : Nat) (nm : List UInt8) (a : Option Addr) (σ : St) (a' : Act) (wr : World) : Prop :=
  a' = { tmps := frN1 sb w.heap.size inn nm a'.tmps, defers := [] } ∧ NxI G w sb rv mv fp o inn nm a σ wr
def sndN : Nat → Code → Code
  | 0, c => c
  | n + 1, .seq _ c => sndN n c
  | _ + 1, c => c
def cuZ : Cu := ⟨0, 0, false, 0, [], .slice none 0 0, 0, .slice none 0 0, -1, 0, [], 0, 0, 0, .slice none 0 0⟩
theorem str_eqb (a b : List UInt8) : ((strL a).toList == (strL b).toList) = decide (a = b) := by
  rw [Lib.toList_data, Lib.toList_data, strL_data, strL_data]
  by_cases h : a = b <;> simp [h]
set_option maxRecDepth 100000 in
set_option maxHeartbeats 4000000 in
theorem next_of {Post : Ending → World → Prop} (z : Int) (nm : List UInt8) (w : World) (sb : Nat) (G : Nat) (S : Sn) (fp : Nat → Prop) (hdom : ∀ k, fp k → k < w.heap.size) (hGw : G ≤ w.heap.size) (ra : Option Addr) (rc : Nat) (p : Pl) (e : Bool) (mv : Value)
    (h1 : w.heap[sb]? = some (.cells (scnC (.slice ra S.rest.length rc) p e mv) 71 (0, 0))) (h4 : MkAt G w sb (.slice ra S.rest.length rc) mv fp S.mk')
    (H : ∀ a' wr, J1 G w sb (.slice ra S.rest.length rc) mv fp S.mk' (innOf z) nm ra (S.start (innOf z) nm) a' wr → (sndN 5 ((Tryd.f14).body.getD .skip)).wp Tryd.prog (bodyPost Tryd.prog Tryd.f14 Post) a' wr) :
    Calls Tryd.prog 14 #[.pointer (some ⟨sb, 0, none⟩), .int .i64 z, .string (strL nm)] w Post := by
  have hsb := heap_lt h1
  have d0 : w.cell? ⟨sb, 0, none⟩ = some (.slice ra S.rest.length rc) := by rw [cell_heap h1]; rfl
  have d6 : w.cell? ⟨sb, 6, none⟩ = some mv := by rw [cell_heap h1]; rfl
  have H4 := Lib.hid h4
  have HH := Lib.hid H
  clear h1 h4 H
  generalize S.rest.length = rn at *
  go_enter Tryd.func14, Tryd.ntmps14
  go_upto_region 3 with fail
  rename_i K1 hK1 K0 hK0
  have HJ : Hid (∀ a' wr, J0 w sb (innOf z) nm a' wr → K1 a' wr) := Lib.hid (by
    rintro ⟨t, dd⟩ wr ⟨ha, rfl⟩
    refine hK1 _ _ ?_
    clear hK0 hK1
    obtain ⟨ha1, rfl⟩ := Act.mk.inj ha
    rw [ha1]
    clear ha ha1
    dsimp only [frN0, tkz, tkV, plC, plz]
    generalize innOf z = inn at *
    have hb2 : ∀ A B : Obj, Below w.heap.size w ((w.alloc A).alloc B) := fun A B => ((Below.refl _ w).alloc (Nat.le_refl _) A).alloc (by simp) B
    have d0' : ∀ A B : Obj, ((w.alloc A).alloc B).cell? ⟨sb, 0, none⟩ = some (.slice ra rn rc) := fun A B => ((hb2 A B).cell (p := ⟨sb, 0, none⟩) hsb).trans d0
    go_upto_region 6 with fail
    rename_i K2 hK2 K3 hK3
    have HJ1 : Hid (∀ a' wr, J1 G w sb (.slice ra rn rc) mv fp S.mk' inn nm ra (S.start inn nm) a' wr → K2 a' wr) := Lib.hid (fun a' wr h => hK2 _ _ (HH.out _ _ h))
    clear hK2
    have e0 := heap_alloc_new w (.cells tkz 41)
    have e1 := heap_alloc_new (w.alloc (.cells tkz 41)) (.cells (plC plz) 39)
    have e2 := heap_alloc_new ((w.alloc (.cells tkz 41)).alloc (.cells (plC plz) 39)) (.cells (cuC (.slice ra rn rc) inn nm cuZ) 77)
    simp only [World.size_alloc] at e0 e1 e2
    have f0 := (Below.heap_alloc _ (.cells (cuC (.slice ra rn rc) inn nm cuZ) 77) w.heap.size (by simp; omega)).trans ((Below.heap_alloc _ (.cells (plC plz) 39) w.heap.size (by simp)).trans e0)
    have f1 := (Below.heap_alloc _ (.cells (cuC (.slice ra rn rc) inn nm cuZ) 77) (w.heap.size + 1) (by simp)).trans e1
    have hb3 : Below w.heap.size w (((w.alloc (.cells tkz 41)).alloc (.cells (plC plz) 39)).alloc (.cells (cuC (.slice ra rn rc) inn nm cuZ) 77)) := (hb2 _ _).alloc (by simp; omega) _
    change Code.wp _ _ _ _ (((w.alloc (.cells tkz 41)).alloc (.cells (plC plz) 39)).alloc (.cells (cuC (.slice ra rn rc) inn nm cuZ) 77))
    generalize ((w.alloc (.cells tkz 41)).alloc (.cells (plC plz) 39)).alloc (.cells (cuC (.slice ra rn rc) inn nm cuZ) 77) = w1 at *
    have x6 := (hb3.cell (p := ⟨sb, 6, none⟩) hsb).trans d6
    have HB3 := Lib.hid hb3
    have F0 := Lib.hid f0
    have F1 := Lib.hid f1
    have E2 := Lib.hid e2
    have hcl := heap_lt e2
    clear e0 e1 d0' hb2 d0 d6 f0 f1 e2 hb3
    have HTZ : Hid (∀ W, Below w1.heap.size w1 W → TX G (w.heap.size + 1 + 1) ra W (.slice none 0 0) []) := Lib.hid fun W hb => ⟨⟨rfl, .inl ⟨rfl, rfl⟩⟩, fun _ h => (by cases h), (by simp [Value.ownBlock]), fun _ _ _ => (by simp [Value.ownBlock]), Nat.le_trans hGw (Nat.le_trans HB3.out.size hb.size)⟩
    have HMN : Hid (∀ W, Kp (SV (w.heap.size + 1 + 1) (.slice none 0 0)) w1 W → MkAt G W sb (.slice ra rn rc) mv fp S.mk') := Lib.hid fun W hk => H4.out.keep fun k _ hf _ => by
      have hk' := hdom k hf
      exact (hk.block k (Nat.lt_of_lt_of_le hk' HB3.out.size) (fun h => by rcases h with h | h; omega; cases h)).trans (HB3.out.block k hk')
    cases hmk : S.mk' with
    | none =>
      rw [hmk] at H4
      obtain rfl : mv = .pointer none := H4.out
      have hst : S.start inn nm = .zero := by unfold Sn.start; rw [hmk]
      rw [hst] at HJ1
      clear hmk hst
      go_wp2_with fail
      exact HJ1.out _ _ ⟨by rfl, HB3.out, F0.out, F1.out, cuZ, E2.out, rfl, rfl, rfl, rfl, rfl, HTZ.out _ (Below.refl _ _), rfl, fun k e => (by cases e), fun W hk _ => HMN.out W hk⟩
    | some q =>
      obtain ⟨i, m, σ⟩ := q
      rw [hmk] at H4
      obtain ⟨mb, tv, rfl, hm1, hm2, hm3, hm4, hm5, hm6, hm7⟩ := H4.out
      have hmb := heap_lt hm1
      have hst : S.start inn nm = if i = inn ∧ m = nm then σ else .zero := by unfold Sn.start; rw [hmk]
      rw [hst] at HJ1
      have hm1' : w1.heap[mb]? = some (.cells (keptC i m σ tv) 75 (0, 0)) := (HB3.out.block mb hmb).trans hm1
      have m0 : w1.cell? ⟨mb, 0, none⟩ = some (.int .i64 i) := by rw [cell_heap hm1']; rfl
      have m1 : w1.cell? ⟨mb, 1, none⟩ = some (.string (strL m)) := by rw [cell_heap hm1']; rfl
      have m2 : w1.cell? ⟨mb, 2, none⟩ = some (.int .i64 σ.i) := by rw [cell_heap hm1']; rfl
      have m3 : w1.cell? ⟨mb, 3, none⟩ = some (.int .i64 σ.beg) := by rw [cell_heap hm1']; rfl
      have m4 : w1.cell? ⟨mb, 4, none⟩ = some (.int .i64 σ.br) := by rw [cell_heap hm1']; rfl
      have m5 : w1.cell? ⟨mb, 5, none⟩ = some tv := by rw [cell_heap hm1']; rfl
      by_cases hi : i = inn
      · have ti : ((i : Int) == (inn : Int)) = true := by simp [hi]
        by_cases hn : m = nm
        · have tn : ((strL m).toList == (strL nm).toList) = true := by simp [hn]
          rw [if_pos ⟨hi, hn⟩] at HJ1
          have HMM : Hid (∀ W, Kp (SV (w.heap.size + 1 + 1) tv) w1 W → TX G (w.heap.size + 1 + 1) ra W tv σ.text → MkAt G W sb (.slice ra rn rc) (.pointer (some ⟨mb, 0, none⟩)) fp S.mk') := Lib.hid fun W hk htx => by
            rw [hmk]
            exact ⟨mb, tv, rfl, (hk.block mb (Nat.lt_of_lt_of_le hmb HB3.out.size) (fun h => by rcases h with h | h; omega; exact (hm7 mb h).2.2.1 rfl)).trans hm1', htx.own, hm3, hm4, hm5, hm6, hm7⟩
          have HM7 := Lib.hid hm7
          obtain ⟨ta, tc, htv, _⟩ := own_slice hm2
          subst htv
          have HM1 := Lib.hid hm1'
          have HT : Hid (∀ W, Kp (· = w.heap.size + 1 + 1) w1 W → TX G (w.heap.size + 1 + 1) ra W (.slice ta (encs σ.text).length tc) σ.text) := Lib.hid fun W hk => by
            have hlt2 := hm2.lt
            refine ⟨(hk.own (own_block hm2 fun k e => HB3.out.block k (hlt2 k e).2) fun k e h => ?_), hm3, fun e => ?_, fun b o hra e => ?_, Nat.le_trans hGw (Nat.le_trans HB3.out.size hk.size)⟩
            · have := (hlt2 k e).2; omega
            · have := (hlt2 _ e).2; omega
            · exact (hm7 b e).2.2.2 (by rw [hra]; rfl)
          clear hmk hst hi hn H4 hm1 hm1' hm2 hm3 hm4 hm5 hm6 hm7
          go_upto_region 8 with fail
          refine nx8 sb w.heap.size mb i inn nm m σ ta (encs σ.text).length tc (.slice ra rn rc) cuZ w1 _ (by rfl) _ (by omega) E2.out HM1.out ?_
          intro a2 w2 e2 hc2 hk2
          have hne0 : w.heap.size ≠ w.heap.size + 1 + 1 := by omega
          have hne1 : w.heap.size + 1 ≠ w.heap.size + 1 + 1 := by omega
          exact HJ1.out _ _ ⟨e2, HB3.out.trans (hk2.below (B := w.heap.size) (by omega) fun k e => by omega), hk2.heap F0.out hne0, hk2.heap F1.out hne1, _, hc2, rfl, rfl, rfl, rfl, rfl, HT.out _ hk2, rfl, fun k e => ⟨(HM7.out k e).1, (HM7.out k e).2.1, (HM7.out k e).2.2.2⟩, fun W hk htx => HMM.out W ((hk2.mono (S' := SV (w.heap.size + 1 + 1) (.slice ta (encs σ.text).length tc)) fun k _ h => .inl h).trans hk fun k h => .inl h) htx⟩
        · have tn : ((strL m).toList == (strL nm).toList) = false := by rw [str_eqb]; simp [hn]
          rw [if_neg (fun h => hn h.2)] at HJ1
          clear hmk hst hi hn H4 hm1 hm1' hm2 hm3 hm4 hm5 hm6 hm7 m2 m3 m4 m5
          go_wp2_with fail
          exact HJ1.out _ _ ⟨by rfl, HB3.out, F0.out, F1.out, cuZ, E2.out, rfl, rfl, rfl, rfl, rfl, HTZ.out _ (Below.refl _ _), rfl, fun k e => (by cases e), fun W hk _ => HMN.out W hk⟩
      · have ti : ((i : Int) == (inn : Int)) = false := by simp; omega
        rw [if_neg (fun h => hi h.1)] at HJ1
        clear hmk hst hi H4 hm1 hm1' hm2 hm3 hm4 hm5 hm6 hm7 m1 m2 m3 m4 m5
        go_wp2_with fail
        exact HJ1.out _ _ ⟨by rfl, HB3.out, F0.out, F1.out, cuZ, E2.out, rfl, rfl, rfl, rfl, rfl, HTZ.out _ (Below.refl _ _), rfl, fun k e => (by cases e), fun W hk _ => HMN.out W hk⟩)
  clear hK1 d0 d6
  by_cases hz0 : z = 0
  · subst hz0
    go_wp2_with fail
    exact HJ.out _ _ ⟨rfl, rfl⟩
  · by_cases hz1 : z = 1
    · subst hz1
      go_wp2_with fail
      exact HJ.out _ _ ⟨rfl, rfl⟩
    · have t0 : (z != 0) = true := by simp [hz0]
      have t1 : (z != 1) = true := by simp [hz1]
      have hi : innOf z = 2 := by unfold innOf; rw [if_neg hz0, if_neg hz1]
      rw [hi] at HJ
      clear hz0 hz1 hi
      go_wp2_with fail
      exact HJ.out _ _ ⟨rfl, rfl⟩
end Go.Proofs.YtjdmndpadejegaaDoor

namespace Go.Proofs.YtjdmndpadejegaaDoor
open Go.RowKit

structure NxM (F G : Nat) (w : World) (sb : Nat) (ra : Option Addr) (rc : Nat) (p : Pl) (e : Bool) (mv : Value) (fp : Nat → Prop) (o : Option (Nat × List UInt8 × St)) (inn : Nat) (nm : List UInt8) (l : List UInt8) (w2 : World) (c : Cu) (t : List Nat) : Prop where
  tk : w2.heap[w.heap.size]? = some (.cells tkz 41 (0, 0))
  pl : w2.heap[w.heap.size + 1]? = some (.cells (plC plz) 39 (0, 0))
  cu : CuAt w2 (w.heap.size + 1 + 1) (.slice ra l.length rc) inn nm c
  sbk : w2.heap[sb]? = some (.cells (scnC (.slice ra l.length rc) p e mv) 71 (0, 0))
  rst : RestV w2 (.slice ra l.length rc) l
  mk' : MkAt G w2 sb (.slice ra l.length rc) mv fp o
  kp : Kp fp w w2
  sz : w.heap.size + 1 + 1 + 1 ≤ w2.heap.size
  tx : TX G (w.heap.size + 1 + 1) ra w2 c.tv t
  bt : ∃ w1 v0, w.heap.size + 1 + 1 + 1 ≤ w1.heap.size ∧ (∀ k, v0.ownBlock = some k → fp k ∧ k ≠ sb ∧ (Value.slice ra l.length rc).ownBlock ≠ some k) ∧ BtA w1 (w.heap.size + 1 + 1) ra G l.length inn l v0 w2 c t (goL F inn nm .zero l).1 (goL F inn nm .zero l).2
set_option maxRecDepth 100000 in
set_option maxHeartbeats 4000000 in
theorem next_bet {Post : Ending → World → Prop} (w0 : World) (hL : Laid w0) (F : Nat) (inn : Nat) (hinn : inn ≤ 2) (nm : List UInt8) (hnm : nm.length ≤ 1099511627776) (w : World) (hw0 : Below w0.heap.size w0 w) (sb : Nat) (G : Nat) (hG : w0.heap.size ≤ G) (S : Sn) (hok : SnOk F S) (hsm : S.all.length ≤ 1073741824) (fp : Nat → Prop) (hdom : ∀ k, fp k → k < w.heap.size)
    (ra : Option Addr) (rc : Nat) (p : Pl) (e : Bool) (mv : Value) (h1 : w.heap[sb]? = some (.cells (scnC (.slice ra S.rest.length rc) p e mv) 71 (0, 0))) (h2 : RestV w (.slice ra S.rest.length rc) S.rest) (h3 : ∀ k, (Value.slice ra S.rest.length rc).ownBlock = some k → fp k ∧ k ≠ sb)
    (a' : Act) (wr : World) (hJ : J1 G w sb (.slice ra S.rest.length rc) mv fp S.mk' inn nm ra (S.start inn nm) a' wr)
    (H : ∀ a2 w2 c t, a2 = { tmps := frN1 sb w.heap.size inn nm a2.tmps, defers := [] } → NxM F G w sb ra rc p e mv fp S.mk' inn nm S.rest w2 c t → (sndN 6 ((Tryd.f14).body.getD .skip)).wp Tryd.prog (bodyPost Tryd.prog Tryd.f14 Post) a2 w2) :
    (sndN 5 ((Tryd.f14).body.getD .skip)).wp Tryd.prog (bodyPost Tryd.prog Tryd.f14 Post) a' wr := by
  obtain ⟨ha, hN⟩ := hJ
  obtain ⟨c, hC, q1, q2, q3, q4, q5, q6, q7, q8, q9⟩ := hN.cu
  obtain ⟨s1, s2, s3, s4, s5⟩ := hok.start inn nm
  have hlt2 : ∀ b o, ra = some ⟨b, o, none⟩ → b < w.heap.size := fun b o hb => hdom b (h3 b (by rw [hb]; rfl)).1
  have hsb := heap_lt h1
  have hrl : S.rest.length ≤ S.all.length := by unfold Sn.rest; rw [List.length_drop]; omega
  obtain ⟨a0, c0, e0, hcap, hsl⟩ := h2.q.sl
  injection e0 with ea1 ea2 ea3
  subst ea1; subst ea3
  have hE : CE w0 wr (w.heap.size + 1 + 1) ra S.rest.length rc S.rest :=
    ⟨hw0.trans (hN.bel.mono hw0.size), by have := hw0.size; omega, hsl.below hN.bel, fun b o hb => by have := hlt2 b o hb; omega, fun b o hb => Nat.lt_of_lt_of_le (hlt2 b o hb) hN.bel.size, hcap, by omega⟩
  have hB := bet_any hL hE hG hC (S.start inn nm) q6 hinn hnm (by omega) F (by have := hok.big; omega) q1 q2 q3 s2 s3 s4 s5 q4 q5
  rw [s1] at hB
  have HB := Lib.hid hB
  have HM : Hid (∀ w2, (∃ c' t', CuAt w2 (w.heap.size + 1 + 1) (.slice ra S.rest.length rc) inn nm c' ∧ TS G (w.heap.size + 1 + 1) ra wr w2 c.tv c'.tv (S.start inn nm).text t' ∧ BtA wr (w.heap.size + 1 + 1) ra G S.rest.length inn S.rest c.tv w2 c' t' (goL F inn nm .zero S.rest).1 (goL F inn nm .zero S.rest).2) → ∃ c' t', NxM F G w sb ra rc p e mv fp S.mk' inn nm S.rest w2 c' t') := Lib.hid (by
    rintro w2 ⟨c', t', g1, g2, g3⟩
    have hkk : ∀ k, k < w.heap.size + 1 + 1 → ¬ fp k → w2.heap[k]? = wr.heap[k]? := fun k hk hf => g2.kp.block k (by have := heap_lt hC; omega) (fun h => by rcases h with h | h; omega; exact hf (q8 k h).1)
    have hnf : ∀ k, w.heap.size ≤ k → ¬ fp k := fun k hk hf => by have := hdom k hf; omega
    refine ⟨c', t', ?_⟩
    refine ⟨(hkk _ (by omega) (hnf _ (Nat.le_refl _))).trans hN.tk, (hkk _ (by omega) (hnf _ (by omega))).trans hN.pl, g1, ?_, ?_, q9 _ g2.kp g2.old, ?_, ?_, g2.tx, wr, c.tv, heap_lt hC, q8, g3⟩
    · refine (g2.kp.block sb (Nat.lt_of_lt_of_le hsb hN.bel.size) (fun h => ?_)).trans ((hN.bel.block sb hsb).trans h1)
      rcases h with h | h
      · omega
      · exact (q8 sb h).2.1 rfl
    · refine h2.keep fun k hk => ?_
      have hk' := hdom k (h3 k hk).1
      refine (g2.kp.block k (Nat.lt_of_lt_of_le hk' hN.bel.size) (fun h => ?_)).trans (hN.bel.block k hk')
      rcases h with h | h
      · omega
      · exact (q8 k h).2.2 hk
    · exact (Kp.of hN.bel).trans g2.kp fun k h => by
        rcases h with h | h
        · exact .inr (by omega)
        · exact .inl (q8 k h).1
    · exact Nat.le_trans (heap_lt hC) g2.kp.size)
  have HH := Lib.hid H
  have hcl := heap_lt hC
  clear hB H hE hN hC q1 q2 q3 q4 q5 q6 q7 q8 q9 s1 s2 s3 s4 s5 h1 h2 h3 hlt2 hdom hsl hcap hok
  obtain ⟨t, dd⟩ := a'
  obtain ⟨ha1, rfl⟩ := Act.mk.inj ha
  rw [ha1]
  clear ha ha1
  dsimp only [frN1]
  conv => arg 2; whnf
  refine wp_seq_k fun K hK => ?_
  have HJ : Hid (∀ a2 w2 c t, a2 = { tmps := frN1 sb w.heap.size inn nm a2.tmps, defers := [] } → NxM F G w sb ra rc p e mv fp S.mk' inn nm S.rest w2 c t → K a2 w2) := Lib.hid fun a2 w2 c t h1 h2 => hK _ _ (HH.out a2 w2 c t h1 h2)
  clear hK
  go_wp2_with (go_at_call 22; (with_reducible refine HB.out.mono ?_); rintro e1 w2 ⟨rfl, hx⟩; have HX := Lib.hid (HM.out _ hx); clear hx)
  obtain ⟨c', t', hx⟩ := HX.out
  exact HJ.out _ _ _ _ (by rfl) hx
end Go.Proofs.YtjdmndpadejegaaDoor
