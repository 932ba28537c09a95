/-
  Rows that are owned: s[1:], s[:n-1] as operations. No program is named here.
-/
import Derived.Test.YtmnloeolacmemaaGreatWpI
import Derived.IntWalk
import Derived.Test.YtmnloeolacmemaaGreatWpK
namespace Go.Proofs.YtmnloeolacmemaaGreat
open Go.RowKit

section
variable {P : Program} {w : World} {e : TypeId} {size : Nat} {v : Value} {n : Nat} {xs ys : List Value}
theorem QRow.tail1 (T : TypeId) (hU : P.underlying T = some (.slice e)) (hel : P.elem T = e) (hsz : ∀ w, (sizeOf e).run P w = .ok size w) (h : QRow w e size v (n + 1) (ys ++ xs)) (hy : ys.length = size) :
    ∃ v', (∀ W, (Instr.slice T v (some (.int .i64 1)) none none).run P W = .ok v' W) ∧ QRow w e size v' n xs ∧ ∀ k, v'.ownBlock = some k → v.ownBlock = some k := by
  obtain ⟨g, off, c, rfl, h1, _, _, _⟩ := h.here
  have hrun : ∀ W, (Instr.slice T (.slice (some ⟨g, off, none⟩) (n + 1) c) (some (.int .i64 1)) none none).run P W = .ok (.slice (if c = 1 then some ⟨g, off, none⟩ else (some ⟨g, off, none⟩ : Option Addr).map (·.add (1 * size))) n (c - 1)) W := fun W => by
    rw [run_slice_l (P := P) W T (some ⟨g, off, none⟩) (n + 1) c (by rw [hel]; exact hU) .i64 (1 : Int) (by omega) (by omega), hel, hsz]
    simp [Result.andThen, sliced]
  by_cases hc : c = 1
  · subst hc
    have hn : n = 0 := by omega
    subst hn
    have hx : xs = [] := by
      have := h.1
      rw [List.length_append, hy, Nat.zero_add, Nat.one_mul] at this
      exact List.eq_nil_of_length_eq_zero (by omega)
    subst hx
    exact ⟨_, hrun, QRow.nil _ _ _ _, fun k hk => hk⟩
  · refine ⟨.slice (some ⟨g, off + size, none⟩) n (c - 1), fun W => ?_, h.tail hy hc, fun k hk => hk⟩
    rw [hrun W, if_neg hc, Option.map_some, Nat.one_mul, Addr.add_lit]
theorem QRow.pop1 (T : TypeId) (hU : P.underlying T = some (.slice e)) (hel : P.elem T = e) (hsz : ∀ w, (sizeOf e).run P w = .ok size w) (h : QRow w e size v (n + 1) (xs ++ ys)) (hx : xs.length = n * size) :
    ∃ v', (∀ W, (Instr.slice T v none (some (.int .i64 (n : Int))) none).run P W = .ok v' W) ∧ QRow w e size v' n xs ∧ ∀ k, v'.ownBlock = some k → v.ownBlock = some k := by
  obtain ⟨g, off, c, rfl, h1, _, _, _⟩ := h.here
  refine ⟨.slice (some ⟨g, off, none⟩) n c, fun W => ?_, ?_, fun k hk => hk⟩
  · rw [run_slice_h (P := P) W T (some ⟨g, off, none⟩) (n + 1) c (by rw [hel]; exact hU) .i64 (n : Int) (by omega) (by omega), hel, hsz]
    simp [Result.andThen, sliced, Addr.add]
  · obtain ⟨h1, h2⟩ := h
    refine ⟨hx, .inr ?_⟩
    rcases h2 with ⟨A, h0, h2⟩ | ⟨g', off', cap', cur, hv, hh, h5, h6, h7, h8⟩
    · omega
    · cases hv
      refine ⟨g, off, c, cur, rfl, hh, by omega, h6, h7, ?_⟩
      have h9 : ((cur.toList.drop off).take ((n + 1) * size)).take (n * size) = (xs ++ ys).take (n * size) := by rw [h8]
      rw [List.take_take, Nat.min_eq_left (Nat.mul_le_mul_right _ (by omega))] at h9
      rw [h9, ← hx, List.take_left']
      rfl
end
end Go.Proofs.YtmnloeolacmemaaGreat

/-
  wait.first: the least node that waits.
-/
namespace Go.Proofs.YtmnloeolacmemaaGreat
open Go.RowKit

/-- those that went are left out when they come first -/
def wfirst (f : Int → Option WN) : List Int → List Int
  | [] => []
  | k :: o => match f k with
    | none => wfirst f o
    | some _ => k :: o
theorem elemInts : Tryz.prog.elem 28 = 3 := by kernel_rfl
theorem infoInt : (Tryz.prog.info? 3).map (fun i => (i.zero, i.size, i.bytes)) = some (some (.int .i64 0), 1, 8) := by kernel_rfl
theorem sizeInt (w : World) : (sizeOf 3).run Tryz.prog w = .ok 1 w := by kernel_rfl
section
variable {C : Nat → Nat} {w : World} {wb tb mb : Nat} {fp : Int → Option Nat} {ov lv : Value} {s : WSt} {first front n : Nat}
/-- the order turns -/
theorem WAt.setOrd (h : WAt C w wb tb mb fp ov lv s first front n) (v : Value) (o : List Int) (hq : QRow w 3 1 v o.length (o.map (.int .i64))) (hv : ∀ k, v.ownBlock = some k → C k = 4) (ho : ∀ k ∈ o, Wf k) :
    WAt C (w.setCell ⟨wb, 2, none⟩ v) wb tb mb fp v lv { s with order := o } first front n ∧ Mv C 1 7 w (w.setCell ⟨wb, 2, none⟩ v) ∧ (w.setCell ⟨wb, 2, none⟩ v).heap.size = w.heap.size := by
  have hm : Mv C 1 7 w (w.setCell ⟨wb, 2, none⟩ v) := (Mv.refl C 1 7 w).set (by rw [h.cw]; decide) 2 v
  have hsz : (w.setCell ⟨wb, 2, none⟩ v).heap.size = w.heap.size := by simp [World.setCell]
  have e : ∀ {k c : Nat}, C k = c → c ≠ 1 → (w.setCell ⟨wb, 2, none⟩ v).heap[k]? = w.heap[k]? := fun {k c} hk hc => Below.heap_setCell _ _ _ _ (fun e => by have e' : k = wb := e; rw [e', h.cw] at hk; omega)
  have er : ∀ k, TapeRow (w.setCell ⟨wb, 2, none⟩ v) tb k → TapeRow w tb k := by
    obtain ⟨_, _, _, _, _, u, a6, _⟩ := h.tp
    exact row_of ((e h.ct (by decide)).trans a6) (fun k hk => row_mk a6 hk)
  refine ⟨⟨fun k hk => h.top k (by omega), setCell_heap h.blk v, h.cw, h.tp.keepRow (Nat.le_of_eq hsz.symm) (e h.ct (by decide)) (fun k hk => e (h.crow k hk) (by decide)), h.ct, fun k hk => h.crow k (er k hk), h.map.keepB (e h.cm (by decide)), h.cm,
    hq.keep (fun k hk => e (hv k hk) (by decide)), hv, h.opn.keep (fun k hk => e (h.cl k hk) (by decide)), h.cl, fun k x hx => ?_, h.non, h.inj, ho⟩, hm, hsz⟩
  obtain ⟨b, b1, b2, b3⟩ := h.nds k x hx
  exact ⟨b, b1, b2, (e b2 (by decide)).trans b3⟩
theorem WAt.drewN (h : WAt C w wb tb mb fp ov lv s first front n) (d : Nat) : WAt C (w.drewN d) wb tb mb fp ov lv s first front n := h.below (Below.drewN (Below.refl _ _) d)
end
/-- where the first one lies -/
def headP (fp : Int → Option Nat) : List Int → Option Nat
  | [] => none
  | k :: _ => fp k
def ordLen (w : World) (wb : Nat) : Nat := match w.cell? ⟨wb, 2, none⟩ with | some (.slice _ n _) => n | _ => 0

set_option maxRecDepth 1000000 in
set_option maxHeartbeats 40000000 in
theorem first_any {C : Nat → Nat} {w : World} {wb tb mb : Nat} {fp : Int → Option Nat} {ov lv : Value} {s : WSt} {first front n : Nat} (h : WAt C w wb tb mb fp ov lv s first front n) (hol : s.order.length ≤ 1048576) :
    Calls Tryz.prog 22 #[.pointer (some ⟨wb, 0, none⟩)] w fun r w' => r = .returned (ptrVal (headP fp (wfirst s.nodes s.order))) ∧ (∃ ov', WAt C w' wb tb mb fp ov' lv { s with order := wfirst s.nodes s.order } first front n) ∧ Mv C 1 7 w w' ∧ w'.heap.size = w.heap.size := by
  obtain ⟨F, hF⟩ : ∃ F, wfirst s.nodes s.order = F := ⟨_, rfl⟩
  rw [hF]
  have HH := Lib.hid h
  have HF := Lib.hid hF
  clear h hF
  go_enter Tryz.func22, Tryz.ntmps22
  go_wp2_with fail
  go_loopw [] (fun wr => ∃ (o : List Int) (ovr : Value), o.length ≤ 1048576 ∧ Hid (WAt C wr wb tb mb fp ovr lv { s with order := o } first front n ∧ wfirst s.nodes o = F ∧ Mv C 1 7 w wr ∧ wr.heap.size = w.heap.size)) (fun wr => ordLen wr wb)
  case atStart => exact ⟨s.order, ov, hol, Lib.hid ⟨HH.out, HF.out, Mv.refl _ _ _ _, rfl⟩⟩
  case round =>
    obtain ⟨o, ovr, hol2, HR⟩ := hrel
    obtain ⟨hW, hFo, hMv, hsz⟩ := HR.out
    obtain ⟨_, m1, m2, _, _, _⟩ := hW.cells
    have HSZ := Lib.hid hsz
    cases o with
    | nil =>
      have hq := hW.ord
      obtain ⟨a, c, rfl, _⟩ := hq.slice
      simp only [List.length_nil] at m2
      have hf2 := hW.froz 2
      have HS := Lib.hid (hW.setOrd (.slice none 0 0) [] (QRow.nil _ _ _ _) (by intro k hk; cases hk) (by simp))
      have hFn : F = [] := by rw [← hFo]; rfl
      subst hFn
      have HM := Lib.hid hMv
      clear hW hFo hMv hq hsz
      go_wp2_with fail
      go_ret
      exact ⟨rfl, ⟨_, HS.out.1⟩, HM.out.trans HS.out.2.1, HS.out.2.2.trans HSZ.out⟩
    | cons k o =>
      have hq := hW.ord
      simp only [List.length_cons, List.map_cons] at hq
      obtain ⟨v', ht1, ht2, ht3⟩ := hq.tail1 (P := Tryz.prog) (ys := [.int .i64 k]) 28 Tryz.underlying28 elemInts sizeInt rfl
      obtain ⟨a9, c9, rfl, _⟩ := ht2.slice
      obtain ⟨g, off, c, rfl, hc, hgl, _, hcell⟩ := hq.here
      have k0 := hcell 0 (.int .i64 k) rfl
      rw [Nat.add_zero] at k0
      have hkw : Wf k := hW.wfo k (List.mem_cons_self ..)
      have HPM : Hid (∀ d, PMap Tryz.prog 3 (wr.drewN d) mb n fp) := Lib.hid fun d => hW.map.keepB rfl
      have HS := Lib.hid (fun d => (hW.drewN d).setOrd _ o ht2 (fun j hj => hW.co j (ht3 j hj)) (fun j hj => hW.wfo j (List.mem_cons_of_mem _ hj)))
      have hf2 := hW.froz 2
      have HM := Lib.hid (fun d => (hMv.drewN d))
      have HW := Lib.hid hW
      have hL1 : o.length + 1 ≤ 1048576 := by simpa using hol2
      have HOL := Lib.hid hol2
      obtain ⟨L1, hL⟩ : ∃ L1, o.length + 1 = L1 := ⟨_, rfl⟩
      rw [hL] at hL1 ht1
      have m2' : wr.cell? ⟨wb, 2, none⟩ = some (.slice (some ⟨g, off, none⟩) L1 c) := by rw [← hL]; exact m2
      have HL := Lib.hid hL
      have i0 : (0 : Int) < (L1 : Int) := by omega
      have i0' : (0 : Nat) < L1 := by omega
      have HT1 := Lib.hid ht1
      have HM2 := Lib.hid m2'
      clear hol2 m2 hL ht1
      cases hx : s.nodes k with
      | none =>
        have hlk : ∀ d, (Instr.lookup 54 (.map (some mb)) (.int .i64 k) false).run Tryz.prog (wr.drewN d) = .ok (.pointer none) (wr.drewN d) := fun d => by
          have e := (HPM.out d).look undInt undMap (zeroPN _) k (keyInt hkw)
          rw [hW.non k hx] at e; exact e
        have hF2 : wfirst s.nodes o = F := by rw [← hFo]; simp only [wfirst, hx]
        have HF2 := Lib.hid hF2
        have ht1 := HT1.out
        have m2 := HM2.out
        clear hW hFo hMv hq hsz ht2 ht3 hcell hkw hx hF2 HPM
        go_wp2_with fail
        go_quiet (fail)
        go_wp2_with fail
        go_roundw
        case rel => exact ⟨o, _, by have := HOL.out; simp only [List.length_cons] at this; omega, Lib.hid ⟨(HS.out _).1, HF2.out, (HM.out _).trans (HS.out _).2.1, (HS.out _).2.2.trans HSZ.out⟩⟩
        case measure =>
          have e1 := fun d => (HS.out d).1.cells.2.2.1
          have := HL.out
          simp only [ordLen, HM2.out]
          first
            | (rw [e1]; simp only; omega)
            | (simp only [e1]; omega)
      | some x =>
        obtain ⟨nb, e1, e2, e3⟩ := hW.nds k x hx
        have hlk : ∀ d, (Instr.lookup 54 (.map (some mb)) (.int .i64 k) false).run Tryz.prog (wr.drewN d) = .ok (.pointer (some ⟨nb, 0, none⟩)) (wr.drewN d) := fun d => by
          have e := (HPM.out d).look undInt undMap (zeroPN _) k (keyInt hkw)
          rw [e1] at e; exact e
        have hF2 : F = k :: o := by rw [← hFo]; simp only [wfirst, hx]
        have hP : ptrVal (fp k) = .pointer (some ⟨nb, 0, none⟩) := by rw [e1]; rfl
        subst hF2
        have HP := Lib.hid hP
        have m2 := HM2.out
        clear hW hFo hMv hq hsz ht2 ht3 hcell hkw hx HPM hP e1 e3
        go_wp2_with fail
        go_quiet (fail)
        go_wp2_with fail
        go_ret
        exact ⟨by rw [show headP fp (k :: o) = fp k from rfl, HP.out]; rfl, ⟨_, HW.out.drewN _⟩, HM.out _, HSZ.out⟩
end Go.Proofs.YtmnloeolacmemaaGreat
