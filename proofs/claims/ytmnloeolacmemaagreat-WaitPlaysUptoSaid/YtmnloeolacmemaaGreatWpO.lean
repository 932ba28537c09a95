/-
  wait.comes: does the event come next?
-/
import Derived.Test.YtmnloeolacmemaaGreatWpK
import Derived.Test.YtmnloeolacmemaaGreatWpM
import Derived.Test.YtmnloeolacmemaaGreatWpN
namespace Go.Proofs.YtmnloeolacmemaaGreat
open Go.RowKit

theorem opn_last {w : World} {t : TypeId} {lv : Value} {l : List (Int × Int)} (h : QRow w t 2 lv l.length (opnV l)) (hl : l ≠ []) :
    ∃ g off c x y, lv = .slice (some ⟨g, off, none⟩) l.length c ∧ l.length ≤ c ∧ g < w.heap.size ∧ l.getLast? = some (x, y) ∧ 0 < l.length ∧ w.cell? ⟨g, off + (l.length - 1) * 2, none⟩ = some (.int .i64 x) ∧ w.cell? ⟨g, off + (l.length - 1) * 2 + 1, none⟩ = some (.int .i64 y) := by
  obtain ⟨m, p, rfl⟩ : ∃ m p, l = m ++ [p] := ⟨l.dropLast, l.getLast hl, (List.dropLast_concat_getLast hl).symm⟩
  rw [List.length_append, List.length_singleton] at h ⊢
  obtain ⟨g, off, c, rfl, h1, h2, _, h4⟩ := h.here
  have hm : (opnV m).length = m.length * 2 := by
    clear h h1 h2 h4 hl
    induction m with
    | nil => rfl
    | cons a m ih => unfold opnV at *; rw [List.flatMap_cons, List.length_append, ih]; simp; omega
  have ho : opnV (m ++ [p]) = opnV m ++ [.int .i64 p.1, .int .i64 p.2] := by simp [opnV]
  refine ⟨g, off, c, p.1, p.2, rfl, h1, h2, by simp, by omega, ?_, ?_⟩
  · have := h4 (m.length * 2) (.int .i64 p.1) (by rw [ho, ← hm]; simp)
    rw [Nat.add_sub_cancel]; exact this
  · have := h4 (m.length * 2 + 1) (.int .i64 p.2) (by rw [ho, ← hm, List.getElem?_append_right (by omega)]; simp)
    rw [Nat.add_sub_cancel, Nat.add_assoc]; exact this
set_option maxRecDepth 1000000 in
set_option maxHeartbeats 4000000 in
theorem comes_any {C : Nat → Nat} {w : World} {wb tb mb : Nat} {fp : Int → Option Nat} {ov lv : Value} {s : WSt} {first front n : Nat} (h : WAt C w wb tb mb fp ov lv s first front n)
    (kind num dep fr tt : Int) (name text : List UInt8) (A : Option Addr) (m c : Nat) (pc : List UInt8) (hol : s.opn.length ≤ 1048576) :
    Calls Tryz.prog 17 #[.pointer (some ⟨wb, 0, none⟩), .agg (evC kind num dep name A m c text fr tt)] w fun r w' => r = .returned (.bool (wcomes s ⟨kind, num, fr, tt, pc⟩)) ∧ Below w.heap.size w w' := by
  have hwl := heap_lt h.blk
  have HB : Hid (∀ o d, Below w.heap.size w ((w.alloc o).drewN d)) := Lib.hid fun o d => Below.drewN ((Below.refl _ _).alloc (Nat.le_refl _) o) d
  have HC : Hid (∀ o, (w.alloc o).cell? ⟨wb, 3, none⟩ = some lv ∧ (w.alloc o).cell? ⟨wb, 4, none⟩ = some (.int .i64 s.next) ∧ (w.alloc o).cell? ⟨wb, 5, none⟩ = some (.int .i64 s.last)) := Lib.hid fun o => by
    obtain ⟨_, _, _, k3, k4, k5⟩ := h.cells
    have hb := (Below.refl w.heap.size w).alloc (Nat.le_refl _) o
    exact ⟨(hb.cell (p := ⟨wb, 3, none⟩) hwl).trans k3, (hb.cell (p := ⟨wb, 4, none⟩) hwl).trans k4, (hb.cell (p := ⟨wb, 5, none⟩) hwl).trans k5⟩
  obtain ⟨d3, d4, d5⟩ := HC.out (.cells (evC kind num dep name A m c text fr tt) 36)
  have HOP := Lib.hid h.opn
  obtain ⟨la, lc, rfl, hlc⟩ := h.opn.slice
  obtain ⟨N, hN⟩ : ∃ N, s.opn.length = N := ⟨_, rfl⟩
  obtain ⟨r, hr⟩ : ∃ r, wcomes s ⟨kind, num, fr, tt, pc⟩ = r := ⟨_, rfl⟩
  rw [hr]
  simp only [wcomes] at hr
  rw [hN] at d3 hlc hol HC
  have HN := Lib.hid hN
  have hne : s.opn = [] ↔ N = 0 := by rw [← hN, List.length_eq_zero_iff]
  generalize s.next = nx at *
  generalize s.last = la' at *
  clear h hN
  by_cases h1 : fr < 0
  · rw [if_pos (.inl h1)] at hr
    subst hr
    unfold evC at *
    go_enter Tryz.func17, Tryz.ntmps17
    go_wp2_with fail
    go_quiet (fail)
    go_wp2_with fail
    go_ret
    exact ⟨rfl, by first | exact HB.out _ _ | exact Below.drewN (HB.out _ _) _⟩
  have h1' : 0 ≤ fr := by omega
  by_cases h2 : tt < fr
  · rw [if_pos (.inr (.inl h2))] at hr
    subst hr
    unfold evC at *
    go_enter Tryz.func17, Tryz.ntmps17
    go_wp2_with fail
    go_quiet (fail)
    go_wp2_with fail
    go_ret
    exact ⟨rfl, by first | exact HB.out _ _ | exact Below.drewN (HB.out _ _) _⟩
  have h2' : fr ≤ tt := by omega
  by_cases h3 : tt < la'
  · rw [if_pos (.inr (.inr h3))] at hr
    subst hr
    unfold evC at *
    go_enter Tryz.func17, Tryz.ntmps17
    go_wp2_with fail
    go_quiet (fail)
    go_wp2_with fail
    go_ret
    exact ⟨rfl, by first | exact HB.out _ _ | exact Below.drewN (HB.out _ _) _⟩
  have h3' : la' ≤ tt := by omega
  rw [if_neg (by omega)] at hr
  clear h1 h2 h3
  by_cases hk0 : kind = 0
  · subst hk0
    rw [if_pos rfl] at hr
    by_cases hn : num = nx
    · subst hn
      by_cases hN0 : N = 0
      · subst hN0
        by_cases hx : num = 0
        · subst hx
          have hr1 : r = true := by rw [← hr]; simp
          subst hr1
          clear hr
          unfold evC at *
          go_enter Tryz.func17, Tryz.ntmps17
          go_wp2_with fail
          go_quiet (fail)
          go_wp2_with fail
          go_quiet (fail)
          go_wp2_with fail
          go_ret
          exact ⟨rfl, by first | exact HB.out _ _ | exact Below.drewN (HB.out _ _) _⟩
        · have hr1 : r = false := by rw [← hr]; simp [hne.2 rfl, hx]
          subst hr1
          have ht : (num == 0) = false := by simp [hx]
          clear hr hx
          unfold evC at *
          go_enter Tryz.func17, Tryz.ntmps17
          go_wp2_with fail
          go_quiet (fail)
          go_wp2_with fail
          go_quiet (fail)
          go_wp2_with fail
          go_ret
          exact ⟨rfl, by first | exact HB.out _ _ | exact Below.drewN (HB.out _ _) _⟩
      · have hr1 : r = true := by rw [← hr]; simp [hne, hN0]
        subst hr1
        have hp : (0 : Int) < (N : Int) := by omega
        have hp2 : 0 < N := by omega
        clear hr
        unfold evC at *
        go_enter Tryz.func17, Tryz.ntmps17
        go_wp2_with fail
        go_quiet (fail)
        go_wp2_with fail
        go_quiet (fail)
        go_wp2_with fail
        go_ret
        exact ⟨rfl, by first | exact HB.out _ _ | exact Below.drewN (HB.out _ _) _⟩
    · have hr1 : r = false := by rw [← hr]; simp [hn]
      subst hr1
      have ht : (num == nx) = false := by simp [hn]
      clear hr hn
      unfold evC at *
      go_enter Tryz.func17, Tryz.ntmps17
      go_wp2_with fail
      go_quiet (fail)
      go_wp2_with fail
      go_quiet (fail)
      go_wp2_with fail
      go_ret
      exact ⟨rfl, by first | exact HB.out _ _ | exact Below.drewN (HB.out _ _) _⟩
  rw [if_neg hk0] at hr
  have ht0 : (kind == 0) = false := by simp [hk0]
  by_cases hk1 : kind = 1
  · subst hk1
    rw [if_pos rfl] at hr
    by_cases hn : num = nx
    · subst hn
      by_cases hN0 : N = 0
      · subst hN0
        have hr1 : r = false := by rw [← hr]; simp [hne.2 rfl]
        subst hr1
        clear hr
        unfold evC at *
        go_enter Tryz.func17, Tryz.ntmps17
        go_wp2_with fail
        go_quiet (fail)
        go_wp2_with fail
        go_quiet (fail)
        go_wp2_with fail
        go_ret
        exact ⟨rfl, by first | exact HB.out _ _ | exact Below.drewN (HB.out _ _) _⟩
      · have hr1 : r = true := by rw [← hr]; simp [hne, hN0]
        subst hr1
        have hp : (0 : Int) < (N : Int) := by omega
        have hp2 : 0 < N := by omega
        clear hr
        unfold evC at *
        go_enter Tryz.func17, Tryz.ntmps17
        go_wp2_with fail
        go_quiet (fail)
        go_wp2_with fail
        go_quiet (fail)
        go_wp2_with fail
        go_ret
        exact ⟨rfl, by first | exact HB.out _ _ | exact Below.drewN (HB.out _ _) _⟩
    · have hr1 : r = false := by rw [← hr]; simp [hn]
      subst hr1
      have ht : (num == nx) = false := by simp [hn]
      clear hr hn
      unfold evC at *
      go_enter Tryz.func17, Tryz.ntmps17
      go_wp2_with fail
      go_quiet (fail)
      go_wp2_with fail
      go_quiet (fail)
      go_wp2_with fail
      go_ret
      exact ⟨rfl, by first | exact HB.out _ _ | exact Below.drewN (HB.out _ _) _⟩
  rw [if_neg hk1] at hr
  have ht1 : (kind == 1) = false := by simp [hk1]
  by_cases hk2 : kind = 2
  · subst hk2
    rw [if_pos rfl] at hr
    by_cases hN0 : N = 0
    · subst hN0
      have hr1 : r = false := by rw [← hr, hne.2 rfl]; rfl
      subst hr1
      clear hr
      unfold evC at *
      go_enter Tryz.func17, Tryz.ntmps17
      go_wp2_with fail
      go_quiet (fail)
      go_wp2_with fail
      go_quiet (fail)
      go_wp2_with fail
      go_ret
      exact ⟨rfl, by first | exact HB.out _ _ | exact Below.drewN (HB.out _ _) _⟩
    · have hp : (0 : Int) < (N : Int) := by omega
      obtain ⟨g, off, c2, x, y, e1, _, hgl, hla, _, k0, k1⟩ := opn_last HOP.out (fun e => hN0 (hne.1 e))
      injection e1 with e1 _ _
      subst e1
      rw [hla] at hr
      rw [HN.out] at k0 k1
      have HD : Hid (∀ o, (w.alloc o).cell? ⟨g, off + (N - 1) * 2, none⟩ = some (.int .i64 x) ∧ (w.alloc o).cell? ⟨g, off + (N - 1) * 2 + 1, none⟩ = some (.int .i64 y)) := Lib.hid fun o => by
        have hb := (Below.refl w.heap.size w).alloc (Nat.le_refl _) o
        exact ⟨(hb.cell (p := ⟨g, off + (N - 1) * 2, none⟩) hgl).trans k0, (hb.cell (p := ⟨g, off + (N - 1) * 2 + 1, none⟩) hgl).trans k1⟩
      obtain ⟨q0, q1⟩ := HD.out (.cells (evC 2 num dep name A m c text fr tt) 36)
      obtain ⟨M, hM⟩ : ∃ M, N - 1 = M := ⟨_, rfl⟩
      rw [hM] at q0 q1
      have i1 : (0 : Int) ≤ (M : Int) := by omega
      have i2 : (M : Int) < (N : Int) := by omega
      have ew : IntKind.i64.wrap ((N : Int) - 1) = (M : Int) := by rw [IntWalk.i64_in _ (by omega)]; omega
      have hp2 : 0 < N := by omega
      clear HD hM
      clear k0 k1 hla hne hN0
      by_cases hx : x = num
      · by_cases hy : y = fr
        · have hr1 : r = true := by rw [← hr]; simp [hx, hy]
          subst hr1
          subst hx
          subst hy
          clear hr
          unfold evC at *
          go_enter Tryz.func17, Tryz.ntmps17
          go_wp2_with fail
          go_quiet (fail)
          go_wp2_with fail
          go_quiet (fail)
          go_wp2_with fail
          go_ret
          exact ⟨rfl, by first | exact HB.out _ _ | exact Below.drewN (HB.out _ _) _⟩
        · have hr1 : r = false := by rw [← hr]; simp [hy]
          subst hr1
          have ht : (y == fr) = false := by simp [hy]
          clear hr hy
          unfold evC at *
          go_enter Tryz.func17, Tryz.ntmps17
          go_wp2_with fail
          go_quiet (fail)
          go_wp2_with fail
          go_quiet (fail)
          go_wp2_with fail
          go_ret
          exact ⟨rfl, by first | exact HB.out _ _ | exact Below.drewN (HB.out _ _) _⟩
      · have hr1 : r = false := by rw [← hr]; simp [hx]
        subst hr1
        have ht : (x == num) = false := by simp [hx]
        clear hr hx
        unfold evC at *
        go_enter Tryz.func17, Tryz.ntmps17
        go_wp2_with fail
        go_quiet (fail)
        go_wp2_with fail
        go_quiet (fail)
        go_wp2_with fail
        go_ret
        exact ⟨rfl, by first | exact HB.out _ _ | exact Below.drewN (HB.out _ _) _⟩
  rw [if_neg hk2] at hr
  have ht2 : (kind == 2) = false := by simp [hk2]
  subst hr
  clear hk0 hk1 hk2
  unfold evC at *
  go_enter Tryz.func17, Tryz.ntmps17
  go_wp2_with fail
  go_quiet (fail)
  go_wp2_with fail
  go_ret
  exact ⟨rfl, by first | exact HB.out _ _ | exact Below.drewN (HB.out _ _) _⟩
end Go.Proofs.YtmnloeolacmemaaGreat

/-
  A Wait in memory: what its parts' turning comes to.
-/
namespace Go.Proofs.YtmnloeolacmemaaGreat
open Go.RowKit

def wOf (e : Ev) : WEv := ⟨e.kind, e.num, e.fr, e.tt, evOut e⟩
section
variable {C : Nat → Nat} {w w' : World} {wb tb mb : Nat} {fp : Int → Option Nat} {ov lv : Value} {s : WSt} {first front n : Nat}
/-- a cell of the block turns -/
theorem WAt.setW (h : WAt C w wb tb mb fp ov lv s first front n) (i : Nat) (v ov' lv' : Value) (s' : WSt)
    (hblk : ∀ w' : World, w'.heap[wb]? = some (.cells ((#[.pointer (some ⟨tb, 0, none⟩), .map (some mb), ov, lv, .int .i64 s.next, .int .i64 s.last] : Array Value).setIfInBounds i v) 57 (0, 0)) → w'.heap[wb]? = some (.cells #[.pointer (some ⟨tb, 0, none⟩), .map (some mb), ov', lv', .int .i64 s'.next, .int .i64 s'.last] 57 (0, 0)))
    (hn : s'.nodes = s.nodes) (ha : s'.all = s.all) (ho : QRow w 3 1 ov' s'.order.length (s'.order.map (.int .i64))) (hco : ∀ k, ov'.ownBlock = some k → C k = 4) (hl : QRow w 72 2 lv' s'.opn.length (opnV s'.opn)) (hcl : ∀ k, lv'.ownBlock = some k → C k = 5) (hwf : ∀ k ∈ s'.order, Wf k) :
    WAt C (w.setCell ⟨wb, i, none⟩ v) wb tb mb fp ov' lv' s' first front n ∧ Mv C 1 7 w (w.setCell ⟨wb, i, none⟩ v) ∧ (w.setCell ⟨wb, i, none⟩ v).heap.size = w.heap.size := by
  have hm : Mv C 1 7 w (w.setCell ⟨wb, i, none⟩ v) := (Mv.refl C 1 7 w).set (by rw [h.cw]; decide) i v
  have hsz : (w.setCell ⟨wb, i, none⟩ v).heap.size = w.heap.size := by simp [World.setCell]
  have e : ∀ {k c : Nat}, C k = c → c ≠ 1 → (w.setCell ⟨wb, i, none⟩ v).heap[k]? = w.heap[k]? := fun {k c} hk hc => Below.heap_setCell _ _ _ _ (fun e => by have e' : k = wb := e; rw [e', h.cw] at hk; omega)
  have er : ∀ k, TapeRow (w.setCell ⟨wb, i, none⟩ v) tb k → TapeRow w tb k := by
    obtain ⟨_, _, _, _, _, u, a6, _⟩ := h.tp
    exact row_of ((e h.ct (by decide)).trans a6) (fun k hk => row_mk a6 hk)
  refine ⟨⟨fun k hk => h.top k (by omega), hblk _ (setCell_heap h.blk v), h.cw, by rw [ha]; exact h.tp.keepRow (Nat.le_of_eq hsz.symm) (e h.ct (by decide)) (fun k hk => e (h.crow k hk) (by decide)), h.ct, fun k hk => h.crow k (er k hk), h.map.keepB (e h.cm (by decide)), h.cm,
    ho.keep (fun k hk => e (hco k hk) (by decide)), hco, hl.keep (fun k hk => e (hcl k hk) (by decide)), hcl, fun k x hx => ?_, by rw [hn]; exact h.non, h.inj, hwf⟩, hm, hsz⟩
  rw [hn] at hx
  obtain ⟨b, b1, b2, b3⟩ := h.nds k x hx
  exact ⟨b, b1, b2, (e b2 (by decide)).trans b3⟩
theorem WAt.setLast (h : WAt C w wb tb mb fp ov lv s first front n) (z : Int) :
    WAt C (w.setCell ⟨wb, 5, none⟩ (.int .i64 z)) wb tb mb fp ov lv { s with last := z } first front n ∧ Mv C 1 7 w (w.setCell ⟨wb, 5, none⟩ (.int .i64 z)) ∧ (w.setCell ⟨wb, 5, none⟩ (.int .i64 z)).heap.size = w.heap.size :=
  h.setW 5 _ ov lv { s with last := z } (fun _ hw => hw) rfl rfl h.ord h.co h.opn h.cl h.wfo
theorem WAt.setNext (h : WAt C w wb tb mb fp ov lv s first front n) (z : Int) :
    WAt C (w.setCell ⟨wb, 4, none⟩ (.int .i64 z)) wb tb mb fp ov lv { s with next := z } first front n ∧ Mv C 1 7 w (w.setCell ⟨wb, 4, none⟩ (.int .i64 z)) ∧ (w.setCell ⟨wb, 4, none⟩ (.int .i64 z)).heap.size = w.heap.size :=
  h.setW 4 _ ov lv { s with next := z } (fun _ hw => hw) rfl rfl h.ord h.co h.opn h.cl h.wfo
theorem WAt.setOpn (h : WAt C w wb tb mb fp ov lv s first front n) (v : Value) (o : List (Int × Int)) (hq : QRow w 72 2 v o.length (opnV o)) (hv : ∀ k, v.ownBlock = some k → C k = 5) :
    WAt C (w.setCell ⟨wb, 3, none⟩ v) wb tb mb fp ov v { s with opn := o } first front n ∧ Mv C 1 7 w (w.setCell ⟨wb, 3, none⟩ v) ∧ (w.setCell ⟨wb, 3, none⟩ v).heap.size = w.heap.size :=
  h.setW 3 v ov v { s with opn := o } (fun _ hw => hw) rfl rfl h.ord h.co hq hv h.wfo
theorem Eqv.alloc' {w W : World} (h : Eqv w W) (o : Obj) : Eqv (w.alloc o) (W.alloc o) := by obtain ⟨d, rfl⟩ := h; exact ⟨d, rfl⟩
/-- a node turns -/
theorem WAt.node (h : WAt C w wb tb mb fp ov lv s first front n) {k : Int} {b : Nat} {x' : WN} (hk : fp k = some b) (hb : C b = 6) (hs : w'.heap.size = w.heap.size) (ho : ∀ j, j ≠ b → w'.heap[j]? = w.heap[j]?) (hx : NodeIs w' b x') (hos : w'.os = w.os) (htp : w'.tape = w.tape) (hou : w'.output = w.output) :
    WAt C w' wb tb mb fp ov lv { s with nodes := wupd s.nodes k (some x') } first front n ∧ Mv C 1 7 w w' := by
  have e : ∀ {j c : Nat}, C j = c → c ≠ 6 → w'.heap[j]? = w.heap[j]? := fun {j c} hj hc => ho j (fun e => by rw [e, hb] at hj; omega)
  have er : ∀ k, TapeRow w' tb k → TapeRow w tb k := by
    obtain ⟨_, _, _, _, _, u, a6, _⟩ := h.tp
    exact row_of ((e h.ct (by decide)).trans a6) (fun k hk => row_mk a6 hk)
  refine ⟨⟨fun k hk => h.top k (by omega), (e h.cw (by decide)).trans h.blk, h.cw, h.tp.keepRow (Nat.le_of_eq hs.symm) (e h.ct (by decide)) (fun k hk => e (h.crow k hk) (by decide)), h.ct, fun k hk => h.crow k (er k hk), h.map.keepB (e h.cm (by decide)), h.cm,
    h.ord.keep (fun k hk => e (h.co k hk) (by decide)), h.co, h.opn.keep (fun k hk => e (h.cl k hk) (by decide)), h.cl, fun j x hj => ?_, fun j hj => ?_, h.inj, h.wfo⟩,
    ⟨hos, htp, hou, Nat.le_of_eq hs.symm, fun j _ hn => ho j (fun e => hn (by rw [e, hb]; decide))⟩⟩
  · by_cases hjk : j = k
    · subst hjk
      have : x' = x := by simpa [wupd] using hj
      subst this
      exact ⟨b, hk, hb, hx⟩
    · have hj' : s.nodes j = some x := by simpa [wupd, hjk] using hj
      obtain ⟨c, c1, c2, c3⟩ := h.nds j x hj'
      exact ⟨c, c1, c2, (ho c (fun e => hjk (h.inj j k b (by rw [c1, e]) hk))).trans c3⟩
  · by_cases hjk : j = k
    · subst hjk; simp [wupd] at hj
    · exact h.non j (by simpa [wupd, hjk] using hj)
/-- a node more: its block is made, the map is turned -/
theorem WAt.newNode (h : WAt C w wb tb mb fp ov lv s first front n) {w1 w2 : World} {y : Int} {x : WN} (hE : Eqv (w.alloc (.cells #[.int .i64 x.truth, .bool x.whole, .int .i64 x.frm, .int .i64 x.bgn, .int .i64 x.fin] 70)) w1)
    (hp : PMap Tryz.prog 3 w2 mb (n + 1) (fun z => if z = y then some w.heap.size else fp z)) (ht : w1.mapTurned w2 mb) :
    WAt (paint C w w1 6) w2 wb tb mb (fun z => if z = y then some w.heap.size else fp z) ov lv { s with nodes := wupd s.nodes y (some x) } first front (n + 1) ∧ Mv C 1 7 w w2 ∧ Paint C (paint C w w1 6) w w2 ∧ w2.heap.size = w.heap.size + 1 := by
  have h1 := hE.heap
  have hs1 : w1.heap.size = w.heap.size + 1 := by rw [h1]; simp
  have hg := ht.grown
  have hs2 : w2.heap.size = w1.heap.size := by
    obtain ⟨es, clock, es', clock', hb, rfl⟩ := ht
    simp [ChangeMaps.setBlock]
  have hpt : Paint C (paint C w w1 6) w w1 := Paint.mk' 6 h.top (by omega)
  have hl : ∀ {k : Nat}, C k ≠ 0 → k < w.heap.size := fun hk => h.lt0 hk
  have e : ∀ {k c : Nat}, C k = c → c ≠ 0 → c ≠ 3 → paint C w w1 6 k = c ∧ w2.heap[k]? = w.heap[k]? := fun {k c} hk h0 h3 => by
    have hlt := hl (k := k) (by omega)
    refine ⟨(hpt.old k hlt).trans hk, (hg.block k (by omega) (fun e => h3 (by injection e with e; rw [← hk, e, h.cm]))).trans ?_⟩
    rw [h1]; exact heap_alloc_old _ _ hlt
  have er : ∀ k, TapeRow w2 tb k → TapeRow w tb k := by
    obtain ⟨_, _, _, _, _, u, a6, _⟩ := h.tp
    exact row_of ((e h.ct (by decide) (by decide)).2.trans a6) (fun k hk => row_mk a6 hk)
  have hnew : NodeIs w2 w.heap.size x := by
    have e1 : w2.heap[w.heap.size]? = w1.heap[w.heap.size]? := hg.block _ (by omega) (fun e => by injection e with e; have := hl (k := mb) (by rw [h.cm]; decide); omega)
    unfold NodeIs
    rw [e1, h1]; exact heap_alloc_new w _
  have hfl : ∀ k b, fp k = some b → b < w.heap.size := fun k b hk => by
    cases hx : s.nodes k with
    | none => rw [h.non k hx] at hk; cases hk
    | some x => obtain ⟨c, c1, c2, _⟩ := h.nds k x hx; rw [c1] at hk; injection hk with hk; subst hk; exact hl (by rw [c2]; decide)
  refine ⟨⟨fun k hk => hpt.top k (by omega), (e h.cw (by decide) (by decide)).2.trans h.blk, (e h.cw (by decide) (by decide)).1, h.tp.keepRow (by omega) (e h.ct (by decide) (by decide)).2 (fun k hk => (e (h.crow k hk) (by decide) (by decide)).2), (e h.ct (by decide) (by decide)).1,
    fun k hk => (e (h.crow k (er k hk)) (by decide) (by decide)).1, hp, (hpt.old mb (hl (by rw [h.cm]; decide))).trans h.cm, h.ord.keep (fun k hk => (e (h.co k hk) (by decide) (by decide)).2), fun k hk => (e (h.co k hk) (by decide) (by decide)).1, h.opn.keep (fun k hk => (e (h.cl k hk) (by decide) (by decide)).2), fun k hk => (e (h.cl k hk) (by decide) (by decide)).1,
    fun j x' hj => ?_, fun j hj => ?_, fun j i b hj hi => ?_, h.wfo⟩, ?_, ⟨hpt.old, fun k hk => hpt.top k (by omega)⟩, by omega⟩
  · by_cases hjk : j = y
    · subst hjk
      have : x = x' := by simpa [wupd] using hj
      subst this
      exact ⟨w.heap.size, by simp, paint_new C w w1 6 (Nat.le_refl _) (by omega), hnew⟩
    · have hj' : s.nodes j = some x' := by simpa [wupd, hjk] using hj
      obtain ⟨c, c1, c2, c3⟩ := h.nds j x' hj'
      exact ⟨c, by simp only [if_neg hjk]; exact c1, (e c2 (by decide) (by decide)).1, (e c2 (by decide) (by decide)).2.trans c3⟩
  · by_cases hjk : j = y
    · subst hjk; simp [wupd] at hj
    · simp only [if_neg hjk]; exact h.non j (by simpa [wupd, hjk] using hj)
  · by_cases h1 : j = y
    · by_cases h2 : i = y
      · rw [h1, h2]
      · simp only [if_pos h1] at hj; simp only [if_neg h2] at hi
        have := hfl i b hi
        injection hj with hj; omega
    · by_cases h2 : i = y
      · simp only [if_neg h1] at hj; simp only [if_pos h2] at hi
        have := hfl j b hj
        injection hi with hi; omega
      · simp only [if_neg h1] at hj; simp only [if_neg h2] at hi; exact h.inj j i b hj hi
  · have hbl := hE.below
    refine ⟨hg.os.trans hbl.os, hg.tape.trans hbl.tape, hg.output.trans hbl.output, by omega, fun k hk hn => (hg.block k (by omega) (fun e => hn (by injection e with e; rw [e, h.cm]; decide))).trans ?_⟩
    rw [h1]; exact heap_alloc_old _ _ hk
/-- behind an append to a row of the colour c0, ahead of the store -/
theorem WAt.appC (h : WAt C w wb tb mb fp ov lv s first front n) {o : Obj} {v v' : Value} (hap : App (w.alloc o) w' v v') (c0 : Nat) (hv : ∀ k, v.ownBlock = some k → C k = c0) (hc1 : 1 ≤ c0) (hc7 : c0 < 7) :
    (∀ j, j < w.heap.size → C j ≠ c0 → w'.heap[j]? = w.heap[j]?) ∧ Paint C (paint C w w' c0) w w' ∧ (∀ j, v'.ownBlock = some j → j < w'.heap.size → paint C w w' c0 j = c0) ∧ Mv C 1 7 w w' := by
  have hg := hap.grown
  have hs : w.heap.size ≤ w'.heap.size := Nat.le_trans (by simp) hg.size
  have hb : ∀ j, j < w.heap.size → C j ≠ c0 → w'.heap[j]? = w.heap[j]? := fun j hj hc => (hg.block j (by simp; omega) (fun e => hc (hv j e.symm))).trans (heap_alloc_old _ _ hj)
  refine ⟨hb, Paint.mk' c0 h.top hs, fun j hj hl => ?_, ⟨hg.os, hg.tape, hg.output, hs, fun j hj hn => hb j hj (fun e => hn (by omega))⟩⟩
  rcases hap.own with e | ⟨g, e, hge⟩
  · rw [e] at hj
    have := hv j hj
    rw [paint_old C w w' c0 (h.lt0 (by omega))]; exact this
  · rw [e] at hj; injection hj with hj
    simp at hge
    exact paint_new C w w' c0 (by omega) hl
/-- a row of the colour c0 and the block have turned -/
theorem WAt.turn (h : WAt C w wb tb mb fp ov lv s first front n) {C' : Nat → Nat} (hp : Paint C C' w w') (hs : w.heap.size ≤ w'.heap.size) (c0 : Nat) (hc0 : c0 = 4 ∨ c0 = 5) (hb : ∀ j, j < w.heap.size → C j ≠ 1 → C j ≠ c0 → w'.heap[j]? = w.heap[j]?)
    {ov' lv' : Value} {s' : WSt} (hblk : w'.heap[wb]? = some (.cells #[.pointer (some ⟨tb, 0, none⟩), .map (some mb), ov', lv', .int .i64 s'.next, .int .i64 s'.last] 57 (0, 0)))
    (hn : s'.nodes = s.nodes) (ha : s'.all = s.all) (ho : QRow w' 3 1 ov' s'.order.length (s'.order.map (.int .i64))) (hco : ∀ k, ov'.ownBlock = some k → C' k = 4) (hl : QRow w' 72 2 lv' s'.opn.length (opnV s'.opn)) (hcl : ∀ k, lv'.ownBlock = some k → C' k = 5) (hwf : ∀ k ∈ s'.order, Wf k) :
    WAt C' w' wb tb mb fp ov' lv' s' first front n := by
  have e : ∀ {k c : Nat}, C k = c → c ≠ 0 → c ≠ 1 → c ≠ 4 → c ≠ 5 → C' k = c ∧ w'.heap[k]? = w.heap[k]? := fun {k c} hk h0 h1 h4 h5 => by
    have hl := h.lt0 (k := k) (by omega)
    exact ⟨(hp.old k hl).trans hk, hb k hl (by omega) (by omega)⟩
  have er : ∀ k, TapeRow w' tb k → TapeRow w tb k := by
    obtain ⟨_, _, _, _, _, u, a6, _⟩ := h.tp
    exact row_of ((e h.ct (by decide) (by decide) (by decide) (by decide)).2.trans a6) (fun k hk => row_mk a6 hk)
  refine ⟨hp.top, hblk, (hp.old wb (h.lt0 (by rw [h.cw]; decide))).trans h.cw, by rw [ha]; exact h.tp.keepRow hs (e h.ct (by decide) (by decide) (by decide) (by decide)).2 (fun k hk => (e (h.crow k hk) (by decide) (by decide) (by decide) (by decide)).2), (e h.ct (by decide) (by decide) (by decide) (by decide)).1,
    fun k hk => (e (h.crow k (er k hk)) (by decide) (by decide) (by decide) (by decide)).1, h.map.keepB (e h.cm (by decide) (by decide) (by decide) (by decide)).2, (e h.cm (by decide) (by decide) (by decide) (by decide)).1, ho, hco, hl, hcl, fun k x hx => ?_, by rw [hn]; exact h.non, h.inj, hwf⟩
  rw [hn] at hx
  obtain ⟨b, b1, b2, b3⟩ := h.nds k x hx
  have eb := e b2 (by decide) (by decide) (by decide) (by decide)
  exact ⟨b, b1, eb.1, eb.2.trans b3⟩
theorem WAt.pushOpn (h : WAt C w wb tb mb fp ov lv s first front n) {o : Obj} {v' : Value} {p : Int × Int} (hap : App (w.alloc o) w' lv v') (hq : QRow w' 72 2 v' (s.opn.length + 1) (opnV s.opn ++ [.int .i64 p.1, .int .i64 p.2])) :
    WAt (paint C w w' 5) (w'.setCell ⟨wb, 3, none⟩ v') wb tb mb fp ov v' { s with opn := s.opn ++ [p] } first front n ∧ Mv C 1 7 w (w'.setCell ⟨wb, 3, none⟩ v') ∧ Paint C (paint C w w' 5) w (w'.setCell ⟨wb, 3, none⟩ v') := by
  obtain ⟨h1, h2, h3, h4⟩ := h.appC hap 5 h.cl (by decide) (by decide)
  have hs : w.heap.size ≤ w'.heap.size := h4.size
  have hsz : (w'.setCell ⟨wb, 3, none⟩ v').heap.size = w'.heap.size := by simp [World.setCell]
  have hwb := h.lt0 (k := wb) (by rw [h.cw]; decide)
  have hp : Paint C (paint C w w' 5) w (w'.setCell ⟨wb, 3, none⟩ v') := ⟨h2.old, fun k hk => h2.top k (by omega)⟩
  have ob : ∀ j, j < w.heap.size → C j ≠ 1 → C j ≠ 5 → (w'.setCell ⟨wb, 3, none⟩ v').heap[j]? = w.heap[j]? := fun j hj hc1 hc5 => (Below.heap_setCell _ _ _ _ (fun e => hc1 (by have e' : j = wb := e; rw [e', h.cw]))).trans (h1 j hj hc5)
  have hvl : ∀ j, v'.ownBlock = some j → j < w'.heap.size := hq.lt
  refine ⟨h.turn hp (by omega) 5 (.inr rfl) ob (setCell_heap ((h1 wb hwb (by rw [h.cw]; decide)).trans h.blk) v') rfl rfl (h.ord.keep (fun k hk => ob k (h.lt0 (by rw [h.co k hk]; decide)) (by rw [h.co k hk]; decide) (by rw [h.co k hk]; decide))) (fun k hk => (hp.old k (h.lt0 (by rw [h.co k hk]; decide))).trans (h.co k hk)) ?_ (fun j hj => h3 j hj (hvl j hj)) h.wfo, h4.set (by rw [h.cw]; decide) 3 v', hp⟩
  have e1 : (s.opn ++ [p]).length = s.opn.length + 1 := by simp
  have e2 : opnV (s.opn ++ [p]) = opnV s.opn ++ [.int .i64 p.1, .int .i64 p.2] := by simp [opnV]
  show QRow _ _ _ _ (s.opn ++ [p]).length (opnV (s.opn ++ [p]))
  rw [e1, e2]
  exact hq.keep (fun j hj => Below.heap_setCell _ _ _ _ (fun e => by
    have e' : j = wb := e
    have := h3 j hj (hvl j hj)
    rw [e', hp.old wb hwb, h.cw] at this; omega))
theorem WAt.pushOrd (h : WAt C w wb tb mb fp ov lv s first front n) {o : Obj} {v' : Value} {y : Int} (hy : Wf y) (hap : App (w.alloc o) w' ov v') (hq : QRow w' 3 1 v' (s.order.length + 1) (s.order.map (.int .i64) ++ [.int .i64 y])) :
    WAt (paint C w w' 4) (w'.setCell ⟨wb, 2, none⟩ v') wb tb mb fp v' lv { s with order := s.order ++ [y] } first front n ∧ Mv C 1 7 w (w'.setCell ⟨wb, 2, none⟩ v') ∧ Paint C (paint C w w' 4) w (w'.setCell ⟨wb, 2, none⟩ v') := by
  obtain ⟨h1, h2, h3, h4⟩ := h.appC hap 4 h.co (by decide) (by decide)
  have hs : w.heap.size ≤ w'.heap.size := h4.size
  have hsz : (w'.setCell ⟨wb, 2, none⟩ v').heap.size = w'.heap.size := by simp [World.setCell]
  have hwb := h.lt0 (k := wb) (by rw [h.cw]; decide)
  have hp : Paint C (paint C w w' 4) w (w'.setCell ⟨wb, 2, none⟩ v') := ⟨h2.old, fun k hk => h2.top k (by omega)⟩
  have ob : ∀ j, j < w.heap.size → C j ≠ 1 → C j ≠ 4 → (w'.setCell ⟨wb, 2, none⟩ v').heap[j]? = w.heap[j]? := fun j hj hc1 hc5 => (Below.heap_setCell _ _ _ _ (fun e => hc1 (by have e' : j = wb := e; rw [e', h.cw]))).trans (h1 j hj hc5)
  have hvl : ∀ j, v'.ownBlock = some j → j < w'.heap.size := hq.lt
  refine ⟨h.turn hp (by omega) 4 (.inl rfl) ob (setCell_heap ((h1 wb hwb (by rw [h.cw]; decide)).trans h.blk) v') rfl rfl ?_ (fun j hj => h3 j hj (hvl j hj)) (h.opn.keep (fun k hk => ob k (h.lt0 (by rw [h.cl k hk]; decide)) (by rw [h.cl k hk]; decide) (by rw [h.cl k hk]; decide))) (fun k hk => (hp.old k (h.lt0 (by rw [h.cl k hk]; decide))).trans (h.cl k hk)) (fun k hk => ?_), h4.set (by rw [h.cw]; decide) 2 v', hp⟩
  · have e1 : (s.order ++ [y]).length = s.order.length + 1 := by simp
    have e2 : (s.order ++ [y]).map (Value.int .i64) = s.order.map (.int .i64) ++ [.int .i64 y] := by simp
    show QRow _ _ _ _ (s.order ++ [y]).length ((s.order ++ [y]).map (Value.int .i64))
    rw [e1, e2]
    exact hq.keep (fun j hj => Below.heap_setCell _ _ _ _ (fun e => by
      have e' : j = wb := e
      have := h3 j hj (hvl j hj)
      rw [e', hp.old wb hwb, h.cw] at this; omega))
  · rcases List.mem_append.1 hk with hk | hk
    · exact h.wfo k hk
    · rw [List.mem_singleton.1 hk]; exact hy
/-- Add -/
theorem WAt.addc (h : WAt C w wb tb mb fp ov lv s first front n) (e : Ev) (A : Option Addr) (m c : Nat) (W : World) (hq : Eqv w W) (hA : AttrsAt w A m e.ats) (hmc : m ≤ c) (hwt : wtE e ≤ 1048576) (hsm : s.all.length + (evOut e).length ≤ 1099511627776) :
    Calls Tryz.prog 20 #[.pointer (some ⟨tb, 0, none⟩), .agg (evC e.kind e.num e.dep e.name A m c e.text e.fr e.tt)] W fun r w' => r = .returned (.int .i64 0) ∧ ∃ C', WAt C' w' wb tb mb fp ov lv { s with all := s.all ++ evOut e } first front n ∧ Mv C 1 7 w w' ∧ Paint C C' w w' := by
  refine (tape_add3 (tb + 1) tb s.all first front e.kind e.num e.dep e.fr e.tt e.name e.text A m c (evOut e) W (h.eqv hq).tp (fun w1 h1 => ?_) hsm).mono ?_
  · have hA1 : AttrsAt w1 A m e.ats := (hA.below hq.below).below h1
    exact Event_cells (cs := (evC e.kind e.num e.dep e.name A m c e.text e.fr e.tt).toList) ⟨A, m, c, rfl, hmc, hA1⟩ hwt
  · rintro r w' ⟨h1, h2, h3, h4⟩
    obtain ⟨g1, g2, g3⟩ := (h.eqv hq).tape' h2 h3 h4
    obtain ⟨d, rfl⟩ := hq
    exact ⟨h1, _, g1, ⟨g2.os, g2.tape, g2.output, g2.size, g2.block⟩, ⟨g3.old, g3.top⟩⟩
end
/-- append of one element as a step of a region that draws -/
theorem step_qapp {P : Program} {ops : Array Oper} {o : Oper} {a : Act} {w : World} {K : Act → World → Prop} {Q : Exit → Act → World → Prop} {E : Prop} (hgd : o.guard = none) (s x : Operand) (t : TypeId)
    (ho : o.op = .call { callee := .builtin .append, args := #[s, x], argTypes := #[t, t] })
    (e : TypeId) (i : TypeInfo) (z : Value) (size bytes : Nat) (ht : P.underlying t = some (.slice e)) (hi : P.info? e = some i) (hz : i.zero = some z)
    (hsize : i.size = size) (hby : i.bytes = bytes) (hzs : z.cells.size = size) (hsz : 0 < size)
    (v : Value) (n : Nat) (xs : List Value) (hs : a.eval s = v) (hown : QRow w e size v n xs)
    (H : Nat) (c : Nat) (news : List Value) (hx : a.eval x = .slice (some ⟨H, 0, none⟩) 1 c) (hnew : w.heap[H]? = some (.cells news.toArray e (0, 0))) (hl : news.length = size) (h1 : ∀ u ∈ news, u.oneCell' = true)
    (hn : n + 1 ≤ 4294967296) (hbb : bytes ≤ 16384)
    (h : ∀ v' w', QRow w' e size v' (n + 1) (xs ++ news) → App w w' v v' → K (a.put o.dst v') w') :
    if Region.wanted o (yielded ops a.tmps) = true then Oper.wp P o a w K Q else E := by
  have hw : Region.wanted o (yielded ops a.tmps) = true := by simp [Region.wanted, hgd]
  rw [if_pos hw]
  have hb : (n + 1) * bytes ≤ 140737488355328 := Nat.le_trans (Nat.mul_le_mul hn hbb) (by decide)
  obtain ⟨v', w', hr, r1, r2, r3⟩ := run_qappend (P := P) (w := w) t o.type i z bytes ht hi hz hsize hby hzs hsz hown ⟨H, 0, none⟩ c news (by omega) (by
    intro j u hj
    have hc : w.cell? ⟨H, j, none⟩ = some u := by rw [cell_heap hnew]; simpa using hj
    unfold Addr.add
    split
    · rename_i h0; subst h0; exact hc
    · simpa using hc) h1 (by unfold maxLen; omega) hb
  unfold Oper.wp execOp
  simp only [ho, resolve, invoke, builtin, Sem.run_bind, Sem.run_pure, Result.andThen_ok, List.map_toArray, List.map_cons, List.map_nil, hs, hx, hr]
  exact h v' w' r1 ⟨r2, r3⟩
theorem fold_keep (e : WEv) (b n : Nat) (k : Int) : ∀ (l : List (Int × Int)) (st : (Int → Option WN) × List Int), (∀ v ∈ l, v.1 ≠ k) → (l.foldl (wverd e b n) st).1 k = st.1 k := by
  intro l
  induction l with
  | nil => intro st _; rfl
  | cons v l ih =>
    intro st h
    rw [List.foldl_cons, ih _ (fun x hx => h x (List.mem_cons_of_mem _ hx))]
    have hv : k ≠ v.1 := fun e => h v (List.mem_cons_self ..) e.symm
    unfold wverd
    split
    · simp [wupd, hv]
    · split
      · simp [wupd, hv]
      · split
        · rfl
        · simp [wupd, hv]
end Go.Proofs.YtmnloeolacmemaaGreat
