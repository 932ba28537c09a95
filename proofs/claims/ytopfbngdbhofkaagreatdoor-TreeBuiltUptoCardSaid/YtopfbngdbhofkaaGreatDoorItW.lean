/-
  (*tree.Tree).Print of the root above; Node.
-/
import Derived.Test.YtopfbngdbhofkaaGreatDoorItV
namespace Go.Proofs.YtopfbngdbhofkaaGreatDoor
open Go.RowKit

set_option maxRecDepth 100000 in
set_option maxHeartbeats 4000000 in
theorem tprint_top (tb : Nat) (x : Nd) (evs : List Ev) (w : World) {B : Nat} (h : TreeAt w B tb evs) (hx : (nodesB evs)[0]? = some x) (hwh : wholeB evs = true) (hw : wtEs evs ≤ 1048576) (h1 : x.pos < x.fin) (h2 : x.fin ≤ evs.length) :
    Calls Tryz.prog 22 #[.pointer (some ⟨tb, 0, none⟩), .int .i64 (-1)] w fun e w' => e = .returned (.tuple #[.string (strL (((evs.take x.fin).drop x.pos).flatMap evOut)), .int .i64 0]) ∧ Below w.heap.size w w' := by
  have htl := treeLast h hwh
  obtain ⟨_, _, ge, n, an, cn, htb, hne, hcn, _, hgew, hev, hnd⟩ := h
  have hE : EvsAt w (some ⟨ge, 0, none⟩) n evs := ⟨hne, fun i hi => by
    obtain ⟨A, m, c, g1, g2, _, g4⟩ := hev i hi
    exact ⟨ge, 0, A, m, c, rfl, hgew, g1, g2, fun j hj => by rw [Nat.zero_add]; exact g4 j hj⟩⟩
  obtain ⟨b, e, A, m, c, rfl, _, hb, he, hmc, hA, _, hc⟩ := hnd 0 x hx
  clear hev hgew hne
  have hil := get_lt hx
  have hn := hE.1
  have HREF : Hid (Calls Tryz.prog 32 #[.pointer (some ⟨tb, 0, none⟩), .int .i64 (-1), .int .i64 (-1)] w fun e w' => e = .returned (.int .i64 0) ∧ w' = w) := Lib.hid (refuses_in htl (-1) (-1) (by decide) (by omega))
  have HPR : Hid (∀ W, Below w.heap.size w W → Calls Tryz.prog 40 #[.slice (some ⟨ge, x.pos * 8, none⟩) (x.fin - x.pos) (n - x.pos)] W fun e w' => e = .returned (.string (strL (((evs.take x.fin).drop x.pos).flatMap evOut))) ∧ Below W.heap.size W w') := Lib.hid fun W hW =>
    canonPrint_any _ _ _ _ W ((hE.sub x.pos x.fin (by omega) (by omega)).below hW) (Nat.le_trans (wtEs_sub _ _ _) hw)
  have c0 : w.cell? ⟨tb, 0, none⟩ = some (.slice (some ⟨ge, 0, none⟩) n n) := by rw [cell_heap htb]; rfl
  have c1 : w.cell? ⟨tb, 1, none⟩ = some (.slice (some ⟨b, 0, none⟩) (nodesB evs).length cn) := by rw [cell_heap htb]; rfl
  have e0 := hc 0 (by decide)
  have e1 := hc 1 (by decide)
  have e2 := hc 2 (by decide)
  have e3 := hc 3 (by decide)
  have e4 := hc 4 (by decide)
  have e5 := hc 5 (by decide)
  have e6 := hc 6 (by decide)
  have e7 := hc 7 (by decide)
  have e8 := hc 8 (by decide)
  have e9 := hc 9 (by decide)
  have e10 := hc 10 (by decide)
  have e11 := hc 11 (by decide)
  simp only [ndL, evL, evC, List.cons_append, List.nil_append, List.getElem?_cons_zero, List.getElem?_cons_succ, Nat.add_zero, Nat.zero_mul, Nat.zero_add] at e0 e1 e2 e3 e4 e5 e6 e7 e8 e9 e10 e11
  generalize (nodesB evs).length = nn at *
  have hmx : (max (-1) 0 : Int) = 0 := rfl
  have i2 : (0 : Int) < (nn : Int) := by omega
  have htw := heap_lt htb
  clear hnd hE hc hA hx he hil hcn htb htl hwh
  generalize (List.flatMap evOut (List.drop x.pos (List.take x.fin evs))) = OUT at *
  generalize x.pos = p at *
  generalize x.fin = f at *
  have hfn : f ≤ n := by omega
  have hpn : p < n := by omega
  clear hn hw
  have HB0 : Hid (∀ o, Below w.heap.size w (w.alloc o) ∧ (w.alloc o).heap[w.heap.size]? = some o ∧ (w.alloc o).heap.size = w.heap.size + 1) := Lib.hid fun o => ⟨(Below.refl _ _).alloc (Nat.le_refl _) _, heap_alloc_new w o, by simp⟩
  have HTW := Lib.hid htw
  have HC0 := Lib.hid c0
  clear htw hb
  go_enter Tryz.func22, Tryz.ntmps22
  go_wp2_with fail
  (with_reducible refine HREF.out.mono ?_)
  rintro r w9 ⟨rfl, hw9⟩
  rw [hw9]
  clear hw9
  go_wp2_with fail
  obtain ⟨W1, hW1⟩ : ∃ W1, W1 = w.alloc (.cells #[.int .i64 e.kind, .int .i64 e.num, .int .i64 e.dep, .string (strL e.name), .slice A m c, .string (strL e.text), .int .i64 e.fr, .int .i64 e.tt, .int .i64 x.par, .int .i64 x.last, .int .i64 p, .int .i64 f] 73) := ⟨_, rfl⟩
  rw [← hW1]
  obtain ⟨g1, g2, g3⟩ := HB0.out (.cells #[.int .i64 e.kind, .int .i64 e.num, .int .i64 e.dep, .string (strL e.name), .slice A m c, .string (strL e.text), .int .i64 e.fr, .int .i64 e.tt, .int .i64 x.par, .int .i64 x.last, .int .i64 p, .int .i64 f] 73)
  rw [← hW1] at g1 g2 g3
  have hS : ∀ w', Below W1.heap.size W1 w' → w'.cell? ⟨tb, 0, none⟩ = some (.slice (some ⟨ge, 0, none⟩) n n) ∧ w'.cell? ⟨w.heap.size, 10, none⟩ = some (.int .i64 p) ∧ w'.cell? ⟨w.heap.size, 11, none⟩ = some (.int .i64 f) ∧ Below W1.heap.size W1 w' := fun w' hb => by
    have e := (hb.block w.heap.size (by omega)).trans g2
    exact ⟨((g1.trans (hb.mono g1.size)).cell (p := ⟨tb, 0, none⟩) HTW.out).trans HC0.out, by rw [cell_heap e]; rfl, by rw [cell_heap e]; rfl, hb⟩
  have HS := Lib.hid hS
  have hS0 : Below W1.heap.size W1 W1.drew := (Below.refl _ _).drew
  have hif : (if n = p then some (⟨ge, 0, none⟩ : Addr) else some ⟨ge, p * 8, none⟩) = some ⟨ge, p * 8, none⟩ := if_neg (by omega)
  have HPK : Hid (∀ w', Below W1.heap.size W1 w' → Calls Tryz.prog 40 #[.slice (if n = p then some ⟨ge, 0, none⟩ else some ⟨ge, p * 8, none⟩) (f - p) (n - p)] w' fun e w'' => e = .returned (.string (strL OUT)) ∧ Below W1.heap.size W1 w'') := Lib.hid fun w' hb => by
    rw [hif]
    exact (HPR.out w' (g1.trans (hb.mono g1.size))).mono fun e w'' h => ⟨h.1, hb.trans (h.2.mono hb.size)⟩
  have HG1 := Lib.hid g1
  clear hif hS g1 g2 g3 c0 c1 e0 e1 e2 e3 e4 e5 e6 e7 e8 e9 e10 e11 hW1
  have j1 : (0 : Int) ≤ (p : Int) := by omega
  have j2 : (p : Int) ≤ (f : Int) := by omega
  have j3 : (f : Int) ≤ (n : Int) := by omega
  go_region_held3 (fun w' => w'.cell? ⟨tb, 0, none⟩ = some (.slice (some ⟨ge, 0, none⟩) n n) ∧ w'.cell? ⟨w.heap.size, 10, none⟩ = some (.int .i64 p) ∧ w'.cell? ⟨w.heap.size, 11, none⟩ = some (.int .i64 f) ∧ Below W1.heap.size W1 w') (first | exact HS.out _ ‹_› | go_keep) (first | (go_at_call 40; (with_reducible refine (HPK.out _ ‹_›).mono ?_); rintro e w5 ⟨rfl, hb5⟩))
  go_wp2_with fail
  go_ret2
  exact ⟨rfl, HG1.out.trans (hb5.mono HG1.out.size)⟩
theorem results_cellTmp {P : Program} {fn : Func} {p t : Tmp} {ty : TypeId} (h : fn.results = #[.cell p ty, .tmp t]) (tmps : Array Value) (w : World) :
    (results fn tmps).run P w = ((asAddr (tmps.getD p undef)).run P w).andThen fun a w₁ => ((loadVar ty a).run P w₁).andThen fun v w₂ => .ok (.tuple #[v, tmps.getD t undef]) w₂ := by
  simp only [results, h]
  simp [Sem.run_bind]
set_option maxRecDepth 100000 in
set_option maxHeartbeats 4000000 in
theorem node_ref (t : Option Addr) (v er : Int) (w : World) (hne : (er != 0) = true) (HREF : Hid (∀ W, Below w.heap.size w W → Calls Tryz.prog 32 #[.pointer t, .int .i64 v, .int .i64 0] W fun e w' => e = .returned (.int .i64 er) ∧ w' = W)) :
    Calls Tryz.prog 19 #[.pointer t, .int .i64 v] w fun e w' => e = .returned (.tuple #[.agg (evC 0 0 0 [] none 0 0 [] 0 0), .int .i64 er]) ∧ Below w.heap.size w w' := by
  have hB : Hid (∀ o, Below w.heap.size w (w.alloc o)) := Lib.hid fun o => (Below.refl _ _).alloc (Nat.le_refl _) _
  go_enter Tryz.func19, Tryz.ntmps19
  go_wp2_with (first | (go_at_call 32; (with_reducible refine (HREF.out _ (hB.out _)).mono ?_); rintro e w' ⟨rfl, hw'⟩; subst w'))
  refine bodyPost_ret (v := .tuple #[.agg (evC 0 0 0 [] none 0 0 [] 0 0), .int .i64 er]) ?_ rfl ⟨rfl, ?_⟩
  rotate_left
  · exact hB.out _
  · rw [results_cellTmp rfl]
    go_simp
    rfl
theorem node_nil (v : Int) (w : World) :
    Calls Tryz.prog 19 #[.pointer none, .int .i64 v] w fun e w' => e = .returned (.tuple #[.agg (evC 0 0 0 [] none 0 0 [] 0 0), .int .i64 1]) ∧ Below w.heap.size w w' :=
  node_ref none v 1 w rfl (Lib.hid fun W _ => refuses_nil W v 0)
theorem node_out (tb : Nat) (v : Int) (w : World) {L : Nat} {f : Nat → Nat} {G : Nat → Prop} (h : LastAt w G tb L f) (hG : ∀ k, G k → k < w.heap.size) (hv : v < 0 ∨ (L : Int) ≤ v) :
    Calls Tryz.prog 19 #[.pointer (some ⟨tb, 0, none⟩), .int .i64 v] w fun e w' => e = .returned (.tuple #[.agg (evC 0 0 0 [] none 0 0 [] 0 0), .int .i64 2]) ∧ Below w.heap.size w w' :=
  node_ref _ v 2 w rfl (Lib.hid fun W hW => by
    have h2 := h.keep (B := W) fun k hk => hW.block k (hG k hk)
    by_cases h1 : v < 0
    · exact refuses_low h2 v 0 h1
    · exact refuses_high h2 v 0 (by omega) (by omega))
set_option maxRecDepth 100000 in
set_option maxHeartbeats 4000000 in
theorem node_at (tb i : Nat) (x : Nd) (e : Ev) (evs : List Ev) (w : World) {B : Nat} (h : TreeAt w B tb evs) (hw : wholeB evs = true) (hx : (nodesB evs)[i]? = some x) (he : evs[x.pos]? = some e) (hal : e.ats.length ≤ 1048576) :
    Calls Tryz.prog 19 #[.pointer (some ⟨tb, 0, none⟩), .int .i64 (i : Nat)] w fun r w' => ∃ A m c, r = .returned (.tuple #[.agg (evC e.kind e.num e.dep e.name A m c e.text e.fr e.tt), .int .i64 0]) ∧ m ≤ c ∧ AttrsAt w' A m e.ats ∧ (∀ ad, A = some ad → w.heap.size ≤ ad.block) ∧ Below w.heap.size w w' := by
  have hil := get_lt hx
  have htl := treeLast h hw
  have HREF : Hid (∀ W, Below w.heap.size w W → Calls Tryz.prog 32 #[.pointer (some ⟨tb, 0, none⟩), .int .i64 (i : Nat), .int .i64 0] W fun e w' => e = .returned (.int .i64 0) ∧ w' = W) := Lib.hid fun W hW => refuses_in (htl.keep (B := W) fun k hk => hW.block k hk.2) (i : Nat) 0 (by omega) (by omega)
  obtain ⟨q, b, cn, e', A, m, c, htb, hb, he', hmc, hA, e0, e1, e2, e3, e4, e5, e6, e7, e8⟩ := treeNode h i x hx
  have : e' = e := by rw [he] at he'; exact (Option.some.inj he').symm
  subst this
  have c1 : w.cell? ⟨tb, 1, none⟩ = some (.slice (some ⟨b, 0, none⟩) (nodesB evs).length cn) := by rw [cell_heap htb]; rfl
  have hm : m ≤ 1048576 := by rw [hA.1]; exact hal
  have HONE : Hid (∀ W, Below w.heap.size w W → Calls Tryz.prog 37 #[.agg #[.int .i64 e'.kind, .int .i64 e'.num, .int .i64 e'.dep, .string (strL e'.name), .slice A m c, .string (strL e'.text), .int .i64 e'.fr, .int .i64 e'.tt]] W fun e w' => ∃ A' c2, e = .returned (.agg (evC e'.kind e'.num e'.dep e'.name A' m c2 e'.text e'.fr e'.tt)) ∧ m ≤ c2 ∧ AttrsAt w' A' m e'.ats ∧ (∀ ad, A' = some ad → W.heap.size ≤ ad.block) ∧ Below W.heap.size W w') := Lib.hid fun W hW => one_any _ _ _ _ _ _ _ A m c _ W (hA.below hW) hm
  have HB : Hid (∀ o, Below w.heap.size w (w.alloc o) ∧ (w.alloc o).heap[w.heap.size]? = some o ∧ (w.alloc o).heap.size = w.heap.size + 1) := Lib.hid fun o => ⟨(Below.refl _ _).alloc (Nat.le_refl _) _, heap_alloc_new w o, by simp⟩
  have htbw := heap_lt htb
  have k1 := fun o => ((HB.out o).1.cell (p := ⟨tb, 1, none⟩) htbw).trans c1
  have k := fun o j => (HB.out o).1.cell (p := ⟨b, j, none⟩) hb
  have g0 := fun o => (k o _).trans e0
  have g1 := fun o => (k o _).trans e1
  have g2 := fun o => (k o _).trans e2
  have g3 := fun o => (k o _).trans e3
  have g4 := fun o => (k o _).trans e4
  have g5 := fun o => (k o _).trans e5
  have g6 := fun o => (k o _).trans e6
  have g7 := fun o => (k o _).trans e7
  have i1 : (0 : Int) ≤ (i : Int) := by omega
  have i2 : (i : Int) < ((nodesB evs).length : Nat) := by omega
  generalize (nodesB evs).length = L at *
  clear h hw hx htb hA he he' hil e0 e1 e2 e3 e4 e5 e6 e7 e8 htl k htbw c1 hal hm
  go_enter Tryz.func19, Tryz.ntmps19
  go_wp2_with (first | (go_at_call 32; (with_reducible refine (HREF.out _ (HB.out _).1).mono ?_); rintro e w' ⟨rfl, hw'⟩; subst w'))
  (with_reducible refine (HONE.out _ (HB.out _).1).mono ?_)
  rintro r w3 ⟨A', c2, rfl, hmc2, hA', hfr, hb3⟩
  unfold evC
  have hk := (hb3.block w.heap.size (by rw [(HB.out _).2.2]; omega)).trans (HB.out _).2.1
  have hbw := (HB.out (.cells #[.int .i64 0, .int .i64 0, .int .i64 0, .string ⟨#[]⟩, .slice none 0 0, .string ⟨#[]⟩, .int .i64 0, .int .i64 0] 50)).1.trans (hb3.mono (HB.out _).1.size)
  have z0 : w3.cell? ⟨w.heap.size, 0, none⟩ = some (.int .i64 0) := by rw [cell_heap hk]; rfl
  have z1 : w3.cell? ⟨w.heap.size, 1, none⟩ = some (.int .i64 0) := by rw [cell_heap hk]; rfl
  have z2 : w3.cell? ⟨w.heap.size, 2, none⟩ = some (.int .i64 0) := by rw [cell_heap hk]; rfl
  have z3 : w3.cell? ⟨w.heap.size, 3, none⟩ = some (.string ⟨#[]⟩) := by rw [cell_heap hk]; rfl
  have z4 : w3.cell? ⟨w.heap.size, 4, none⟩ = some (.slice none 0 0) := by rw [cell_heap hk]; rfl
  have z5 : w3.cell? ⟨w.heap.size, 5, none⟩ = some (.string ⟨#[]⟩) := by rw [cell_heap hk]; rfl
  have z6 : w3.cell? ⟨w.heap.size, 6, none⟩ = some (.int .i64 0) := by rw [cell_heap hk]; rfl
  have z7 : w3.cell? ⟨w.heap.size, 7, none⟩ = some (.int .i64 0) := by rw [cell_heap hk]; rfl
  have fz : ∀ j, w3.frozen? ⟨w.heap.size, j, none⟩ = false := fun j => frozen_heap hk
  have hfr2 : ∀ ad, A' = some ad → w.heap.size + 1 ≤ ad.block := fun ad h => by have := hfr ad h; rw [(HB.out _).2.2] at this; exact this
  have HX := Lib.hid (⟨hbw, hfr2, hA', hmc2⟩ : _ ∧ _ ∧ _ ∧ _)
  clear hbw hfr2 hA' hmc2 hfr hb3 hk g0 g1 g2 g3 g4 g5 g6 g7 k1
  go_wp2_with fail
  obtain ⟨hbw, hfr2, hA', hmc2⟩ := HX.out
  refine bodyPost_ret (v := .tuple #[.agg #[.int .i64 e'.kind, .int .i64 e'.num, .int .i64 e'.dep, .string (strL e'.name), .slice A' m c2, .string (strL e'.text), .int .i64 e'.fr, .int .i64 e'.tt], .int .i64 0]) ?_ rfl ⟨A', m, c2, rfl, hmc2, ?_, fun ad h => by have := hfr2 ad h; omega, ?_⟩
  · rw [results_cellTmp rfl]
    go_simp
  · refine hA'.keep (by simp [World.setCell]) fun b o h _ => ?_
    have hb := hfr2 _ h
    simp only at hb
    iterate 8 rw [Below.heap_setCell _ _ _ _ (by simp only; omega)]
  · iterate 8 refine Below.setCell ?_ (by simp only; omega) _
    exact hbw
end Go.Proofs.YtopfbngdbhofkaaGreatDoor
