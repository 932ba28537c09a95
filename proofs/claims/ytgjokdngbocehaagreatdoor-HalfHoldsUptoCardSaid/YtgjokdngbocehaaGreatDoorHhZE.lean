/-
 The answer's Of.
-/
import Derived.Test.YtgjokdngbocehaaGreatDoorHhZD
import Derived.Test.YtgjokdngbocehaaGreatDoorHhU
import Derived.Test.YtgjokdngbocehaaGreatDoorHhJ
import Derived.StillTailTactics
namespace Go.Proofs.YtgjokdngbocehaaGreatDoor
open Go.RowKit
theorem RbMem.far {w W : World} {an : Option Addr} {evs : List Ev} {rs : List RN} {b : Nat} {p : Option Addr} {q r : Nat} {z : Bool} {e : TypeId} {fz : Nat × Nat} (h : RbMem w an evs rs) (hb : w.heap[b]? = some (.cells #[.slice p q r, .bool z] e fz)) (hW : ∀ j, j ≠ b → W.heap[j]? = w.heap[j]?) (hs : w.heap.size ≤ W.heap.size) : RbMem W an evs rs := by
 have hstr : ∀ j s, w.cell? ⟨b, j, none⟩ = some (.string s) → False := by
  intro j s hc
  rw [cell_heap hb] at hc
  match j with
  | 0 => cases hc
  | 1 => cases hc
  | j + 2 => simp at hc
 have hne : ∀ bk j s, w.cell? ⟨bk, j, none⟩ = some (.string s) → bk ≠ b := fun bk j s hc e => hstr j s (e ▸ hc)
 have hce : ∀ bk j, bk ≠ b → W.cell? ⟨bk, j, none⟩ = w.cell? ⟨bk, j, none⟩ := fun bk j hn => by simp only [World.cell?, hW bk hn]
 intro i r' hr
 obtain ⟨bk, ev, A, m, c, h1, h2, h3, h4, h5⟩ := h i r' hr
 have hn := hne bk (i * 13 + 12) (strL r'.val) ((h5 12 (by decide)).trans rfl)
 refine ⟨bk, ev, A, m, c, h1, by omega, h3, ⟨h4.1, fun k hk => ?_⟩, fun j hj => (hce bk _ hn).trans (h5 j hj)⟩
 obtain ⟨bq, o, g1, g2, g3, g4⟩ := h4.2 k hk
 have hq := hne bq _ _ g3
 exact ⟨bq, o, g1, by omega, (hce _ _ hq).trans g3, (hce _ _ hq).trans g4⟩
set_option maxRecDepth 100000 in
set_option maxHeartbeats 4000000 in
theorem of15_any (a : Option Addr) (n c : Nat) (evs : List Ev) (st : BegS) (w : World) (hE : EvsAt w a n evs) (hst : begAll beg0 evs = some st) (hn : n ≤ 1048576) (hsm : ∀ e ∈ evs, EvSm e) :
  Calls Tryz.prog 33 #[.slice a n c] w fun e w' => ∃ an cn, e = .returned (.agg #[.slice an (rnAll beg0 [] evs).length cn, .bool (decide (evs ≠ [] ∧ st.opn = []))]) ∧ RbMem w' an evs (rnAll beg0 [] evs) ∧ Below w.heap.size w w' := by
 obtain ⟨W0, hW0⟩ : ∃ W0, W0 = w.alloc (.cells #[.slice none 0 0, .bool false] 90) := ⟨_, rfl⟩
 have hb0 : Below w.heap.size w W0 := by rw [hW0]; exact (Below.refl _ _).alloc (Nat.le_refl _) _
 have hk0 : W0.heap[w.heap.size]? = some (.cells #[.slice none 0 0, .bool false] 90 (0, 0)) := by rw [hW0]; exact heap_alloc_new w _
 have hs0 : W0.heap.size = w.heap.size + 1 := by rw [hW0]; simp
 have HBE : Hid (Calls Tryz.prog 30 #[.slice a n c] W0 fun e w' => e = .returned (.tuple #[.bool true, .int .i64 (st.opn.length : Int), .bool (decide (evs ≠ [] ∧ st.opn = []))]) ∧ Below W0.heap.size W0 w') := Lib.hid (by
  have := begin_any a n c evs W0 (hE.below hb0) hn hsm
  rw [begR_all hst] at this
  exact this)
 have HNO : Hid (∀ W, Below W0.heap.size W0 W → Calls Tryz.prog 58 #[.slice a n c] W fun e w' => ∃ an cn, e = .returned (.slice an (rnAll beg0 [] evs).length cn) ∧ RbMem w' an evs (rnAll beg0 [] evs) ∧ Below W.heap.size W w') := Lib.hid fun W hW => nodesR_any a n c evs W (hE.below (hb0.trans (hW.mono hb0.size))) st hst hn hsm
 have HKB : Hid (∀ W, Below W0.heap.size W0 W → W.heap[w.heap.size]? = some (.cells #[.slice none 0 0, .bool false] 90 (0, 0))) := Lib.hid fun W hW => (hW.block _ (by omega)).trans hk0
 have HB0 := Lib.hid hb0
 have HW0 := Lib.hid hW0
 have HS0 := Lib.hid hs0
 generalize (decide (evs ≠ [] ∧ st.opn = [])) = clo at *
 generalize rnAll beg0 [] evs = rs at *
 clear hW0 hb0 hk0 hs0 hE hst hsm
 go_enter Tryz.func33, Tryz.ntmps33
 go_wp2_with fail
 rw [← HW0.out]
 (with_reducible refine HBE.out.mono ?_)
 rintro e w1 ⟨rfl, hb1⟩
 have HB1 := Lib.hid hb1
 have HN1 := Lib.hid (HNO.out w1 hb1)
 clear hb1
 go_wp2_with fail
 (with_reducible refine HN1.out.mono ?_)
 rintro e w2 ⟨an, cn, rfl, hm, hb2⟩
 have hb02 := HB1.out.trans (hb2.mono HB1.out.size)
 have hk2 := HKB.out w2 hb02
 have x0 : w2.cell? ⟨w.heap.size, 0, none⟩ = some (.slice none 0 0) := by rw [cell_heap hk2]; rfl
 have x1 : w2.cell? ⟨w.heap.size, 1, none⟩ = some (.bool false) := by rw [cell_heap hk2]; rfl
 have f0 : ∀ j, w2.frozen? ⟨w.heap.size, j, none⟩ = false := fun j => frozen_heap hk2
 have HM := Lib.hid hm
 have HB2 := Lib.hid hb02
 have HK2 := Lib.hid hk2
 clear hm hb2 hb02 hk2
 go_wp2_with fail
 have HFW : Hid (∀ v0 v1, RbMem ((w2.setCell ⟨w.heap.size, 0, none⟩ v0).setCell ⟨w.heap.size, 1, none⟩ v1) an evs rs ∧ Below w.heap.size w ((w2.setCell ⟨w.heap.size, 0, none⟩ v0).setCell ⟨w.heap.size, 1, none⟩ v1) ∧ ((w2.setCell ⟨w.heap.size, 0, none⟩ v0).setCell ⟨w.heap.size, 1, none⟩ v1).heap[w.heap.size]? = some (.cells #[v0, v1] 90 (0, 0))) := Lib.hid fun v0 v1 =>
  ⟨HM.out.far HK2.out (fun j hj => (Below.heap_setCell _ _ _ _ hj).trans (Below.heap_setCell _ _ _ _ hj)) (by simp [World.setCell]),
   ((HB0.out.trans (HB2.out.mono HB0.out.size)).setCell (p := ⟨w.heap.size, 0, none⟩) (Nat.le_refl _) _).setCell (p := ⟨w.heap.size, 1, none⟩) (Nat.le_refl _) _, setCell_heap (setCell_heap HK2.out v0) v1⟩
 obtain ⟨g1, g2, g3⟩ := HFW.out (.slice an rs.length cn) (.bool clo)
 have y0 := cell_heap (i := 0) g3
 have y1 := cell_heap (i := 1) g3
 have G1 := Lib.hid g1
 have G2 := Lib.hid g2
 clear g1 g2 g3 HFW HM HK2
 generalize (w2.setCell ⟨w.heap.size, 0, none⟩ (.slice an rs.length cn)).setCell ⟨w.heap.size, 1, none⟩ (.bool clo) = WF at *
 have y0' : WF.cell? ⟨w.heap.size, 0, none⟩ = some (.slice an rs.length cn) := y0
 have y1' : WF.cell? ⟨w.heap.size, 1, none⟩ = some (.bool clo) := y1
 clear y0 y1
 refine bodyPost_ret (v := .agg #[.slice an rs.length cn, .bool clo]) ?_ rfl ⟨an, cn, rfl, G1.out, G2.out⟩
 rw [results_cell1H rfl]
 go_simp
end Go.Proofs.YtgjokdngbocehaaGreatDoor
namespace Go.Proofs.YtgjokdngbocehaaGreatDoor
open Go.RowKit
def askR (hs : List HN) (x : PX) (k : Nat) : Int := (hs[k]?.map fun h => asksT h x).getD 0
theorem askR_3 (hs : List HN) (x : PX) (k : Nat) : T3 (askR hs x k) := by
 unfold askR
 cases hs[k]? with
 | none => show T3 0; unfold T3; decide
 | some h => exact asksT_3 h x
theorem pathK_3 (ex : PX → List Int) (hs : List HN) (hp : 1 ≤ hs.length) (x : PX) : ∀ d j, j + d = x.path.length → R3 (pathK ex hs x j) := by
 intro d
 cases d with
 | zero => intro j hj; rw [show j = x.path.length by omega, pathK_end]; exact rowOf_3 _ _ (askR_3 hs x)
 | succ d => intro j hj; rw [pathK_step _ _ _ _ (by omega)]; exact (backT_ok ex hs hp _ _).1
set_option maxRecDepth 100000 in
set_option maxHeartbeats 8000000 in
theorem expr15Some_any {an : Option Addr} {cn : Nat} {clo : Bool} {evs : List Ev} {hs : List HN} {rs : List RN} {f : Nat} (HX : ExR an cn clo evs hs rs f) (x : PX) (aa : Option Addr) (ac : Nat) (pa : Option Addr) (pc : Nat) (w : World) (h : RD w an clo evs hs rs) (hk : Lk hs rs) (hlr : ∀ i r, rs[i]? = some r → ((lastR rs i : Nat) : Int) = r.last) (hp : SsAt f w pa x.path) (hpl : x.path.length ≤ 1048576) (htx : x.text.length ≤ 1048576) (hg : goodPB (goodXB f) x.path = true) (hop : x.op = 3) :
  Calls Tryz.prog 36 #[.agg #[.slice an rs.length cn, .bool clo], .agg (exprC x aa ac pa pc).toArray] w fun e w' => ∃ P, e = .returned (.slice (some ⟨P, 0, none⟩) hs.length hs.length) ∧ w.heap.size ≤ P ∧ TsAt w' (some ⟨P, 0, none⟩) hs.length (exprT hs (f + 1) x) ∧ Below w.heap.size w w' := by
 obtain ⟨i0, hi, hz0, hz1, hz2⟩ := info_parts infoInt
 obtain ⟨q, hq⟩ : ∃ q, x.path.length = q := ⟨_, rfl⟩
 have hXV : (exprC x aa ac pa pc).toArray = #[.int .i64 3, .slice aa x.args.length ac, .slice pa q pc, .string (strL x.attr), .int .i64 x.cmp, .string (strL x.text), .int .i64 x.num] := by unfold exprC; rw [hop, hq]
 rw [hXV]
 obtain ⟨L, hL⟩ : ∃ L, rs.length = L := ⟨_, rfl⟩
 obtain ⟨N, hN⟩ : ∃ N, hs.length = N := ⟨_, rfl⟩
 have hNL : N = L + 1 := by rw [← hL, ← hN]; exact h.len
 have hcap : L ≤ 400 := by rw [← hL]; exact h.cap
 obtain ⟨W0, hW0⟩ : ∃ W0, W0 = (w.alloc (.cells #[.slice an L cn, .bool clo] 90)).alloc (.cells #[.int .i64 3, .slice aa x.args.length ac, .slice pa q pc, .string (strL x.attr), .int .i64 x.cmp, .string (strL x.text), .int .i64 x.num] 42) := ⟨_, rfl⟩
 have hb0 : Below w.heap.size w W0 := by rw [hW0]; exact ((Below.refl w.heap.size w).alloc (Nat.le_refl _) _).alloc (by simp) _
 have hsz0 : W0.heap.size = w.heap.size + 2 := by rw [hW0]; simp
 have hk0 : W0.heap[w.heap.size]? = some (.cells #[.slice an L cn, .bool clo] 90 (0, 0)) := by
  rw [hW0, Below.heap_alloc _ _ _ (by simp)]; exact heap_alloc_new w _
 have hk1 : W0.heap[w.heap.size + 1]? = some (.cells #[.int .i64 3, .slice aa x.args.length ac, .slice pa q pc, .string (strL x.attr), .int .i64 x.cmp, .string (strL x.text), .int .i64 x.num] 42 (0, 0)) := by
  rw [hW0]; exact alloc_atR _ _ (by simp)
 have HKS : Hid (∀ W, Below W0.heap.size W0 W → W.cell? ⟨w.heap.size, 0, none⟩ = some (.slice an L cn) ∧ W.cell? ⟨w.heap.size, 1, none⟩ = some (.bool clo) ∧ W.cell? ⟨w.heap.size + 1, 0, none⟩ = some (.int .i64 3) ∧ W.cell? ⟨w.heap.size + 1, 1, none⟩ = some (.slice aa x.args.length ac) ∧ W.cell? ⟨w.heap.size + 1, 2, none⟩ = some (.slice pa q pc) ∧ W.cell? ⟨w.heap.size + 1, 3, none⟩ = some (.string (strL x.attr)) ∧ W.cell? ⟨w.heap.size + 1, 4, none⟩ = some (.int .i64 x.cmp) ∧ W.cell? ⟨w.heap.size + 1, 5, none⟩ = some (.string (strL x.text)) ∧ W.cell? ⟨w.heap.size + 1, 6, none⟩ = some (.int .i64 x.num)) := Lib.hid fun W hW => by
  have g0 := (hW.block w.heap.size (by omega)).trans hk0
  have g1 := (hW.block (w.heap.size + 1) (by omega)).trans hk1
  exact ⟨by rw [cell_heap g0]; rfl, by rw [cell_heap g0]; rfl, by rw [cell_heap g1]; rfl, by rw [cell_heap g1]; rfl, by rw [cell_heap g1]; rfl, by rw [cell_heap g1]; rfl, by rw [cell_heap g1]; rfl, by rw [cell_heap g1]; rfl, by rw [cell_heap g1]; rfl⟩
 have FIN : Hid (∀ W, Below W0.heap.size W0 W → Below w.heap.size w W ∧ w.heap.size ≤ W0.heap.size) := Lib.hid fun W hW => ⟨hb0.trans (hW.mono hb0.size), hb0.size⟩
 have HCO : Hid (∀ (k : Nat) (J : Int) W, k < N → J + 1 = (k : Int) → Below W0.heap.size W0 W → Calls Tryz.prog 67 #[.agg #[.slice an L cn, .bool clo], .int .i64 J, .agg #[.int .i64 3, .slice aa x.args.length ac, .slice pa q pc, .string (strL x.attr), .int .i64 x.cmp, .string (strL x.text), .int .i64 x.num]] W fun e w' => e = .returned (.int .i64 (askR hs x k)) ∧ Below W.heap.size W w') := Lib.hid fun k J W hk hJ hW => by
  obtain ⟨y, hy⟩ := h.get k (by omega)
  have hjk : (J + 1).toNat = k := by omega
  have hc := comp15_any (cn := cn) J y x aa ac pa pc W (h.below (FIN.out W hW).1) (by omega) (by rw [hjk]; exact hy) htx
  rw [hXV, hL] at hc
  have e : askR hs x k = asksT y x := by unfold askR; rw [hy]; rfl
  rw [e]; exact hc
 have HST : Hid (∀ j (hj : j < x.path.length) wa wn Q W, Below W0.heap.size W0 W → XsAt f W wa x.path[j].wher → x.path[j].wher.length ≤ 1048576 → TsAt W (some ⟨Q, 0, none⟩) N (pathK (exprT hs f) hs x (j + 1)) → Calls Tryz.prog 68 #[.agg #[.slice an L cn, .bool clo], .agg #[.int .i64 x.path[j].axis, .int .i64 x.path[j].test, .string (strL x.path[j].name), .slice wa x.path[j].wher.length wn], .slice (some ⟨Q, 0, none⟩) N N] W fun e w' => ∃ P2, e = .returned (.slice (some ⟨P2, 0, none⟩) N N) ∧ W.heap.size ≤ P2 ∧ TsAt w' (some ⟨P2, 0, none⟩) N (pathK (exprT hs f) hs x j) ∧ Below W.heap.size W w') := Lib.hid fun j hj wa wn Q W hW g1 g2 g3 => by
  have hgs := goodPB_at hg j hj
  have hgw : x.path[j].wher.all (goodXB f) = true := List.all_eq_true.2 fun y hy => by
   obtain ⟨i, hi, rfl⟩ := List.getElem_of_mem hy
   exact goodSB_at hgs i hi
  have hgb : (0 ≤ x.path[j].test ∧ x.path[j].test ≤ 3) ∧ (0 ≤ x.path[j].axis ∧ x.path[j].axis ≤ 3) := by
   unfold goodSB at hgs
   simp only [Bool.and_eq_true, decide_eq_true_eq] at hgs
   obtain ⟨⟨⟨⟨⟨q1, q2⟩, q3⟩, q4⟩, _⟩, _⟩ := hgs
   exact ⟨⟨q3, q4⟩, q1, q2⟩
  have hp1 : 1 ≤ hs.length := by omega
  have hst := step15_any (cn := cn) HX x.path[j] wa wn (some ⟨Q, 0, none⟩) N (pathK (exprT hs f) hs x (j + 1)) W (h.below (FIN.out W hW).1) hk.ax hlr g1 g2 hgw hgb.1 hgb.2 (by rw [hN]; exact g3)
  have hx3 : ∀ z ∈ x.path[j].wher, R3 (exprT hs f z) := fun z hz => by
   have hgz := List.all_eq_true.1 hgw z hz
   cases f with
   | zero => cases hgz
   | succ f => exact (exprT_ok hs hp1 f z).1
  rw [step_back hk (exprT hs f) x.path[j] (pathK (exprT hs f) hs x (j + 1)) (pathK_3 _ hs hp1 x (x.path.length - (j + 1)) (j + 1) (by omega)) hx3 hgb.2, ← pathK_step _ _ _ j hj] at hst
  unfold stepC at hst
  rw [hN, hL] at hst
  exact hst
 have HP0 : Hid (pathK (exprT hs f) hs x 0 = exprT hs (f + 1) x) := Lib.hid (pathK_all hs f x hop)
 have HPE : Hid (pathK (exprT hs f) hs x q = rowOf N (askR hs x)) := Lib.hid (by rw [← hq, pathK_end, hN]; rfl)
 have HSS : Hid (∀ W, Below W0.heap.size W0 W → SsAt f W pa x.path) := Lib.hid fun W hW => SsAt.below hp (FIN.out W hW).1
 obtain ⟨R, hR⟩ : ∃ R, exprT hs (f + 1) x = R := ⟨_, rfl⟩
 rw [hR] at HP0
 rw [hR, hN, hL]
 have HMK : Hid (∀ w1, w1.ownsRow ((w.alloc (.cells #[.slice an L cn, .bool clo] 90)).alloc (.cells #[.int .i64 3, .slice aa x.args.length ac, .slice pa q pc, .string (strL x.attr), .int .i64 x.cmp, .string (strL x.text), .int .i64 x.num] 42)).heap.size 3 1 (.slice (some ⟨((w.alloc (.cells #[.slice an L cn, .bool clo] 90)).alloc (.cells #[.int .i64 3, .slice aa x.args.length ac, .slice pa q pc, .string (strL x.attr), .int .i64 x.cmp, .string (strL x.text), .int .i64 x.num] 42)).heap.size, 0, none⟩) N N) N (madeCells (Value.int .i64 0).cells (N * 1)).toList → ((w.alloc (.cells #[.slice an L cn, .bool clo] 90)).alloc (.cells #[.int .i64 3, .slice aa x.args.length ac, .slice pa q pc, .string (strL x.attr), .int .i64 x.cmp, .string (strL x.text), .int .i64 x.num] 42)).grownBy w1 none → MJ W0 (w.heap.size + 1 + 1) N (List.replicate N 0) w1) := Lib.hid (by
  rw [← hW0]
  intro w1 hown hgr
  have := MJ.made (w := W0) (Below.refl _ _) hown hgr
  rw [hsz0] at this
  exact this)
 have HW0 := Lib.hid hW0
 have HQ := Lib.hid hq
 have HNI : Hid ((L : Int) + 1 = (N : Int)) := Lib.hid (by omega)
 have HNL := Lib.hid hNL
 have hNb : N ≤ 401 := by omega
 have hN1 : 1 ≤ N := by omega
 have hqb : q ≤ 1048576 := by rw [← hq]; exact hpl
 clear hR hb0 hsz0 hk0 hk1 hW0 h hk hlr hp hpl htx hg hop HX hL hN hNL hXV hq
 go_enter Tryz.func36, Tryz.ntmps36
 go_wp2_with (at_make; go_must ((refine wpList_make_full ((w.alloc (.cells #[.slice an L cn, .bool clo] 90)).alloc (.cells #[.int .i64 3, .slice aa x.args.length ac, .slice pa q pc, .string (strL x.attr), .int .i64 x.cmp, .string (strL x.text), .int .i64 x.num] 42)) (by rfl) _ _ 66 (by rfl) ((w.alloc (.cells #[.slice an L cn, .bool clo] 90)).alloc (.cells #[.int .i64 3, .slice aa x.args.length ac, .slice pa q pc, .string (strL x.attr), .int .i64 x.cmp, .string (strL x.text), .int .i64 x.num] 42)).heap.size 3 i0 _ 1 Tryz.underlying66 hi hz0 hz1 .i64 .i64 ((L : Int) + 1) ((L : Int) + 1) N (by rfl) (by rfl) HNI.out HNI.out (by rw [hz2]; omega) (by unfold maxLen; omega) (Nat.le_refl _) (fun w1 hown hgr => ?_)); have HMJ := Lib.hid (HMK.out w1 hown hgr); have hbm := HMJ.out.old; have hx0 := (HKS.out w1 hbm).2.2.1))
 clear hown hgr HMK
 generalize w.heap.size + 1 + 1 = P at *
 have HB00 : Hid (w.heap.size ≤ P) := Lib.hid (by have := HMJ.out.lo; have := (FIN.out W0 (Below.refl _ _)).2; omega)
 go_loopw [6] (fun iv wr => ∃ (k : Nat) (J : Int), iv = .int .i64 J ∧ J + 1 = (k : Int) ∧ k ≤ N ∧ Hid (MJ W0 P N (mixR N k (askR hs x) (fun _ => 0)) wr)) (fun iv _ => N - (intOf iv + 1).toNat)
 case atStart => exact ⟨0, -1, rfl, rfl, Nat.zero_le _, Lib.hid (by rw [← rep_mix]; exact HMJ.out)⟩
 case round =>
  obtain ⟨k, J, rfl, hJ, hk, HM⟩ := hrel
  obtain ⟨p0, p1, p2, p3, p4, p5, p6, p7, p8⟩ := HKS.out wr HM.out.old
  by_cases hkn : k < N
  ·have hm1 := HCO.out k J wr hkn hJ HM.out.old
   have HM1 := Lib.hid hm1
   have HNX : Hid (∀ W, Below wr.heap.size wr W → MJ W0 P N (mixR N (k + 1) (askR hs x) (fun _ => 0)) (W.setCell ⟨P, k, none⟩ (.int .i64 (askR hs x k))) ∧ (∃ v, W.cell? ⟨P, k, none⟩ = some (.int .i64 v)) ∧ W.frozen? ⟨P, k, none⟩ = false ∧ P < W.heap.size) := Lib.hid fun W hW => by
    have h1 := HM.out.below hW
    have h2 := h1.set k (askR hs x k)
    rw [mixR_set _ _ _ _ _ rfl] at h2
    exact ⟨h2, ⟨_, h1.at k hkn⟩, h1.frozen k, h1.lt⟩
   have HJ0 := Lib.hid hJ
   have ewj : IntKind.i64.wrap (J + 1) = (k : Int) := by rw [IntWalk.i64_in _ (by omega)]; omega
   have hjl : J < (L : Int) := by have := HNL.out; omega
   have i1 : (0 : Int) ≤ (k : Int) := by omega
   have i2 : (k : Int) < (N : Int) := by omega
   clear hm1 hJ
   go_wp2_with fail
   (with_reducible refine HM1.out.mono ?_)
   rintro e w2 ⟨rfl, hb2⟩
   obtain ⟨hx1, ⟨vv, hx2⟩, hx3, hx4⟩ := HNX.out w2 hb2
   have HX1 := Lib.hid hx1
   clear hx1 hb2
   generalize askR hs x k = av at *
   go_wp2_with fail
   go_roundw
   case rel => exact ⟨k + 1, (k : Int), by first | rfl | go_num, by omega, by omega, HX1⟩
   case measure => have := HJ0.out; simp [intOf]; omega
  ·have hk2 : k = N := by omega
   have HM2 : Hid (Below W0.heap.size W0 wr ∧ w.heap.size ≤ P ∧ TsAt wr (some ⟨P, 0, none⟩) N (pathK (exprT hs f) hs x q)) := Lib.hid ⟨HM.out.old, HB00.out, by have := HM.out.ts; rw [hk2, mixR_all] at this; rw [HPE.out]; exact this⟩
   have hjl : (L : Int) ≤ J := by have := HNL.out; omega
   have ewq : IntKind.i64.wrap ((q : Int) - 1) = (q : Int) - 1 := IntWalk.i64_in _ (by omega)
   clear HM hJ
   go_wp2_with fail
   go_loopw [5, 7] (fun ov iv wr => ∃ (j Q : Nat) (J : Int), ov = .slice (some ⟨Q, 0, none⟩) N N ∧ iv = .int .i64 J ∧ J + 1 = (j : Int) ∧ j ≤ q ∧ Hid (Below W0.heap.size W0 wr ∧ w.heap.size ≤ Q ∧ TsAt wr (some ⟨Q, 0, none⟩) N (pathK (exprT hs f) hs x j))) (fun _ iv _ => (intOf iv + 1).toNat)
   case atStart => exact ⟨q, P, (q : Int) - 1, rfl, rfl, by omega, Nat.le_refl _, HM2⟩
   case round =>
    obtain ⟨j, Q, J, rfl, rfl, hJ, hjq, HJ⟩ := hrel
    obtain ⟨p0, p1, p2, p3, p4, p5, p6, p7, p8⟩ := HKS.out wr HJ.out.1
    by_cases hj0 : 0 < j
    ·obtain ⟨i, rfl⟩ : ∃ i, j = i + 1 := ⟨j - 1, by omega⟩
     obtain rfl : J = (i : Int) := by omega
     have hiq : i < x.path.length := by rw [HQ.out]; omega
     obtain ⟨b, o, wa, wn, rfl, hbl, hst, hcs⟩ := (HSS.out wr HJ.out.1).get' i hiq
     obtain ⟨s0, s1, s2, s3⟩ := hcs wr (Below.refl _ _)
     have HB : Hid (Calls Tryz.prog 68 #[.agg #[.slice an L cn, .bool clo], .agg #[.int .i64 x.path[i].axis, .int .i64 x.path[i].test, .string (strL x.path[i].name), .slice wa x.path[i].wher.length wn], .slice (some ⟨Q, 0, none⟩) N N] wr.drew fun e w' => ∃ P2, e = .returned (.slice (some ⟨P2, 0, none⟩) N N) ∧ wr.heap.size ≤ P2 ∧ TsAt w' (some ⟨P2, 0, none⟩) N (pathK (exprT hs f) hs x i) ∧ Below wr.heap.size wr w') := Lib.hid (by
      obtain ⟨a', c', hcc, _, _, _, _, hwn, hxs⟩ := hst
      have hca : wa = a' ∧ wn = c' := by unfold stepC at hcc; simp at hcc; exact hcc
      obtain ⟨rfl, rfl⟩ := hca
      have hd : Below wr.heap.size wr wr.drew := (Below.refl wr.heap.size wr).drew
      have hbd : Below W0.heap.size W0 wr.drew := HJ.out.1.trans (hd.mono HJ.out.1.size)
      have hx' : XsAt f wr.drew wa x.path[i].wher := XsAt.below hxs hd
      have hT' : TsAt wr.drew (some ⟨Q, 0, none⟩) N (pathK (exprT hs f) hs x (i + 1)) := HJ.out.2.2.below hd
      have h9 := HST.out i hiq wa wn Q wr.drew hbd hx' hwn hT'
      exact h9.mono fun e w' ⟨P2, g1, g2, g3, g4⟩ => ⟨P2, g1, g2, g3, hd.trans (g4.mono (Nat.le_refl _))⟩)
     have HJ0 : Hid (Below W0.heap.size W0 wr ∧ w.heap.size ≤ wr.heap.size) := Lib.hid ⟨HJ.out.1, (FIN.out wr HJ.out.1).1.size⟩
     have ewi : IntKind.i64.wrap ((i : Int) - 1) = (i : Int) - 1 := IntWalk.i64_in _ (by omega)
     have k1 : (0 : Int) ≤ (i : Int) := by omega
     have k2 : (i : Int) < (q : Int) := by omega
     clear hst hcs hbl HJ hJ
     generalize x.path[i]'hiq = s at *
     go_wp2_with fail
     go_region_with (first | (go_at_call 68; (with_reducible refine HB.out.mono ?_); rintro e w6 ⟨P2, rfl, hP2, hT2, hb6⟩; have HC6 : Hid (Below W0.heap.size W0 w6 ∧ w.heap.size ≤ P2 ∧ TsAt w6 (some ⟨P2, 0, none⟩) N (pathK (exprT hs f) hs x i)) := Lib.hid ⟨HJ0.out.1.trans (hb6.mono HJ0.out.1.size), by have := HJ0.out.2; omega, hT2⟩; clear hP2 hT2 hb6))
     all_goals
      go_wp2_with fail
      go_roundw
      case rel => exact ⟨i, P2, (i : Int) - 1, rfl, rfl, by omega, by omega, HC6⟩
      case measure => first | (simp [intOf]; done) | (simp [intOf]; omega)
    ·have hj2 : j = 0 := by omega
     subst hj2
     have HF : Hid (TsAt wr (some ⟨Q, 0, none⟩) N R ∧ Below w.heap.size w wr ∧ w.heap.size ≤ Q) := Lib.hid ⟨by have := HJ.out.2.2; rw [HP0.out] at this; exact this, (FIN.out wr HJ.out.1).1, HJ.out.2.1⟩
     have hz : J < 0 := by omega
     clear HJ hJ
     go_wp2_with fail
     go_ret
     exact ⟨Q, rfl, HF.out.2.2, HF.out.1, HF.out.2.1⟩
end Go.Proofs.YtgjokdngbocehaaGreatDoor
namespace Go.Proofs.YtgjokdngbocehaaGreatDoor
open Go.RowKit
def eK (hs : List HN) (f : Nat) (x : PX) (j k : Nat) : Int :=
 if x.op = 0 then andL ((x.args.take j).map fun y => (exprT hs f y).getD k 0) else if x.op = 1 then orL ((x.args.take j).map fun y => (exprT hs f y).getD k 0) else match x.args[j - 1]?, j with
  | some y, _ + 1 => 2 - (exprT hs f y).getD k 0
  | _, _ => 0
theorem eK_zero (hs : List HN) (f : Nat) (x : PX) (k : Nat) : eK hs f x 0 k = truthI (decide (x.op = 0)) := by
 unfold eK
 rw [List.take_zero]
 by_cases h0 : x.op = 0
 ·rw [if_pos h0, decide_eq_true h0]; rfl
 ·rw [if_neg h0, decide_eq_false h0]
  by_cases h1 : x.op = 1
  ·rw [if_pos h1]; rfl
  ·rw [if_neg h1]
   cases x.args[0 - 1]? <;> rfl
theorem andL_snoc (l : List Int) (t : Int) (h : T3 t) : andL (l ++ [t]) = min (andL l) t := by unfold andL; rw [List.foldl_append]; simp only [List.foldl_cons, List.foldl_nil, seenI_of h]
theorem orL_snoc (l : List Int) (t : Int) (h : T3 t) : orL (l ++ [t]) = max (orL l) t := by unfold orL; rw [List.foldl_append]; simp only [List.foldl_cons, List.foldl_nil, seenI_of h]
theorem eK_succ (hs : List HN) (f : Nat) (x : PX) (j k : Nat) (hj : j < x.args.length) (h3 : R3 (exprT hs f x.args[j])) : eK hs f x (j + 1) k = if x.op = 0 then min (eK hs f x j k) ((exprT hs f x.args[j]).getD k 0) else if x.op = 1 then max (eK hs f x j k) ((exprT hs f x.args[j]).getD k 0) else 2 - (exprT hs f x.args[j]).getD k 0 := by
 unfold eK
 rw [List.take_succ_eq_append_getElem hj, List.map_append]
 simp only [List.map_cons, List.map_nil]
 by_cases h0 : x.op = 0
 ·rw [if_pos h0, if_pos h0, if_pos h0, andL_snoc _ _ (h3.at k)]
 ·rw [if_neg h0, if_neg h0, if_neg h0]
  by_cases h1 : x.op = 1
  ·rw [if_pos h1, if_pos h1, if_pos h1, orL_snoc _ _ (h3.at k)]
  ·rw [if_neg h1, if_neg h1, Nat.add_sub_cancel, List.getElem?_eq_getElem hj]
theorem eK_all (hs : List HN) (f : Nat) (x : PX) (hop : x.op = 0 ∨ x.op = 1 ∨ x.op = 2 ∧ x.args.length = 1) (h3 : ∀ y ∈ x.args, R3 (exprT hs f y)) : rowOf hs.length (eK hs f x x.args.length) = exprT hs (f + 1) x := by
 rw [exprT_else hs f x (by omega)]
 refine rowOf_congr fun k _ => ?_
 unfold eK gathT
 rw [List.take_length, List.map_map]
 by_cases h0 : x.op = 0
 ·rw [if_pos h0, if_pos h0]; rfl
 ·rw [if_neg h0, if_neg h0]
  by_cases h1 : x.op = 1
  ·rw [if_pos h1, if_pos h1]; rfl
  ·rw [if_neg h1, if_neg h1]
   have hl : x.args.length = 1 := by omega
   obtain ⟨y, hy⟩ : ∃ y, x.args = [y] := by
    cases hx : x.args with
    | nil => rw [hx] at hl; cases hl
    | cons y l => cases l with
     | nil => exact ⟨y, rfl⟩
     | cons z l => rw [hx] at hl; simp at hl
   have hT := (h3 y (by rw [hy]; exact List.mem_cons_self)).at k
   rw [hy]
   show 2 - (exprT hs f y).getD k 0 = notI ((exprT hs f y).getD k 0)
   unfold notI
   rw [seenI_of hT]
set_option maxRecDepth 100000 in
set_option maxHeartbeats 8000000 in
theorem expr15Else_any {an : Option Addr} {cn : Nat} {clo : Bool} {evs : List Ev} {hs : List HN} {rs : List RN} {f : Nat} (HX : ExR an cn clo evs hs rs f) (x : PX) (aa : Option Addr) (ac : Nat) (pa : Option Addr) (pc : Nat) (w : World) (h : RD w an clo evs hs rs) (hx : XsAt f w aa x.args) (hal : x.args.length ≤ 1048576) (hg : x.args.all (goodXB f) = true) (hop : x.op = 0 ∨ x.op = 1 ∨ x.op = 2 ∧ x.args.length = 1) :
  Calls Tryz.prog 36 #[.agg #[.slice an rs.length cn, .bool clo], .agg (exprC x aa ac pa pc).toArray] w fun e w' => ∃ P, e = .returned (.slice (some ⟨P, 0, none⟩) hs.length hs.length) ∧ w.heap.size ≤ P ∧ TsAt w' (some ⟨P, 0, none⟩) hs.length (exprT hs (f + 1) x) ∧ Below w.heap.size w w' := by
 obtain ⟨i0, hi, hz0, hz1, hz2⟩ := info_parts infoInt
 obtain ⟨q, hq⟩ : ∃ q, x.args.length = q := ⟨_, rfl⟩
 obtain ⟨opv, hopv⟩ : ∃ o, x.op = o := ⟨_, rfl⟩
 have hXV : (exprC x aa ac pa pc).toArray = #[.int .i64 opv, .slice aa q ac, .slice pa x.path.length pc, .string (strL x.attr), .int .i64 x.cmp, .string (strL x.text), .int .i64 x.num] := by unfold exprC; rw [hq, hopv]
 rw [hXV]
 obtain ⟨L, hL⟩ : ∃ L, rs.length = L := ⟨_, rfl⟩
 obtain ⟨N, hN⟩ : ∃ N, hs.length = N := ⟨_, rfl⟩
 have hNL : N = L + 1 := by rw [← hL, ← hN]; exact h.len
 have hcap : L ≤ 400 := by rw [← hL]; exact h.cap
 obtain ⟨W0, hW0⟩ : ∃ W0, W0 = (w.alloc (.cells #[.slice an L cn, .bool clo] 90)).alloc (.cells #[.int .i64 opv, .slice aa q ac, .slice pa x.path.length pc, .string (strL x.attr), .int .i64 x.cmp, .string (strL x.text), .int .i64 x.num] 42) := ⟨_, rfl⟩
 have hb0 : Below w.heap.size w W0 := by rw [hW0]; exact ((Below.refl w.heap.size w).alloc (Nat.le_refl _) _).alloc (by simp) _
 have hsz0 : W0.heap.size = w.heap.size + 2 := by rw [hW0]; simp
 have hk0 : W0.heap[w.heap.size]? = some (.cells #[.slice an L cn, .bool clo] 90 (0, 0)) := by
  rw [hW0, Below.heap_alloc _ _ _ (by simp)]; exact heap_alloc_new w _
 have hk1 : W0.heap[w.heap.size + 1]? = some (.cells #[.int .i64 opv, .slice aa q ac, .slice pa x.path.length pc, .string (strL x.attr), .int .i64 x.cmp, .string (strL x.text), .int .i64 x.num] 42 (0, 0)) := by
  rw [hW0]; exact alloc_atR _ _ (by simp)
 have HKS : Hid (∀ W, Below W0.heap.size W0 W → W.cell? ⟨w.heap.size, 0, none⟩ = some (.slice an L cn) ∧ W.cell? ⟨w.heap.size, 1, none⟩ = some (.bool clo) ∧ W.cell? ⟨w.heap.size + 1, 0, none⟩ = some (.int .i64 opv) ∧ W.cell? ⟨w.heap.size + 1, 1, none⟩ = some (.slice aa q ac) ∧ W.cell? ⟨w.heap.size + 1, 2, none⟩ = some (.slice pa x.path.length pc) ∧ W.cell? ⟨w.heap.size + 1, 3, none⟩ = some (.string (strL x.attr)) ∧ W.cell? ⟨w.heap.size + 1, 4, none⟩ = some (.int .i64 x.cmp) ∧ W.cell? ⟨w.heap.size + 1, 5, none⟩ = some (.string (strL x.text)) ∧ W.cell? ⟨w.heap.size + 1, 6, none⟩ = some (.int .i64 x.num)) := Lib.hid fun W hW => by
  have g0 := (hW.block w.heap.size (by omega)).trans hk0
  have g1 := (hW.block (w.heap.size + 1) (by omega)).trans hk1
  exact ⟨by rw [cell_heap g0]; rfl, by rw [cell_heap g0]; rfl, by rw [cell_heap g1]; rfl, by rw [cell_heap g1]; rfl, by rw [cell_heap g1]; rfl, by rw [cell_heap g1]; rfl, by rw [cell_heap g1]; rfl, by rw [cell_heap g1]; rfl, by rw [cell_heap g1]; rfl⟩
 have FIN : Hid (∀ W, Below W0.heap.size W0 W → Below w.heap.size w W ∧ w.heap.size ≤ W0.heap.size) := Lib.hid fun W hW => ⟨hb0.trans (hW.mono hb0.size), hb0.size⟩
 have hp1 : 1 ≤ hs.length := by omega
 have HW3 : Hid (∀ k (hk : k < x.args.length), goodXB f x.args[k] = true ∧ R3 (exprT hs f x.args[k])) := Lib.hid fun k hk => by
  have hgx := List.all_eq_true.1 hg _ (List.getElem_mem hk)
  refine ⟨hgx, ?_⟩
  cases f with
  | zero => cases hgx
  | succ f => exact (exprT_ok hs hp1 f _).1
 have HFIN : Hid (rowOf N (eK hs f x q) = exprT hs (f + 1) x) := Lib.hid (by
  rw [← hN, ← hq]
  exact eK_all hs f x hop fun y hy => by
   obtain ⟨k, hk, rfl⟩ := List.getElem_of_mem hy
   exact (HW3.out k hk).2)
 have HSS : Hid (∀ W, Below W0.heap.size W0 W → XsAt f W aa x.args) := Lib.hid fun W hW => XsAt.below hx (FIN.out W hW).1
 have HRD : Hid (∀ W, Below W0.heap.size W0 W → RD W an clo evs hs rs) := Lib.hid fun W hW => h.below (FIN.out W hW).1
 have HEX := Lib.hid HX
 have HTR := Lib.hid truth15_any
 have HAN := Lib.hid and15_any
 have HOR := Lib.hid or15_any
 obtain ⟨R, hR⟩ : ∃ R, exprT hs (f + 1) x = R := ⟨_, rfl⟩
 rw [hR] at HFIN
 rw [hR, hN, hL]
 have HMK : Hid (∀ w1, w1.ownsRow ((w.alloc (.cells #[.slice an L cn, .bool clo] 90)).alloc (.cells #[.int .i64 opv, .slice aa q ac, .slice pa x.path.length pc, .string (strL x.attr), .int .i64 x.cmp, .string (strL x.text), .int .i64 x.num] 42)).heap.size 3 1 (.slice (some ⟨((w.alloc (.cells #[.slice an L cn, .bool clo] 90)).alloc (.cells #[.int .i64 opv, .slice aa q ac, .slice pa x.path.length pc, .string (strL x.attr), .int .i64 x.cmp, .string (strL x.text), .int .i64 x.num] 42)).heap.size, 0, none⟩) N N) N (madeCells (Value.int .i64 0).cells (N * 1)).toList → ((w.alloc (.cells #[.slice an L cn, .bool clo] 90)).alloc (.cells #[.int .i64 opv, .slice aa q ac, .slice pa x.path.length pc, .string (strL x.attr), .int .i64 x.cmp, .string (strL x.text), .int .i64 x.num] 42)).grownBy w1 none → MJ W0 (w.heap.size + 1 + 1) N (List.replicate N 0) w1) := Lib.hid (by
  rw [← hW0]
  intro w1 hown hgr
  have := MJ.made (w := W0) (Below.refl _ _) hown hgr
  rw [hsz0] at this
  exact this)
 have HQ := Lib.hid hq
 have HL0 := Lib.hid hL
 have HN0 := Lib.hid hN
 have HNI : Hid ((L : Int) + 1 = (N : Int)) := Lib.hid (by omega)
 have hNb : N ≤ 401 := by omega
 have hqb : q ≤ 1048576 := by rw [← hq]; exact hal
 have t3 : ((opv : Int) == 3) = false := by simp; omega
 have HOPX : Hid (opv = 0 ∨ opv = 1 ∨ opv = 2) := Lib.hid (by omega)
 have HOPE := Lib.hid hopv
 clear hR hb0 hsz0 hk0 hk1 hW0 h hx hal hg hop HX hL hN hNL hXV hq hp1 hopv
 go_enter Tryz.func36, Tryz.ntmps36
 go_wp2_with (at_make; go_must ((refine wpList_make_full ((w.alloc (.cells #[.slice an L cn, .bool clo] 90)).alloc (.cells #[.int .i64 opv, .slice aa q ac, .slice pa x.path.length pc, .string (strL x.attr), .int .i64 x.cmp, .string (strL x.text), .int .i64 x.num] 42)) (by rfl) _ _ 66 (by rfl) ((w.alloc (.cells #[.slice an L cn, .bool clo] 90)).alloc (.cells #[.int .i64 opv, .slice aa q ac, .slice pa x.path.length pc, .string (strL x.attr), .int .i64 x.cmp, .string (strL x.text), .int .i64 x.num] 42)).heap.size 3 i0 _ 1 Tryz.underlying66 hi hz0 hz1 .i64 .i64 ((L : Int) + 1) ((L : Int) + 1) N (by rfl) (by rfl) HNI.out HNI.out (by rw [hz2]; omega) (by unfold maxLen; omega) (Nat.le_refl _) (fun w1 hown hgr => ?_)); have HMJ := Lib.hid (HMK.out w1 hown hgr); have hbm := HMJ.out.old; have hx0 := (HKS.out w1 hbm).2.2.1))
 clear hown hgr HMK
 generalize w.heap.size + 1 + 1 = P at *
 have HB00 : Hid (w.heap.size ≤ P) := Lib.hid (by have := HMJ.out.lo; have := (FIN.out W0 (Below.refl _ _)).2; omega)
 go_loopw [8] (fun iv wr => ∃ k : Nat, iv = .int .i64 k ∧ k ≤ N ∧ Hid (MJ W0 P N (mixR N k (eK hs f x 0) (fun _ => 0)) wr)) (fun iv _ => N - (intOf iv).toNat)
 case atStart => exact ⟨0, rfl, Nat.zero_le _, Lib.hid (by rw [← rep_mix]; exact HMJ.out)⟩
 case round =>
  obtain ⟨k, rfl, hk, HM⟩ := hrel
  obtain ⟨p0, p1, p2, p3, p4, p5, p6, p7, p8⟩ := HKS.out wr HM.out.old
  by_cases hkn : k < N
  ·have HNX : Hid (MJ W0 P N (mixR N (k + 1) (eK hs f x 0) (fun _ => 0)) (wr.setCell ⟨P, k, none⟩ (.int .i64 (truthI (decide (opv = 0)))))) := Lib.hid (by
    have h2 := HM.out.set k (truthI (decide (opv = 0)))
    rwa [mixR_set _ _ _ _ _ (by rw [← HOPE.out]; exact (eK_zero hs f x k).symm)] at h2)
   have z1 := HM.out.at k hkn
   generalize (mixR N k (eK hs f x 0) (fun _ => 0)).getD k 0 = zz at z1
   have f1 := HM.out.frozen k
   have l1 := HM.out.lt
   have HTD : Hid (∀ W : World, Calls Tryz.prog 69 #[.bool (opv == 0)] W fun e w' => e = .returned (.int .i64 (truthI (decide (opv = 0)))) ∧ w' = W) := Lib.hid fun W => by
    have : (opv == 0) = decide (opv = 0) := by by_cases h : opv = 0 <;> simp [h]
    rw [this]; exact HTR.out _ W
   have i1 : (0 : Int) ≤ (k : Int) := by omega
   have i2 : (k : Int) < (N : Int) := by omega
   have ewk : IntKind.i64.wrap ((k : Int) + 1) = (k : Int) + 1 := IntWalk.i64_in _ (by omega)
   generalize truthI (decide (opv = 0)) = tv at *
   go_wp2_with fail
   (with_reducible refine (HTD.out _).mono ?_)
   rintro e w5 ⟨rfl, rfl⟩
   go_wp2_with fail
   go_roundw
   case rel => exact ⟨k + 1, by go_num, by omega, HNX⟩
   case measure => simp [intOf]; omega
  ·have hk2 : k = N := by omega
   have HM2 : Hid (MJ W0 P N (rowOf N (eK hs f x 0)) wr) := Lib.hid (by have := HM.out; rw [hk2, mixR_all] at this; exact this)
   have hjl : (N : Int) ≤ (k : Int) := by omega
   clear HM hk2
   go_wp2_with fail
   go_loopw [9] (fun jv wr => ∃ j : Nat, jv = .int .i64 j ∧ j ≤ q ∧ Hid (MJ W0 P N (rowOf N (eK hs f x j)) wr)) (fun jv _ => q - (intOf jv).toNat)
   case atStart => exact ⟨0, rfl, Nat.zero_le _, HM2⟩
   case round =>
    obtain ⟨j, rfl, hj, HJ⟩ := hrel
    obtain ⟨p0, p1, p2, p3, p4, p5, p6, p7, p8⟩ := HKS.out wr HJ.out.old
    by_cases hjq : j < q
    ·have hjl2 : j < x.args.length := by rw [HQ.out]; exact hjq
     have hget := (HSS.out wr HJ.out.old).get' j hjl2
     obtain ⟨b, o, aa', ac', pa', pc', rfl, hbl, hxa, hcs⟩ := hget
     obtain ⟨x0, x1, x2, x3, x4, x5, x6⟩ := hcs wr (Below.refl _ _)
     have HEJ : Hid (Calls Tryz.prog 36 #[.agg #[.slice an L cn, .bool clo], .agg #[.int .i64 x.args[j].op, .slice aa' x.args[j].args.length ac', .slice pa' x.args[j].path.length pc', .string (strL x.args[j].attr), .int .i64 x.args[j].cmp, .string (strL x.args[j].text), .int .i64 x.args[j].num]] wr.drew fun e w' => ∃ P2, e = .returned (.slice (some ⟨P2, 0, none⟩) N N) ∧ wr.heap.size ≤ P2 ∧ TsAt w' (some ⟨P2, 0, none⟩) N (exprT hs f x.args[j]) ∧ Below wr.heap.size wr w') := Lib.hid (by
      have hd : Below wr.heap.size wr wr.drew := (Below.refl wr.heap.size wr).drew
      have hbd : Below W0.heap.size W0 wr.drew := HJ.out.old.trans (hd.mono HJ.out.old.size)
      have h9 := HEX.out x.args[j] (exprC x.args[j] aa' ac' pa' pc') wr.drew (HRD.out _ hbd) (XAt.turn hd (Nat.le_refl _) hxa) (HW3.out j hjl2).1
      rw [HL0.out, HN0.out] at h9
      exact h9.mono fun e w' ⟨P2, g1, g2, g3, g4⟩ => ⟨P2, g1, g2, g3, hd.trans (g4.mono (Nat.le_refl _))⟩)
     have HSU : Hid (∀ k, eK hs f x (j + 1) k = if opv = 0 then min (eK hs f x j k) ((exprT hs f x.args[j]).getD k 0) else if opv = 1 then max (eK hs f x j k) ((exprT hs f x.args[j]).getD k 0) else 2 - (exprT hs f x.args[j]).getD k 0) := Lib.hid fun k => by rw [← HOPE.out]; exact eK_succ hs f x j k hjl2 (HW3.out j hjl2).2
     have HT3 : Hid (∀ k, T3 ((exprT hs f x.args[j]).getD k 0)) := Lib.hid fun k => (HW3.out j hjl2).2.at k
     have HPLT := HJ.out.lt
     clear hcs hxa hbl
     generalize x.args[j]'hjl2 = y at *
     generalize exprT hs f y = EX at *
     have i1 : (0 : Int) ≤ (j : Int) := by omega
     have i2 : (j : Int) < (q : Int) := by omega
     have ewj : IntKind.i64.wrap ((j : Int) + 1) = (j : Int) + 1 := IntWalk.i64_in _ (by omega)
     go_upto_region 19 with fail
     go_cut [10] from 74 to 80 (fun s10 wx => ∃ P2, s10 = .slice (some ⟨P2, 0, none⟩) N N ∧ P ≠ P2 ∧ Hid (TsAt wx (some ⟨P2, 0, none⟩) N EX ∧ MJ W0 P N (rowOf N (eK hs f x j)) wx))
     case first =>
      go_region_with (first | (go_at_call 36; (with_reducible refine HEJ.out.mono ?_); rintro e w6 ⟨P2, rfl, hP2, hT2, hb6⟩; have HC6 := Lib.hid (⟨hP2, hT2, hb6⟩ : _ ∧ _ ∧ _); clear hP2 hT2 hb6))
      all_goals
       go_wp2_with fail
       (try simp only [Act.put, List.getElem_toArray, List.getElem_cons_succ, List.getElem_cons_zero, List.setIfInBounds_toArray, List.set_cons_zero, List.set_cons_succ])
       go_meet
       case rel => exact ⟨_, rfl, by have := HC6.out.1; omega, Lib.hid ⟨HC6.out.2.1, HJ.out.below HC6.out.2.2⟩⟩
     case rest =>
      obtain ⟨P2, rfl, hPP, HC⟩ := hcut
      have HC0 : Hid (TsAt wc (some ⟨P2, 0, none⟩) N EX ∧ MJ W0 P N (mixR N 0 (eK hs f x (j + 1)) (eK hs f x j)) wc) := Lib.hid ⟨HC.out.1, by rw [mixR_zero]; exact HC.out.2⟩
      clear HC HEJ HJ x0 x1 x2 x3 x4 x5 x6 HPLT p0 p1 p2 p3 p4 p5 p6 p7 p8
      go_wp2_with fail
      go_loopw [11] (fun iv wr => ∃ i : Nat, iv = .int .i64 i ∧ i ≤ N ∧ Hid (TsAt wr (some ⟨P2, 0, none⟩) N EX ∧ MJ W0 P N (mixR N i (eK hs f x (j + 1)) (eK hs f x j)) wr)) (fun iv _ => N - (intOf iv).toNat)
      case atStart => exact ⟨0, rfl, Nat.zero_le _, HC0⟩
      case round =>
       obtain ⟨i, rfl, hiN, HI⟩ := hrel
       have ewi : IntKind.i64.wrap ((i : Int) + 1) = (i : Int) + 1 := IntWalk.i64_in _ (by omega)
       by_cases hin : i < N
       ·obtain ⟨p0, p1, p2, p3, p4, p5, p6, p7, p8⟩ := HKS.out wr HI.out.2.old
        obtain ⟨z1, l1⟩ := HI.out.1.at0 i hin
        have z2 : wr.cell? ⟨P, i, none⟩ = some (.int .i64 (eK hs f x j i)) := by
         have h1 := HI.out.2.at i hin
         rwa [List.getD_eq_getElem?_getD, mixR_get _ _ _ _ _ hin (Nat.le_refl _), Option.getD_some] at h1
        have f2 := HI.out.2.frozen i
        have l2 := HI.out.2.lt
        have HNX : Hid (∀ v, v = eK hs f x (j + 1) i → TsAt (wr.setCell ⟨P, i, none⟩ (.int .i64 v)) (some ⟨P2, 0, none⟩) N EX ∧ MJ W0 P N (mixR N (i + 1) (eK hs f x (j + 1)) (eK hs f x j)) (wr.setCell ⟨P, i, none⟩ (.int .i64 v))) := Lib.hid fun v hv => ⟨HI.out.1.far (fun ad e => by cases e; exact fun e => hPP e.symm) _, by
         have h1 := HI.out.2.set i v
         rwa [mixR_set _ _ _ _ _ hv] at h1⟩
        have HSI := Lib.hid (HSU.out i)
        have ht3 := HT3.out i
        have HAD : Hid (Calls Tryz.prog 62 #[.int .i64 (eK hs f x j i), .int .i64 (EX.getD i 0)] wr.drew fun e w' => e = .returned (.int .i64 (min (eK hs f x j i) (EX.getD i 0))) ∧ w' = wr.drew) := Lib.hid (HAN.out _ _ _)
        have HOD : Hid (Calls Tryz.prog 61 #[.int .i64 (eK hs f x j i), .int .i64 (EX.getD i 0)] wr.drew fun e w' => e = .returned (.int .i64 (max (eK hs f x j i) (EX.getD i 0))) ∧ w' = wr.drew) := Lib.hid (HOR.out _ _ _)
        generalize eK hs f x (j + 1) i = nv at *
        generalize eK hs f x j i = v1 at *
        generalize EX.getD i 0 = v2 at *
        have k1 : (0 : Int) ≤ (i : Int) := by omega
        have k2 : (i : Int) < (N : Int) := by omega
        have ew2 : IntKind.i64.wrap (2 - v2) = 2 - v2 := IntWalk.i64_in _ (by unfold T3 at ht3; omega)
        clear ht3 HI
        rcases HOPX.out with rfl | rfl | rfl
        ·have HF : Hid (min v1 v2 = nv) := Lib.hid (by have := HSI.out; rw [if_pos rfl] at this; exact this.symm)
         have HE := Lib.hid (HNX.out _ HF.out)
         clear HSI HNX HF
         generalize min v1 v2 = v3 at *
         go_wp2_with fail
         refine wp_region_still_tail 12 (by kernel_rfl) (by kernel_rfl) ?_
         change wpStill _ _ wr.drew (fun a' => wpList _ _ _ _ a' wr.drew) _ _
         simp only [List.take_succ_cons, List.take_zero, List.drop_succ_cons, List.drop_zero]
         repeat still_step
         still_call HAD.out
         still_step
         refine wpStill_nil ?_
         go_wp2_with fail
         go_roundw
         case rel => exact ⟨i + 1, by go_num, by omega, Lib.hid ⟨HE.out.1.below ((Below.refl _ _).drew), HE.out.2.below ((Below.refl _ _).drew)⟩⟩
         case measure => simp [intOf]; omega
        ·have HF : Hid (max v1 v2 = nv) := Lib.hid (by have := HSI.out; rw [if_neg (by decide), if_pos rfl] at this; exact this.symm)
         have HE := Lib.hid (HNX.out _ HF.out)
         clear HSI HNX HF
         generalize max v1 v2 = v3 at *
         go_wp2_with fail
         refine wp_region_still_tail 12 (by kernel_rfl) (by kernel_rfl) ?_
         change wpStill _ _ wr.drew (fun a' => wpList _ _ _ _ a' wr.drew) _ _
         simp only [List.take_succ_cons, List.take_zero, List.drop_succ_cons, List.drop_zero]
         repeat still_step
         still_call HOD.out
         still_step
         refine wpStill_nil ?_
         go_wp2_with fail
         go_roundw
         case rel => exact ⟨i + 1, by go_num, by omega, Lib.hid ⟨HE.out.1.below ((Below.refl _ _).drew), HE.out.2.below ((Below.refl _ _).drew)⟩⟩
         case measure => simp [intOf]; omega
        ·have HF : Hid (2 - v2 = nv) := Lib.hid (by have := HSI.out; rw [if_neg (by decide), if_neg (by decide)] at this; exact this.symm)
         have HE := Lib.hid (HNX.out _ HF.out)
         clear HSI HNX HF HAD HOD
         go_wp2_with fail
         go_roundw
         case rel => exact ⟨i + 1, by go_num, by omega, HE⟩
         case measure => simp [intOf]; omega
       ·have hi2 : i = N := by omega
        have HE : Hid (MJ W0 P N (rowOf N (eK hs f x (j + 1))) wr) := Lib.hid (by have := HI.out.2; rw [hi2, mixR_all] at this; exact this)
        have k2 : (N : Int) ≤ (i : Int) := by omega
        clear HI
        go_wp2_with fail
        go_roundw
        case rel => exact ⟨j + 1, by go_num, by omega, HE⟩
        case measure => simp [intOf]; omega
    ·have hj2 : j = q := by omega
     have HF : Hid (TsAt wr (some ⟨P, 0, none⟩) N R ∧ Below w.heap.size w wr) := Lib.hid ⟨by have := HJ.out.ts; rw [hj2, HFIN.out] at this; exact this, (FIN.out wr HJ.out.old).1⟩
     have hjq2 : (q : Int) ≤ (j : Int) := by omega
     clear HJ
     go_wp2_with fail
     go_ret
     exact ⟨P, rfl, HB00.out, HF.out.1, HF.out.2⟩
end Go.Proofs.YtgjokdngbocehaaGreatDoor
namespace Go.Proofs.YtgjokdngbocehaaGreatDoor
open Go.RowKit
theorem expr15_all {an : Option Addr} {cn : Nat} {clo : Bool} {evs : List Ev} {hs : List HN} {rs : List RN} (hk : Lk hs rs) (hlr : ∀ i r, rs[i]? = some r → ((lastR rs i : Nat) : Int) = r.last) : ∀ f, ExR an cn clo evs hs rs f
 | 0 => fun x cs W _ h _ => h.elim
 | f + 1 => fun x cs W hH hxa hg => by
  obtain ⟨a, c, p, d, rfl, _, _, _, _, _, _, htx, hal, hpl, hargs, hpath⟩ := hxa
  have hg' : (if x.op = 3 then x.args.isEmpty && goodPB (goodXB f) x.path && (x.attr.isEmpty || nameB x.attr) && goodCB x.cmp x.text x.num
   else bareB x && (if x.op = 0 ∨ x.op = 1 then decide (2 ≤ x.args.length) else if x.op = 2 then decide (x.args.length = 1) else false) && x.args.all (goodXB f)) = true := hg
  by_cases hop : x.op = 3
  ·rw [if_pos hop] at hg'
   simp only [Bool.and_eq_true] at hg'
   exact expr15Some_any (expr15_all hk hlr f) x a c p d W hH hk hlr hpath hpl htx hg'.1.1.2 hop
  ·rw [if_neg hop] at hg'
   simp only [Bool.and_eq_true] at hg'
   refine expr15Else_any (expr15_all hk hlr f) x a c p d W hH hargs hal hg'.2 ?_
   have h := hg'.1.2
   split at h
   ·rename_i h01
    rcases h01 with h0 | h1
    ·exact .inl h0
    ·exact .inr (.inl h1)
   ·split at h
    ·rename_i h2
     exact .inr (.inr ⟨h2, of_decide_eq_true h⟩)
    ·cases h
end Go.Proofs.YtgjokdngbocehaaGreatDoor
