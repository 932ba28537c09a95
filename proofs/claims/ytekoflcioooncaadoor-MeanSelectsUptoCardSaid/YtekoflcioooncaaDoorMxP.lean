/-
  (*tree.Tree).Value of any node, and beside them.
-/
import Derived.Test.YtekoflcioooncaaDoorMxF
import Derived.Test.YtekoflcioooncaaDoorMxO
import Derived.Test.YtekoflcioooncaaDoorMxE
import Derived.Test.YtekoflcioooncaaDoorMxG
import Derived.Test.YtekoflcioooncaaDoorMxM
namespace Go.Proofs.YtekoflcioooncaaDoor
open Go.RowKit

theorem TreeAt.below {w w' : World} {B tb : Nat} {evs : List Ev} (h : TreeAt w B tb evs) (hb : Below w.heap.size w w') : TreeAt w' B tb evs := h.keep hb.size (fun j _ hj => hb.block j hj)
theorem treeLast {w : World} {B tb : Nat} {evs : List Ev} (h : TreeAt w B tb evs) (hw : wholeB evs = true) : LastAt w (fun k => B ≤ k ∧ k < w.heap.size) tb (nodesB evs).length (lastN evs) := by
  obtain ⟨t, ht, _, _⟩ := wholeB_some hw
  obtain ⟨h1, h2, ge, n, an, cn, h3, h4, h5, h6, h7, h8, h9⟩ := h
  refine ⟨⟨h2, h1⟩, _, an, cn, h3, h5, fun i hi => ?_⟩
  obtain ⟨b, e, A, m, c, g1, g2, g3, g4, g5, g6, g7, g8⟩ := h9 i _ (List.getElem?_eq_getElem hi)
  refine ⟨b, g1, ⟨g2, g3⟩, ?_⟩
  rw [g8 9 (by decide), lastN_at ht (List.getElem?_eq_getElem hi)]
  rfl
theorem treeText {w : World} {B tb : Nat} {evs : List Ev} (h : TreeAt w B tb evs) : ∃ q an cn, w.heap[tb]? = some (.cells #[q, .slice an (nodesB evs).length cn] 78 (0, 0)) ∧ ∀ k, k < (nodesB evs).length → ∃ b, an = some ⟨b, 0, none⟩ ∧ b < w.heap.size ∧ w.cell? ⟨b, k * 12 + 5, none⟩ = some (.string (strL (ndTxt evs k))) := by
  obtain ⟨h1, h2, ge, n, an, cn, h3, h4, h5, h6, h7, h8, h9⟩ := h
  refine ⟨_, an, cn, h3, fun i hi => ?_⟩
  obtain ⟨b, e, A, m, c, g1, g2, g3, g4, g5, g6, g7, g8⟩ := h9 i _ (List.getElem?_eq_getElem hi)
  refine ⟨b, g1, g3, ?_⟩
  rw [g8 5 (by decide)]
  unfold ndTxt
  rw [List.getElem?_eq_getElem hi]
  simp only [Option.bind_some, g4, Option.map_some, Option.getD_some]
  rfl
def txtR (evs : List Ev) (i hi : Nat) : List UInt8 := (List.range' i (hi - i)).flatMap (ndTxt evs)
theorem txtR_succ (evs : List Ev) {i k : Nat} (h : i ≤ k) : txtR evs i (k + 1) = txtR evs i k ++ ndTxt evs k := by
  unfold txtR
  rw [show k + 1 - i = k - i + 1 by omega, List.range'_concat, List.flatMap_append]
  simp only [List.flatMap_cons, List.flatMap_nil, List.append_nil, Nat.one_mul]
  rw [show i + (k - i) = k by omega]
theorem ndTxt_len (evs : List Ev) (h : ∀ e ∈ evs, e.text.length ≤ 1048576) (k : Nat) : (ndTxt evs k).length ≤ 1048576 := by
  unfold ndTxt
  cases h1 : (nodesB evs)[k]? with
  | none => simp
  | some x =>
    simp only [Option.bind_some]
    cases h2 : evs[x.pos]? with
    | none => simp
    | some e => simp only [Option.map_some, Option.getD_some]; exact h e (List.mem_of_getElem? h2)
theorem txtR_len (evs : List Ev) (h : ∀ e ∈ evs, e.text.length ≤ 1048576) (i : Nat) : ∀ k, i ≤ k → (txtR evs i k).length ≤ (k - i) * 1048576 := by
  intro k hk
  induction k with
  | zero => have : i = 0 := by omega
            subst this; simp [txtR]
  | succ k ih =>
    by_cases h1 : i = k + 1
    · subst h1; simp [txtR]
    · rw [txtR_succ evs (by omega), List.length_append]
      have := ih (by omega)
      have := ndTxt_len evs h k
      have e : (k + 1 - i) * 1048576 = (k - i) * 1048576 + 1048576 := by rw [show k + 1 - i = (k - i) + 1 by omega, Nat.add_mul]
      omega
set_option maxRecDepth 1000000 in
set_option maxHeartbeats 4000000 in
theorem value_at (tb i : Nat) (v : Int) (evs : List Ev) (w : World) {B : Nat} (h : TreeAt w B tb evs) (hw : wholeB evs = true) (hi : v = (i : Nat) ∨ v = -1 ∧ i = 0) (hv : v < (nodesB evs).length) (hsm : ∀ e ∈ evs, e.text.length ≤ 1048576) (hL : (nodesB evs).length ≤ 1048576) :
    Calls Tryd.prog 88 #[.pointer (some ⟨tb, 0, none⟩), .int .i64 v] w fun e w' => e = .returned (.tuple #[.string (strL (txtR evs i (hiOf (nodesB evs).length (lastN evs) v))), .int .i64 0]) ∧ Below w.heap.size w w' := by
  obtain ⟨t, ht, _, _⟩ := wholeB_some hw
  have hrng := lastN_rng ht
  have hpos := wholeB_pos hw
  have htl := treeLast h hw
  obtain ⟨q, an, cn, htb, htx⟩ := treeText h
  have hhi : hiOf (nodesB evs).length (lastN evs) v ≤ (nodesB evs).length ∧ i ≤ hiOf (nodesB evs).length (lastN evs) v := by
    unfold hiOf
    split
    · omega
    · have h1 := hrng v.toNat (by omega); omega
  have HLA : Hid (∀ W, Below w.heap.size w W → Calls Tryd.prog 86 #[.pointer (some ⟨tb, 0, none⟩), .int .i64 v] W fun e w' => e = .returned (.int .i64 ((hiOf (nodesB evs).length (lastN evs) v : Nat) - 1 : Int)) ∧ w' = W) := Lib.hid fun W hW => lastv (htl.keep fun k hk => hW.block k hk.2) hL v hv
  have HREF : Hid (Calls Tryd.prog 85 #[.pointer (some ⟨tb, 0, none⟩), .int .i64 v, .int .i64 (-1)] w fun e w' => e = .returned (.int .i64 0) ∧ w' = w) := Lib.hid (refuses_in htl v (-1) (by omega) hv)
  have HB0 : Hid (Below w.heap.size w (w.alloc (.cells #[.pointer none, .slice none 0 0] 150)) ∧ IsB w.heap.size w.heap.size (u8s []) (w.alloc (.cells #[.pointer none, .slice none 0 0] 150))) := Lib.hid ⟨(Below.refl _ _).alloc (Nat.le_refl _) _, isB_new w w.heap.size (Nat.le_refl _)⟩
  have HTX := Lib.hid htx
  have c1 : w.cell? ⟨tb, 1, none⟩ = some (.slice an (nodesB evs).length cn) := by rw [cell_heap htb]; rfl
  have HTB := Lib.hid (heap_lt htb)
  have HC1 := Lib.hid c1
  have HLN := Lib.hid (fun k (hk : i ≤ k) => txtR_len evs hsm i k hk)
  have HTL := Lib.hid (ndTxt_len evs hsm)
  generalize hiOf (nodesB evs).length (lastN evs) v = hi' at *
  generalize (nodesB evs).length = L at *
  have htx0 : Hid (txtR evs i i = []) := Lib.hid (by simp [txtR])
  clear htx htl hrng h hsm htb ht hw hpos c1
  rcases hi with rfl | ⟨rfl, rfl⟩
  all_goals (
    go_enter Tryd.func88, Tryd.ntmps88
    go_wp2_with (first | (go_at_call 85; (with_reducible refine HREF.out.mono ?_); rintro e w' ⟨rfl, hw'⟩; subst w')))
  · go_loopw [8] (fun kx wr => ∃ k : Nat, kx = .int .i64 k ∧ i ≤ k ∧ k ≤ hi' ∧ Below w.heap.size w wr ∧ Hid (IsB w.heap.size w.heap.size (u8s (txtR evs i k)) wr)) (fun kx _ => hi' - (intOf kx).toNat)
    case atStart => exact ⟨i, by go_num, Nat.le_refl _, hhi.2, HB0.out.1, by rw [htx0.out]; exact Lib.hid HB0.out.2⟩
    case round =>
      obtain ⟨k, rfl, hik, hk, hbr, hB⟩ := hrel
      have HLW := Lib.hid (HLA.out wr hbr)
      have d1 := (hbr.cell (p := ⟨tb, 1, none⟩) HTB.out).trans HC1.out
      by_cases hkh : k < hi'
      · obtain ⟨b, rfl, hbw, hct⟩ := HTX.out k (by omega)
        have e5 := (hbr.cell (p := ⟨b, k * 12 + 5, none⟩) hbw).trans hct
        have j0 : (k : Int) ≤ (hi' : Int) - 1 := by omega
        have j1 : (0 : Int) ≤ (k : Int) := by omega
        have j2 : (k : Int) < (L : Int) := by omega
        have ew : IntKind.i64.wrap ((k : Int) + 1) = (k : Int) + 1 := IntWalk.i64_in _ (by omega)
        have HWS := Lib.hid (bwriteL_any w.heap.size w.heap.size (txtR evs i k) (ndTxt evs k) wr hB.out (by have := HLN.out k (by omega); have := HTL.out k; omega) hbr.size)
        have HBR := Lib.hid hbr
        have HTS : Hid (txtR evs i (k + 1) = txtR evs i k ++ ndTxt evs k) := Lib.hid (txtR_succ evs hik)
        generalize ndTxt evs k = T at *
        clear hbr hB hct hbw
        go_wp2_with (first | (go_at_call 86; (with_reducible refine HLW.out.mono ?_); rintro e w' ⟨rfl, hw'⟩; subst w'))
        (with_reducible refine HWS.out.mono ?_)
        rintro r w3 ⟨rfl, hB3, hb3⟩
        have HB3 := Lib.hid hB3
        have hbw3 := HBR.out.trans hb3
        clear hB3 hb3
        go_wp2_with fail
        go_roundw
        case rel => exact ⟨k + 1, by go_num, by omega, by omega, hbw3, by rw [HTS.out]; exact HB3⟩
        case measure => simp [intOf]; omega
      · have hk2 : k = hi' := by omega
        subst hk2
        have j0 : (k : Int) - 1 < (k : Int) := by omega
        have HS := Lib.hid (bstring_any w.heap.size w.heap.size (txtR evs i k) wr hB.out hbr.size)
        have HBR := Lib.hid hbr
        clear hB hbr
        go_wp2_with (first | (go_at_call 86; (with_reducible refine HLW.out.mono ?_); rintro e w' ⟨rfl, hw'⟩; subst w'))
        (with_reducible refine HS.out.mono ?_)
        rintro r w3 ⟨rfl, _, hb3⟩
        go_wp2_with fail
        go_ret2
        exact ⟨rfl, HBR.out.trans hb3⟩
  · go_loopw [8] (fun kx wr => ∃ k : Nat, kx = .int .i64 k ∧ 0 ≤ k ∧ k ≤ hi' ∧ Below w.heap.size w wr ∧ Hid (IsB w.heap.size w.heap.size (u8s (txtR evs 0 k)) wr)) (fun kx _ => hi' - (intOf kx).toNat)
    case atStart => exact ⟨0, rfl, Nat.le_refl _, hhi.2, HB0.out.1, by rw [htx0.out]; exact Lib.hid HB0.out.2⟩
    case round =>
      obtain ⟨k, rfl, hik, hk, hbr, hB⟩ := hrel
      have HLW := Lib.hid (HLA.out wr hbr)
      have d1 := (hbr.cell (p := ⟨tb, 1, none⟩) HTB.out).trans HC1.out
      by_cases hkh : k < hi'
      · obtain ⟨b, rfl, hbw, hct⟩ := HTX.out k (by omega)
        have e5 := (hbr.cell (p := ⟨b, k * 12 + 5, none⟩) hbw).trans hct
        have j0 : (k : Int) ≤ (hi' : Int) - 1 := by omega
        have j1 : (0 : Int) ≤ (k : Int) := by omega
        have j2 : (k : Int) < (L : Int) := by omega
        have ew : IntKind.i64.wrap ((k : Int) + 1) = (k : Int) + 1 := IntWalk.i64_in _ (by omega)
        have HWS := Lib.hid (bwriteL_any w.heap.size w.heap.size (txtR evs 0 k) (ndTxt evs k) wr hB.out (by have := HLN.out k (by omega); have := HTL.out k; omega) hbr.size)
        have HBR := Lib.hid hbr
        have HTS : Hid (txtR evs 0 (k + 1) = txtR evs 0 k ++ ndTxt evs k) := Lib.hid (txtR_succ evs hik)
        generalize ndTxt evs k = T at *
        clear hbr hB hct hbw
        go_wp2_with (first | (go_at_call 86; (with_reducible refine HLW.out.mono ?_); rintro e w' ⟨rfl, hw'⟩; subst w'))
        (with_reducible refine HWS.out.mono ?_)
        rintro r w3 ⟨rfl, hB3, hb3⟩
        have HB3 := Lib.hid hB3
        have hbw3 := HBR.out.trans hb3
        clear hB3 hb3
        go_wp2_with fail
        go_roundw
        case rel => exact ⟨k + 1, by go_num, by omega, by omega, hbw3, by rw [HTS.out]; exact HB3⟩
        case measure => simp [intOf]; omega
      · have hk2 : k = hi' := by omega
        subst hk2
        have j0 : (k : Int) - 1 < (k : Int) := by omega
        have HS := Lib.hid (bstring_any w.heap.size w.heap.size (txtR evs 0 k) wr hB.out hbr.size)
        have HBR := Lib.hid hbr
        clear hB hbr
        go_wp2_with (first | (go_at_call 86; (with_reducible refine HLW.out.mono ?_); rintro e w' ⟨rfl, hw'⟩; subst w'))
        (with_reducible refine HS.out.mono ?_)
        rintro r w3 ⟨rfl, _, hb3⟩
        go_wp2_with fail
        go_ret2
        exact ⟨rfl, HBR.out.trans hb3⟩
end Go.Proofs.YtekoflcioooncaaDoor

namespace Go.Proofs.YtekoflcioooncaaDoor
open Go.RowKit

theorem value_out (tb : Nat) (v : Int) (w : World) {L : Nat} {f : Nat → Nat} {G : Nat → Prop} (h : LastAt w G tb L f) (hv : v < (-1) ∨ (L : Int) ≤ v) :
    Calls Tryd.prog 88 #[.pointer (some ⟨tb, 0, none⟩), .int .i64 v] w fun e w' => e = .returned (.tuple #[.string ⟨#[]⟩, .int .i64 2]) ∧ w' = w := by
  have HREF : Hid (Calls Tryd.prog 85 #[.pointer (some ⟨tb, 0, none⟩), .int .i64 v, .int .i64 (-1)] w fun e w' => e = .returned (.int .i64 2) ∧ w' = w) := Lib.hid (by
    by_cases h1 : v < (-1)
    · exact refuses_low h v (-1) h1
    · exact refuses_high h v (-1) (by omega) (by omega))
  clear h hv
  go_enter Tryd.func88, Tryd.ntmps88
  go_wp2_with (first | (go_at_call 85; (with_reducible refine HREF.out.mono ?_); rintro e w' ⟨rfl, hw'⟩; subst w'))
  go_ret2
  exact ⟨rfl, rfl⟩
theorem value_nil (v : Int) (w : World) :
    Calls Tryd.prog 88 #[.pointer none, .int .i64 v] w fun e w' => e = .returned (.tuple #[.string ⟨#[]⟩, .int .i64 1]) ∧ w' = w := by
  have HREF : Hid (Calls Tryd.prog 85 #[.pointer none, .int .i64 v, .int .i64 (-1)] w fun e w' => e = .returned (.int .i64 1) ∧ w' = w) := Lib.hid (refuses_nil w v (-1))
  go_enter Tryd.func88, Tryd.ntmps88
  go_wp2_with (first | (go_at_call 85; (with_reducible refine HREF.out.mono ?_); rintro e w' ⟨rfl, hw'⟩; subst w'))
  go_ret2
  exact ⟨rfl, rfl⟩
theorem treeNode {w : World} {B tb : Nat} {evs : List Ev} (h : TreeAt w B tb evs) (i : Nat) (x : Nd) (hx : (nodesB evs)[i]? = some x) : ∃ q b cn e A m c, w.heap[tb]? = some (.cells #[q, .slice (some ⟨b, 0, none⟩) (nodesB evs).length cn] 78 (0, 0)) ∧ b < w.heap.size ∧ evs[x.pos]? = some e ∧ m ≤ c ∧ AttrsAt w A m e.ats ∧
    w.cell? ⟨b, i * 12, none⟩ = some (.int .i64 e.kind) ∧ w.cell? ⟨b, i * 12 + 1, none⟩ = some (.int .i64 e.num) ∧ w.cell? ⟨b, i * 12 + 2, none⟩ = some (.int .i64 e.dep) ∧ w.cell? ⟨b, i * 12 + 3, none⟩ = some (.string (strL e.name)) ∧ w.cell? ⟨b, i * 12 + 4, none⟩ = some (.slice A m c) ∧
    w.cell? ⟨b, i * 12 + 5, none⟩ = some (.string (strL e.text)) ∧ w.cell? ⟨b, i * 12 + 6, none⟩ = some (.int .i64 e.fr) ∧ w.cell? ⟨b, i * 12 + 7, none⟩ = some (.int .i64 e.tt) ∧ w.cell? ⟨b, i * 12 + 8, none⟩ = some (.int .i64 x.par) := by
  obtain ⟨h1, h2, ge, n, an, cn, h3, h4, h5, h6, h7, h8, h9⟩ := h
  obtain ⟨b, e, A, m, c, rfl, g2, g3, g4, g5, g6, g7, g8⟩ := h9 i x hx
  exact ⟨_, b, cn, e, A, m, c, h3, g3, g4, g5, g6, g8 0 (by decide), g8 1 (by decide), g8 2 (by decide), g8 3 (by decide), g8 4 (by decide), g8 5 (by decide), g8 6 (by decide), g8 7 (by decide), g8 8 (by decide)⟩
theorem treeEvs {w : World} {B tb : Nat} {evs : List Ev} (h : TreeAt w B tb evs) : ∃ (ge n : Nat) (u : Value), w.heap[tb]? = some (.cells #[.slice (some ⟨ge, 0, none⟩) n n, u] 78 (0, 0)) ∧ EvsAt w (some ⟨ge, 0, none⟩) n evs := by
  obtain ⟨_, _, ge, n, an, cn, htb, hne, hcn, _, hgew, hev, hnd⟩ := h
  exact ⟨ge, n, _, htb, hne, fun i hi => by
    obtain ⟨A, m, c, g1, g2, _, g4⟩ := hev i hi
    exact ⟨ge, 0, A, m, c, rfl, hgew, g1, g2, fun j hj => by rw [Nat.zero_add]; exact g4 j hj⟩⟩
end Go.Proofs.YtekoflcioooncaaDoor

namespace Go.Proofs.YtekoflcioooncaaDoor
open Go.RowKit
end Go.Proofs.YtekoflcioooncaaDoor

namespace Go.Proofs.YtekoflcioooncaaDoor
open Go.RowKit
end Go.Proofs.YtekoflcioooncaaDoor

namespace Go.Proofs.YtekoflcioooncaaDoor
open Go.RowKit

theorem results_cellTmp {P : Program} {fn : Func} {p t : Tmp} {ty : TypeId} (h : fn.results = #[.cell p ty, .tmp t]) (tmps : Array Value) (w : World) :
    (results fn tmps).run P w = ((asAddr (tmps.getD p undef)).run P w).andThen fun a w₁ => ((loadVar ty a).run P w₁).andThen fun v w₂ => .ok (.tuple #[v, tmps.getD t undef]) w₂ := by
  simp only [results, h]
  simp [Sem.run_bind]
set_option maxRecDepth 100000 in
set_option maxHeartbeats 4000000 in
theorem node_ref (t : Option Addr) (v er : Int) (w : World) (hne : (er != 0) = true) (HREF : Hid (∀ W, Below w.heap.size w W → Calls Tryd.prog 85 #[.pointer t, .int .i64 v, .int .i64 0] W fun e w' => e = .returned (.int .i64 er) ∧ w' = W)) :
    Calls Tryd.prog 87 #[.pointer t, .int .i64 v] w fun e w' => e = .returned (.tuple #[.agg (evC 0 0 0 [] none 0 0 [] 0 0), .int .i64 er]) ∧ Below w.heap.size w w' := by
  have hB : Hid (∀ o, Below w.heap.size w (w.alloc o)) := Lib.hid fun o => (Below.refl _ _).alloc (Nat.le_refl _) _
  go_enter Tryd.func87, Tryd.ntmps87
  go_wp2_with (first | (go_at_call 85; (with_reducible refine (HREF.out _ (hB.out _)).mono ?_); rintro e w' ⟨rfl, hw'⟩; subst w'))
  refine bodyPost_ret (v := .tuple #[.agg (evC 0 0 0 [] none 0 0 [] 0 0), .int .i64 er]) ?_ rfl ⟨rfl, ?_⟩
  rotate_left
  · exact hB.out _
  · rw [results_cellTmp rfl]
    go_simp
    rfl
theorem node_nil (v : Int) (w : World) :
    Calls Tryd.prog 87 #[.pointer none, .int .i64 v] w fun e w' => e = .returned (.tuple #[.agg (evC 0 0 0 [] none 0 0 [] 0 0), .int .i64 1]) ∧ Below w.heap.size w w' :=
  node_ref none v 1 w rfl (Lib.hid fun W _ => refuses_nil W v 0)
theorem node_out (tb : Nat) (v : Int) (w : World) {L : Nat} {f : Nat → Nat} {G : Nat → Prop} (h : LastAt w G tb L f) (hG : ∀ k, G k → k < w.heap.size) (hv : v < 0 ∨ (L : Int) ≤ v) :
    Calls Tryd.prog 87 #[.pointer (some ⟨tb, 0, none⟩), .int .i64 v] w fun e w' => e = .returned (.tuple #[.agg (evC 0 0 0 [] none 0 0 [] 0 0), .int .i64 2]) ∧ Below w.heap.size w w' :=
  node_ref _ v 2 w rfl (Lib.hid fun W hW => by
    have h2 := h.keep (B := W) fun k hk => hW.block k (hG k hk)
    by_cases h1 : v < 0
    · exact refuses_low h2 v 0 h1
    · exact refuses_high h2 v 0 (by omega) (by omega))
set_option maxRecDepth 100000 in
set_option maxHeartbeats 4000000 in
theorem node_at (tb i : Nat) (x : Nd) (e : Ev) (evs : List Ev) (w : World) {B : Nat} (h : TreeAt w B tb evs) (hw : wholeB evs = true) (hx : (nodesB evs)[i]? = some x) (he : evs[x.pos]? = some e) (hal : e.ats.length ≤ 1048576) :
    Calls Tryd.prog 87 #[.pointer (some ⟨tb, 0, none⟩), .int .i64 (i : Nat)] w fun r w' => ∃ A m c, r = .returned (.tuple #[.agg (evC e.kind e.num e.dep e.name A m c e.text e.fr e.tt), .int .i64 0]) ∧ m ≤ c ∧ AttrsAt w' A m e.ats ∧ (∀ ad, A = some ad → w.heap.size ≤ ad.block) ∧ Below w.heap.size w w' := by
  have hil := get_lt hx
  have htl := treeLast h hw
  have HREF : Hid (∀ W, Below w.heap.size w W → Calls Tryd.prog 85 #[.pointer (some ⟨tb, 0, none⟩), .int .i64 (i : Nat), .int .i64 0] W fun e w' => e = .returned (.int .i64 0) ∧ w' = W) := Lib.hid fun W hW => refuses_in (htl.keep (B := W) fun k hk => hW.block k hk.2) (i : Nat) 0 (by omega) (by omega)
  obtain ⟨q, b, cn, e', A, m, c, htb, hb, he', hmc, hA, e0, e1, e2, e3, e4, e5, e6, e7, e8⟩ := treeNode h i x hx
  have : e' = e := by rw [he] at he'; exact (Option.some.inj he').symm
  subst this
  have c1 : w.cell? ⟨tb, 1, none⟩ = some (.slice (some ⟨b, 0, none⟩) (nodesB evs).length cn) := by rw [cell_heap htb]; rfl
  have hm : m ≤ 1048576 := by rw [hA.1]; exact hal
  have HONE : Hid (∀ W, Below w.heap.size w W → Calls Tryd.prog 53 #[.agg #[.int .i64 e'.kind, .int .i64 e'.num, .int .i64 e'.dep, .string (strL e'.name), .slice A m c, .string (strL e'.text), .int .i64 e'.fr, .int .i64 e'.tt]] W fun e w' => ∃ A' c2, e = .returned (.agg (evC e'.kind e'.num e'.dep e'.name A' m c2 e'.text e'.fr e'.tt)) ∧ m ≤ c2 ∧ AttrsAt w' A' m e'.ats ∧ (∀ ad, A' = some ad → W.heap.size ≤ ad.block) ∧ Below W.heap.size W w') := Lib.hid fun W hW => one_any _ _ _ _ _ _ _ A m c _ W (hA.below hW) hm
  have HB : Hid (∀ o, Below w.heap.size w (w.alloc o) ∧ (w.alloc o).heap[w.heap.size]? = some o ∧ (w.alloc o).heap.size = w.heap.size + 1) := Lib.hid fun o => ⟨(Below.refl _ _).alloc (Nat.le_refl _) _, heap_alloc_new w o, by simp⟩
  have htbw := heap_lt htb
  have k1 := fun o => ((HB.out o).1.cell (p := ⟨tb, 1, none⟩) htbw).trans c1
  have k := fun o j => (HB.out o).1.cell (p := ⟨b, j, none⟩) hb
  have g0 := fun o => (k o _).trans e0
  have g1 := fun o => (k o _).trans e1
  have g2 := fun o => (k o _).trans e2
  have g3 := fun o => (k o _).trans e3
  have g4 := fun o => (k o _).trans e4
  have g5 := fun o => (k o _).trans e5
  have g6 := fun o => (k o _).trans e6
  have g7 := fun o => (k o _).trans e7
  have i1 : (0 : Int) ≤ (i : Int) := by omega
  have i2 : (i : Int) < ((nodesB evs).length : Nat) := by omega
  generalize (nodesB evs).length = L at *
  clear h hw hx htb hA he he' hil e0 e1 e2 e3 e4 e5 e6 e7 e8 htl k htbw c1 hal hm
  go_enter Tryd.func87, Tryd.ntmps87
  go_wp2_with (first | (go_at_call 85; (with_reducible refine (HREF.out _ (HB.out _).1).mono ?_); rintro e w' ⟨rfl, hw'⟩; subst w'))
  (with_reducible refine (HONE.out _ (HB.out _).1).mono ?_)
  rintro r w3 ⟨A', c2, rfl, hmc2, hA', hfr, hb3⟩
  unfold evC
  have hk := (hb3.block w.heap.size (by rw [(HB.out _).2.2]; omega)).trans (HB.out _).2.1
  have hbw := (HB.out (.cells #[.int .i64 0, .int .i64 0, .int .i64 0, .string ⟨#[]⟩, .slice none 0 0, .string ⟨#[]⟩, .int .i64 0, .int .i64 0] 71)).1.trans (hb3.mono (HB.out _).1.size)
  have z0 : w3.cell? ⟨w.heap.size, 0, none⟩ = some (.int .i64 0) := by rw [cell_heap hk]; rfl
  have z1 : w3.cell? ⟨w.heap.size, 1, none⟩ = some (.int .i64 0) := by rw [cell_heap hk]; rfl
  have z2 : w3.cell? ⟨w.heap.size, 2, none⟩ = some (.int .i64 0) := by rw [cell_heap hk]; rfl
  have z3 : w3.cell? ⟨w.heap.size, 3, none⟩ = some (.string ⟨#[]⟩) := by rw [cell_heap hk]; rfl
  have z4 : w3.cell? ⟨w.heap.size, 4, none⟩ = some (.slice none 0 0) := by rw [cell_heap hk]; rfl
  have z5 : w3.cell? ⟨w.heap.size, 5, none⟩ = some (.string ⟨#[]⟩) := by rw [cell_heap hk]; rfl
  have z6 : w3.cell? ⟨w.heap.size, 6, none⟩ = some (.int .i64 0) := by rw [cell_heap hk]; rfl
  have z7 : w3.cell? ⟨w.heap.size, 7, none⟩ = some (.int .i64 0) := by rw [cell_heap hk]; rfl
  have fz : ∀ j, w3.frozen? ⟨w.heap.size, j, none⟩ = false := fun j => frozen_heap hk
  have hfr2 : ∀ ad, A' = some ad → w.heap.size + 1 ≤ ad.block := fun ad h => by have := hfr ad h; rw [(HB.out _).2.2] at this; exact this
  have HX := Lib.hid (⟨hbw, hfr2, hA', hmc2⟩ : _ ∧ _ ∧ _ ∧ _)
  clear hbw hfr2 hA' hmc2 hfr hb3 hk g0 g1 g2 g3 g4 g5 g6 g7 k1
  go_wp2_with fail
  obtain ⟨hbw, hfr2, hA', hmc2⟩ := HX.out
  refine bodyPost_ret (v := .tuple #[.agg #[.int .i64 e'.kind, .int .i64 e'.num, .int .i64 e'.dep, .string (strL e'.name), .slice A' m c2, .string (strL e'.text), .int .i64 e'.fr, .int .i64 e'.tt], .int .i64 0]) ?_ rfl ⟨A', m, c2, rfl, hmc2, ?_, fun ad h => by have := hfr2 ad h; omega, ?_⟩
  · rw [results_cellTmp rfl]
    go_simp
  · refine hA'.keep (by simp [World.setCell]) fun b o h _ => ?_
    have hb := hfr2 _ h
    simp only at hb
    iterate 8 rw [Below.heap_setCell _ _ _ _ (by simp only; omega)]
  · iterate 8 refine Below.setCell ?_ (by simp only; omega) _
    exact hbw
end Go.Proofs.YtekoflcioooncaaDoor

namespace Go.Proofs.YtekoflcioooncaaDoor

def KEnd (g f : Nat → Int) (n k : Nat) : Prop := k ≤ n ∧ ∀ i, i < k → g (n - k + i) = f i
def KLong (g f : Nat → Int) (L n k : Nat) : Prop := KEnd g f n k ∧ ∀ j, j ≤ L → KEnd g f n j → j ≤ k
def KBord (f : Nat → Int) (m b : Nat) : Prop := KLong (fun i => f (i + 1)) f m m b
def KTry (g f : Nat → Int) (L n k : Nat) (c : Int) : Prop := KEnd g f n k ∧ ∀ j, j < L → KEnd g f n j → f j = c → j ≤ k

theorem KEnd.zero (g f : Nat → Int) (n : Nat) : KEnd g f n 0 := ⟨Nat.zero_le _, fun _ h => absurd h (Nat.not_lt_zero _)⟩
theorem KLong.zero (g f : Nat → Int) (L : Nat) : KLong g f L 0 0 := ⟨KEnd.zero .., fun _ _ h => h.1⟩
theorem KLong.try' {g f : Nat → Int} {L n k : Nat} (c : Int) (h : KLong g f L n k) : KTry g f L n k c :=
  ⟨h.1, fun j hj hm _ => h.2 j (Nat.le_of_lt hj) hm⟩

theorem KEnd.border {g f : Nat → Int} {n k b : Nat} (hk : KEnd g f n (k + 1)) (hb : KEnd (fun i => f (i + 1)) f k b) : KEnd g f n b := by
  refine ⟨Nat.le_trans hb.1 (by have := hk.1; omega), fun i hi => ?_⟩
  have h1 := hb.2 i hi
  have h2 := hk.2 (k - b + i + 1) (by have := hb.1; omega)
  have e : n - (k + 1) + (k - b + i + 1) = n - b + i := by have := hk.1; have := hb.1; omega
  rw [e] at h2; exact h2.trans h1
theorem KEnd.inner {g f : Nat → Int} {n k j : Nat} (hk : KEnd g f n (k + 1)) (hj : KEnd g f n j) (hjk : j ≤ k) : KEnd (fun i => f (i + 1)) f k j := by
  refine ⟨hjk, fun i hi => ?_⟩
  have h1 := hj.2 i hi
  have h2 := hk.2 (k - j + i + 1) (by omega)
  have e : n - (k + 1) + (k - j + i + 1) = n - j + i := by have := hk.1; omega
  rw [e] at h2; exact h2.symm.trans h1

theorem KTry.back {g f : Nat → Int} {L n k b : Nat} {c : Int} (h : KTry g f L n (k + 1) c) (hne : f (k + 1) ≠ c) (hb : KBord f k b) : KTry g f L n b c := by
  refine ⟨h.1.border hb.1, fun j hj hm hc => ?_⟩
  have h1 := h.2 j hj hm hc
  have h2 : j ≠ k + 1 := fun e => hne (e ▸ hc)
  have h3 : j ≤ k := by omega
  exact hb.2 j h3 (h.1.inner hm h3)
theorem KBord.lt {f : Nat → Int} {k b : Nat} (h : KBord f k b) : b < k + 1 := Nat.lt_succ_of_le h.1.1

theorem KEnd.pred {g f : Nat → Int} {n j : Nat} (h : KEnd g f (n + 1) (j + 1)) : KEnd g f n j ∧ f j = g n := by
  have h0 := h.1
  refine ⟨⟨by omega, fun i hi => ?_⟩, ?_⟩
  · have := h.2 i (by omega)
    have e : n + 1 - (j + 1) + i = n - j + i := by omega
    rwa [e] at this
  · have := h.2 j (by omega)
    have e : n + 1 - (j + 1) + j = n := by omega
    rw [e] at this; exact this.symm
theorem KEnd.succ {g f : Nat → Int} {n k : Nat} (h : KEnd g f n k) (hc : f k = g n) : KEnd g f (n + 1) (k + 1) := by
  have h0 := h.1
  refine ⟨by omega, fun i hi => ?_⟩
  have e : n + 1 - (k + 1) + i = n - k + i := by omega
  rw [e]
  rcases Nat.lt_or_ge i k with hi' | hi'
  · exact h.2 i hi'
  · have : i = k := by omega
    subst this
    have e2 : n - i + i = n := by omega
    rw [e2]; exact hc.symm

theorem KTry.goes {g f : Nat → Int} {L n k : Nat} (h : KTry g f L n k (g n)) (hc : f k = g n) : KLong g f L (n + 1) (k + 1) := by
  refine ⟨h.1.succ hc, fun j hj hm => ?_⟩
  cases j with
  | zero => omega
  | succ j => have := hm.pred; have := h.2 j (by omega) this.1 this.2; omega
theorem KTry.none' {g f : Nat → Int} {L n : Nat} (h : KTry g f L n 0 (g n)) (hc : f 0 ≠ g n) : KLong g f L (n + 1) 0 := by
  refine ⟨KEnd.zero .., fun j hj hm => ?_⟩
  cases j with
  | zero => omega
  | succ j =>
    have hp := hm.pred
    have := h.2 j (by omega) hp.1 hp.2
    have : j = 0 := by omega
    subst this; exact absurd hp.2 hc

theorem KBord.one (f : Nat → Int) : KBord f 0 0 := KLong.zero ..
theorem KBord.try' {f : Nat → Int} {m b : Nat} (c : Int) (h : KBord f m b) : KTry (fun i => f (i + 1)) f (m + 1) m b c :=
  ⟨h.1, fun j hj hm _ => h.2 j (by omega) hm⟩
theorem KBord.goes {f : Nat → Int} {m k : Nat} (h : KTry (fun i => f (i + 1)) f (m + 1) m k (f (m + 1))) (hc : f k = f (m + 1)) : KBord f (m + 1) (k + 1) :=
  KTry.goes h hc
theorem KBord.none' {f : Nat → Int} {m : Nat} (h : KTry (fun i => f (i + 1)) f (m + 1) m 0 (f (m + 1))) (hc : f 0 ≠ f (m + 1)) : KBord f (m + 1) 0 :=
  KTry.none' h hc

def KStands (g f : Nat → Int) (L n p : Nat) : Prop := p + L ≤ n ∧ ∀ i, i < L → g (p + i) = f i
theorem KStands.ends {g f : Nat → Int} {L n p : Nat} (h : KStands g f L n p) : KEnd g f (p + L) L :=
  ⟨by omega, fun i hi => by
    have e : p + L - L + i = p + i := by omega
    rw [e]; exact h.2 i hi⟩
theorem kstands_next {g f : Nat → Int} {L n k : Nat} (h : KLong g f L (n + 1) k) (hk : k < L) (hno : ∀ p, ¬ KStands g f L n p) : ∀ p, ¬ KStands g f L (n + 1) p := fun p hp => by
  rcases Nat.lt_or_ge (p + L) (n + 1) with hl | hl
  · exact hno p ⟨by omega, hp.2⟩
  · have e : p + L = n + 1 := by have := hp.1; omega
    have := h.2 L (Nat.le_refl _) (e ▸ hp.ends); omega
theorem kstands_found {g f : Nat → Int} {L n N : Nat} (h : KLong g f L (n + 1) L) (hN : n + 1 ≤ N) (hno : ∀ p, ¬ KStands g f L n p) : KStands g f L N (n + 1 - L) ∧ ∀ p, p < n + 1 - L → ¬ KStands g f L N p := by
  have h0 := h.1.1
  refine ⟨⟨by omega, h.1.2⟩, fun p hp hs => hno p ⟨by omega, hs.2⟩⟩
theorem kstands_start {g f : Nat → Int} {L : Nat} (hL : 0 < L) : ∀ p, ¬ KStands g f L 0 p := fun p hp => by have := hp.1; omega

def kfind (stands : Nat → Bool) (p : Nat) : Nat → Int
  | 0 => if stands p then (p : Int) else -1
  | n + 1 => if stands p then (p : Int) else kfind stands (p + 1) n
theorem kfind_found {stands : Nat → Bool} {a : Nat} (ha : stands a = true) : ∀ (n p : Nat), p ≤ a → a ≤ p + n → (∀ q, p ≤ q → q < a → stands q = false) → kfind stands p n = (a : Int) := by
  intro n
  induction n with
  | zero => intro p h1 h2 _; have : p = a := by omega
            subst this; simp [kfind, ha]
  | succ n ih =>
    intro p h1 h2 h3
    rcases Nat.lt_or_ge p a with hl | hl
    · simp only [kfind, h3 p (Nat.le_refl _) hl, Bool.false_eq_true, if_false]
      exact ih (p + 1) hl (by omega) (fun q hq => h3 q (by omega))
    · have : p = a := by omega
      subst this; simp [kfind, ha]
theorem kfind_none {stands : Nat → Bool} : ∀ (n p : Nat), (∀ q, p ≤ q → q ≤ p + n → stands q = false) → kfind stands p n = -1 := by
  intro n
  induction n with
  | zero => intro p h; simp [kfind, h p (Nat.le_refl _) (Nat.le_refl _)]
  | succ n ih => intro p h; simp only [kfind, h p (Nat.le_refl _) (by omega), Bool.false_eq_true, if_false]; exact ih (p + 1) (fun q h1 h2 => h q (by omega) (by omega))

end Go.Proofs.YtekoflcioooncaaDoor
