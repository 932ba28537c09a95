/-
  (*tree.Tree).Value of any node, and beside them.
-/
import Derived.Test.YtopfbngdbhofkaaGreatDoorItH
import Derived.Test.YtopfbngdbhofkaaGreatDoorItU
import Derived.Test.YtopfbngdbhofkaaGreatDoorItG
import Derived.Test.YtopfbngdbhofkaaGreatDoorItJ
import Derived.Test.YtopfbngdbhofkaaGreatDoorItS
namespace Go.Proofs.YtopfbngdbhofkaaGreatDoor
open Go.RowKit

theorem TreeAt.below {w w' : World} {B tb : Nat} {evs : List Ev} (h : TreeAt w B tb evs) (hb : Below w.heap.size w w') : TreeAt w' B tb evs := h.keep hb.size (fun j _ hj => hb.block j hj)
theorem treeLast {w : World} {B tb : Nat} {evs : List Ev} (h : TreeAt w B tb evs) (hw : wholeB evs = true) : LastAt w (fun k => B ≤ k ∧ k < w.heap.size) tb (nodesB evs).length (lastN evs) := by
  obtain ⟨t, ht, _, _⟩ := wholeB_some hw
  obtain ⟨h1, h2, ge, n, an, cn, h3, h4, h5, h6, h7, h8, h9⟩ := h
  refine ⟨⟨h2, h1⟩, _, an, cn, h3, h5, fun i hi => ?_⟩
  obtain ⟨b, e, A, m, c, g1, g2, g3, g4, g5, g6, g7, g8⟩ := h9 i _ (List.getElem?_eq_getElem hi)
  refine ⟨b, g1, ⟨g2, g3⟩, ?_⟩
  rw [g8 9 (by decide), lastN_at ht (List.getElem?_eq_getElem hi)]
  rfl
/-- each node's text, where it lies -/
theorem treeText {w : World} {B tb : Nat} {evs : List Ev} (h : TreeAt w B tb evs) : ∃ q an cn, w.heap[tb]? = some (.cells #[q, .slice an (nodesB evs).length cn] 69 (0, 0)) ∧ ∀ k, k < (nodesB evs).length → ∃ b, an = some ⟨b, 0, none⟩ ∧ b < w.heap.size ∧ w.cell? ⟨b, k * 12 + 5, none⟩ = some (.string (strL (ndTxt evs k))) := by
  obtain ⟨h1, h2, ge, n, an, cn, h3, h4, h5, h6, h7, h8, h9⟩ := h
  refine ⟨_, an, cn, h3, fun i hi => ?_⟩
  obtain ⟨b, e, A, m, c, g1, g2, g3, g4, g5, g6, g7, g8⟩ := h9 i _ (List.getElem?_eq_getElem hi)
  refine ⟨b, g1, g3, ?_⟩
  rw [g8 5 (by decide)]
  unfold ndTxt
  rw [List.getElem?_eq_getElem hi]
  simp only [Option.bind_some, g4, Option.map_some, Option.getD_some]
  rfl
/-- the texts of the nodes from i on, below hi -/
def txtR (evs : List Ev) (i hi : Nat) : List UInt8 := (List.range' i (hi - i)).flatMap (ndTxt evs)
theorem txtR_succ (evs : List Ev) {i k : Nat} (h : i ≤ k) : txtR evs i (k + 1) = txtR evs i k ++ ndTxt evs k := by
  unfold txtR
  rw [show k + 1 - i = k - i + 1 by omega, List.range'_concat, List.flatMap_append]
  simp only [List.flatMap_cons, List.flatMap_nil, List.append_nil, Nat.one_mul]
  rw [show i + (k - i) = k by omega]
theorem ndTxt_len (evs : List Ev) (h : ∀ e ∈ evs, e.text.length ≤ 1048576) (k : Nat) : (ndTxt evs k).length ≤ 1048576 := by
  unfold ndTxt
  cases h1 : (nodesB evs)[k]? with
  | none => simp
  | some x =>
    simp only [Option.bind_some]
    cases h2 : evs[x.pos]? with
    | none => simp
    | some e => simp only [Option.map_some, Option.getD_some]; exact h e (List.mem_of_getElem? h2)
theorem txtR_len (evs : List Ev) (h : ∀ e ∈ evs, e.text.length ≤ 1048576) (i : Nat) : ∀ k, i ≤ k → (txtR evs i k).length ≤ (k - i) * 1048576 := by
  intro k hk
  induction k with
  | zero => have : i = 0 := by omega
            subst this; simp [txtR]
  | succ k ih =>
    by_cases h1 : i = k + 1
    · subst h1; simp [txtR]
    · rw [txtR_succ evs (by omega), List.length_append]
      have := ih (by omega)
      have := ndTxt_len evs h k
      have e : (k + 1 - i) * 1048576 = (k - i) * 1048576 + 1048576 := by rw [show k + 1 - i = (k - i) + 1 by omega, Nat.add_mul]
      omega
set_option maxRecDepth 1000000 in
set_option maxHeartbeats 4000000 in
theorem value_at (tb i : Nat) (v : Int) (evs : List Ev) (w : World) {B : Nat} (h : TreeAt w B tb evs) (hw : wholeB evs = true) (hi : v = (i : Nat) ∨ v = -1 ∧ i = 0) (hv : v < (nodesB evs).length) (hsm : ∀ e ∈ evs, e.text.length ≤ 1048576) (hL : (nodesB evs).length ≤ 1048576) :
    Calls Tryz.prog 21 #[.pointer (some ⟨tb, 0, none⟩), .int .i64 v] w fun e w' => e = .returned (.tuple #[.string (strL (txtR evs i (hiOf (nodesB evs).length (lastN evs) v))), .int .i64 0]) ∧ Below w.heap.size w w' := by
  obtain ⟨t, ht, _, _⟩ := wholeB_some hw
  have hrng := lastN_rng ht
  have hpos := wholeB_pos hw
  have htl := treeLast h hw
  obtain ⟨q, an, cn, htb, htx⟩ := treeText h
  have hhi : hiOf (nodesB evs).length (lastN evs) v ≤ (nodesB evs).length ∧ i ≤ hiOf (nodesB evs).length (lastN evs) v := by
    unfold hiOf
    split
    · omega
    · have h1 := hrng v.toNat (by omega); omega
  have HLA : Hid (∀ W, Below w.heap.size w W → Calls Tryz.prog 33 #[.pointer (some ⟨tb, 0, none⟩), .int .i64 v] W fun e w' => e = .returned (.int .i64 ((hiOf (nodesB evs).length (lastN evs) v : Nat) - 1 : Int)) ∧ w' = W) := Lib.hid fun W hW => lastv (htl.keep fun k hk => hW.block k hk.2) hL v hv
  have HREF : Hid (Calls Tryz.prog 32 #[.pointer (some ⟨tb, 0, none⟩), .int .i64 v, .int .i64 (-1)] w fun e w' => e = .returned (.int .i64 0) ∧ w' = w) := Lib.hid (refuses_in htl v (-1) (by omega) hv)
  have HB0 : Hid (Below w.heap.size w (w.alloc (.cells #[.pointer none, .slice none 0 0] 83)) ∧ IsB w.heap.size w.heap.size (u8s []) (w.alloc (.cells #[.pointer none, .slice none 0 0] 83))) := Lib.hid ⟨(Below.refl _ _).alloc (Nat.le_refl _) _, isB_new w w.heap.size (Nat.le_refl _)⟩
  have HTX := Lib.hid htx
  have c1 : w.cell? ⟨tb, 1, none⟩ = some (.slice an (nodesB evs).length cn) := by rw [cell_heap htb]; rfl
  have HTB := Lib.hid (heap_lt htb)
  have HC1 := Lib.hid c1
  have HLN := Lib.hid (fun k (hk : i ≤ k) => txtR_len evs hsm i k hk)
  have HTL := Lib.hid (ndTxt_len evs hsm)
  generalize hiOf (nodesB evs).length (lastN evs) v = hi' at *
  generalize (nodesB evs).length = L at *
  have htx0 : Hid (txtR evs i i = []) := Lib.hid (by simp [txtR])
  clear htx htl hrng h hsm htb ht hw hpos c1
  rcases hi with rfl | ⟨rfl, rfl⟩
  all_goals (
    go_enter Tryz.func21, Tryz.ntmps21
    go_wp2_with (first | (go_at_call 32; (with_reducible refine HREF.out.mono ?_); rintro e w' ⟨rfl, hw'⟩; subst w')))
  · go_loopw [8] (fun kx wr => ∃ k : Nat, kx = .int .i64 k ∧ i ≤ k ∧ k ≤ hi' ∧ Below w.heap.size w wr ∧ Hid (IsB w.heap.size w.heap.size (u8s (txtR evs i k)) wr)) (fun kx _ => hi' - (intOf kx).toNat)
    case atStart => exact ⟨i, by go_num, Nat.le_refl _, hhi.2, HB0.out.1, by rw [htx0.out]; exact Lib.hid HB0.out.2⟩
    case round =>
      obtain ⟨k, rfl, hik, hk, hbr, hB⟩ := hrel
      have HLW := Lib.hid (HLA.out wr hbr)
      have d1 := (hbr.cell (p := ⟨tb, 1, none⟩) HTB.out).trans HC1.out
      by_cases hkh : k < hi'
      · obtain ⟨b, rfl, hbw, hct⟩ := HTX.out k (by omega)
        have e5 := (hbr.cell (p := ⟨b, k * 12 + 5, none⟩) hbw).trans hct
        have j0 : (k : Int) ≤ (hi' : Int) - 1 := by omega
        have j1 : (0 : Int) ≤ (k : Int) := by omega
        have j2 : (k : Int) < (L : Int) := by omega
        have ew : IntKind.i64.wrap ((k : Int) + 1) = (k : Int) + 1 := IntWalk.i64_in _ (by omega)
        have HWS := Lib.hid (bwriteL_any w.heap.size w.heap.size (txtR evs i k) (ndTxt evs k) wr hB.out (by have := HLN.out k (by omega); have := HTL.out k; omega) hbr.size)
        have HBR := Lib.hid hbr
        have HTS : Hid (txtR evs i (k + 1) = txtR evs i k ++ ndTxt evs k) := Lib.hid (txtR_succ evs hik)
        generalize ndTxt evs k = T at *
        clear hbr hB hct hbw
        go_wp2_with (first | (go_at_call 33; (with_reducible refine HLW.out.mono ?_); rintro e w' ⟨rfl, hw'⟩; subst w'))
        (with_reducible refine HWS.out.mono ?_)
        rintro r w3 ⟨rfl, hB3, hb3⟩
        have HB3 := Lib.hid hB3
        have hbw3 := HBR.out.trans hb3
        clear hB3 hb3
        go_wp2_with fail
        go_roundw
        case rel => exact ⟨k + 1, by go_num, by omega, by omega, hbw3, by rw [HTS.out]; exact HB3⟩
        case measure => simp [intOf]; omega
      · have hk2 : k = hi' := by omega
        subst hk2
        have j0 : (k : Int) - 1 < (k : Int) := by omega
        have HS := Lib.hid (bstring_any w.heap.size w.heap.size (txtR evs i k) wr hB.out hbr.size)
        have HBR := Lib.hid hbr
        clear hB hbr
        go_wp2_with (first | (go_at_call 33; (with_reducible refine HLW.out.mono ?_); rintro e w' ⟨rfl, hw'⟩; subst w'))
        (with_reducible refine HS.out.mono ?_)
        rintro r w3 ⟨rfl, _, hb3⟩
        go_wp2_with fail
        go_ret2
        exact ⟨rfl, HBR.out.trans hb3⟩
  · go_loopw [8] (fun kx wr => ∃ k : Nat, kx = .int .i64 k ∧ 0 ≤ k ∧ k ≤ hi' ∧ Below w.heap.size w wr ∧ Hid (IsB w.heap.size w.heap.size (u8s (txtR evs 0 k)) wr)) (fun kx _ => hi' - (intOf kx).toNat)
    case atStart => exact ⟨0, rfl, Nat.le_refl _, hhi.2, HB0.out.1, by rw [htx0.out]; exact Lib.hid HB0.out.2⟩
    case round =>
      obtain ⟨k, rfl, hik, hk, hbr, hB⟩ := hrel
      have HLW := Lib.hid (HLA.out wr hbr)
      have d1 := (hbr.cell (p := ⟨tb, 1, none⟩) HTB.out).trans HC1.out
      by_cases hkh : k < hi'
      · obtain ⟨b, rfl, hbw, hct⟩ := HTX.out k (by omega)
        have e5 := (hbr.cell (p := ⟨b, k * 12 + 5, none⟩) hbw).trans hct
        have j0 : (k : Int) ≤ (hi' : Int) - 1 := by omega
        have j1 : (0 : Int) ≤ (k : Int) := by omega
        have j2 : (k : Int) < (L : Int) := by omega
        have ew : IntKind.i64.wrap ((k : Int) + 1) = (k : Int) + 1 := IntWalk.i64_in _ (by omega)
        have HWS := Lib.hid (bwriteL_any w.heap.size w.heap.size (txtR evs 0 k) (ndTxt evs k) wr hB.out (by have := HLN.out k (by omega); have := HTL.out k; omega) hbr.size)
        have HBR := Lib.hid hbr
        have HTS : Hid (txtR evs 0 (k + 1) = txtR evs 0 k ++ ndTxt evs k) := Lib.hid (txtR_succ evs hik)
        generalize ndTxt evs k = T at *
        clear hbr hB hct hbw
        go_wp2_with (first | (go_at_call 33; (with_reducible refine HLW.out.mono ?_); rintro e w' ⟨rfl, hw'⟩; subst w'))
        (with_reducible refine HWS.out.mono ?_)
        rintro r w3 ⟨rfl, hB3, hb3⟩
        have HB3 := Lib.hid hB3
        have hbw3 := HBR.out.trans hb3
        clear hB3 hb3
        go_wp2_with fail
        go_roundw
        case rel => exact ⟨k + 1, by go_num, by omega, by omega, hbw3, by rw [HTS.out]; exact HB3⟩
        case measure => simp [intOf]; omega
      · have hk2 : k = hi' := by omega
        subst hk2
        have j0 : (k : Int) - 1 < (k : Int) := by omega
        have HS := Lib.hid (bstring_any w.heap.size w.heap.size (txtR evs 0 k) wr hB.out hbr.size)
        have HBR := Lib.hid hbr
        clear hB hbr
        go_wp2_with (first | (go_at_call 33; (with_reducible refine HLW.out.mono ?_); rintro e w' ⟨rfl, hw'⟩; subst w'))
        (with_reducible refine HS.out.mono ?_)
        rintro r w3 ⟨rfl, _, hb3⟩
        go_wp2_with fail
        go_ret2
        exact ⟨rfl, HBR.out.trans hb3⟩
end Go.Proofs.YtopfbngdbhofkaaGreatDoor

/-
  A tree's other calls: where they refuse, a nil tree; Node, Parent, Events.
-/
namespace Go.Proofs.YtopfbngdbhofkaaGreatDoor
open Go.RowKit

theorem value_out (tb : Nat) (v : Int) (w : World) {L : Nat} {f : Nat → Nat} {G : Nat → Prop} (h : LastAt w G tb L f) (hv : v < (-1) ∨ (L : Int) ≤ v) :
    Calls Tryz.prog 21 #[.pointer (some ⟨tb, 0, none⟩), .int .i64 v] w fun e w' => e = .returned (.tuple #[.string ⟨#[]⟩, .int .i64 2]) ∧ w' = w := by
  have HREF : Hid (Calls Tryz.prog 32 #[.pointer (some ⟨tb, 0, none⟩), .int .i64 v, .int .i64 (-1)] w fun e w' => e = .returned (.int .i64 2) ∧ w' = w) := Lib.hid (by
    by_cases h1 : v < (-1)
    · exact refuses_low h v (-1) h1
    · exact refuses_high h v (-1) (by omega) (by omega))
  clear h hv
  go_enter Tryz.func21, Tryz.ntmps21
  go_wp2_with (first | (go_at_call 32; (with_reducible refine HREF.out.mono ?_); rintro e w' ⟨rfl, hw'⟩; subst w'))
  go_ret2
  exact ⟨rfl, rfl⟩
theorem value_nil (v : Int) (w : World) :
    Calls Tryz.prog 21 #[.pointer none, .int .i64 v] w fun e w' => e = .returned (.tuple #[.string ⟨#[]⟩, .int .i64 1]) ∧ w' = w := by
  have HREF : Hid (Calls Tryz.prog 32 #[.pointer none, .int .i64 v, .int .i64 (-1)] w fun e w' => e = .returned (.int .i64 1) ∧ w' = w) := Lib.hid (refuses_nil w v (-1))
  go_enter Tryz.func21, Tryz.ntmps21
  go_wp2_with (first | (go_at_call 32; (with_reducible refine HREF.out.mono ?_); rintro e w' ⟨rfl, hw'⟩; subst w'))
  go_ret2
  exact ⟨rfl, rfl⟩
theorem tprint_out (tb : Nat) (v : Int) (w : World) {L : Nat} {f : Nat → Nat} {G : Nat → Prop} (h : LastAt w G tb L f) (hv : v < (-1) ∨ (L : Int) ≤ v) :
    Calls Tryz.prog 22 #[.pointer (some ⟨tb, 0, none⟩), .int .i64 v] w fun e w' => e = .returned (.tuple #[.string ⟨#[]⟩, .int .i64 2]) ∧ w' = w := by
  have HREF : Hid (Calls Tryz.prog 32 #[.pointer (some ⟨tb, 0, none⟩), .int .i64 v, .int .i64 (-1)] w fun e w' => e = .returned (.int .i64 2) ∧ w' = w) := Lib.hid (by
    by_cases h1 : v < (-1)
    · exact refuses_low h v (-1) h1
    · exact refuses_high h v (-1) (by omega) (by omega))
  clear h hv
  go_enter Tryz.func22, Tryz.ntmps22
  go_wp2_with (first | (go_at_call 32; (with_reducible refine HREF.out.mono ?_); rintro e w' ⟨rfl, hw'⟩; subst w'))
  go_ret2
  exact ⟨rfl, rfl⟩
theorem tprint_nil (v : Int) (w : World) :
    Calls Tryz.prog 22 #[.pointer none, .int .i64 v] w fun e w' => e = .returned (.tuple #[.string ⟨#[]⟩, .int .i64 1]) ∧ w' = w := by
  have HREF : Hid (Calls Tryz.prog 32 #[.pointer none, .int .i64 v, .int .i64 (-1)] w fun e w' => e = .returned (.int .i64 1) ∧ w' = w) := Lib.hid (refuses_nil w v (-1))
  go_enter Tryz.func22, Tryz.ntmps22
  go_wp2_with (first | (go_at_call 32; (with_reducible refine HREF.out.mono ?_); rintro e w' ⟨rfl, hw'⟩; subst w'))
  go_ret2
  exact ⟨rfl, rfl⟩
theorem parent_out (tb : Nat) (v : Int) (w : World) {L : Nat} {f : Nat → Nat} {G : Nat → Prop} (h : LastAt w G tb L f) (hv : v < 0 ∨ (L : Int) ≤ v) :
    Calls Tryz.prog 14 #[.pointer (some ⟨tb, 0, none⟩), .int .i64 v] w fun e w' => e = .returned (.tuple #[.int .i64 0, .int .i64 2]) ∧ w' = w := by
  have HREF : Hid (Calls Tryz.prog 32 #[.pointer (some ⟨tb, 0, none⟩), .int .i64 v, .int .i64 0] w fun e w' => e = .returned (.int .i64 2) ∧ w' = w) := Lib.hid (by
    by_cases h1 : v < 0
    · exact refuses_low h v 0 h1
    · exact refuses_high h v 0 (by omega) (by omega))
  clear h hv
  go_enter Tryz.func14, Tryz.ntmps14
  go_wp2_with (first | (go_at_call 32; (with_reducible refine HREF.out.mono ?_); rintro e w' ⟨rfl, hw'⟩; subst w'))
  go_ret2
  exact ⟨rfl, rfl⟩
theorem parent_nil (v : Int) (w : World) :
    Calls Tryz.prog 14 #[.pointer none, .int .i64 v] w fun e w' => e = .returned (.tuple #[.int .i64 0, .int .i64 1]) ∧ w' = w := by
  have HREF : Hid (Calls Tryz.prog 32 #[.pointer none, .int .i64 v, .int .i64 0] w fun e w' => e = .returned (.int .i64 1) ∧ w' = w) := Lib.hid (refuses_nil w v 0)
  go_enter Tryz.func14, Tryz.ntmps14
  go_wp2_with (first | (go_at_call 32; (with_reducible refine HREF.out.mono ?_); rintro e w' ⟨rfl, hw'⟩; subst w'))
  go_ret2
  exact ⟨rfl, rfl⟩
/-- each node's own cells -/
theorem treeNode {w : World} {B tb : Nat} {evs : List Ev} (h : TreeAt w B tb evs) (i : Nat) (x : Nd) (hx : (nodesB evs)[i]? = some x) : ∃ q b cn e A m c, w.heap[tb]? = some (.cells #[q, .slice (some ⟨b, 0, none⟩) (nodesB evs).length cn] 69 (0, 0)) ∧ b < w.heap.size ∧ evs[x.pos]? = some e ∧ m ≤ c ∧ AttrsAt w A m e.ats ∧
    w.cell? ⟨b, i * 12, none⟩ = some (.int .i64 e.kind) ∧ w.cell? ⟨b, i * 12 + 1, none⟩ = some (.int .i64 e.num) ∧ w.cell? ⟨b, i * 12 + 2, none⟩ = some (.int .i64 e.dep) ∧ w.cell? ⟨b, i * 12 + 3, none⟩ = some (.string (strL e.name)) ∧ w.cell? ⟨b, i * 12 + 4, none⟩ = some (.slice A m c) ∧
    w.cell? ⟨b, i * 12 + 5, none⟩ = some (.string (strL e.text)) ∧ w.cell? ⟨b, i * 12 + 6, none⟩ = some (.int .i64 e.fr) ∧ w.cell? ⟨b, i * 12 + 7, none⟩ = some (.int .i64 e.tt) ∧ w.cell? ⟨b, i * 12 + 8, none⟩ = some (.int .i64 x.par) := by
  obtain ⟨h1, h2, ge, n, an, cn, h3, h4, h5, h6, h7, h8, h9⟩ := h
  obtain ⟨b, e, A, m, c, rfl, g2, g3, g4, g5, g6, g7, g8⟩ := h9 i x hx
  exact ⟨_, b, cn, e, A, m, c, h3, g3, g4, g5, g6, g8 0 (by decide), g8 1 (by decide), g8 2 (by decide), g8 3 (by decide), g8 4 (by decide), g8 5 (by decide), g8 6 (by decide), g8 7 (by decide), g8 8 (by decide)⟩
theorem parent_at (tb i : Nat) (x : Nd) (evs : List Ev) (w : World) {B : Nat} (h : TreeAt w B tb evs) (hw : wholeB evs = true) (hx : (nodesB evs)[i]? = some x) :
    Calls Tryz.prog 14 #[.pointer (some ⟨tb, 0, none⟩), .int .i64 (i : Nat)] w fun e w' => e = .returned (.tuple #[.int .i64 x.par, .int .i64 0]) ∧ w' = w := by
  have hil := get_lt hx
  have HREF : Hid (Calls Tryz.prog 32 #[.pointer (some ⟨tb, 0, none⟩), .int .i64 (i : Nat), .int .i64 0] w fun e w' => e = .returned (.int .i64 0) ∧ w' = w) := Lib.hid (refuses_in (treeLast h hw) (i : Nat) 0 (by omega) (by omega))
  obtain ⟨q, b, cn, e, A, m, c, htb, hb, he, hmc, hA, e0, e1, e2, e3, e4, e5, e6, e7, e8⟩ := treeNode h i x hx
  have c1 : w.cell? ⟨tb, 1, none⟩ = some (.slice (some ⟨b, 0, none⟩) (nodesB evs).length cn) := by rw [cell_heap htb]; rfl
  have i1 : (0 : Int) ≤ (i : Int) := by omega
  have i2 : (i : Int) < ((nodesB evs).length : Nat) := by omega
  generalize (nodesB evs).length = L at *
  clear h hw hx htb hA he hil e0 e1 e2 e3 e4 e5 e6 e7
  go_enter Tryz.func14, Tryz.ntmps14
  go_wp2_with (first | (go_at_call 32; (with_reducible refine HREF.out.mono ?_); rintro e w' ⟨rfl, hw'⟩; subst w'))
  go_ret2
  exact ⟨rfl, rfl⟩
theorem events_nil (w : World) : Calls Tryz.prog 18 #[.pointer none] w fun e w' => e = .returned (.slice none 0 0) ∧ w' = w := by
  go_enter Tryz.func18, Tryz.ntmps18
  go_wp2_with fail
  go_ret
  exact ⟨rfl, rfl⟩
/-- the tree's own events -/
theorem treeEvs {w : World} {B tb : Nat} {evs : List Ev} (h : TreeAt w B tb evs) : ∃ (ge n : Nat) (u : Value), w.heap[tb]? = some (.cells #[.slice (some ⟨ge, 0, none⟩) n n, u] 69 (0, 0)) ∧ EvsAt w (some ⟨ge, 0, none⟩) n evs := by
  obtain ⟨_, _, ge, n, an, cn, htb, hne, hcn, _, hgew, hev, hnd⟩ := h
  exact ⟨ge, n, _, htb, hne, fun i hi => by
    obtain ⟨A, m, c, g1, g2, _, g4⟩ := hev i hi
    exact ⟨ge, 0, A, m, c, rfl, hgew, g1, g2, fun j hj => by rw [Nat.zero_add]; exact g4 j hj⟩⟩
theorem events_at (tb : Nat) (evs : List Ev) (w : World) {B : Nat} (h : TreeAt w B tb evs) (hl : ∀ e ∈ evs, e.ats.length ≤ 1048576) (hn : evs.length ≤ 1048576) :
    Calls Tryz.prog 18 #[.pointer (some ⟨tb, 0, none⟩)] w fun e w' => ∃ cs, e = .returned (.slice (some ⟨w.heap.size, 0, none⟩) evs.length evs.length) ∧ w'.ownsRow w.heap.size 50 8 (.slice (some ⟨w.heap.size, 0, none⟩) evs.length evs.length) evs.length cs ∧ EvRow w' (w.heap.size + 1) evs.length evs cs ∧ Below w.heap.size w w' := by
  obtain ⟨ge, n, u, htb, hE⟩ := treeEvs h
  have hne : n = evs.length := hE.1
  subst hne
  have HCO := Lib.hid (copied_any _ _ evs.length evs w hE hn hl)
  have c0 : w.cell? ⟨tb, 0, none⟩ = some (.slice (some ⟨ge, 0, none⟩) evs.length evs.length) := by rw [cell_heap htb]; rfl
  clear h hl hE htb
  go_enter Tryz.func18, Tryz.ntmps18
  go_wp2_with fail
  (with_reducible refine HCO.out.mono ?_)
  rintro e w2 ⟨cs, rfl, h1, h2, h3⟩
  go_wp2_with fail
  go_ret
  exact ⟨cs, rfl, h1, h2, h3⟩
end Go.Proofs.YtopfbngdbhofkaaGreatDoor

/-
  canon.Print: of events.
-/
namespace Go.Proofs.YtopfbngdbhofkaaGreatDoor
open Go.RowKit

theorem outs_len (l : List Ev) : (l.flatMap evOut).length ≤ 8 * wtEs l := by
  induction l with
  | nil => simp
  | cons e l ih =>
    have := evOut_len e
    simp only [wtEs, List.flatMap_cons, List.length_append, List.map_cons, List.sum_cons] at *
    omega
theorem outs_take (l : List Ev) (k : Nat) : ((l.take k).flatMap evOut).length ≤ (l.flatMap evOut).length := by
  have h : l.flatMap evOut = (l.take k).flatMap evOut ++ (l.drop k).flatMap evOut := by rw [← List.flatMap_append, List.take_append_drop]
  rw [h, List.length_append]
  omega
set_option maxRecDepth 100000 in
set_option maxHeartbeats 4000000 in
theorem canonPrint_any (a : Option Addr) (n c : Nat) (evs : List Ev) (w : World) (hE : EvsAt w a n evs) (hw : wtEs evs ≤ 1048576) :
    Calls Tryz.prog 40 #[.slice a n c] w fun e w' => e = .returned (.string (strL (evs.flatMap evOut))) ∧ Below w.heap.size w w' := by
  have HE := Lib.hid hE
  have HN : Hid (n = evs.length) := Lib.hid hE.1
  have hol := outs_len evs
  have HOL : Hid (∀ k, ((evs.take k).flatMap evOut).length ≤ 8388608) := Lib.hid fun k => by have := outs_take evs k; omega
  have HW : Hid (∀ i (h : i < evs.length), wtE evs[i] ≤ 1048576) := Lib.hid fun i h => Nat.le_trans (wtEs_mem evs i h) hw
  have HB0 : Hid (Below w.heap.size w (w.alloc (.cells #[.pointer none, .slice none 0 0] 83)) ∧ IsB w.heap.size w.heap.size (u8s []) (w.alloc (.cells #[.pointer none, .slice none 0 0] 83))) := Lib.hid ⟨(Below.refl _ _).alloc (Nat.le_refl _) _, isB_new w w.heap.size (Nat.le_refl _)⟩
  have hn : n ≤ 1048576 := by have := wtEs_length evs; have := hE.1; omega
  clear hE hw hol
  go_enter Tryz.func40, Tryz.ntmps40
  go_wp2_with fail
  go_loopw [8] (fun iv wr => ∃ k : Nat, iv = .int .i64 k ∧ k ≤ n ∧ Below w.heap.size w wr ∧ Hid (IsB w.heap.size w.heap.size (u8s ((evs.take k).flatMap evOut)) wr)) (fun iv _ => n - (intOf iv).toNat)
  case atStart => exact ⟨0, rfl, Nat.zero_le _, HB0.out.1, by simpa using Lib.hid HB0.out.2⟩
  case round =>
    obtain ⟨k, rfl, hk, hbr, hB⟩ := hrel
    by_cases hkn : k < n
    · have hkl : k < evs.length := by rw [← HN.out]; exact hkn
      obtain ⟨b, o, A, m, c', rfl, hb, hmc, hA, hcells⟩ := HE.out.at8 k hkl
      obtain ⟨e0, e1, e2, e3, e4, e5, e6, e7⟩ := hcells wr hbr
      have hfl := flat_drop evOut evs k hkl
      have hwt := HW.out k hkl
      generalize evs[k] = e at *
      have HEV : Hid (∀ W, Below w.heap.size w W → Calls Tryz.prog 48 #[.agg #[.int .i64 e.kind, .int .i64 e.num, .int .i64 e.dep, .string (strL e.name), .slice A m c', .string (strL e.text), .int .i64 e.fr, .int .i64 e.tt]] W fun r w' => r = .returned (.string (strL (evOut e))) ∧ Below W.heap.size W w') := Lib.hid fun W hW =>
        Event_cells (cs := (evC e.kind e.num e.dep e.name A m c' e.text e.fr e.tt).toList) ⟨A, m, c', rfl, hmc, hA.below hW⟩ hwt
      have HFL := Lib.hid hfl
      have HBR := Lib.hid hbr
      have hlen := HOL.out k
      have hlen1 := HOL.out (k + 1)
      rw [hfl, List.length_append] at hlen1
      have HLEN := Lib.hid hlen1
      have HB1 : Hid (∀ o, Below w.heap.size w (wr.alloc o) ∧ IsB w.heap.size w.heap.size (u8s ((evs.take k).flatMap evOut)) (wr.alloc o)) := Lib.hid fun o => ⟨hbr.alloc hbr.size o, IsB_below hB.out ((Below.refl _ _).alloc (Nat.le_refl _) o)⟩
      clear hcells hA hbr hB hfl hwt hmc hb hlen hlen1
      go_wp2_with fail
      (with_reducible refine (HEV.out _ (HB1.out _).1).mono ?_)
      rintro r w2 ⟨rfl, hb2⟩
      have hbw2 := (HB1.out _).1.trans (hb2.mono (HB1.out _).1.size)
      have HWS := Lib.hid (bwriteL_any w.heap.size w.heap.size ((evs.take k).flatMap evOut) (evOut e) w2 (IsB_below (HB1.out _).2 hb2) (by have := HLEN.out; omega) hbw2.size)
      have HBW2 := Lib.hid hbw2
      clear hb2 hbw2 e0 e1 e2 e3 e4 e5 e6 e7
      go_wp2_with fail
      (with_reducible refine HWS.out.mono ?_)
      rintro r w3 ⟨rfl, hB3, hb3⟩
      have HB3 := Lib.hid hB3
      have hbw3 := HBW2.out.trans hb3
      clear hB3 hb3
      go_wp2_with fail
      go_roundw
      case rel => exact ⟨k + 1, by go_num, by omega, hbw3, by rw [HFL.out]; exact HB3⟩
      case measure => simp [intOf]; omega
    · have hk2 : k = n := by omega
      subst hk2
      have htk : evs.take k = evs := List.take_of_length_le (by rw [HN.out]; exact Nat.le_refl _)
      rw [htk] at hB
      have HS := Lib.hid (bstring_any w.heap.size w.heap.size (evs.flatMap evOut) wr hB.out hbr.size)
      have HBR := Lib.hid hbr
      clear hB hbr
      go_wp2_with fail
      (with_reducible refine HS.out.mono ?_)
      rintro r w3 ⟨rfl, _, hb3⟩
      go_wp2_with fail
      go_ret
      exact ⟨rfl, HBR.out.trans hb3⟩
end Go.Proofs.YtopfbngdbhofkaaGreatDoor

/-
  (*tree.Tree).Print of a node that is there.
-/
namespace Go.Proofs.YtopfbngdbhofkaaGreatDoor
open Go.RowKit

theorem refuses_ok (tb : Nat) (q : Value) (an : Option Addr) (nn cn i : Nat) (w : World) (h : w.heap[tb]? = some (.cells #[q, .slice an nn cn] 69 (0, 0))) (hi : i < nn) :
    Calls Tryz.prog 32 #[.pointer (some ⟨tb, 0, none⟩), .int .i64 i, .int .i64 (-1)] w fun e w' => e = .returned (.int .i64 0) ∧ w' = w := by
  have c1 : w.cell? ⟨tb, 1, none⟩ = some (.slice an nn cn) := by rw [cell_heap h]; rfl
  have h1 : decide ((i : Int) < -1) = false := by rw [decide_eq_false_iff_not]; omega
  have h2 : (i : Int) < (nn : Int) := by omega
  clear h
  go_enter Tryz.func32, Tryz.ntmps32
  go_wp2_with fail
  go_ret
  exact ⟨rfl, rfl⟩
/-- a piece of events -/
theorem EvsAt.sub {w : World} {ge n : Nat} {evs : List Ev} (h : EvsAt w (some ⟨ge, 0, none⟩) n evs) (i j : Nat) (hij : i ≤ j) (hj : j ≤ n) : EvsAt w (some ⟨ge, i * 8, none⟩) (j - i) ((evs.take j).drop i) := by
  have hn := h.1
  have hl : ((evs.take j).drop i).length = j - i := by rw [List.length_drop, List.length_take]; omega
  refine ⟨hl.symm, fun q hq => ?_⟩
  rw [hl] at hq
  have hqe : i + q < evs.length := by omega
  obtain ⟨b, o, A, m, c, e, hb, hmc, hA, hc⟩ := h.2 (i + q) hqe
  cases e
  have hg : ((evs.take j).drop i)[q]'(by rw [hl]; exact hq) = evs[i + q] := by rw [List.getElem_drop, List.getElem_take]
  rw [hg]
  refine ⟨ge, i * 8, A, m, c, rfl, hb, hmc, hA, fun r hr => ?_⟩
  rw [← hc r hr]
  congr 2
  omega
theorem wtEs_sub (l : List Ev) (i j : Nat) : wtEs ((l.take j).drop i) ≤ wtEs l := by
  have h1 : ∀ (a b : List Ev), wtEs (a ++ b) = wtEs a + wtEs b := fun a b => by simp [wtEs]
  have h2 : wtEs l = wtEs (l.take j) + wtEs (l.drop j) := by rw [← h1, List.take_append_drop]
  have h3 : wtEs (l.take j) = wtEs ((l.take j).take i) + wtEs ((l.take j).drop i) := by rw [← h1, List.take_append_drop]
  omega
set_option maxRecDepth 100000 in
set_option maxHeartbeats 4000000 in
theorem tprint_ok (tb i : Nat) (x : Nd) (evs : List Ev) (w : World) {B : Nat} (h : TreeAt w B tb evs) (hx : (nodesB evs)[i]? = some x) (hw : wtEs evs ≤ 1048576) (h1 : x.pos < x.fin) (h2 : x.fin ≤ evs.length) :
    Calls Tryz.prog 22 #[.pointer (some ⟨tb, 0, none⟩), .int .i64 i] w fun e w' => e = .returned (.tuple #[.string (strL (((evs.take x.fin).drop x.pos).flatMap evOut)), .int .i64 0]) ∧ Below w.heap.size w w' := by
  obtain ⟨_, _, ge, n, an, cn, htb, hne, hcn, _, hgew, hev, hnd⟩ := h
  have hE : EvsAt w (some ⟨ge, 0, none⟩) n evs := ⟨hne, fun i hi => by
    obtain ⟨A, m, c, g1, g2, _, g4⟩ := hev i hi
    exact ⟨ge, 0, A, m, c, rfl, hgew, g1, g2, fun j hj => by rw [Nat.zero_add]; exact g4 j hj⟩⟩
  obtain ⟨b, e, A, m, c, rfl, _, hb, he, hmc, hA, _, hc⟩ := hnd i x hx
  clear hev hgew hne
  have hil := get_lt hx
  have hn := hE.1
  have HREF : Hid (Calls Tryz.prog 32 #[.pointer (some ⟨tb, 0, none⟩), .int .i64 i, .int .i64 (-1)] w fun e w' => e = .returned (.int .i64 0) ∧ w' = w) := Lib.hid (refuses_ok tb _ _ _ cn i w htb hil)
  have HPR : Hid (∀ W, Below w.heap.size w W → Calls Tryz.prog 40 #[.slice (some ⟨ge, x.pos * 8, none⟩) (x.fin - x.pos) (n - x.pos)] W fun e w' => e = .returned (.string (strL (((evs.take x.fin).drop x.pos).flatMap evOut))) ∧ Below W.heap.size W w') := Lib.hid fun W hW =>
    canonPrint_any _ _ _ _ W ((hE.sub x.pos x.fin (by omega) (by omega)).below hW) (Nat.le_trans (wtEs_sub _ _ _) hw)
  have c0 : w.cell? ⟨tb, 0, none⟩ = some (.slice (some ⟨ge, 0, none⟩) n n) := by rw [cell_heap htb]; rfl
  have c1 : w.cell? ⟨tb, 1, none⟩ = some (.slice (some ⟨b, 0, none⟩) (nodesB evs).length cn) := by rw [cell_heap htb]; rfl
  have e0 := hc 0 (by decide)
  have e1 := hc 1 (by decide)
  have e2 := hc 2 (by decide)
  have e3 := hc 3 (by decide)
  have e4 := hc 4 (by decide)
  have e5 := hc 5 (by decide)
  have e6 := hc 6 (by decide)
  have e7 := hc 7 (by decide)
  have e8 := hc 8 (by decide)
  have e9 := hc 9 (by decide)
  have e10 := hc 10 (by decide)
  have e11 := hc 11 (by decide)
  simp only [ndL, evL, evC, List.cons_append, List.nil_append, List.getElem?_cons_zero, List.getElem?_cons_succ, Nat.add_zero] at e0 e1 e2 e3 e4 e5 e6 e7 e8 e9 e10 e11
  generalize (nodesB evs).length = nn at *
  have i1 : (0 : Int) ≤ (i : Int) := by omega
  have i2 : (i : Int) < (nn : Int) := by omega
  have htw := heap_lt htb
  clear hnd hE hc hA hx he hil hcn htb
  generalize (List.flatMap evOut (List.drop x.pos (List.take x.fin evs))) = OUT at *
  generalize x.pos = p at *
  generalize x.fin = f at *
  have hfn : f ≤ n := by omega
  have hpn : p < n := by omega
  clear hn hw
  have HB0 : Hid (∀ o, Below w.heap.size w (w.alloc o) ∧ (w.alloc o).heap[w.heap.size]? = some o ∧ (w.alloc o).heap.size = w.heap.size + 1) := Lib.hid fun o => ⟨(Below.refl _ _).alloc (Nat.le_refl _) _, heap_alloc_new w o, by simp⟩
  have HTW := Lib.hid htw
  have HC0 := Lib.hid c0
  clear htw hb
  go_enter Tryz.func22, Tryz.ntmps22
  go_wp2_with fail
  (with_reducible refine HREF.out.mono ?_)
  rintro r w9 ⟨rfl, hw9⟩
  rw [hw9]
  clear hw9
  go_wp2_with fail
  obtain ⟨W1, hW1⟩ : ∃ W1, W1 = w.alloc (.cells #[.int .i64 e.kind, .int .i64 e.num, .int .i64 e.dep, .string (strL e.name), .slice A m c, .string (strL e.text), .int .i64 e.fr, .int .i64 e.tt, .int .i64 x.par, .int .i64 x.last, .int .i64 p, .int .i64 f] 73) := ⟨_, rfl⟩
  rw [← hW1]
  obtain ⟨g1, g2, g3⟩ := HB0.out (.cells #[.int .i64 e.kind, .int .i64 e.num, .int .i64 e.dep, .string (strL e.name), .slice A m c, .string (strL e.text), .int .i64 e.fr, .int .i64 e.tt, .int .i64 x.par, .int .i64 x.last, .int .i64 p, .int .i64 f] 73)
  rw [← hW1] at g1 g2 g3
  have hS : ∀ w', Below W1.heap.size W1 w' → w'.cell? ⟨tb, 0, none⟩ = some (.slice (some ⟨ge, 0, none⟩) n n) ∧ w'.cell? ⟨w.heap.size, 10, none⟩ = some (.int .i64 p) ∧ w'.cell? ⟨w.heap.size, 11, none⟩ = some (.int .i64 f) ∧ Below W1.heap.size W1 w' := fun w' hb => by
    have e := (hb.block w.heap.size (by omega)).trans g2
    exact ⟨((g1.trans (hb.mono g1.size)).cell (p := ⟨tb, 0, none⟩) HTW.out).trans HC0.out, by rw [cell_heap e]; rfl, by rw [cell_heap e]; rfl, hb⟩
  have HS := Lib.hid hS
  have hS0 : Below W1.heap.size W1 W1.drew := (Below.refl _ _).drew
  have hif : (if n = p then some (⟨ge, 0, none⟩ : Addr) else some ⟨ge, p * 8, none⟩) = some ⟨ge, p * 8, none⟩ := if_neg (by omega)
  have HPK : Hid (∀ w', Below W1.heap.size W1 w' → Calls Tryz.prog 40 #[.slice (if n = p then some ⟨ge, 0, none⟩ else some ⟨ge, p * 8, none⟩) (f - p) (n - p)] w' fun e w'' => e = .returned (.string (strL OUT)) ∧ Below W1.heap.size W1 w'') := Lib.hid fun w' hb => by
    rw [hif]
    exact (HPR.out w' (g1.trans (hb.mono g1.size))).mono fun e w'' h => ⟨h.1, hb.trans (h.2.mono hb.size)⟩
  have HG1 := Lib.hid g1
  clear hif hS g1 g2 g3 c0 c1 e0 e1 e2 e3 e4 e5 e6 e7 e8 e9 e10 e11 hW1
  have j1 : (0 : Int) ≤ (p : Int) := by omega
  have j2 : (p : Int) ≤ (f : Int) := by omega
  have j3 : (f : Int) ≤ (n : Int) := by omega
  go_region_held3 (fun w' => w'.cell? ⟨tb, 0, none⟩ = some (.slice (some ⟨ge, 0, none⟩) n n) ∧ w'.cell? ⟨w.heap.size, 10, none⟩ = some (.int .i64 p) ∧ w'.cell? ⟨w.heap.size, 11, none⟩ = some (.int .i64 f) ∧ Below W1.heap.size W1 w') (first | exact HS.out _ ‹_› | go_keep) (first | (go_at_call 40; (with_reducible refine (HPK.out _ ‹_›).mono ?_); rintro e w5 ⟨rfl, hb5⟩))
  go_wp2_with fail
  go_ret2
  exact ⟨rfl, HG1.out.trans (hb5.mono HG1.out.size)⟩
end Go.Proofs.YtopfbngdbhofkaaGreatDoor
