/-
  half.Verdicts.
-/
import Derived.Test.YtklpihaelaagpaaDoorLgZH
import Derived.Test.YtklpihaelaagpaaDoorLgZI
namespace Go.Proofs.YtklpihaelaagpaaDoor
open Go.RowKit

theorem infoVd : (Tryd.prog.info? 53).map (fun i => (i.zero, i.size, i.bytes)) = some (some (.agg #[.int .i64 0, .int .i64 0]), 2, 16) := by kernel_rfl
def vdC (l : List (Int × Int)) : List Value := l.flatMap fun v => [.int .i64 v.1, .int .i64 v.2]
theorem vdC_len (l : List (Int × Int)) : (vdC l).length = l.length * 2 := by
  unfold vdC
  induction l with
  | nil => rfl
  | cons v l ih => rw [List.flatMap_cons, List.length_append, ih, List.length_cons]; simp; omega
theorem vdC_snoc (l : List (Int × Int)) (v : Int × Int) : vdC (l ++ [v]) = vdC l ++ [.int .i64 v.1, .int .i64 v.2] := by
  unfold vdC; rw [List.flatMap_append]; simp
theorem vdC_at (l : List (Int × Int)) : ∀ i, (h : i < l.length) → (vdC l)[i * 2]? = some (.int .i64 l[i].1) ∧ (vdC l)[i * 2 + 1]? = some (.int .i64 l[i].2) := by
  induction l with
  | nil => intro i h; exact absurd h (Nat.not_lt_zero _)
  | cons v l ih =>
    intro i h
    have e : vdC (v :: l) = [Value.int .i64 v.1, .int .i64 v.2] ++ vdC l := by unfold vdC; rw [List.flatMap_cons]
    cases i with
    | zero => rw [e]; exact ⟨rfl, rfl⟩
    | succ i =>
      obtain ⟨h1, h2⟩ := ih i (by simpa using h)
      rw [e, List.getElem?_append_right (by simp; omega), List.getElem?_append_right (by simp; omega)]
      rw [show (i + 1) * 2 - [Value.int .i64 v.1, .int .i64 v.2].length = i * 2 by simp; omega, show (i + 1) * 2 + 1 - [Value.int .i64 v.1, .int .i64 v.2].length = i * 2 + 1 by simp; omega]
      exact ⟨h1, h2⟩
def VdAt (w : World) (a : Option Addr) (n : Nat) (l : List (Int × Int)) : Prop :=
  n = l.length ∧ ∀ i, (h : i < l.length) → ∃ b o, a = some ⟨b, o, none⟩ ∧ b < w.heap.size ∧ w.cell? ⟨b, o + i * 2, none⟩ = some (.int .i64 l[i].1) ∧ w.cell? ⟨b, o + i * 2 + 1, none⟩ = some (.int .i64 l[i].2)
theorem VdAt.below {w w' : World} {a : Option Addr} {n : Nat} {l : List (Int × Int)} (h : VdAt w a n l) (hb : Below w.heap.size w w') : VdAt w' a n l :=
  ⟨h.1, fun i hi => by
    obtain ⟨b, o, e, hlt, h1, h2⟩ := h.2 i hi
    exact ⟨b, o, e, Nat.lt_of_lt_of_le hlt hb.size, (hb.cell (p := ⟨b, o + i * 2, none⟩) hlt).trans h1, (hb.cell (p := ⟨b, o + i * 2 + 1, none⟩) hlt).trans h2⟩⟩
theorem VdAt.of {W : World} {B : Nat} {v : Value} {l : List (Int × Int)} (h : W.ownsRow B 53 2 v l.length (vdC l)) : ∃ a c, v = .slice a l.length c ∧ l.length ≤ c ∧ VdAt W a l.length l := by
  obtain ⟨a, c, rfl, h1, h2, h3⟩ := own_slice h
  refine ⟨a, c, rfl, h1, rfl, fun i hi => ?_⟩
  cases a with
  | none => have := h2 rfl; omega
  | some ad =>
    obtain ⟨g, rfl, _⟩ := h3 ad rfl
    obtain ⟨g1, g2⟩ := vdC_at l i hi
    exact ⟨g, 0, rfl, (h.lt g rfl).2, by rw [Nat.zero_add, h.cellAt _ (by omega)]; exact g1, by rw [Nat.zero_add, h.cellAt _ (by omega)]; exact g2⟩
def verdN (f : Nat) (evs : List Ev) (ss : List PS) : List (Int × Int) × Int :=
  match begAll beg0 evs with
  | none => ([], 6)
  | some st => if checkN f ss ≠ 0 then ([], 6) else (vdT (pathT (exprT (readN evs st) f) (readN evs st) ss ss.length) (readN evs st).length, 0)
theorem checkN_goodP {f : Nat} {ss : List PS} (h : checkN f ss = 0) : goodPB (goodXB f) ss = true := checkN_goodH h
set_option maxRecDepth 100000 in
set_option maxHeartbeats 8000000 in
theorem verdH_any {f : Nat} (hf : f ≤ 1048576) (a : Option Addr) (n c : Nat) (evs : List Ev) (pa : Option Addr) (pc : Nat) (ss : List PS) (w : World) (hE : BegQ w a n evs) (hp : SsAt f w pa ss) (hpl : ss.length ≤ 1048576) :
    Calls Tryd.prog 10 #[.slice a n c, .agg #[.slice pa ss.length pc]] w fun e w' => ∃ A cc, e = .returned (.tuple #[.slice A (verdN f evs ss).1.length cc, .int .i64 (verdN f evs ss).2]) ∧ (verdN f evs ss).1.length ≤ cc ∧ VdAt w' A (verdN f evs ss).1.length (verdN f evs ss).1 ∧ Below w.heap.size w w' := by
  obtain ⟨i0, hi, hz0, hz1, hz2⟩ := info_parts infoVd
  obtain ⟨W0, hW0⟩ : ∃ W0, W0 = w.alloc (.cells #[.slice pa ss.length pc] 27) := ⟨_, rfl⟩
  have hb0 : Below w.heap.size w W0 := by rw [hW0]; exact (Below.refl _ _).alloc (Nat.le_refl _) _
  have hk0 : W0.heap[w.heap.size]? = some (.cells #[.slice pa ss.length pc] 27 (0, 0)) := by rw [hW0]; exact heap_alloc_new w _
  have hs0 : W0.heap.size = w.heap.size + 1 := by rw [hW0]; simp
  have HRD := Lib.hid ((hE.below hb0).read (c := c))
  have HB0 := Lib.hid hb0
  have HQ := Lib.hid hE
  have HP := Lib.hid hp
  have HK0 := Lib.hid (⟨hk0, hs0⟩ : _ ∧ _)
  obtain ⟨R, hR⟩ : ∃ R, verdN f evs ss = R := ⟨_, rfl⟩
  rw [hR]
  have HRR := Lib.hid hR
  have HW0 := Lib.hid hW0
  obtain ⟨q, hq⟩ : ∃ q, ss.length = q := ⟨_, rfl⟩
  have HQQ := Lib.hid hq
  rw [hq] at HK0 HW0 hpl
  rw [hq]
  clear hR hb0 hk0 hs0 hE hp hW0 hq
  go_enter Tryd.func10, Tryd.ntmps10
  go_wp2_with fail
  rw [← HW0.out]
  (with_reducible refine HRD.out.mono ?_)
  rintro e w2 ⟨hcase, hb2⟩
  rcases hcase with ⟨st, hst, rfl, hat⟩ | ⟨hno, rfl⟩
  · have HB2 := Lib.hid (HB0.out.trans (hb2.mono HB0.out.size))
    have HRV : Hid ((if checkN f ss ≠ 0 then ([], 6) else (vdT (pathT (exprT (readN evs st) f) (readN evs st) ss q) (readN evs st).length, 0)) = R) := Lib.hid (by have := HRR.out; unfold verdN at this; rw [hst] at this; rw [← HQQ.out]; exact this)
    have HBX : Hid (∀ W, Below w2.heap.size w2 W → W.heap[w.heap.size]? = some (.cells #[.slice pa q pc] 27 (0, 0))) := Lib.hid fun W hW => (hW.block w.heap.size (by have := hb2.size; have := HK0.out.2; omega)).trans ((hb2.block w.heap.size (by have := HK0.out.2; omega)).trans HK0.out.1)
    have x0 : w2.cell? ⟨w.heap.size, 0, none⟩ = some (.slice pa q pc) := by rw [cell_heap (HBX.out w2 (Below.refl _ _))]; rfl
    have HCH : Hid (Calls Tryd.prog 8 #[.agg #[.slice pa q pc]] w2 fun e w' => e = .returned (.int .i64 (checkN f ss)) ∧ Below w2.heap.size w2 w') := Lib.hid (by
      have := check_any hf pa pc ss w2 (HQ.out.below HB2.out).env (SsAt.below HP.out HB2.out) (by rw [HQQ.out]; exact hpl)
      rw [HQQ.out] at this; exact this)
    have HAT : Hid (∀ W, Below w2.heap.size w2 W → HAt W (W0.heap.size + 2) (readN evs st)) := Lib.hid fun W hW => hat.below hW
    have HROOT := Lib.hid fun h hh => (HQ.out.root hst h hh).1
    obtain ⟨bb, hbb⟩ : ∃ bb, W0.heap.size + 2 = bb := ⟨_, rfl⟩
    rw [hbb] at HAT
    rw [hbb]
    clear hb2 hst hat hbb
    go_wp2_with fail
    (with_reducible refine HCH.out.mono ?_)
    rintro e w3 ⟨rfl, hb3⟩
    have HB3 := Lib.hid (HB2.out.trans (hb3.mono HB2.out.size))
    have x0 : w3.cell? ⟨w.heap.size, 0, none⟩ = some (.slice pa q pc) := by rw [cell_heap (HBX.out w3 hb3)]; rfl
    have HAT3 := Lib.hid (HAT.out w3 hb3)
    clear hb3 HAT
    rcases checkN_two f ss with hc | hc
    · have hg := checkN_goodP hc
      rw [hc] at HRV
      rw [hc]
      have hcap := HAT3.out.cap
      have HPA : Hid (Calls Tryd.prog 18 #[.pointer (some ⟨bb, 0, none⟩), .agg #[.slice pa q pc]] w3 fun e w' => ∃ P, e = .returned (.slice (some ⟨P, 0, none⟩) (readN evs st).length (readN evs st).length) ∧ w3.heap.size ≤ P ∧ TsAt w' (some ⟨P, 0, none⟩) (readN evs st).length (pathT (exprT (readN evs st) f) (readN evs st) ss q) ∧ Below w3.heap.size w3 w') := Lib.hid (by
        have := path_any (half_all bb (readN evs st) f) ss pa pc w3 HAT3.out HROOT.out (SsAt.below HP.out HB3.out) (by rw [HQQ.out]; exact hpl) hg
        rw [HQQ.out] at this; exact this)
      have HL3 : Hid (∀ k, (pathT (exprT (readN evs st) f) (readN evs st) ss q).getD k 0 = (pathT (exprT (readN evs st) f) (readN evs st) ss q).getD k 0) := Lib.hid fun _ => rfl
      obtain ⟨n', hn'⟩ : ∃ n', (readN evs st).length = n' := ⟨_, rfl⟩
      rw [hn'] at hcap HRV HPA
      generalize pathT (exprT (readN evs st) f) (readN evs st) ss q = L at *
      clear hn' hg HAT3 HL3
      have HR2 : Hid ((vdT L n', 0) = R) := Lib.hid (by have := HRV.out; rw [if_neg (by decide)] at this; exact this)
      clear HRV
      go_wp2_with fail
      (with_reducible refine HPA.out.mono ?_)
      rintro e w4 ⟨P, rfl, hP, hT, hb4⟩
      have HB4 := Lib.hid (HB3.out.trans (hb4.mono HB3.out.size))
      have HT := Lib.hid hT
      clear hb4 hT hP
      go_wp2_with fail
      go_loopw [9, 29] (fun ov iv wr => ∃ k : Nat, iv = .int .i64 k ∧ k ≤ n' ∧ Hid (Below w4.heap.size w4 wr ∧ wr.ownsRow w4.heap.size 53 2 ov (vdT L k).length (vdC (vdT L k)))) (fun _ iv _ => n' - (intOf iv).toNat)
      case atStart => exact ⟨0, rfl, Nat.zero_le _, Lib.hid ⟨Below.refl _ _, World.ownsRow_nil _ _ _ _⟩⟩
      case round =>
        obtain ⟨k, rfl, hk, HM⟩ := hrel
        by_cases hkn : k < n'
        · obtain ⟨z1, l1⟩ := (HT.out.below HM.out.1).at0 k hkn
          have i1 : (0 : Int) ≤ (k : Int) := by omega
          have i2 : (k : Int) < (n' : Int) := by omega
          have ewk : IntKind.i64.wrap ((k : Int) + 1) = (k : Int) + 1 := IntWalk.i64_in _ (by omega)
          have ewm : IntKind.i64.wrap ((k : Int) - 1) = (k : Int) - 1 := IntWalk.i64_in _ (by omega)
          by_cases hk0 : 0 < k
          · by_cases hv0 : L.getD k 0 = 0
            · have HX : Hid (vdT L (k + 1) = vdT L k) := Lib.hid (vdT_no L k (fun h => h.2 hv0))
              rw [hv0] at z1
              have i3 : (0 : Int) < (k : Int) := by omega
              go_wp2_with fail
              go_roundw
              case rel => exact ⟨k + 1, by go_num, by omega, Lib.hid (by rw [HX.out]; exact HM.out)⟩
              case measure => simp [intOf]; omega
            · have HX : Hid (vdT L (k + 1) = vdT L k ++ [((k : Int) - 1, L.getD k 0)]) := Lib.hid (vdT_yes L k hk0 hv0)
              have hlen := vdT_le L k
              have tv : ((L.getD k 0 : Int) == 0) = false := by simpa using hv0
              have i3 : (0 : Int) < (k : Int) := by omega
              have HOWN := Lib.hid HM.out.2
              have hbs := HM.out.1.size
              generalize L.getD k 0 = tv' at *
              clear hv0
              go_wp2_with (at_builtin; go_must ((refine wpList_app wr (by rfl) _ _ 49 (by rfl) w4.heap.size 53 i0 (.agg #[.int .i64 0, .int .i64 0]) 2 16 Tryd.underlying49 hi hz0 hz1 hz2 (by rfl) (by decide) u9 (vdT L k).length _ (by rfl) HOWN.out _ rfl 1 [.int .i64 ((k : Int) - 1), .int .i64 tv'] (by rfl) (by rfl) (by intro u hu; simp only [List.mem_cons, List.not_mem_nil, or_false] at hu; rcases hu with rfl | rfl <;> rfl) (by omega) (by decide) hbs (fun vO' w7 hown7 hap7 => ?_))))
              have HN7 : Hid (Below w4.heap.size w4 w7 ∧ w7.ownsRow w4.heap.size 53 2 vO' (vdT L (k + 1)).length (vdC (vdT L (k + 1)))) := Lib.hid ⟨(HM.out.1.alloc hbs _).trans (hap7.below (by simp; omega) (fun q hq => (HOWN.out.lt q hq).1)), by
                rw [HX.out, vdC_snoc, List.length_append]; exact hown7⟩
              clear hown7 hap7
              go_wp2_with fail
              go_roundw
              case rel => exact ⟨k + 1, by go_num, by omega, HN7⟩
              case measure => simp [intOf]; omega
          · have hkz : k = 0 := by omega
            have HX : Hid (vdT L (k + 1) = vdT L k) := Lib.hid (vdT_no L k (fun h => hk0 h.1))
            have i3 : (k : Int) ≤ 0 := by omega
            clear hkz
            go_wp2_with fail
            go_roundw
            case rel => exact ⟨k + 1, by go_num, by omega, Lib.hid (by rw [HX.out]; exact HM.out)⟩
            case measure => simp [intOf]; omega
        · have hk2 : k = n' := by omega
          have HE : Hid (Below w.heap.size w wr ∧ wr.ownsRow w4.heap.size 53 2 u9 (vdT L n').length (vdC (vdT L n'))) := Lib.hid ⟨HB4.out.trans (HM.out.1.mono HB4.out.size), by rw [← hk2]; exact HM.out.2⟩
          obtain ⟨A, cc, rfl, hcc, hvd⟩ := VdAt.of HE.out.2
          have HVD := Lib.hid hvd
          have HE2 := Lib.hid HE.out.1
          clear HM hvd HE
          go_wp2_with fail
          go_ret2
          rw [← HR2.out]
          exact ⟨A, cc, rfl, hcc, HVD.out, HE2.out⟩
    · have HR2 : Hid (([], 6) = R) := Lib.hid (by have := HRV.out; rw [hc, if_pos (by decide)] at this; exact this)
      rw [hc]
      go_wp2_with fail
      go_ret2
      rw [← HR2.out]
      exact ⟨none, 0, rfl, Nat.zero_le _, ⟨rfl, fun i h => absurd h (Nat.not_lt_zero _)⟩, HB3.out⟩
  · have HB2 := Lib.hid (HB0.out.trans (hb2.mono HB0.out.size))
    have HR2 : Hid (([], 6) = R) := Lib.hid (by have := HRR.out; unfold verdN at this; rw [hno] at this; exact this)
    clear hb2
    go_wp2_with fail
    go_ret2
    rw [← HR2.out]
    exact ⟨none, 0, rfl, Nat.zero_le _, ⟨rfl, fun i h => absurd h (Nat.not_lt_zero _)⟩, HB2.out⟩
end Go.Proofs.YtklpihaelaagpaaDoor
