/-
 half.Verdicts.
-/
import Derived.Test.YtgjokdngbocehaaGreatDoorHhT
import Derived.Test.YtgjokdngbocehaaGreatDoorHhR
import Derived.Test.YtgjokdngbocehaaGreatDoorHhO
import Derived.Test.YtgjokdngbocehaaGreatDoorHhC
import Derived.Test.YtgjokdngbocehaaGreatDoorHhM
import Derived.Test.YtgjokdngbocehaaGreatDoorHhD
namespace Go.Proofs.YtgjokdngbocehaaGreatDoor
open Go.RowKit
theorem infoVd : (Tryz.prog.info? 72).map (fun i => (i.zero, i.size, i.bytes)) = some (some (.agg #[.int .i64 0, .int .i64 0]), 2, 16) := by kernel_rfl
def vdC (l : List (Int × Int)) : List Value := l.flatMap fun v => [.int .i64 v.1, .int .i64 v.2]
theorem vdC_snoc (l : List (Int × Int)) (v : Int × Int) : vdC (l ++ [v]) = vdC l ++ [.int .i64 v.1, .int .i64 v.2] := by
 unfold vdC; rw [List.flatMap_append]; simp
theorem vdC_at (l : List (Int × Int)) : ∀ i, (h : i < l.length) → (vdC l)[i * 2]? = some (.int .i64 l[i].1) ∧ (vdC l)[i * 2 + 1]? = some (.int .i64 l[i].2) := by
 induction l with
 | nil => intro i h; exact absurd h (Nat.not_lt_zero _)
 | cons v l ih =>
  intro i h
  have e : vdC (v :: l) = [Value.int .i64 v.1, .int .i64 v.2] ++ vdC l := by unfold vdC; rw [List.flatMap_cons]
  cases i with
  | zero => rw [e]; exact ⟨rfl, rfl⟩
  | succ i =>
   obtain ⟨h1, h2⟩ := ih i (by simpa using h)
   rw [e, List.getElem?_append_right (by simp; omega), List.getElem?_append_right (by simp; omega)]
   rw [show (i + 1) * 2 - [Value.int .i64 v.1, .int .i64 v.2].length = i * 2 by simp; omega, show (i + 1) * 2 + 1 - [Value.int .i64 v.1, .int .i64 v.2].length = i * 2 + 1 by simp; omega]
   exact ⟨h1, h2⟩
def VdAt (w : World) (a : Option Addr) (n : Nat) (l : List (Int × Int)) : Prop :=
 n = l.length ∧ ∀ i, (h : i < l.length) → ∃ b o, a = some ⟨b, o, none⟩ ∧ b < w.heap.size ∧ w.cell? ⟨b, o + i * 2, none⟩ = some (.int .i64 l[i].1) ∧ w.cell? ⟨b, o + i * 2 + 1, none⟩ = some (.int .i64 l[i].2)
theorem VdAt.below {w w' : World} {a : Option Addr} {n : Nat} {l : List (Int × Int)} (h : VdAt w a n l) (hb : Below w.heap.size w w') : VdAt w' a n l :=
 ⟨h.1, fun i hi => by
  obtain ⟨b, o, e, hlt, h1, h2⟩ := h.2 i hi
  exact ⟨b, o, e, Nat.lt_of_lt_of_le hlt hb.size, (hb.cell (p := ⟨b, o + i * 2, none⟩) hlt).trans h1, (hb.cell (p := ⟨b, o + i * 2 + 1, none⟩) hlt).trans h2⟩⟩
theorem VdAt.of {W : World} {B : Nat} {v : Value} {l : List (Int × Int)} (h : W.ownsRow B 72 2 v l.length (vdC l)) : ∃ a c, v = .slice a l.length c ∧ l.length ≤ c ∧ VdAt W a l.length l := by
 obtain ⟨a, c, rfl, h1, h2, h3⟩ := own_slice h
 refine ⟨a, c, rfl, h1, rfl, fun i hi => ?_⟩
 cases a with
 | none => have := h2 rfl; omega
 | some ad =>
  obtain ⟨g, rfl, _⟩ := h3 ad rfl
  obtain ⟨g1, g2⟩ := vdC_at l i hi
  exact ⟨g, 0, rfl, (h.lt g rfl).2, by rw [Nat.zero_add, h.cellAt _ (by omega)]; exact g1, by rw [Nat.zero_add, h.cellAt _ (by omega)]; exact g2⟩
def verdN (f : Nat) (evs : List Ev) (ss : List PS) : List (Int × Int) × Int :=
 match begAll beg0 evs with
 | none => ([], 6)
 | some st => if checkN f ss ≠ 0 then ([], 6) else (vdT (pathT (exprT (readN evs st) f) (readN evs st) ss ss.length) (readN evs st).length, 0)
theorem checkN_goodP {f : Nat} {ss : List PS} (h : checkN f ss = 0) : goodPB (goodXB f) ss = true := checkN_goodH h
set_option maxRecDepth 100000 in
set_option maxHeartbeats 8000000 in
theorem verdH_any {f : Nat} (hf : f ≤ 1048576) (a : Option Addr) (n c : Nat) (evs : List Ev) (pa : Option Addr) (pc : Nat) (ss : List PS) (w : World) (hE : BegQ w a n evs) (hp : SsAt f w pa ss) (hpl : ss.length ≤ 1048576) :
  Calls Tryz.prog 10 #[.slice a n c, .agg #[.slice pa ss.length pc]] w fun e w' => ∃ A cc, e = .returned (.tuple #[.slice A (verdN f evs ss).1.length cc, .int .i64 (verdN f evs ss).2]) ∧ (verdN f evs ss).1.length ≤ cc ∧ VdAt w' A (verdN f evs ss).1.length (verdN f evs ss).1 ∧ Below w.heap.size w w' := by
 obtain ⟨i0, hi, hz0, hz1, hz2⟩ := info_parts infoVd
 obtain ⟨W0, hW0⟩ : ∃ W0, W0 = w.alloc (.cells #[.slice pa ss.length pc] 25) := ⟨_, rfl⟩
 have hb0 : Below w.heap.size w W0 := by rw [hW0]; exact (Below.refl _ _).alloc (Nat.le_refl _) _
 have hk0 : W0.heap[w.heap.size]? = some (.cells #[.slice pa ss.length pc] 25 (0, 0)) := by rw [hW0]; exact heap_alloc_new w _
 have hs0 : W0.heap.size = w.heap.size + 1 := by rw [hW0]; simp
 have HRD := Lib.hid ((hE.below hb0).read (c := c))
 have HB0 := Lib.hid hb0
 have HQ := Lib.hid hE
 have HP := Lib.hid hp
 have HK0 := Lib.hid (⟨hk0, hs0⟩ : _ ∧ _)
 obtain ⟨R, hR⟩ : ∃ R, verdN f evs ss = R := ⟨_, rfl⟩
 rw [hR]
 have HRR := Lib.hid hR
 have HW0 := Lib.hid hW0
 obtain ⟨q, hq⟩ : ∃ q, ss.length = q := ⟨_, rfl⟩
 have HQQ := Lib.hid hq
 rw [hq] at HK0 HW0 hpl
 rw [hq]
 clear hR hb0 hk0 hs0 hE hp hW0 hq
 go_enter Tryz.func10, Tryz.ntmps10
 go_wp2_with fail
 rw [← HW0.out]
 (with_reducible refine HRD.out.mono ?_)
 rintro e w2 ⟨hcase, hb2⟩
 rcases hcase with ⟨st, hst, rfl, hat⟩ | ⟨hno, rfl⟩
 ·have HB2 := Lib.hid (HB0.out.trans (hb2.mono HB0.out.size))
  have HRV : Hid ((if checkN f ss ≠ 0 then ([], 6) else (vdT (pathT (exprT (readN evs st) f) (readN evs st) ss q) (readN evs st).length, 0)) = R) := Lib.hid (by have := HRR.out; unfold verdN at this; rw [hst] at this; rw [← HQQ.out]; exact this)
  have HBX : Hid (∀ W, Below w2.heap.size w2 W → W.heap[w.heap.size]? = some (.cells #[.slice pa q pc] 25 (0, 0))) := Lib.hid fun W hW => (hW.block w.heap.size (by have := hb2.size; have := HK0.out.2; omega)).trans ((hb2.block w.heap.size (by have := HK0.out.2; omega)).trans HK0.out.1)
  have x0 : w2.cell? ⟨w.heap.size, 0, none⟩ = some (.slice pa q pc) := by rw [cell_heap (HBX.out w2 (Below.refl _ _))]; rfl
  have HCH : Hid (Calls Tryz.prog 12 #[.agg #[.slice pa q pc]] w2 fun e w' => e = .returned (.int .i64 (checkN f ss)) ∧ Below w2.heap.size w2 w') := Lib.hid (by
   have := check_any hf pa pc ss w2 (HQ.out.below HB2.out).env (SsAt.below HP.out HB2.out) (by rw [HQQ.out]; exact hpl)
   rw [HQQ.out] at this; exact this)
  have HAT : Hid (∀ W, Below w2.heap.size w2 W → HAt W (W0.heap.size + 2) (readN evs st)) := Lib.hid fun W hW => hat.below hW
  have HROOT := Lib.hid fun h hh => (HQ.out.root hst h hh).1
  obtain ⟨bb, hbb⟩ : ∃ bb, W0.heap.size + 2 = bb := ⟨_, rfl⟩
  rw [hbb] at HAT
  rw [hbb]
  clear hb2 hst hat hbb
  go_wp2_with fail
  (with_reducible refine HCH.out.mono ?_)
  rintro e w3 ⟨rfl, hb3⟩
  have HB3 := Lib.hid (HB2.out.trans (hb3.mono HB2.out.size))
  have x0 : w3.cell? ⟨w.heap.size, 0, none⟩ = some (.slice pa q pc) := by rw [cell_heap (HBX.out w3 hb3)]; rfl
  have HAT3 := Lib.hid (HAT.out w3 hb3)
  clear hb3 HAT
  rcases checkN_two f ss with hc | hc
  ·have hg := checkN_goodP hc
   rw [hc] at HRV
   rw [hc]
   have hcap := HAT3.out.cap
   have HPA : Hid (Calls Tryz.prog 29 #[.pointer (some ⟨bb, 0, none⟩), .agg #[.slice pa q pc]] w3 fun e w' => ∃ P, e = .returned (.slice (some ⟨P, 0, none⟩) (readN evs st).length (readN evs st).length) ∧ w3.heap.size ≤ P ∧ TsAt w' (some ⟨P, 0, none⟩) (readN evs st).length (pathT (exprT (readN evs st) f) (readN evs st) ss q) ∧ Below w3.heap.size w3 w') := Lib.hid (by
    have := path_any (half_all bb (readN evs st) f) ss pa pc w3 HAT3.out HROOT.out (SsAt.below HP.out HB3.out) (by rw [HQQ.out]; exact hpl) hg
    rw [HQQ.out] at this; exact this)
   have HL3 : Hid (∀ k, (pathT (exprT (readN evs st) f) (readN evs st) ss q).getD k 0 = (pathT (exprT (readN evs st) f) (readN evs st) ss q).getD k 0) := Lib.hid fun _ => rfl
   obtain ⟨n', hn'⟩ : ∃ n', (readN evs st).length = n' := ⟨_, rfl⟩
   rw [hn'] at hcap HRV HPA
   generalize pathT (exprT (readN evs st) f) (readN evs st) ss q = L at *
   clear hn' hg HAT3 HL3
   have HR2 : Hid ((vdT L n', 0) = R) := Lib.hid (by have := HRV.out; rw [if_neg (by decide)] at this; exact this)
   clear HRV
   go_wp2_with fail
   (with_reducible refine HPA.out.mono ?_)
   rintro e w4 ⟨P, rfl, hP, hT, hb4⟩
   have HB4 := Lib.hid (HB3.out.trans (hb4.mono HB3.out.size))
   have HT := Lib.hid hT
   clear hb4 hT hP
   go_wp2_with fail
   go_loopw [9, 29] (fun ov iv wr => ∃ k : Nat, iv = .int .i64 k ∧ k ≤ n' ∧ Hid (Below w4.heap.size w4 wr ∧ wr.ownsRow w4.heap.size 72 2 ov (vdT L k).length (vdC (vdT L k)))) (fun _ iv _ => n' - (intOf iv).toNat)
   case atStart => exact ⟨0, rfl, Nat.zero_le _, Lib.hid ⟨Below.refl _ _, World.ownsRow_nil _ _ _ _⟩⟩
   case round =>
    obtain ⟨k, rfl, hk, HM⟩ := hrel
    by_cases hkn : k < n'
    ·obtain ⟨z1, l1⟩ := (HT.out.below HM.out.1).at0 k hkn
     have i1 : (0 : Int) ≤ (k : Int) := by omega
     have i2 : (k : Int) < (n' : Int) := by omega
     have ewk : IntKind.i64.wrap ((k : Int) + 1) = (k : Int) + 1 := IntWalk.i64_in _ (by omega)
     have ewm : IntKind.i64.wrap ((k : Int) - 1) = (k : Int) - 1 := IntWalk.i64_in _ (by omega)
     by_cases hk0 : 0 < k
     ·by_cases hv0 : L.getD k 0 = 0
      ·have HX : Hid (vdT L (k + 1) = vdT L k) := Lib.hid (vdT_no L k (fun h => h.2 hv0))
       rw [hv0] at z1
       have i3 : (0 : Int) < (k : Int) := by omega
       go_wp2_with fail
       go_roundw
       case rel => exact ⟨k + 1, by go_num, by omega, Lib.hid (by rw [HX.out]; exact HM.out)⟩
       case measure => simp [intOf]; omega
      ·have HX : Hid (vdT L (k + 1) = vdT L k ++ [((k : Int) - 1, L.getD k 0)]) := Lib.hid (vdT_yes L k hk0 hv0)
       have hlen := vdT_le L k
       have tv : ((L.getD k 0 : Int) == 0) = false := by simpa using hv0
       have i3 : (0 : Int) < (k : Int) := by omega
       have HOWN := Lib.hid HM.out.2
       have hbs := HM.out.1.size
       generalize L.getD k 0 = tv' at *
       clear hv0
       go_wp2_with (at_builtin; go_must ((refine wpList_app wr (by rfl) _ _ 28 (by rfl) w4.heap.size 72 i0 (.agg #[.int .i64 0, .int .i64 0]) 2 16 Tryz.underlying28 hi hz0 hz1 hz2 (by rfl) (by decide) u9 (vdT L k).length _ (by rfl) HOWN.out _ rfl 1 [.int .i64 ((k : Int) - 1), .int .i64 tv'] (by rfl) (by rfl) (by intro u hu; simp only [List.mem_cons, List.not_mem_nil, or_false] at hu; rcases hu with rfl | rfl <;> rfl) (by omega) (by decide) hbs (fun vO' w7 hown7 hap7 => ?_))))
       have HN7 : Hid (Below w4.heap.size w4 w7 ∧ w7.ownsRow w4.heap.size 72 2 vO' (vdT L (k + 1)).length (vdC (vdT L (k + 1)))) := Lib.hid ⟨(HM.out.1.alloc hbs _).trans (hap7.below (by simp; omega) (fun q hq => (HOWN.out.lt q hq).1)), by
        rw [HX.out, vdC_snoc, List.length_append]; exact hown7⟩
       clear hown7 hap7
       go_wp2_with fail
       go_roundw
       case rel => exact ⟨k + 1, by go_num, by omega, HN7⟩
       case measure => simp [intOf]; omega
     ·have hkz : k = 0 := by omega
      have HX : Hid (vdT L (k + 1) = vdT L k) := Lib.hid (vdT_no L k (fun h => hk0 h.1))
      have i3 : (k : Int) ≤ 0 := by omega
      clear hkz
      go_wp2_with fail
      go_roundw
      case rel => exact ⟨k + 1, by go_num, by omega, Lib.hid (by rw [HX.out]; exact HM.out)⟩
      case measure => simp [intOf]; omega
    ·have hk2 : k = n' := by omega
     have HE : Hid (Below w.heap.size w wr ∧ wr.ownsRow w4.heap.size 72 2 u9 (vdT L n').length (vdC (vdT L n'))) := Lib.hid ⟨HB4.out.trans (HM.out.1.mono HB4.out.size), by rw [← hk2]; exact HM.out.2⟩
     obtain ⟨A, cc, rfl, hcc, hvd⟩ := VdAt.of HE.out.2
     have HVD := Lib.hid hvd
     have HE2 := Lib.hid HE.out.1
     clear HM hvd HE
     go_wp2_with fail
     go_ret2
     rw [← HR2.out]
     exact ⟨A, cc, rfl, hcc, HVD.out, HE2.out⟩
  ·have HR2 : Hid (([], 6) = R) := Lib.hid (by have := HRV.out; rw [hc, if_pos (by decide)] at this; exact this)
   rw [hc]
   go_wp2_with fail
   go_ret2
   rw [← HR2.out]
   exact ⟨none, 0, rfl, Nat.zero_le _, ⟨rfl, fun i h => absurd h (Nat.not_lt_zero _)⟩, HB3.out⟩
 ·have HB2 := Lib.hid (HB0.out.trans (hb2.mono HB0.out.size))
  have HR2 : Hid (([], 6) = R) := Lib.hid (by have := HRR.out; unfold verdN at this; rw [hno] at this; exact this)
  clear hb2
  go_wp2_with fail
  go_ret2
  rw [← HR2.out]
  exact ⟨none, 0, rfl, Nat.zero_le _, ⟨rfl, fun i h => absurd h (Nat.not_lt_zero _)⟩, HB2.out⟩
end Go.Proofs.YtgjokdngbocehaaGreatDoor
namespace Go.Proofs.YtgjokdngbocehaaGreatDoor
open Go.RowKit
set_option maxRecDepth 1000000 in
set_option maxHeartbeats 16000000 in
theorem begin_any (a : Option Addr) (n c : Nat) (evs : List Ev) (w : World) (hE : EvsAt w a n evs) (hn : n ≤ 1048576) (hsm : ∀ e ∈ evs, EvSm e) :
  Calls Tryz.prog 30 #[.slice a n c] w fun e w' => e = retB (begR evs) ∧ Below w.heap.size w w' := by
 obtain ⟨j0, hj, hjz0, hjz1, hjz2⟩ := info_parts infoInt
 have HE := Lib.hid hE
 have HN : Hid (n = evs.length) := Lib.hid hE.1
 have HSM := Lib.hid hsm
 clear hE hsm
 go_enter Tryz.func30, Tryz.ntmps30
 go_wp2_with fail
 go_loopw [5, 6, 7] (fun ov nv kv wr => ∃ (k : Nat) (nx : Int) (s : BegS) (pos : List Nat), kv = .int .i64 k ∧ nv = .int .i64 nx ∧ k ≤ n ∧ 0 ≤ nx ∧ nx ≤ k ∧ Below w.heap.size w wr ∧ Hid (BgInv evs k s nx pos ∧ wr.ownsRow w.heap.size 3 1 ov pos.length (posC pos))) (fun _ _ kv _ => n - (intOf kv).toNat)
 case atStart => exact ⟨0, 0, beg0, [], rfl, rfl, Nat.zero_le _, Int.le_refl _, Int.le_refl _, Below.refl _ _, Lib.hid ⟨⟨rfl, rfl, True.intro, fun j h => by omega⟩, World.ownsRow_nil _ _ _ _⟩⟩
 case round =>
  obtain ⟨k, nx, s, pos, rfl, rfl, hk, hx0, hx1, hbr, hbg⟩ := hrel
  have HBG := Lib.hid hbg.out.1
  have hor := hbg.out.2
  obtain ⟨oa, oc, rfl, _, _, _⟩ := own_slice hor
  have hble := beg_le _ _ _ HBG.out.all
  simp only [beg0, List.length_nil, List.length_take] at hble
  have hpl := HBG.out.len
  obtain ⟨on, hon⟩ : ∃ on, pos.length = on := ⟨_, rfl⟩
  rw [hon] at hor hpl ⊢
  have HON : Hid (s.opn.length = on) := Lib.hid hpl.symm
  have HPL := Lib.hid hon
  have honk : on ≤ k := by omega
  have honb : on + 1 ≤ 4294967296 := by omega
  have HOR := Lib.hid hor
  have HBR := Lib.hid hbr
  clear hor hbr hbg hpl hon hble
  by_cases hkn : k < n
  ·have hkl : k < evs.length := by rw [← HN.out]; exact hkn
   have hcnt := HBG.out.cnt (by omega)
   obtain ⟨b, o, A, m, c2, rfl, hb, hmc, hA, hcells⟩ := HE.out.at8 k hkl
   have hsmk := HSM.out _ (List.getElem_mem hkl)
   have hek : evs[k]? = some evs[k] := List.getElem?_eq_getElem hkl
   generalize evs[k] = e at *
   obtain ⟨kd, num, dep, name, ats, text, fr, tt⟩ := e
   obtain ⟨e0, e1, e2, e3, e4, e5, e6, e7⟩ := hcells wr HBR.out
   obtain ⟨sm1, sm2, sm3, sm4⟩ := hsmk
   simp only at e0 e1 e2 e3 e4 e5 e6 e7 hA sm1 sm2 sm3 sm4
   have HEK := Lib.hid hek
   have HBAD : Hid (begOk s ⟨kd, num, dep, name, ats, text, fr, tt⟩ = false → begR evs = (false, 0, false)) := Lib.hid fun h => HBG.out.bad hek h
   have HNM : Hid (∀ W, Calls Tryz.prog 51 #[.string (strL name)] W fun e w' => e = .returned (.bool (nameB name)) ∧ Below W.heap.size W w') := Lib.hid fun W => Name2_any name (by omega) W
   have HTX : Hid (∀ W, Calls Tryz.prog 53 #[.string (strL text)] W fun e w' => e = .returned (.bool (textsB text)) ∧ Below W.heap.size W w') := Lib.hid fun W => Texts2_any text (by omega) W
   have HAA := Lib.hid (⟨hA, sm4, by rw [hA.1]; exact sm3⟩ : AttrsAt w A m ats ∧ _ ∧ m ≤ 1048576)
   have HME : Hid ((m < 1 → ats.isEmpty = true) ∧ (0 < m → ats.isEmpty = false)) := Lib.hid (by
    have := hA.1
    cases ats with
    | nil => exact ⟨fun _ => rfl, fun h => by simp at this; omega⟩
    | cons x r => exact ⟨fun h => by simp at this; omega, fun _ => rfl⟩)
   have hmb : m ≤ 1048576 := by rw [hA.1]; exact sm3
   have HTE : Hid ((strL text).toList.isEmpty = text.isEmpty) := Lib.hid (strU_empty text)
   have HNE : Hid ((strL name).toList.isEmpty = name.isEmpty) := Lib.hid (strU_empty name)
   have HR1 : Hid (∀ o, Below wr.heap.size wr (wr.alloc o)) := Lib.hid fun o => (Below.refl _ _).alloc (Nat.le_refl _) o
   have HN1 : Hid (∀ o, (wr.alloc o).heap[wr.heap.size]? = some o ∧ (wr.alloc o).heap.size = wr.heap.size + 1) := Lib.hid fun o => ⟨heap_alloc_new wr o, by simp⟩
   have HCNT := Lib.hid hcnt
   clear hcells hA hek hmc hb sm1 sm2 sm3 sm4 hcnt
   by_cases hcl : 0 < k ∧ on < 1
   ·obtain ⟨hk0, hon0⟩ := hcl
    have HBO : Hid (begOk s ⟨kd, num, dep, name, ats, text, fr, tt⟩ = false) := Lib.hid (begOk_closed _ _ (by rw [HCNT.out]; omega) (List.eq_nil_of_length_eq_zero (by rw [HON.out]; omega)))
    go_wp2_with fail
    go_ret3
    exact ⟨retB_bad (HBAD.out (HBO.out.trans (by first | (simp []; done)))), (HBR.out.trans ((HR1.out _).mono HBR.out.size))⟩
   ·by_cases hk0 : k < 1
    ·have hon0 : on < 1 := by omega
     by_cases k0 : kd = 0
     ·subst k0
      have hdec : decide (s.cnt = 0 ∨ s.opn ≠ []) = true := decide_eq_true (.inl (by rw [HCNT.out]; omega))
      have HBO : Hid (begOk s ⟨0, num, dep, name, ats, text, fr, tt⟩ = (decide (num = nx) && (decide (dep = (on : Int) + 1) && (text.isEmpty && (nameB name && attrsB none ats))))) := Lib.hid (by rw [begOk0, hdec, Bool.true_and, HBG.out.nx, HON.out])
      clear hdec
      by_cases q1 : num = nx
      ·subst q1
       by_cases q2 : dep = (on : Int) + 1
       ·subst q2
        cases q3 : text.isEmpty with
        | true =>
         rw [q3] at HTE
         have hte := HTE.out
         cases q4 : nameB name with
         | false =>
          have HNK : Hid (∀ W, Calls Tryz.prog 51 #[.string (strL name)] W fun e w' => e = .returned (.bool false) ∧ Below W.heap.size W w') := Lib.hid fun W => by have := HNM.out W; rw [q4] at this; exact this
          go_wp2_with fail
          (with_reducible refine (HNK.out _).mono ?_)
          rintro e w2 ⟨rfl, hb2⟩
          have hR2 := (HR1.out _).trans (hb2.mono (HR1.out _).size)
          clear hb2
          go_wp2_with fail
          go_ret3
          exact ⟨retB_bad (HBAD.out (HBO.out.trans (by first | (simp [q3, q4]; done) | (rw [q3, q4])))), (HBR.out.trans (hR2.mono HBR.out.size))⟩
         | true =>
          have HNK : Hid (∀ W, Calls Tryz.prog 51 #[.string (strL name)] W fun e w' => e = .returned (.bool true) ∧ Below W.heap.size W w') := Lib.hid fun W => by have := HNM.out W; rw [q4] at this; exact this
          go_wp2_with fail
          (with_reducible refine (HNK.out _).mono ?_)
          rintro e w2 ⟨rfl, hb2⟩
          have hR2 := (HR1.out _).trans (hb2.mono (HR1.out _).size)
          have f4 : w2.cell? ⟨wr.heap.size, 4, none⟩ = some (.slice A m c2) := by rw [cell_heap ((hb2.block wr.heap.size (by rw [(HN1.out _).2]; omega)).trans (HN1.out _).1)]; rfl
          have HAT : Hid (∀ W, Below w.heap.size w W → Calls Tryz.prog 52 #[.slice A m c2] W fun e w' => e = .returned (.bool (attrsB none ats)) ∧ Below W.heap.size W w') := Lib.hid fun W hW => attrs9_any A m c2 ats W (HAA.out.1.below hW) HAA.out.2.1 HAA.out.2.2
          have HR2 := Lib.hid hR2
          clear hb2 hR2
          cases q5 : attrsB none ats with
          | false =>
           rw [q5] at HAT
           go_wp2_with fail
           (with_reducible refine (HAT.out _ (HBR.out.trans (HR2.out.mono HBR.out.size))).mono ?_)
           rintro e w3 ⟨rfl, hb3⟩
           have hR3 := HR2.out.trans (hb3.mono HR2.out.size)
           clear hb3
           go_wp2_with fail
           go_ret3
           exact ⟨retB_bad (HBAD.out (HBO.out.trans (by first | (simp [q3, q4, q5]; done) | (rw [q3, q4, q5])))), (HBR.out.trans (hR3.mono HBR.out.size))⟩
          | true =>
           rw [q5] at HAT
           go_wp2_with fail
           (with_reducible refine (HAT.out _ (HBR.out.trans (HR2.out.mono HBR.out.size))).mono ?_)
           rintro e w3 ⟨rfl, hb3⟩
           have hR3 := HR2.out.trans (hb3.mono HR2.out.size)
           have HOW3 : Hid (w3.ownsRow w.heap.size 3 1 (.slice oa on oc) on (posC pos)) := Lib.hid (own_block HOR.out (fun j hj => hR3.block j (HOR.out.lt j hj).2))
           have HB3 := Lib.hid (HBR.out.trans (hR3.mono HBR.out.size))
           clear hb3 hR3 f4
           go_wp2_with (at_builtin; go_must ((refine wpList_app w3 (by rfl) _ _ 66 (by rfl) w.heap.size 3 j0 (.int .i64 0) 1 8 Tryz.underlying66 hj hjz0 hjz1 hjz2 (by rfl) (by decide) (.slice oa on oc) on (posC pos) (by rfl) HOW3.out w3.heap.size rfl 1 [.int .i64 k] (by rfl) (by rfl) (by intro u hu; simp only [List.mem_cons, List.not_mem_nil, or_false] at hu; subst hu; rfl) honb (by decide) HB3.out.size (fun vO' w7 hown7 hap7 => ?_))))
           have hb7 : Below w.heap.size w w7 := (HB3.out.alloc HB3.out.size _).trans (hap7.below (by have := HB3.out.size; simp; omega) (fun j hj => (HOW3.out.lt j hj).1))
           have hst := HBG.out.step0 HEK.out rfl (by rw [HBO.out, q3, q4, q5]; simp)
           have hown8 : w7.ownsRow w.heap.size 3 1 vO' (k :: pos).length (posC (k :: pos)) := by rw [posC_cons, List.length_cons, HPL.out]; exact hown7
           have X := Lib.hid (⟨hst, hown8⟩ : _ ∧ _)
           clear hap7 hown7 hown8 hst
           go_wp2_with fail
           go_roundw
           case rel => exact ⟨k + 1, num + 1, _, k :: pos, by go_num, rfl, by omega, by omega, by omega, hb7, X⟩
           case measure => simp [intOf]; omega
        | false =>
         rw [q3] at HTE
         have hte := HTE.out
         go_wp2_with fail
         go_ret3
         exact ⟨retB_bad (HBAD.out (HBO.out.trans (by first | (simp [q3]; done) | (rw [q3])))), (HBR.out.trans ((HR1.out _).mono HBR.out.size))⟩
       ·have t2 : (dep != (on : Int) + 1) = true := by simpa using q2
        rw [decide_eq_false q2] at HBO
        clear q2
        go_wp2_with fail
        go_ret3
        exact ⟨retB_bad (HBAD.out (HBO.out.trans (by first | (simp []; done)))), (HBR.out.trans ((HR1.out _).mono HBR.out.size))⟩
      ·have t1 : (num != nx) = true := by simpa using q1
       rw [decide_eq_false q1] at HBO
       clear q1
       go_wp2_with fail
       go_ret3
       exact ⟨retB_bad (HBAD.out (HBO.out.trans (by first | (simp []; done)))), (HBR.out.trans ((HR1.out _).mono HBR.out.size))⟩
     ·have k0b : (kd == 0) = false := by simpa using k0
      by_cases k1 : kd = 1
      ·subst k1
       have HBO : Hid (begOk s ⟨1, num, dep, name, ats, text, fr, tt⟩ = false) := Lib.hid (by rw [begOk1, decide_eq_false (by intro h; exact h (List.eq_nil_of_length_eq_zero (by rw [HON.out]; omega)))]; rfl)
       go_wp2_with fail
       go_ret3
       exact ⟨retB_bad (HBAD.out (HBO.out.trans (by first | (simp []; done)))), (HBR.out.trans ((HR1.out _).mono HBR.out.size))⟩
      ·have k1b : (kd == 1) = false := by simpa using k1
       by_cases k2 : kd = 2
       ·subst k2
        have HBO : Hid (begOk s ⟨2, num, dep, name, ats, text, fr, tt⟩ = false) := Lib.hid (by rw [begOk2, List.eq_nil_of_length_eq_zero (show s.opn.length = 0 by rw [HON.out]; omega)]; simp)
        go_wp2_with fail
        go_ret3
        exact ⟨retB_bad (HBAD.out (HBO.out.trans (by first | (simp []; done)))), (HBR.out.trans ((HR1.out _).mono HBR.out.size))⟩
       ·have k2b : (kd == 2) = false := by simpa using k2
        have HBO : Hid (begOk s ⟨kd, num, dep, name, ats, text, fr, tt⟩ = false) := Lib.hid (begOk3 _ _ k0 k1 k2)
        go_wp2_with fail
        go_ret3
        exact ⟨retB_bad (HBAD.out (HBO.out.trans (by first | (simp []; done)))), (HBR.out.trans ((HR1.out _).mono HBR.out.size))⟩
    ·have hon1 : 0 < on := by omega
     have hk1 : 0 < k := by omega
     by_cases k0 : kd = 0
     ·subst k0
      have hdec : decide (s.cnt = 0 ∨ s.opn ≠ []) = true := decide_eq_true (.inr (fun h => by have := HON.out; rw [h] at this; simp at this; omega))
      have HBO : Hid (begOk s ⟨0, num, dep, name, ats, text, fr, tt⟩ = (decide (num = nx) && (decide (dep = (on : Int) + 1) && (text.isEmpty && (nameB name && attrsB none ats))))) := Lib.hid (by rw [begOk0, hdec, Bool.true_and, HBG.out.nx, HON.out])
      clear hdec
      by_cases q1 : num = nx
      ·subst q1
       by_cases q2 : dep = (on : Int) + 1
       ·subst q2
        cases q3 : text.isEmpty with
        | true =>
         rw [q3] at HTE
         have hte := HTE.out
         cases q4 : nameB name with
         | false =>
          have HNK : Hid (∀ W, Calls Tryz.prog 51 #[.string (strL name)] W fun e w' => e = .returned (.bool false) ∧ Below W.heap.size W w') := Lib.hid fun W => by have := HNM.out W; rw [q4] at this; exact this
          go_wp2_with fail
          (with_reducible refine (HNK.out _).mono ?_)
          rintro e w2 ⟨rfl, hb2⟩
          have hR2 := (HR1.out _).trans (hb2.mono (HR1.out _).size)
          clear hb2
          go_wp2_with fail
          go_ret3
          exact ⟨retB_bad (HBAD.out (HBO.out.trans (by first | (simp [q3, q4]; done) | (rw [q3, q4])))), (HBR.out.trans (hR2.mono HBR.out.size))⟩
         | true =>
          have HNK : Hid (∀ W, Calls Tryz.prog 51 #[.string (strL name)] W fun e w' => e = .returned (.bool true) ∧ Below W.heap.size W w') := Lib.hid fun W => by have := HNM.out W; rw [q4] at this; exact this
          go_wp2_with fail
          (with_reducible refine (HNK.out _).mono ?_)
          rintro e w2 ⟨rfl, hb2⟩
          have hR2 := (HR1.out _).trans (hb2.mono (HR1.out _).size)
          have f4 : w2.cell? ⟨wr.heap.size, 4, none⟩ = some (.slice A m c2) := by rw [cell_heap ((hb2.block wr.heap.size (by rw [(HN1.out _).2]; omega)).trans (HN1.out _).1)]; rfl
          have HAT : Hid (∀ W, Below w.heap.size w W → Calls Tryz.prog 52 #[.slice A m c2] W fun e w' => e = .returned (.bool (attrsB none ats)) ∧ Below W.heap.size W w') := Lib.hid fun W hW => attrs9_any A m c2 ats W (HAA.out.1.below hW) HAA.out.2.1 HAA.out.2.2
          have HR2 := Lib.hid hR2
          clear hb2 hR2
          cases q5 : attrsB none ats with
          | false =>
           rw [q5] at HAT
           go_wp2_with fail
           (with_reducible refine (HAT.out _ (HBR.out.trans (HR2.out.mono HBR.out.size))).mono ?_)
           rintro e w3 ⟨rfl, hb3⟩
           have hR3 := HR2.out.trans (hb3.mono HR2.out.size)
           clear hb3
           go_wp2_with fail
           go_ret3
           exact ⟨retB_bad (HBAD.out (HBO.out.trans (by first | (simp [q3, q4, q5]; done) | (rw [q3, q4, q5])))), (HBR.out.trans (hR3.mono HBR.out.size))⟩
          | true =>
           rw [q5] at HAT
           go_wp2_with fail
           (with_reducible refine (HAT.out _ (HBR.out.trans (HR2.out.mono HBR.out.size))).mono ?_)
           rintro e w3 ⟨rfl, hb3⟩
           have hR3 := HR2.out.trans (hb3.mono HR2.out.size)
           have HOW3 : Hid (w3.ownsRow w.heap.size 3 1 (.slice oa on oc) on (posC pos)) := Lib.hid (own_block HOR.out (fun j hj => hR3.block j (HOR.out.lt j hj).2))
           have HB3 := Lib.hid (HBR.out.trans (hR3.mono HBR.out.size))
           clear hb3 hR3 f4
           go_wp2_with (at_builtin; go_must ((refine wpList_app w3 (by rfl) _ _ 66 (by rfl) w.heap.size 3 j0 (.int .i64 0) 1 8 Tryz.underlying66 hj hjz0 hjz1 hjz2 (by rfl) (by decide) (.slice oa on oc) on (posC pos) (by rfl) HOW3.out w3.heap.size rfl 1 [.int .i64 k] (by rfl) (by rfl) (by intro u hu; simp only [List.mem_cons, List.not_mem_nil, or_false] at hu; subst hu; rfl) honb (by decide) HB3.out.size (fun vO' w7 hown7 hap7 => ?_))))
           have hb7 : Below w.heap.size w w7 := (HB3.out.alloc HB3.out.size _).trans (hap7.below (by have := HB3.out.size; simp; omega) (fun j hj => (HOW3.out.lt j hj).1))
           have hst := HBG.out.step0 HEK.out rfl (by rw [HBO.out, q3, q4, q5]; simp)
           have hown8 : w7.ownsRow w.heap.size 3 1 vO' (k :: pos).length (posC (k :: pos)) := by rw [posC_cons, List.length_cons, HPL.out]; exact hown7
           have X := Lib.hid (⟨hst, hown8⟩ : _ ∧ _)
           clear hap7 hown7 hown8 hst
           go_wp2_with fail
           go_roundw
           case rel => exact ⟨k + 1, num + 1, _, k :: pos, by go_num, rfl, by omega, by omega, by omega, hb7, X⟩
           case measure => simp [intOf]; omega
        | false =>
         rw [q3] at HTE
         have hte := HTE.out
         go_wp2_with fail
         go_ret3
         exact ⟨retB_bad (HBAD.out (HBO.out.trans (by first | (simp [q3]; done) | (rw [q3])))), (HBR.out.trans ((HR1.out _).mono HBR.out.size))⟩
       ·have t2 : (dep != (on : Int) + 1) = true := by simpa using q2
        rw [decide_eq_false q2] at HBO
        clear q2
        go_wp2_with fail
        go_ret3
        exact ⟨retB_bad (HBAD.out (HBO.out.trans (by first | (simp []; done)))), (HBR.out.trans ((HR1.out _).mono HBR.out.size))⟩
      ·have t1 : (num != nx) = true := by simpa using q1
       rw [decide_eq_false q1] at HBO
       clear q1
       go_wp2_with fail
       go_ret3
       exact ⟨retB_bad (HBAD.out (HBO.out.trans (by first | (simp []; done)))), (HBR.out.trans ((HR1.out _).mono HBR.out.size))⟩
     ·have k0b : (kd == 0) = false := by simpa using k0
      by_cases k1 : kd = 1
      ·subst k1
       have hdec1 : decide (s.opn ≠ []) = true := decide_eq_true (fun h => by have := HON.out; rw [h] at this; simp at this; omega)
       obtain ⟨j, hjk⟩ : ∃ j, k = j + 1 := ⟨k - 1, by omega⟩
       have hjl : j < evs.length := by have := HN.out; omega
       obtain ⟨ej, hej, htj⟩ := HBG.out.text j hjk
       have heje : evs[j] = ej := by rw [List.getElem?_eq_getElem hjl] at hej; exact Option.some.inj hej
       obtain ⟨b3, o3, A3, m3, c3, hb3e, _, _, _, hcells3⟩ := HE.out.at8 j hjl
       injection hb3e with hb3e
       injection hb3e with hb3e ho3e
       subst hb3e ho3e
       rw [heje] at hcells3
       obtain ⟨pk, hpk⟩ : ∃ pk, pk = ej.kind := ⟨_, rfl⟩
       have HJ := Lib.hid (⟨hjk, hpk, by rw [htj, hpk], fun W hW => by rw [hpk]; exact (hcells3 W hW).1⟩ : k = j + 1 ∧ pk = ej.kind ∧ s.text = (pk == 1) ∧ ∀ W, Below w.heap.size w W → W.cell? ⟨b, o + j * 8, none⟩ = some (.int .i64 pk))
       have HJB : Hid ((0 : Int) ≤ (j : Int) ∧ (j : Int) < (n : Int) ∧ IntKind.i64.wrap ((k : Int) - 1) = (j : Int)) := Lib.hid ⟨by omega, by omega, by rw [IntWalk.i64_in _ (by omega)]; omega⟩
       clear hcells3 heje hej htj hpk hjk
       have HBO : Hid (begOk s ⟨1, num, dep, name, ats, text, fr, tt⟩ = (decide (num = nx) && (decide (dep = (on : Int) + 1) && (name.isEmpty && (ats.isEmpty && (!text.isEmpty && (textsB text && !s.text))))))) := Lib.hid (by rw [begOk1, hdec1, Bool.true_and, HBG.out.nx, HON.out])
       by_cases q1 : num = nx
       ·subst q1
        by_cases q2 : dep = (on : Int) + 1
        ·subst q2
         cases q3 : name.isEmpty with
         | false =>
          rw [q3] at HNE
          have hne := HNE.out
          go_wp2_with fail
          go_ret3
          exact ⟨retB_bad (HBAD.out (HBO.out.trans (by first | (simp [q3]; done) | (rw [q3])))), (HBR.out.trans ((HR1.out _).mono HBR.out.size))⟩
         | true =>
          rw [q3] at HNE
          have hne := HNE.out
          by_cases q4 : 0 < m
          ·have hat : ats.isEmpty = false := HME.out.2 q4
           go_wp2_with fail
           go_ret3
           exact ⟨retB_bad (HBAD.out (HBO.out.trans (by first | (simp [q3, hat]; done) | (rw [q3, hat])))), (HBR.out.trans ((HR1.out _).mono HBR.out.size))⟩
          ·have hat : ats.isEmpty = true := HME.out.1 (by omega)
           have q4b : m < 1 := by omega
           cases q5 : text.isEmpty with
           | true =>
            rw [q5] at HTE
            have hte := HTE.out
            go_wp2_with fail
            go_ret3
            exact ⟨retB_bad (HBAD.out (HBO.out.trans (by first | (simp [q3, hat, q5]; done) | (rw [q3, hat, q5])))), (HBR.out.trans ((HR1.out _).mono HBR.out.size))⟩
           | false =>
            rw [q5] at HTE
            have hte := HTE.out
            cases q6 : textsB text with
            | false =>
             have HTK : Hid (∀ W, Calls Tryz.prog 53 #[.string (strL text)] W fun e w' => e = .returned (.bool false) ∧ Below W.heap.size W w') := Lib.hid fun W => by have := HTX.out W; rw [q6] at this; exact this
             go_wp2_with fail
             (with_reducible refine (HTK.out _).mono ?_)
             rintro e w2 ⟨rfl, hb2⟩
             have hR2 := (HR1.out _).trans (hb2.mono (HR1.out _).size)
             clear hb2
             go_wp2_with fail
             go_ret3
             exact ⟨retB_bad (HBAD.out (HBO.out.trans (by first | (simp [q3, hat, q5, q6]; done) | (rw [q3, hat, q5, q6])))), (HBR.out.trans (hR2.mono HBR.out.size))⟩
            | true =>
             have HTK : Hid (∀ W, Calls Tryz.prog 53 #[.string (strL text)] W fun e w' => e = .returned (.bool true) ∧ Below W.heap.size W w') := Lib.hid fun W => by have := HTX.out W; rw [q6] at this; exact this
             skip
             go_wp2_with fail
             (with_reducible refine (HTK.out _).mono ?_)
             rintro e w2 ⟨rfl, hb2⟩
             have hR2 := (HR1.out _).trans (hb2.mono (HR1.out _).size)
             have HB2 := Lib.hid (HBR.out.trans (hR2.mono HBR.out.size))
             have HOW2 : Hid (w2.ownsRow w.heap.size 3 1 (.slice oa on oc) on (posC pos)) := Lib.hid (own_block HOR.out (fun j hj => hR2.block j (HOR.out.lt j hj).2))
             clear hb2 hR2
             have f0 := (HJ.out.2.2.2 w2 HB2.out)
             obtain ⟨i1, i2, ew⟩ := HJB.out
             by_cases q7 : pk = 1
             ·subst q7
              have hst : s.text = true := by rw [HJ.out.2.2.1]; rfl
              go_wp2_with fail
              go_ret3
              exact ⟨retB_bad (HBAD.out (HBO.out.trans (by first | (simp [q3, hat, q5, q6, hst]; done) | (rw [q3, hat, q5, q6, hst])))), HB2.out⟩
             ·have q7b : (pk == 1) = false := by simpa using q7
              have hst : s.text = false := by rw [HJ.out.2.2.1]; exact q7b
              clear q7
              go_wp2_with fail
              have hst := HBG.out.step1 HEK.out rfl (by rw [HBO.out, q3, hat, q5, q6, hst]; simp)
              have hown8 : w2.ownsRow w.heap.size 3 1 (.slice oa on oc) pos.length (posC pos) := by rw [HPL.out]; exact HOW2.out
              have X := Lib.hid (⟨hst, hown8⟩ : _ ∧ _)
              have hb7 := HB2.out
              clear hown8 hst
              go_roundw
              case rel => exact ⟨k + 1, num + 1, _, pos, by go_num, rfl, by omega, by omega, by omega, hb7, X⟩
              case measure => simp [intOf]; omega
        ·have t2 : (dep != (on : Int) + 1) = true := by simpa using q2
         rw [decide_eq_false q2] at HBO
         clear q2
         go_wp2_with fail
         go_ret3
         exact ⟨retB_bad (HBAD.out (HBO.out.trans (by first | (simp []; done)))), (HBR.out.trans ((HR1.out _).mono HBR.out.size))⟩
       ·have t1 : (num != nx) = true := by simpa using q1
        rw [decide_eq_false q1] at HBO
        clear q1
        go_wp2_with fail
        go_ret3
        exact ⟨retB_bad (HBAD.out (HBO.out.trans (by first | (simp []; done)))), (HBR.out.trans ((HR1.out _).mono HBR.out.size))⟩
      ·have k1b : (kd == 1) = false := by simpa using k1
       by_cases k2 : kd = 2
       ·subst k2
        have HBO : Hid (begOk s ⟨2, num, dep, name, ats, text, fr, tt⟩ = (text.isEmpty && (ats.isEmpty && decide (s.opn.head? = some (num, dep, name))))) := Lib.hid (by rw [begOk2])
        cases q5 : text.isEmpty with
        | false =>
         rw [q5] at HTE
         have hte := HTE.out
         go_wp2_with fail
         go_ret3
         exact ⟨retB_bad (HBAD.out (HBO.out.trans (by first | (simp [q5]; done) | (rw [q5])))), (HBR.out.trans ((HR1.out _).mono HBR.out.size))⟩
        | true =>
         rw [q5] at HTE
         have hte := HTE.out
         by_cases q4 : 0 < m
         ·have hat : ats.isEmpty = false := HME.out.2 q4
          go_wp2_with fail
          go_ret3
          exact ⟨retB_bad (HBAD.out (HBO.out.trans (by first | (simp [q5, hat]; done) | (rw [q5, hat])))), (HBR.out.trans ((HR1.out _).mono HBR.out.size))⟩
         ·have hat : ats.isEmpty = true := HME.out.1 (by omega)
          have q4b : m < 1 := by omega
          rw [q5, hat, Bool.true_and, Bool.true_and] at HBO
          obtain ⟨pp, ps, hps⟩ : ∃ pp ps, pos = pp :: ps := by
           cases pos with
           | nil => have := HPL.out; simp at this; omega
           | cons a r => exact ⟨a, r, rfl⟩
          subst hps
          obtain ⟨et, het, hhd⟩ := HBG.out.top
          have hql : ps.length + 1 = on := HPL.out
          obtain ⟨q, hq⟩ : ∃ q, q = ps.length := ⟨_, rfl⟩
          obtain ⟨go, goc, hgo, hgoc, _, hgow, _, hgcell⟩ := own_some (n := q) (by rw [hq, hql]; exact HOR.out)
          have hoa : oa = some ⟨go, 0, none⟩ := by injection hgo
          have hocc : oc = goc := by injection hgo
          subst hoa hocc
          have hpl : pp < evs.length := get_lt het
          obtain ⟨b3, o3, A3, m3, c3, hb3e, _, _, _, hcells3⟩ := HE.out.at8 pp hpl
          injection hb3e with hb3e
          injection hb3e with hb3e ho3e
          subst hb3e ho3e
          have hete : evs[pp] = et := by rw [List.getElem?_eq_getElem hpl] at het; exact Option.some.inj het
          rw [hete] at hcells3
          have HC3 := Lib.hid hcells3
          have HTOPC : Hid (wr.cell? ⟨go, q, none⟩ = some (.int .i64 pp)) := Lib.hid (hgcell _ _ (by rw [hq]; exact posC_top pp ps))
          have HHD := Lib.hid hhd
          have HPL2 := Lib.hid (⟨hql, hq, hgow⟩ : _ ∧ _ ∧ _)
          have ew : IntKind.i64.wrap ((on : Int) - 1) = (q : Int) := by rw [IntWalk.i64_in _ (by omega)]; omega
          have i1 : (0 : Int) ≤ (q : Int) := by omega
          have i2 : (q : Int) < (on : Int) := by omega
          have i3 : (0 : Int) ≤ (pp : Int) := by omega
          have i4 : (pp : Int) < (n : Int) := by have := HN.out; omega
          have y1 : ∀ o, (wr.alloc o).cell? ⟨go, q, none⟩ = some (.int .i64 pp) := fun o => ((HR1.out o).cell (p := ⟨go, q, none⟩) hgow).trans HTOPC.out
          obtain ⟨kt, nt, dt, nmt, atst, textt, frt, ttt⟩ := et
          simp only at *
          have z := fun o => HC3.out (wr.alloc o) (HBR.out.trans ((HR1.out o).mono HBR.out.size))
          have z0 := fun o => (z o).1
          have z1 := fun o => (z o).2.1
          have z2 := fun o => (z o).2.2.1
          have z3 := fun o => (z o).2.2.2.1
          have z4 := fun o => (z o).2.2.2.2.1
          have z5 := fun o => (z o).2.2.2.2.2.1
          have z6 := fun o => (z o).2.2.2.2.2.2.1
          have z7 := fun o => (z o).2.2.2.2.2.2.2
          clear z hete hcells3 hgcell hhd hql hq het hgo hgow
          have HRR : Hid (∀ o o', Below wr.heap.size wr ((wr.alloc o).alloc o')) := Lib.hid fun o o' => (HR1.out o).alloc (by simp) o'
          by_cases q1 : num = nt
          ·subst q1
           by_cases q2 : dep = dt
           ·subst q2
            by_cases q3 : name = nmt
            ·subst q3
             have hcm : ((strL name).toList == (strL name).toList) = true := by simp
             go_wp2_with fail
             have hst := HBG.out.step2 HEK.out rfl (by rw [HBO.out, HHD.out]; simp)
             have hb7 := HBR.out.trans ((HRR.out (.cells #[.int .i64 2, .int .i64 num, .int .i64 dep, .string (strL name), .slice A m c2, .string (strL text), .int .i64 fr, .int .i64 tt] 47) (.cells #[.int .i64 kt, .int .i64 num, .int .i64 dep, .string (strL name), .slice A3 m3 c3, .string (strL textt), .int .i64 frt, .int .i64 ttt] 47)).mono HBR.out.size)
             have hown8 : ((wr.alloc (.cells #[.int .i64 2, .int .i64 num, .int .i64 dep, .string (strL name), .slice A m c2, .string (strL text), .int .i64 fr, .int .i64 tt] 47)).alloc (.cells #[.int .i64 kt, .int .i64 num, .int .i64 dep, .string (strL name), .slice A3 m3 c3, .string (strL textt), .int .i64 frt, .int .i64 ttt] 47)).ownsRow w.heap.size 3 1 (.slice (some ⟨go, 0, none⟩) q oc) ps.length (posC ps) := by
              have h0 := own_block HOR.out (fun j hj => (HRR.out (.cells #[.int .i64 2, .int .i64 num, .int .i64 dep, .string (strL name), .slice A m c2, .string (strL text), .int .i64 fr, .int .i64 tt] 47) (.cells #[.int .i64 kt, .int .i64 num, .int .i64 dep, .string (strL name), .slice A3 m3 c3, .string (strL textt), .int .i64 frt, .int .i64 ttt] 47)).block j (HOR.out.lt j hj).2)
              rw [posC_cons, ← HPL2.out.1] at h0
              rw [HPL2.out.2.1]
              exact own_pop h0 (by rw [posC_length]; omega)
             have X := Lib.hid (⟨hst, hown8⟩ : _ ∧ _)
             clear hown8 hst
             go_roundw
             case rel => exact ⟨k + 1, nx, _, ps, by go_num, rfl, by omega, by omega, by omega, hb7, X⟩
             case measure => simp [intOf]; omega
            ·have hcm : ((strL name).toList == (strL nmt).toList) = false := cmpU_ne q3
             go_wp2_with fail
             go_ret3
             exact ⟨retB_bad (HBAD.out (HBO.out.trans (by first | (simp [HHD.out, decide_eq_false (by simp [Ne.symm q3])]; done) | (rw [HHD.out, decide_eq_false (by simp [Ne.symm q3])])))), (HBR.out.trans ((HRR.out _ _).mono HBR.out.size))⟩
           ·have t2 : (dep != dt) = true := by simpa using q2
            go_wp2_with fail
            go_ret3
            exact ⟨retB_bad (HBAD.out (HBO.out.trans (by first | (simp [HHD.out, decide_eq_false (by simp [Ne.symm q2])]; done) | (rw [HHD.out, decide_eq_false (by simp [Ne.symm q2])])))), (HBR.out.trans ((HRR.out _ _).mono HBR.out.size))⟩
          ·have t1 : (num != nt) = true := by simpa using q1
           go_wp2_with fail
           go_ret3
           exact ⟨retB_bad (HBAD.out (HBO.out.trans (by first | (simp [HHD.out, decide_eq_false (by simp [Ne.symm q1])]; done) | (rw [HHD.out, decide_eq_false (by simp [Ne.symm q1])])))), (HBR.out.trans ((HRR.out _ _).mono HBR.out.size))⟩
       ·have k2b : (kd == 2) = false := by simpa using k2
        have HBO : Hid (begOk s ⟨kd, num, dep, name, ats, text, fr, tt⟩ = false) := Lib.hid (begOk3 _ _ k0 k1 k2)
        go_wp2_with fail
        go_ret3
        exact ⟨retB_bad (HBAD.out (HBO.out.trans (by first | (simp []; done)))), (HBR.out.trans ((HR1.out _).mono HBR.out.size))⟩
  ·have hk2 : k = n := by omega
   subst hk2
   have htk : evs.take k = evs := List.take_of_length_le (by rw [HN.out]; exact Nat.le_refl _)
   have hall := HBG.out.all
   rw [htk] at hall
   have HR : Hid (begR evs = (true, (on : Int), decide (evs ≠ [] ∧ s.opn = []))) := Lib.hid (by rw [begR_all hall, HON.out])
   have HD : Hid (decide (evs ≠ [] ∧ s.opn = []) = (decide (0 < k) && ((on : Int) == 0))) := Lib.hid (by
    rw [dec_and]
    congr 1
    ·rw [decide_eq_decide, HN.out]; exact List.length_pos_iff.symm
    ·rw [← HON.out]
     cases s.opn with
     | nil => simp
     | cons x xs => simp; omega)
   clear hall htk
   by_cases hk0 : k < 1
   ·go_wp2_with fail
    go_ret3
    exact ⟨by rw [HR.out, HD.out, decide_eq_false (by omega)]; rfl, HBR.out⟩
   ·have hk1 : 0 < k := by omega
    go_wp2_with fail
    go_ret3
    exact ⟨by rw [HR.out, HD.out, decide_eq_true hk1, Bool.true_and]; rfl, HBR.out⟩
end Go.Proofs.YtgjokdngbocehaaGreatDoor
namespace Go.Proofs.YtgjokdngbocehaaGreatDoor
open Go.RowKit
theorem box7H {W : World} {G : Nat} {c0 c1 c2 c3 c4 c5 c6 : Value} (h : W.heap[G]? = some (.cells #[c0, c1, c2, c3, c4, c5, c6] 42 (0, 0))) : W.cell? ⟨G, 0, none⟩ = some c0 ∧ W.cell? ⟨G, 1, none⟩ = some c1 ∧ W.cell? ⟨G, 2, none⟩ = some c2 ∧ W.cell? ⟨G, 3, none⟩ = some c3 ∧ W.cell? ⟨G, 4, none⟩ = some c4 ∧ W.cell? ⟨G, 5, none⟩ = some c5 ∧ W.cell? ⟨G, 6, none⟩ = some c6 := by
 refine ⟨?_, ?_, ?_, ?_, ?_, ?_, ?_⟩ <;> (rw [cell_heap h]; rfl)
theorem evSmQH (e : Ev) (h : wtE e ≤ 1048576) : EvSm e := by
 unfold wtE at h
 have hA : ∀ (l : List (List UInt8 × List UInt8)), l.length ≤ wtA l ∧ ∀ p ∈ l, p.1.length ≤ wtA l ∧ p.2.length ≤ wtA l := by
  intro l
  induction l with
  | nil => exact ⟨Nat.le_refl _, fun p hp => by cases hp⟩
  | cons x r ih =>
   obtain ⟨h1, h2⟩ := ih
   have e : wtA (x :: r) = x.1.length + x.2.length + 1 + wtA r := by unfold wtA; simp
   refine ⟨by simp; omega, fun p hp => ?_⟩
   rcases List.mem_cons.1 hp with rfl | hp
   ·omega
   ·have := h2 p hp; omega
 obtain ⟨h1, h2⟩ := hA e.ats
 exact ⟨by omega, by omega, by omega, fun p hp => by have := h2 p hp; omega⟩
theorem evsSmH {evs : List Ev} (h : wtEs evs ≤ 1048576) : ∀ e ∈ evs, EvSm e := fun e he => by
 obtain ⟨i, hi, rfl⟩ := List.getElem_of_mem he
 exact evSmQH _ (Nat.le_trans (wtEs_mem evs i hi) h)
def slotOfH (t : Array Value) (k : Nat) : Value := t.getD k undef
set_option maxRecDepth 100000 in
theorem begin15_any (a : Option Addr) (n c : Nat) (evs : List Ev) (w : World) (hE : EvsAt w a n evs) (hn : n ≤ 1048576) (hsm : ∀ e ∈ evs, EvSm e) :
  Calls Tryz.prog 11 #[.slice a n c] w fun e w' => e = .returned (.bool (begAll beg0 evs).isSome) ∧ Below w.heap.size w w' := by
 have HB := Lib.hid (begin_any a n c evs w hE hn hsm)
 have HR : Hid ((begR evs).1 = (begAll beg0 evs).isSome) := Lib.hid (by unfold begR; cases begAll beg0 evs <;> rfl)
 generalize begR evs = r at *
 obtain ⟨r1, r2, r3⟩ := r
 simp only at HR
 unfold retB at HB
 simp only at HB
 clear hE hsm
 go_enter Tryz.func11, Tryz.ntmps11
 go_wp2_with fail
 (with_reducible refine HB.out.mono ?_)
 rintro e w2 ⟨rfl, hb2⟩
 have HB2 := Lib.hid hb2
 clear hb2
 go_wp2_with fail
 go_ret
 exact ⟨by rw [← HR.out]; rfl, HB2.out⟩
theorem readN_len {evs : List Ev} {st : BegS} (h : begAll beg0 evs = some st) : ((readN evs st).length : Int) = st.next + 1 ∧ 1 ≤ (readN evs st).length := by
 have h1 := (beg_hok h).cnt
 have h2 := (beg_hok h).pos
 have h3 : (readN evs st).length = (hAll evs.length evs evs.length).1.length := List.length_modify _ _ _
 omega
end Go.Proofs.YtgjokdngbocehaaGreatDoor
