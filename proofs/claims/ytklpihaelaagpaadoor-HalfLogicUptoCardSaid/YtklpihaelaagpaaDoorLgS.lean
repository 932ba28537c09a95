/-
  half: expr of And, Or, Not.
-/
import Derived.Test.YtklpihaelaagpaaDoorLgR
import Derived.Test.YtklpihaelaagpaaDoorLgH
import Derived.Test.YtklpihaelaagpaaDoorLgF
namespace Go.Proofs.YtklpihaelaagpaaDoor
open Go.RowKit

def gathT (op : Int) (r : List Int) : Int := if op = 0 then andL r else if op = 1 then orL r else notI (r.head?.getD 0)
theorem exprT_else (hs : List HN) (f : Nat) (x : PX) (h : x.op ≠ 3) : exprT hs (f + 1) x = rowOf hs.length fun k => gathT x.op ((x.args.map (exprT hs f)).map fun r => r.getD k 0) := by
  show (if x.op = 3 then _ else _) = _
  rw [if_neg h]
  refine rowOf_congr fun k _ => ?_
  unfold gathT
  rw [List.map_map, List.head?_map]
  cases x.args.head? <;> rfl
set_option maxRecDepth 100000 in
set_option maxHeartbeats 8000000 in
theorem hexprElse_any {hb : Nat} {hs : List HN} {f : Nat} (HX : HalfX hb hs f) (x : PX) (aa : Option Addr) (ac : Nat) (pa : Option Addr) (pc : Nat) (w : World) (hH : HAt w hb hs) (hx : XsAt f w aa x.args) (hal : x.args.length ≤ 1048576) (hg : x.args.all (goodXB f) = true) (hpos : 1 ≤ x.args.length) (hop : x.op ≠ 3) :
    Calls Tryd.prog 17 #[.pointer (some ⟨hb, 0, none⟩), .agg (exprC x aa ac pa pc).toArray] w fun e w' => ∃ P, e = .returned (.slice (some ⟨P, 0, none⟩) hs.length hs.length) ∧ w.heap.size ≤ P ∧ TsAt w' (some ⟨P, 0, none⟩) hs.length (exprT hs (f + 1) x) ∧ Below w.heap.size w w' := by
  obtain ⟨i0, hi, hz0, hz1, hz2⟩ := info_parts infoTru
  obtain ⟨j0, hj, hjz0, hjz1, hjz2⟩ := info_parts infoTrus
  have hcap := hH.cap
  have hpn := hH.pos
  obtain ⟨na, nc, hlt, hcn, _⟩ := hH.get
  have HXS := Lib.hid hx
  have HG : Hid (∀ y ∈ x.args, goodXB f y = true) := Lib.hid (List.all_eq_true.1 hg)
  obtain ⟨n, hnn⟩ : ∃ n, hs.length = n := ⟨_, rfl⟩
  have HN := Lib.hid hnn
  obtain ⟨q, hq⟩ : ∃ q, x.args.length = q := ⟨_, rfl⟩
  have HQ := Lib.hid hq
  obtain ⟨op, hopv⟩ : ∃ op, x.op = op := ⟨_, rfl⟩
  have hXV : (exprC x aa ac pa pc).toArray = #[.int .i64 op, .slice aa q ac, .slice pa x.path.length pc, .string (strL x.attr), .int .i64 x.cmp, .string (strL x.text), .int .i64 x.num] := by unfold exprC; rw [hopv, hq]
  rw [hXV]
  have HCN : Hid (∀ W, Below w.heap.size w W → W.cell? ⟨hb, 1, none⟩ = some (.slice na n nc)) := Lib.hid (by rw [← hnn]; exact hcn)
  have HCA : Hid (∀ y cs W, y ∈ x.args → Below w.heap.size w W → XAt f W y cs → Calls Tryd.prog 17 #[.pointer (some ⟨hb, 0, none⟩), .agg cs.toArray] W fun e w' => ∃ P, e = .returned (.slice (some ⟨P, 0, none⟩) n n) ∧ W.heap.size ≤ P ∧ TsAt w' (some ⟨P, 0, none⟩) n (exprT hs f y) ∧ Below W.heap.size W w') := Lib.hid fun y cs W hy hW hxa => by
    have := HX y cs W (hH.below hW) hxa (HG.out y hy)
    rw [hnn] at this; exact this
  have HFIN : Hid (exprT hs (f + 1) x = rowOf n fun k => gathT op ((x.args.map (exprT hs f)).map fun r => r.getD k 0)) := Lib.hid (by rw [exprT_else hs f x hop, hnn, hopv])
  have HAND : Hid (∀ a c l W, TsAt W a q l → Calls Tryd.prog 32 #[.slice a q c] W fun e w' => e = .returned (.int .i64 (andL l)) ∧ w' = W) := Lib.hid fun a c l W h => kAnd_any a q c l W h (by omega)
  have HOR : Hid (∀ a c l W, TsAt W a q l → Calls Tryd.prog 33 #[.slice a q c] W fun e w' => e = .returned (.int .i64 (orL l)) ∧ w' = W) := Lib.hid fun a c l W h => kOr_any a q c l W h (by omega)
  have HNOT := Lib.hid kNot_any
  obtain ⟨R, hR⟩ : ∃ R, exprT hs (f + 1) x = R := ⟨_, rfl⟩
  rw [hR] at HFIN
  rw [hR, hnn]
  rw [hnn] at hcap hpn
  rw [hq] at hal hpos
  rw [hopv] at hop
  have t3 : ((op : Int) == 3) = false := by simpa using hop
  have HMK : Hid (∀ w1, w1.ownsRow (w.alloc (.cells #[.int .i64 op, .slice aa q ac, .slice pa x.path.length pc, .string (strL x.attr), .int .i64 x.cmp, .string (strL x.text), .int .i64 x.num] 30)).heap.size 41 1 (.slice (some ⟨(w.alloc (.cells #[.int .i64 op, .slice aa q ac, .slice pa x.path.length pc, .string (strL x.attr), .int .i64 x.cmp, .string (strL x.text), .int .i64 x.num] 30)).heap.size, 0, none⟩) n n) n (madeCells (Value.int .i64 0).cells (n * 1)).toList → (w.alloc (.cells #[.int .i64 op, .slice aa q ac, .slice pa x.path.length pc, .string (strL x.attr), .int .i64 x.cmp, .string (strL x.text), .int .i64 x.num] 30)).grownBy w1 none → MI w w.heap.size (.cells #[.int .i64 op, .slice aa q ac, .slice pa x.path.length pc, .string (strL x.attr), .int .i64 x.cmp, .string (strL x.text), .int .i64 x.num] 30) (w.heap.size + 1) n (List.replicate n 0) w1 ∧ w1.cell? ⟨w.heap.size, 0, none⟩ = some (.int .i64 op) ∧ w1.cell? ⟨w.heap.size, 1, none⟩ = some (.slice aa q ac)) := Lib.hid fun w1 hown hgr => by
    obtain ⟨h1, h2⟩ := MI.made (w := w) (k := w.heap.size) (o := (.cells #[.int .i64 op, .slice aa q ac, .slice pa x.path.length pc, .string (strL x.attr), .int .i64 x.cmp, .string (strL x.text), .int .i64 x.num] 30)) ((Below.refl w.heap.size w).alloc (Nat.le_refl _) _) (heap_alloc_new w _) hown hgr
    rw [World.size_alloc] at h1
    exact ⟨h1, by rw [cell_heap h1.box]; rfl, by rw [cell_heap h1.box]; rfl⟩
  have c0 := HCN.out w (Below.refl _ _)
  clear hR hH hcn hx hg HX hop hq hXV hnn
  go_enter Tryd.func17, Tryd.ntmps17
  go_wp2_with (at_make; go_must ((refine wpList_make_full (w.alloc (.cells #[.int .i64 op, .slice aa q ac, .slice pa x.path.length pc, .string (strL x.attr), .int .i64 x.cmp, .string (strL x.text), .int .i64 x.num] 30)) (by rfl) _ _ 65 (by rfl) (w.alloc (.cells #[.int .i64 op, .slice aa q ac, .slice pa x.path.length pc, .string (strL x.attr), .int .i64 x.cmp, .string (strL x.text), .int .i64 x.num] 30)).heap.size 41 i0 _ 1 Tryd.underlying65 hi hz0 hz1 .i64 .i64 (n : Int) (n : Int) n (by rfl) (by rfl) rfl rfl (by rw [hz2]; omega) (by unfold maxLen; omega) (Nat.le_refl _) (fun w1 hown hgr => ?_)); have HM1 := Lib.hid (HMK.out w1 hown hgr); have c1 := HM1.out.2.1; have c2 := HM1.out.2.2))
  have HMI := Lib.hid HM1.out.1
  have HB1 : Hid (w.heap.size + 2 ≤ w1.heap.size) := Lib.hid (by have h : w.heap.size + 1 < w1.heap.size := (HMI.out.own.lt (w.heap.size + 1) rfl).2; omega)
  clear hown hgr HM1
  go_loopw [9, 64] (fun ov iv wr => ∃ j : Nat, iv = .int .i64 j ∧ j ≤ q ∧ Hid (MI w w.heap.size (.cells #[.int .i64 op, .slice aa q ac, .slice pa x.path.length pc, .string (strL x.attr), .int .i64 x.cmp, .string (strL x.text), .int .i64 x.num] 30) (w.heap.size + 1) n (List.replicate n 0) wr ∧ w.heap.size + 2 ≤ wr.heap.size ∧ PtAt (w.heap.size + 2) n wr ov ((x.args.take j).map (exprT hs f)))) (fun _ iv _ => q - (intOf iv).toNat)
  case atStart => exact ⟨0, rfl, Nat.zero_le _, Lib.hid ⟨HMI.out, HB1.out, PtAt.nil _ _ _⟩⟩
  case round =>
    obtain ⟨j, rfl, hjq, HJ⟩ := hrel
    by_cases hjl : j < q
    · have hjw : j < x.args.length := by rw [HQ.out]; exact hjl
      obtain ⟨b2, o2, ya, yc, yp, yd, rfl, hb2, hxa, hcs⟩ := HXS.out.get' j hjw
      obtain ⟨x0, x1, x2, x3, x4, x5, x6⟩ := hcs wr HJ.out.1.old
      have HDX : Hid (∀ W, Below w.heap.size w W → Calls Tryd.prog 17 #[.pointer (some ⟨hb, 0, none⟩), .agg (exprC x.args[j] ya yc yp yd).toArray] W fun e w' => ∃ P, e = .returned (.slice (some ⟨P, 0, none⟩) n n) ∧ W.heap.size ≤ P ∧ TsAt w' (some ⟨P, 0, none⟩) n (exprT hs f x.args[j]) ∧ Below W.heap.size W w') := Lib.hid fun W hW => HCA.out _ _ W (List.getElem_mem hjw) hW (XAt.turn hW (Nat.le_refl _) hxa)
      have HLL : Hid ((x.args.take (j + 1)).map (exprT hs f) = (x.args.take j).map (exprT hs f) ++ [exprT hs f x.args[j]]) := Lib.hid (by rw [List.take_succ_eq_append_getElem hjw, List.map_append]; rfl)
      have HLJ : Hid (((x.args.take j).map (exprT hs f)).length = j) := Lib.hid (by rw [List.length_map, List.length_take]; omega)
      clear hcs hxa hb2
      generalize exprT hs f x.args[j] = te at *
      generalize x.args[j] = y at *
      generalize (x.args.take j).map (exprT hs f) = L at *
      unfold exprC at HDX
      have i3 : (0 : Int) ≤ (j : Int) := by omega
      have i4 : (j : Int) < (q : Int) := by omega
      have ewj : IntKind.i64.wrap ((j : Int) + 1) = (j : Int) + 1 := IntWalk.i64_in _ (by omega)
      obtain ⟨cells, hown, hrows⟩ := HJ.out.2.2.own
      have HOWN := Lib.hid hown
      have HROWS := Lib.hid hrows
      obtain ⟨oa, oc, rfl, _, _, _⟩ := own_slice hown
      clear hown hrows
      go_wp2_with fail
      (with_reducible refine (HDX.out _ (HJ.out.1.old.alloc HJ.out.1.old.size _)).mono ?_)
      rintro e w5 ⟨P5, rfl, hP5, hts, hb5⟩
      have HB5 : Hid (Below wr.heap.size wr w5) := Lib.hid (((Below.refl wr.heap.size wr).alloc (Nat.le_refl _) _).trans (hb5.mono (by simp)))
      have hB := HJ.out.2.1
      have hP5' : wr.heap.size ≤ P5 := Nat.le_trans (by simp) hP5
      have HS5 : Hid (w.heap.size + 2 ≤ w5.heap.size ∧ w.heap.size + 2 ≤ P5 ∧ Value.ownBlock (.slice oa L.length oc) ≠ some P5) := Lib.hid ⟨Nat.le_trans hB HB5.out.size, by omega, fun e => by have h := (HOWN.out.lt P5 e).2; omega⟩
      clear hP5'
      have HTS := Lib.hid hts
      have HOWN5 := Lib.hid (own_block HOWN.out fun k hk => HB5.out.block _ (HOWN.out.lt k hk).2)
      have HROWS5 : Hid (∀ (i : Nat) (l : List Int), L[i]? = some l → ∃ P, cells[i]? = some (.slice (some ⟨P, 0, none⟩) n n) ∧ w.heap.size + 2 ≤ P ∧ Value.ownBlock (.slice oa L.length oc) ≠ some P ∧ TsAt w5 (some ⟨P, 0, none⟩) n l) := Lib.hid fun i l hl => by
        obtain ⟨P, g1, g2, g3, g4⟩ := HROWS.out i l hl
        exact ⟨P, g1, g2, g3, g4.below HB5.out⟩
      have HMI5 := Lib.hid (HJ.out.1.below HB5.out)
      have hLl : L.length + 1 ≤ 4294967296 := by have := HLJ.out; omega
      have hB5 := HS5.out.1
      clear hb5 hts hP5 hB
      go_wp2_with (at_builtin; go_must ((refine wpList_app w5 (by rfl) _ _ 83 (by rfl) (w.heap.size + 2) 65 j0 (.slice none 0 0) 1 24 Tryd.underlying83 hj hjz0 hjz1 hjz2 (by rfl) (by decide) (.slice oa L.length oc) L.length cells (by rfl) HOWN5.out _ rfl 1 [.slice (some ⟨P5, 0, none⟩) n n] (by rfl) (by rfl) (by intro u hu; simp only [List.mem_cons, List.not_mem_nil, or_false] at hu; subst hu; rfl) hLl (by decide) hB5 (fun v7 w7 hown7 hap7 => ?_))))
      have hpt := PtAt.push (by omega : 1 ≤ n) HOWN5.out HROWS5.out hap7 P5 te HS5.out.2.1 HS5.out.2.2 HTS.out hown7
      have hb7 : Below (w.heap.size + 2) w5 w7 := ((Below.refl _ _).alloc hB5 _).trans (hap7.below (by simp; omega) (fun k hk => (HOWN5.out.lt k hk).1))
      have HX := Lib.hid (⟨HMI5.out.below2 (by omega) (by omega) (by omega) hb7, Nat.le_trans hB5 hb7.size, by rw [HLL.out]; exact hpt⟩ : _ ∧ _ ∧ PtAt (w.heap.size + 2) n w7 v7 ((x.args.take (j + 1)).map (exprT hs f)))
      clear hpt hb7 hown7 hap7
      go_wp2_with fail
      go_roundw
      case rel => exact ⟨j + 1, by go_num, by omega, HX⟩
      case measure => simp [intOf]; omega
    · have hk2 : q = j := by omega
      subst hk2
      obtain ⟨LL, hLL⟩ : ∃ LL, (x.args.take q).map (exprT hs f) = LL := ⟨_, rfl⟩
      have HLq : Hid (LL.length = q) := Lib.hid (by rw [← hLL, List.length_map, List.length_take, HQ.out]; omega)
      have HFI : Hid (R = rowOf n fun k => gathT op (LL.map fun r => r.getD k 0)) := Lib.hid (by rw [HFIN.out, ← hLL, ← HQ.out, List.take_length])
      have HJ2 := Lib.hid HJ.out
      rw [hLL] at HJ2
      clear HJ hLL HFIN HCA HXS HG
      obtain ⟨cells0, hown0, _⟩ := HJ2.out.2.2.own
      rw [HLq.out] at hown0
      obtain ⟨oa, oc, rfl, _, hnone, hsome⟩ := own_slice hown0
      obtain ⟨ad, hoa⟩ : ∃ ad, oa = some ad := by
        cases oa with
        | none => have := hnone rfl; omega
        | some ad => exact ⟨ad, rfl⟩
      subst hoa
      obtain ⟨g, rfl, _, _, _, _⟩ := hsome _ rfl
      have HK0 : Hid (MI w w.heap.size (.cells #[.int .i64 op, .slice aa q ac, .slice pa x.path.length pc, .string (strL x.attr), .int .i64 x.cmp, .string (strL x.text), .int .i64 x.num] 30) (w.heap.size + 1) n (mixR n 0 (fun k => gathT op (LL.map fun r => r.getD k 0)) (fun _ => 0)) wr ∧ w.heap.size + 2 ≤ wr.heap.size ∧ PtAt (w.heap.size + 2) n wr (.slice (some ⟨g, 0, none⟩) q oc) LL) := Lib.hid ⟨by rw [← rep_mix]; exact HJ2.out.1, HJ2.out.2.1, HJ2.out.2.2⟩
      clear hown0 hsome hnone HJ2 HMI HB1 hjl hjq HMK
      go_wp2_with fail
      go_loopw [77] (fun iv wr => ∃ i : Nat, iv = .int .i64 i ∧ i ≤ n ∧ Hid (MI w w.heap.size (.cells #[.int .i64 op, .slice aa q ac, .slice pa x.path.length pc, .string (strL x.attr), .int .i64 x.cmp, .string (strL x.text), .int .i64 x.num] 30) (w.heap.size + 1) n (mixR n i (fun k => gathT op (LL.map fun r => r.getD k 0)) (fun _ => 0)) wr ∧ w.heap.size + 2 ≤ wr.heap.size ∧ PtAt (w.heap.size + 2) n wr (.slice (some ⟨g, 0, none⟩) q oc) LL)) (fun iv _ => n - (intOf iv).toNat)
      case atStart => exact ⟨0, rfl, Nat.zero_le _, HK0⟩
      case round =>
        obtain ⟨i, rfl, hin, HI⟩ := hrel
        obtain ⟨W4, rfl⟩ : ∃ W4, W4 = wr := ⟨_, rfl⟩
        by_cases hi' : i < n
        · have i5 : (0 : Int) ≤ (i : Int) := by omega
          have i6 : (i : Int) < (n : Int) := by omega
          have ewi : IntKind.i64.wrap ((i : Int) + 1) = (i : Int) + 1 := IntWalk.i64_in _ (by omega)
          have HNX : Hid (∀ v W, v = gathT op (LL.map fun r => r.getD i 0) → Below W4.heap.size W4 W → (W.cell? ⟨w.heap.size, 0, none⟩ = some (.int .i64 op) ∧ w.heap.size + 1 < W.heap.size ∧ W.frozen? ⟨w.heap.size + 1, i, none⟩ = false ∧ ∃ u, W.cell? ⟨w.heap.size + 1, i, none⟩ = some u) ∧ (MI w w.heap.size (.cells #[.int .i64 op, .slice aa q ac, .slice pa x.path.length pc, .string (strL x.attr), .int .i64 x.cmp, .string (strL x.text), .int .i64 x.num] 30) (w.heap.size + 1) n (mixR n (i + 1) (fun k => gathT op (LL.map fun r => r.getD k 0)) (fun _ => 0)) (W.setCell ⟨w.heap.size + 1, i, none⟩ (.int .i64 v)) ∧ w.heap.size + 2 ≤ (W.setCell ⟨w.heap.size + 1, i, none⟩ (.int .i64 v)).heap.size ∧ PtAt (w.heap.size + 2) n (W.setCell ⟨w.heap.size + 1, i, none⟩ (.int .i64 v)) (.slice (some ⟨g, 0, none⟩) q oc) LL)) := Lib.hid fun v W hv hW => by
            have h1 := HI.out.1.below hW
            have h2 := h1.set i v
            rw [mixR_set _ _ _ _ _ hv] at h2
            exact ⟨⟨by rw [cell_heap h1.box]; rfl, (h1.own.lt _ rfl).2, h1.frozen i, ⟨_, h1.at i hi'⟩⟩, h2, by have := HI.out.2.1; have := hW.size; simp [World.setCell]; omega, (HI.out.2.2.below hW).far (by omega) i _⟩
          have HX0 : Hid (∀ W, Below W4.heap.size W4 W → W.cell? ⟨w.heap.size, 0, none⟩ = some (.int .i64 op) ∧ w.heap.size + 1 < W.heap.size ∧ W.frozen? ⟨w.heap.size + 1, i, none⟩ = false ∧ ∃ u, W.cell? ⟨w.heap.size + 1, i, none⟩ = some u) := Lib.hid fun W hW => (HNX.out _ W rfl hW).1
          have HPT := Lib.hid HI.out.2.2
          clear HI
          go_wp2_with fail
          go_loopw [13, 82] (fun rv jv wr => ∃ j : Nat, jv = .int .i64 j ∧ j ≤ q ∧ Hid (Below W4.heap.size W4 wr ∧ wr.ownsRow W4.heap.size 41 1 rv j (tsC ((LL.take j).map fun r => r.getD i 0)))) (fun _ jv _ => q - (intOf jv).toNat)
          case atStart => exact ⟨0, rfl, Nat.zero_le _, Lib.hid ⟨Below.refl _ _, World.ownsRow_nil _ _ _ _⟩⟩
          case round =>
            obtain ⟨j, rfl, hjq, HJ⟩ := hrel
            by_cases hjl : j < q
            · have hjL : j < LL.length := by rw [HLq.out]; exact hjl
              obtain ⟨cells, hown, hrows⟩ := HPT.out.own
              rw [HLq.out] at hown
              obtain ⟨P5, g1, g2, g3, g4⟩ := hrows j _ (List.getElem?_eq_getElem hjL)
              have hgl := (hown.lt g rfl).2
              have c1 : wr.cell? ⟨g, j, none⟩ = some (.slice (some ⟨P5, 0, none⟩) n n) := (HJ.out.1.cell (p := ⟨g, j, none⟩) hgl).trans (by rw [hown.cellAt j (by omega)]; exact g1)
              obtain ⟨c2, l2⟩ := (g4.below HJ.out.1).at0 i hi'
              have hgl2 : g < wr.heap.size := Nat.lt_of_lt_of_le hgl HJ.out.1.size
              have HTK : Hid (tsC ((LL.take (j + 1)).map fun r => r.getD i 0) = tsC ((LL.take j).map fun r => r.getD i 0) ++ [.int .i64 (LL[j].getD i 0)]) := Lib.hid (by rw [List.take_succ_eq_append_getElem hjL, List.map_append]; unfold tsC; rw [List.map_append]; rfl)
              clear hown hrows g1 g2 g3 g4 hgl
              generalize LL[j].getD i 0 = tv at *
              have HOWN := Lib.hid HJ.out.2
              obtain ⟨ra, rc, rfl, _, _, _⟩ := own_slice HOWN.out
              have i7 : (0 : Int) ≤ (j : Int) := by omega
              have i8 : (j : Int) < (q : Int) := by omega
              have ewj : IntKind.i64.wrap ((j : Int) + 1) = (j : Int) + 1 := IntWalk.i64_in _ (by omega)
              have hbs := HJ.out.1.size
              go_wp2_with (at_builtin; go_must ((refine wpList_app wr (by rfl) _ _ 65 (by rfl) W4.heap.size 41 i0 (.int .i64 0) 1 8 Tryd.underlying65 hi hz0 hz1 hz2 (by rfl) (by decide) (.slice ra j rc) j _ (by rfl) HOWN.out _ rfl 1 [.int .i64 tv] (by rfl) (by rfl) (by intro u hu; simp only [List.mem_cons, List.not_mem_nil, or_false] at hu; subst hu; rfl) (by omega) (by decide) hbs (fun v7 w7 hown7 hap7 => ?_))))
              have HX := Lib.hid (⟨(HJ.out.1.alloc hbs _).trans (hap7.below (by simp; omega) (fun k hk => (HOWN.out.lt k hk).1)), by rw [HTK.out]; exact hown7⟩ : Below W4.heap.size W4 w7 ∧ w7.ownsRow W4.heap.size 41 1 v7 (j + 1) (tsC ((LL.take (j + 1)).map fun r => r.getD i 0)))
              clear hown7 hap7
              go_wp2_with fail
              go_roundw
              case rel => exact ⟨j + 1, by go_num, by omega, HX⟩
              case measure => simp [intOf]; omega
            · have hj2 : q = j := by omega
              subst hj2
              obtain ⟨ra, rc, rfl, _, hts⟩ := own_ts HJ.out.2
              obtain ⟨rr, hrr⟩ : ∃ rr, (LL.map fun r => r.getD i 0) = rr := ⟨_, rfl⟩
              have HTS : Hid (TsAt wr ra q rr) := Lib.hid (by rw [← hrr]; have h := hts; rw [show LL.take q = LL from List.take_of_length_le (by rw [HLq.out]; exact Nat.le_refl _)] at h; exact h)
              rw [hrr] at HNX
              have HB4 := Lib.hid HJ.out.1
              obtain ⟨y0, y1, y2, u, y3⟩ := HX0.out wr HB4.out
              clear HJ hts hrr
              by_cases h0 : op = 0
              · subst h0
                go_wp2_with fail
                (with_reducible refine (HAND.out ra rc rr wr HTS.out).mono ?_)
                rintro e w6 ⟨rfl, hw6⟩
                rw [hw6]
                clear hw6
                go_wp2_with fail
                go_roundw
                case rel => exact ⟨i + 1, by go_num, by omega, Lib.hid (HNX.out _ wr (by unfold gathT; rw [if_pos rfl]) HB4.out).2⟩
                case measure => simp [intOf]; omega
              by_cases h1 : op = 1
              · subst h1
                go_wp2_with fail
                (with_reducible refine (HOR.out ra rc rr wr HTS.out).mono ?_)
                rintro e w6 ⟨rfl, hw6⟩
                rw [hw6]
                clear hw6
                go_wp2_with fail
                go_roundw
                case rel => exact ⟨i + 1, by go_num, by omega, Lib.hid (HNX.out _ wr (by unfold gathT; rw [if_neg (by decide), if_pos rfl]) HB4.out).2⟩
                case measure => simp [intOf]; omega
              · have t0 : ((op : Int) == 0) = false := by simpa using h0
                have t1 : ((op : Int) == 1) = false := by simpa using h1
                obtain ⟨rb, ro, rfl, hlr, hcr⟩ := HTS.out.get 0 (by omega)
                have c9 : wr.cell? ⟨rb, ro, none⟩ = some (.int .i64 (rr.getD 0 0)) := by have := hcr wr (Below.refl _ _); simpa using this
                have HVV : Hid (notI (rr.getD 0 0) = gathT op rr) := Lib.hid (by unfold gathT; rw [if_neg h0, if_neg h1]; cases rr <;> rfl)
                have i9 : (0 : Int) < (q : Int) := by omega
                clear hcr h0 h1
                generalize rr.getD 0 0 = rv at *
                go_wp2_with fail
                (with_reducible refine (HNOT.out rv wr).mono ?_)
                rintro e w6 ⟨rfl, hw6⟩
                rw [hw6]
                clear hw6
                go_wp2_with fail
                go_roundw
                case rel => exact ⟨i + 1, by go_num, by omega, Lib.hid (HNX.out _ wr HVV.out HB4.out).2⟩
                case measure => simp [intOf]; omega
        · have hi2 : n = i := by omega
          subst hi2
          go_wp2_with fail
          go_ret
          exact ⟨w.heap.size + 1, rfl, HI.out.1.lo, by have h := HI.out.1.ts; rw [mixR_all, ← HFI.out] at h; exact h, HI.out.1.old⟩
end Go.Proofs.YtklpihaelaagpaaDoor

namespace Go.Proofs.YtklpihaelaagpaaDoor
open Go.RowKit

theorem half_all (hb : Nat) (hs : List HN) : ∀ f, HalfX hb hs f
  | 0 => fun x cs W _ h _ => h.elim
  | f + 1 => fun x cs W hH hxa hg => by
    obtain ⟨a, c, p, d, rfl, _, _, _, _, _, _, htx, hal, hpl, hargs, hpath⟩ := hxa
    have hg' : (if x.op = 3 then x.args.isEmpty && goodPB (goodXB f) x.path && (x.attr.isEmpty || nameB x.attr) && goodCB x.cmp x.text x.num
      else bareB x && (if x.op = 0 ∨ x.op = 1 then decide (2 ≤ x.args.length) else if x.op = 2 then decide (x.args.length = 1) else false) && x.args.all (goodXB f)) = true := hg
    by_cases hop : x.op = 3
    · rw [if_pos hop] at hg'
      simp only [Bool.and_eq_true] at hg'
      exact hexprSome_any (half_all hb hs f) x a c p d W hH hpath hpl htx hg'.1.1.2 hop
    · rw [if_neg hop] at hg'
      simp only [Bool.and_eq_true] at hg'
      refine hexprElse_any (half_all hb hs f) x a c p d W hH hargs hal hg'.2 ?_ hop
      have h := hg'.1.2
      split at h
      · have := of_decide_eq_true h; omega
      · split at h
        · have := of_decide_eq_true h; omega
        · cases h
end Go.Proofs.YtklpihaelaagpaaDoor

namespace Go.Proofs.YtklpihaelaagpaaDoor
open Go.RowKit

def HnRow (w : World) (hs : List HN) (ncs : List Value) : Prop :=
  ∀ i h, hs[i]? = some h → ∃ (A : Option Addr) (m c : Nat), m ≤ c ∧ AttrsAt w A m h.ev.ats ∧ ∀ j, j < 14 → ncs[i * 14 + j]? = (hnL h A m c)[j]?
theorem HnRow.push {w : World} {hs : List HN} {ncs : List Value} (H : HnRow w hs ncs) (hl : ncs.length = hs.length * 14) (h : HN) (A : Option Addr) (m c : Nat) (h1 : m ≤ c) (h2 : AttrsAt w A m h.ev.ats) : HnRow w (hs ++ [h]) (ncs ++ hnL h A m c) := by
  intro i y hy
  rcases snoc_get hy with ⟨hi, hy⟩ | ⟨hi, rfl⟩
  · obtain ⟨A', m', c', g1, g2, g3⟩ := H i y hy
    exact ⟨A', m', c', g1, g2, fun j hj => by rw [List.getElem?_append_left (by omega)]; exact g3 j hj⟩
  · exact ⟨A, m, c, h1, h2, fun j hj => by rw [List.getElem?_append_right (by omega), show i * 14 + j - ncs.length = j by omega]⟩
theorem HnRow.turn {w : World} {hs : List HN} {ncs : List Value} (H : HnRow w hs ncs) (hl : ncs.length = hs.length * 14) (k q : Nat) (hk : k < hs.length) (hq : q < 14) (f : HN → HN) (v : Value) (hev : ∀ h, (f h).ev = h.ev)
    (hf : ∀ (h : HN) A m c, hs[k]? = some h → hnL (f h) A m c = (hnL h A m c).set q v) : HnRow w (hs.modify k f) (ncs.set (k * 14 + q) v) := by
  intro i y hy
  rw [List.getElem?_modify] at hy
  cases hx : hs[i]? with
  | none => rw [hx] at hy; simp at hy
  | some x =>
    rw [hx] at hy
    obtain ⟨A, m, c, g1, g2, g3⟩ := H i x hx
    by_cases hik : k = i
    · subst hik
      simp at hy
      subst hy
      refine ⟨A, m, c, g1, by rw [hev]; exact g2, fun j hj => ?_⟩
      rw [hf x A m c hx, List.getElem?_set, List.getElem?_set, hnL_length]
      by_cases e : q = j
      · subst e; rw [if_pos rfl, if_pos rfl, if_pos hq, if_pos (by omega)]
      · rw [if_neg (by omega), if_neg e]; exact g3 j hj
    · simp [hik] at hy
      subst hy
      refine ⟨A, m, c, g1, g2, fun j hj => ?_⟩
      rw [List.getElem?_set, if_neg (by omega)]
      exact g3 j hj
theorem hn_txt (t : List UInt8) (h : HN) (A : Option Addr) (m c : Nat) : hnL (addT t h) A m c = (hnL h A m c).set 11 (.string (strL (h.txt ++ t))) := rfl
theorem hn_open (b : Bool) (h : HN) (A : Option Addr) (m c : Nat) : hnL { h with op := b } A m c = (hnL h A m c).set 10 (.bool b) := rfl
theorem hn_end (e : Nat) (h : HN) (A : Option Addr) (m c : Nat) : hnL { h with en := e } A m c = (hnL h A m c).set 13 (.int .i64 e) := rfl
theorem hnL_one (h : HN) (A : Option Addr) (m c : Nat) : ∀ u ∈ hnL h A m c, u.oneCell' = true := by
  intro u hu
  rw [hnL_eq] at hu
  simp only [List.mem_cons, List.not_mem_nil, or_false] at hu
  rcases hu with rfl | rfl | rfl | rfl | rfl | rfl | rfl | rfl | rfl | rfl | rfl | rfl | rfl | rfl <;> rfl
end Go.Proofs.YtklpihaelaagpaaDoor

namespace Go.Proofs.YtklpihaelaagpaaDoor
open Go.RowKit

theorem infoAttr : (Tryd.prog.info? 89).map (fun i => (i.zero, i.size, i.bytes)) = some (some (.agg #[.string ⟨#[]⟩, .string ⟨#[]⟩]), 2, 32) := by kernel_rfl
def atC (ats : List (List UInt8 × List UInt8)) : List Value := ats.flatMap fun p => [.string (strL p.1), .string (strL p.2)]
theorem atC_length (ats : List (List UInt8 × List UInt8)) : (atC ats).length = ats.length * 2 := by
  induction ats with
  | nil => rfl
  | cons p r ih => unfold atC at *; simp only [List.flatMap_cons, List.length_append, List.length_cons, List.length_nil, ih]; omega
theorem atC_get : ∀ (ats : List (List UInt8 × List UInt8)) (i : Nat) (h : i < ats.length), (atC ats)[i * 2]? = some (.string (strL ats[i].1)) ∧ (atC ats)[i * 2 + 1]? = some (.string (strL ats[i].2))
  | p :: r, 0, _ => ⟨rfl, rfl⟩
  | p :: r, i + 1, h => by
    have := atC_get r i (by simpa using h)
    have e : atC (p :: r) = .string (strL p.1) :: .string (strL p.2) :: atC r := rfl
    rw [e, show (i + 1) * 2 = i * 2 + 1 + 1 by omega]
    simpa using this
theorem atC_one (ats : List (List UInt8 × List UInt8)) : ∀ u ∈ atC ats, u.oneCell' = true := by
  intro u hu
  obtain ⟨p, _, h⟩ := List.mem_flatMap.1 hu
  simp only [List.mem_cons, List.not_mem_nil, or_false] at h
  rcases h with rfl | rfl <;> rfl
theorem add_cell (b o j : Nat) : (⟨b, o, none⟩ : Addr).add j = ⟨b, o + j, none⟩ := by
  unfold Addr.add
  split
  · rename_i h; subst h; rfl
  · rfl
theorem AttrsAt.cells {w : World} {A : Option Addr} {m : Nat} {ats : List (List UInt8 × List UInt8)} (h : AttrsAt w A m ats) : ∀ ad, A = some ad → ∀ j u, (atC ats)[j]? = some u → w.cell? (ad.add j) = some u := by
  intro ad hA j u hj
  have hlt := (List.getElem?_eq_some_iff.1 hj).1
  rw [atC_length] at hlt
  obtain ⟨i, hij⟩ : ∃ i, j = i * 2 ∨ j = i * 2 + 1 := ⟨j / 2, by omega⟩
  have hi : i < ats.length := by omega
  obtain ⟨b, o, e, _, h1, h2⟩ := h.2 _ hi
  rw [hA] at e
  injection e with e
  subst e
  obtain ⟨g1, g2⟩ := atC_get ats _ hi
  rw [add_cell]
  rcases hij with rfl | rfl
  · rw [h1, ← g1, hj]
  · rw [← Nat.add_assoc, h2, ← g2, hj]
theorem AttrsAt.keep {w w' : World} {A : Option Addr} {m : Nat} {ats : List (List UInt8 × List UInt8)} (h : AttrsAt w A m ats) (hs : w.heap.size ≤ w'.heap.size) (hk : ∀ b o, A = some ⟨b, o, none⟩ → b < w.heap.size → w'.heap[b]? = w.heap[b]?) : AttrsAt w' A m ats :=
  ⟨h.1, fun i hi => by
    obtain ⟨b, o, e, hlt, h1, h2⟩ := h.2 i hi
    have hb := hk b o e hlt
    exact ⟨b, o, e, Nat.lt_of_lt_of_le hlt hs, by rw [← h1]; simp only [World.cell?, hb], by rw [← h2]; simp only [World.cell?, hb]⟩⟩
theorem AttrsAt.none {w : World} {A : Option Addr} {m : Nat} {ats : List (List UInt8 × List UInt8)} (h : AttrsAt w A m ats) (hA : A = none) : m = 0 := by
  rw [h.1]
  cases ats with
  | nil => rfl
  | cons p r => obtain ⟨b, o, e, _⟩ := h.2 0 (by simp); rw [hA] at e; cases e
theorem own_attrs {w : World} {base m : Nat} {e : TypeId} {v : Value} {ats : List (List UInt8 × List UInt8)} (h : w.ownsRow base e 2 v m (atC ats)) :
    ∃ a c, v = .slice a m c ∧ m ≤ c ∧ AttrsAt w a m ats ∧ ∀ ad, a = some ad → base ≤ ad.block := by
  have hm : m = ats.length := by have := h.1; rw [atC_length] at this; omega
  obtain ⟨a, c, rfl, h1, h2, h3⟩ := own_slice h
  refine ⟨a, c, rfl, h1, ⟨hm, fun i hi => ?_⟩, fun ad ha => ?_⟩
  · cases a with
    | none => have := h2 rfl; omega
    | some ad =>
      obtain ⟨g, rfl, hg, hl, _, hc⟩ := h3 _ rfl
      obtain ⟨g1, g2⟩ := atC_get ats i hi
      exact ⟨g, 0, rfl, hl, by rw [Nat.zero_add]; exact hc _ _ g1, by rw [Nat.zero_add]; exact hc _ _ g2⟩
  · obtain ⟨g, rfl, hg, _⟩ := h3 _ ha
    exact hg
theorem results_cell1 {P : Program} {fn : Func} {p : Tmp} {ty : TypeId} (h : fn.results = #[.cell p ty]) (tmps : Array Value) (w : World) :
    (results fn tmps).run P w = ((asAddr (tmps.getD p undef)).run P w).andThen fun a w₁ => (loadVar ty a).run P w₁ := by
  simp only [results, h]
  simp [Sem.run_bind, Result.andThen]
end Go.Proofs.YtklpihaelaagpaaDoor

namespace Go.Proofs.YtklpihaelaagpaaDoor
open Go.RowKit

end Go.Proofs.YtklpihaelaagpaaDoor
