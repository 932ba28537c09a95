/-
  half: expr of a Some.
-/
import Derived.Test.YtklpihaelaagpaaDoorLgN
import Derived.Test.YtklpihaelaagpaaDoorLgQ
namespace Go.Proofs.YtklpihaelaagpaaDoor
open Go.RowKit

def pathK (ex : PX → List Int) (hs : List HN) (x : PX) (j : Nat) : List Int :=
  (x.path.drop j).foldr (fun s out => backT ex hs s out) (rowOf hs.length fun k => (hs[k]?.map fun h => asksT h x).getD 0)
theorem pathK_end (ex : PX → List Int) (hs : List HN) (x : PX) : pathK ex hs x x.path.length = rowOf hs.length fun k => (hs[k]?.map fun h => asksT h x).getD 0 := by unfold pathK; rw [List.drop_length]; rfl
theorem pathK_step (ex : PX → List Int) (hs : List HN) (x : PX) (j : Nat) (h : j < x.path.length) : pathK ex hs x j = backT ex hs x.path[j] (pathK ex hs x (j + 1)) := by
  unfold pathK
  rw [List.drop_eq_getElem_cons h, List.foldr_cons]
theorem pathK_all (hs : List HN) (f : Nat) (x : PX) (h : x.op = 3) : pathK (exprT hs f) hs x 0 = exprT hs (f + 1) x := by
  show _ = if x.op = 3 then _ else _
  rw [if_pos h]
  rfl
set_option maxRecDepth 100000 in
set_option maxHeartbeats 8000000 in
theorem hexprSome_any {hb : Nat} {hs : List HN} {f : Nat} (HX : HalfX hb hs f) (x : PX) (aa : Option Addr) (ac : Nat) (pa : Option Addr) (pc : Nat) (w : World) (hH : HAt w hb hs) (hp : SsAt f w pa x.path) (hpl : x.path.length ≤ 1048576) (htx : x.text.length ≤ 1048576) (hg : goodPB (goodXB f) x.path = true) (hop : x.op = 3) :
    Calls Tryd.prog 17 #[.pointer (some ⟨hb, 0, none⟩), .agg (exprC x aa ac pa pc).toArray] w fun e w' => ∃ P, e = .returned (.slice (some ⟨P, 0, none⟩) hs.length hs.length) ∧ w.heap.size ≤ P ∧ TsAt w' (some ⟨P, 0, none⟩) hs.length (exprT hs (f + 1) x) ∧ Below w.heap.size w w' := by
  obtain ⟨i0, hi, hz0, hz1, hz2⟩ := info_parts infoTru
  obtain ⟨q, hq⟩ : ∃ q, x.path.length = q := ⟨_, rfl⟩
  have HQ := Lib.hid hq
  have hXV : (exprC x aa ac pa pc).toArray = #[.int .i64 3, .slice aa x.args.length ac, .slice pa q pc, .string (strL x.attr), .int .i64 x.cmp, .string (strL x.text), .int .i64 x.num] := by unfold exprC; rw [hop, hq]
  rw [hXV]
  rw [hq] at hpl
  have HH := Lib.hid hH
  obtain ⟨na, nc, hlt, hcn, hrow⟩ := hH.get
  have HROW := Lib.hid hrow
  have HSS := Lib.hid hp
  have HG := Lib.hid hg
  have hcap := hH.cap
  have hpos := hH.pos
  have HEX := Lib.hid HX
  have HTX := Lib.hid htx
  obtain ⟨n, hnn⟩ : ∃ n, hs.length = n := ⟨_, rfl⟩
  have HN := Lib.hid hnn
  have HCN : Hid (∀ W, Below w.heap.size w W → W.cell? ⟨hb, 1, none⟩ = some (.slice na n nc)) := Lib.hid (by rw [← hnn]; exact hcn)
  have HP0 : Hid (pathK (exprT hs f) hs x 0 = exprT hs (f + 1) x) := Lib.hid (pathK_all hs f x hop)
  have HPE : Hid (pathK (exprT hs f) hs x q = rowOf n fun k => (hs[k]?.map fun h => asksT h x).getD 0) := Lib.hid (by rw [← hq, pathK_end, hnn])
  have HAS : Hid (∀ k (hk : k < hs.length) A m c' W, AttrsAt W A m hs[k].ev.ats → m ≤ 1048576 → (∀ p ∈ hs[k].ev.ats, p.2.length ≤ 1048576) → hs[k].txt.length ≤ 1048576 → Calls Tryd.prog 30 #[.agg #[.int .i64 hs[k].ev.kind, .int .i64 hs[k].ev.num, .int .i64 hs[k].ev.dep, .string (strL hs[k].ev.name), .slice A m c', .string (strL hs[k].ev.text), .int .i64 hs[k].ev.fr, .int .i64 hs[k].ev.tt, .int .i64 hs[k].kd, .int .i64 hs[k].par, .bool hs[k].op, .string (strL hs[k].txt), .int .i64 hs[k].bg, .int .i64 hs[k].en], .agg #[.int .i64 3, .slice aa x.args.length ac, .slice pa q pc, .string (strL x.attr), .int .i64 x.cmp, .string (strL x.text), .int .i64 x.num]] W fun e w' => e = .returned (.int .i64 ((hs[k]?.map fun h => asksT h x).getD 0)) ∧ Below W.heap.size W w') := Lib.hid fun k hk A m c' W g1 g2 g3 g4 => by
    rw [List.getElem?_eq_getElem hk]
    have h := hasks_any hs[k] A m c' x aa ac pa pc W g1 g2 g3 g4 htx
    rw [hXV] at h
    exact h
  have HBK : Hid (∀ j (hj : j < x.path.length) wa wn a l W, Below w.heap.size w W → XsAt f W wa x.path[j].wher → x.path[j].wher.length ≤ 1048576 → TsAt W a n l → Calls Tryd.prog 31 #[.pointer (some ⟨hb, 0, none⟩), .agg (stepC x.path[j] wa wn).toArray, .slice a n n] W fun e w' => ∃ P, e = .returned (.slice (some ⟨P, 0, none⟩) n n) ∧ W.heap.size ≤ P ∧ TsAt w' (some ⟨P, 0, none⟩) n (backT (exprT hs f) hs x.path[j] l) ∧ Below W.heap.size W w') := Lib.hid fun j hj wa wn a l W hW g1 g2 g3 => by
    have hgs := goodPB_at hg j hj
    have := back_any HX x.path[j] wa wn a n l W (hH.below hW) g1 g2 (List.all_eq_true.2 fun y hy => by
      obtain ⟨i, hi, rfl⟩ := List.getElem_of_mem hy
      exact goodSB_at hgs i hi) (by rw [hnn]; exact g3)
    rw [hnn] at this; exact this
  have HPK : Hid (∀ j (hj : j < x.path.length), pathK (exprT hs f) hs x j = backT (exprT hs f) hs x.path[j] (pathK (exprT hs f) hs x (j + 1))) := Lib.hid fun j hj => pathK_step _ _ _ j hj
  obtain ⟨R, hR⟩ : ∃ R, exprT hs (f + 1) x = R := ⟨_, rfl⟩
  rw [hR] at HP0
  rw [hR, hnn]
  rw [hnn] at hcap hpos
  have HMK : Hid (∀ w1, w1.ownsRow (w.alloc (.cells #[.int .i64 3, .slice aa x.args.length ac, .slice pa q pc, .string (strL x.attr), .int .i64 x.cmp, .string (strL x.text), .int .i64 x.num] 30)).heap.size 41 1 (.slice (some ⟨(w.alloc (.cells #[.int .i64 3, .slice aa x.args.length ac, .slice pa q pc, .string (strL x.attr), .int .i64 x.cmp, .string (strL x.text), .int .i64 x.num] 30)).heap.size, 0, none⟩) n n) n (madeCells (Value.int .i64 0).cells (n * 1)).toList → (w.alloc (.cells #[.int .i64 3, .slice aa x.args.length ac, .slice pa q pc, .string (strL x.attr), .int .i64 x.cmp, .string (strL x.text), .int .i64 x.num] 30)).grownBy w1 none → MI w w.heap.size (.cells #[.int .i64 3, .slice aa x.args.length ac, .slice pa q pc, .string (strL x.attr), .int .i64 x.cmp, .string (strL x.text), .int .i64 x.num] 30) (w.heap.size + 1) n (List.replicate n 0) w1 ∧ w1.cell? ⟨hb, 1, none⟩ = some (.slice na n nc) ∧ w1.cell? ⟨w.heap.size, 0, none⟩ = some (.int .i64 3)) := Lib.hid fun w1 hown hgr => by
    obtain ⟨h1, h2⟩ := MI.made (w := w) (k := w.heap.size) (o := (.cells #[.int .i64 3, .slice aa x.args.length ac, .slice pa q pc, .string (strL x.attr), .int .i64 x.cmp, .string (strL x.text), .int .i64 x.num] 30)) ((Below.refl w.heap.size w).alloc (Nat.le_refl _) _) (heap_alloc_new w _) hown hgr
    rw [World.size_alloc] at h1
    exact ⟨h1, HCN.out _ h1.old, by rw [cell_heap h1.box]; rfl⟩
  have c0 := HCN.out w (Below.refl _ _)
  clear hR hH hrow hcn hp hg HX hop htx hq hXV
  go_enter Tryd.func17, Tryd.ntmps17
  go_wp2_with (at_make; go_must ((refine wpList_make_full (w.alloc (.cells #[.int .i64 3, .slice aa x.args.length ac, .slice pa q pc, .string (strL x.attr), .int .i64 x.cmp, .string (strL x.text), .int .i64 x.num] 30)) (by rfl) _ _ 65 (by rfl) (w.alloc (.cells #[.int .i64 3, .slice aa x.args.length ac, .slice pa q pc, .string (strL x.attr), .int .i64 x.cmp, .string (strL x.text), .int .i64 x.num] 30)).heap.size 41 i0 _ 1 Tryd.underlying65 hi hz0 hz1 .i64 .i64 (n : Int) (n : Int) n (by rfl) (by rfl) rfl rfl (by rw [hz2]; omega) (by unfold maxLen; omega) (Nat.le_refl _) (fun w1 hown hgr => ?_)); have HM1 := Lib.hid (HMK.out w1 hown hgr); have c1 := HM1.out.2.1; have c2 := HM1.out.2.2))
  have HMI := Lib.hid HM1.out.1
  clear hown hgr HM1
  generalize hP : w.heap.size + 1 = P at *
  go_loopw [30] (fun iv wr => ∃ k : Nat, iv = .int .i64 k ∧ k ≤ n ∧ Hid (MI w w.heap.size (.cells #[.int .i64 3, .slice aa x.args.length ac, .slice pa q pc, .string (strL x.attr), .int .i64 x.cmp, .string (strL x.text), .int .i64 x.num] 30) P n (mixR n k (fun k => (hs[k]?.map fun h => asksT h x).getD 0) (fun _ => 0)) wr)) (fun iv _ => n - (intOf iv).toNat)
  case atStart => exact ⟨0, rfl, Nat.zero_le _, Lib.hid (by rw [← rep_mix]; exact HMI.out)⟩
  case round =>
    obtain ⟨k, rfl, hk, HM⟩ := hrel
    by_cases hkn : k < n
    · have hkl : k < hs.length := by rw [HN.out]; exact hkn
      obtain ⟨b, o, A, m, c', rfl, hbl, hm, hA, hat, htx, hcells⟩ := HROW.out k hkl
      obtain ⟨e0, e1, e2, e3, e4, e5, e6, e7, e8, e9, e10, e11, e12, e13⟩ := hcells wr HM.out.old
      have HTK : Hid (∀ W, Below w.heap.size w W → Calls Tryd.prog 30 #[.agg #[.int .i64 hs[k].ev.kind, .int .i64 hs[k].ev.num, .int .i64 hs[k].ev.dep, .string (strL hs[k].ev.name), .slice A m c', .string (strL hs[k].ev.text), .int .i64 hs[k].ev.fr, .int .i64 hs[k].ev.tt, .int .i64 hs[k].kd, .int .i64 hs[k].par, .bool hs[k].op, .string (strL hs[k].txt), .int .i64 hs[k].bg, .int .i64 hs[k].en], .agg #[.int .i64 3, .slice aa x.args.length ac, .slice pa q pc, .string (strL x.attr), .int .i64 x.cmp, .string (strL x.text), .int .i64 x.num]] W fun e w' => e = .returned (.int .i64 ((hs[k]?.map fun h => asksT h x).getD 0)) ∧ Below W.heap.size W w') := Lib.hid fun W hW => HAS.out k hkl A m c' W (hA.below hW) hm hat htx
      have HNX : Hid (∀ W, MI w w.heap.size (.cells #[.int .i64 3, .slice aa x.args.length ac, .slice pa q pc, .string (strL x.attr), .int .i64 x.cmp, .string (strL x.text), .int .i64 x.num] 30) P n (mixR n k (fun k => (hs[k]?.map fun h => asksT h x).getD 0) (fun _ => 0)) W → MI w w.heap.size (.cells #[.int .i64 3, .slice aa x.args.length ac, .slice pa q pc, .string (strL x.attr), .int .i64 x.cmp, .string (strL x.text), .int .i64 x.num] 30) P n (mixR n (k + 1) (fun k => (hs[k]?.map fun h => asksT h x).getD 0) (fun _ => 0)) (W.setCell ⟨P, k, none⟩ (.int .i64 ((hs[k]?.map fun h => asksT h x).getD 0)))) := Lib.hid fun W hW => by
        have := hW.set k ((hs[k]?.map fun h => asksT h x).getD 0)
        rwa [mixR_set _ _ _ _ _ rfl] at this
      have HEXI : Hid (∀ W, MI w w.heap.size (.cells #[.int .i64 3, .slice aa x.args.length ac, .slice pa q pc, .string (strL x.attr), .int .i64 x.cmp, .string (strL x.text), .int .i64 x.num] 30) P n (mixR n k (fun k => (hs[k]?.map fun h => asksT h x).getD 0) (fun _ => 0)) W → P < W.heap.size ∧ W.frozen? ⟨P, k, none⟩ = false ∧ ∃ x, W.cell? ⟨P, k, none⟩ = some x) := Lib.hid fun W hW => ⟨(hW.own.lt _ rfl).2, hW.frozen k, ⟨_, hW.at k hkn⟩⟩
      have HAL : Hid (∀ o, MI w w.heap.size (.cells #[.int .i64 3, .slice aa x.args.length ac, .slice pa q pc, .string (strL x.attr), .int .i64 x.cmp, .string (strL x.text), .int .i64 x.num] 30) P n (mixR n k (fun k => (hs[k]?.map fun h => asksT h x).getD 0) (fun _ => 0)) (wr.alloc o)) := Lib.hid fun o => HM.out.below ((Below.refl _ _).alloc (Nat.le_refl _) _)
      clear hcells hA hat hm htx
      generalize hs[k] = hn at *
      generalize (hs[k]?.map fun h => asksT h x).getD 0 = tv at *
      have i2 : (0 : Int) ≤ (k : Int) := by omega
      have i3 : (k : Int) < (n : Int) := by omega
      have ewi : IntKind.i64.wrap ((k : Int) + 1) = (k : Int) + 1 := IntWalk.i64_in _ (by omega)
      have x0 : wr.cell? ⟨w.heap.size, 0, none⟩ = some (.int .i64 3) := by rw [cell_heap HM.out.box]; rfl
      have x1 : wr.cell? ⟨w.heap.size, 1, none⟩ = some (.slice aa x.args.length ac) := by rw [cell_heap HM.out.box]; rfl
      have x2 : wr.cell? ⟨w.heap.size, 2, none⟩ = some (.slice pa q pc) := by rw [cell_heap HM.out.box]; rfl
      have x3 : wr.cell? ⟨w.heap.size, 3, none⟩ = some (.string (strL x.attr)) := by rw [cell_heap HM.out.box]; rfl
      have x4 : wr.cell? ⟨w.heap.size, 4, none⟩ = some (.int .i64 x.cmp) := by rw [cell_heap HM.out.box]; rfl
      have x5 : wr.cell? ⟨w.heap.size, 5, none⟩ = some (.string (strL x.text)) := by rw [cell_heap HM.out.box]; rfl
      have x6 : wr.cell? ⟨w.heap.size, 6, none⟩ = some (.int .i64 x.num) := by rw [cell_heap HM.out.box]; rfl
      have hlt3 : w.heap.size < wr.heap.size := (Array.getElem?_eq_some_iff.1 HM.out.box).1
      go_wp2_with fail
      (with_reducible refine (HTK.out _ (HAL.out _).old).mono ?_)
      rintro e w5 ⟨rfl, hb5⟩
      have HM5 := Lib.hid ((HAL.out _).below hb5)
      clear hb5 x0 x1 x2 x3 x4 x5 x6
      obtain ⟨p5, f5, y5, z5⟩ := HEXI.out w5 HM5.out
      go_wp2_with fail
      go_roundw
      case rel => exact ⟨k + 1, by go_num, by omega, Lib.hid (HNX.out _ HM5.out)⟩
      case measure => simp [intOf]; omega
    · have hk2 : n = k := by omega
      subst hk2
      have HM2 : Hid (w.heap.size ≤ P ∧ Below w.heap.size w wr ∧ wr.heap[w.heap.size]? = some (.cells #[.int .i64 3, .slice aa x.args.length ac, .slice pa q pc, .string (strL x.attr), .int .i64 x.cmp, .string (strL x.text), .int .i64 x.num] 30) ∧ TsAt wr (some ⟨P, 0, none⟩) n (pathK (exprT hs f) hs x q)) := Lib.hid ⟨HM.out.lo, HM.out.old, HM.out.box, by have := HM.out.ts; rw [mixR_all] at this; rw [HPE.out]; exact this⟩
      have x2 : wr.cell? ⟨w.heap.size, 2, none⟩ = some (.slice pa q pc) := by rw [cell_heap HM.out.box]; rfl
      have ewq : IntKind.i64.wrap ((q : Int) - 1) = (q : Int) - 1 := IntWalk.i64_in _ (by omega)
      clear HM hk hkn HMI HAS HROW
      go_wp2_with fail
      go_loopw [5, 8] (fun ov iv wr => ∃ j Q : Nat, ov = .slice (some ⟨Q, 0, none⟩) n n ∧ iv = .int .i64 ((j : Int) - 1) ∧ j ≤ q ∧ Hid (w.heap.size ≤ Q ∧ Below w.heap.size w wr ∧ wr.heap[w.heap.size]? = some (.cells #[.int .i64 3, .slice aa x.args.length ac, .slice pa q pc, .string (strL x.attr), .int .i64 x.cmp, .string (strL x.text), .int .i64 x.num] 30) ∧ TsAt wr (some ⟨Q, 0, none⟩) n (pathK (exprT hs f) hs x j))) (fun _ iv _ => (intOf iv + 1).toNat)
      case atStart => exact ⟨q, P, rfl, rfl, Nat.le_refl _, HM2⟩
      case round =>
        obtain ⟨j, Q, rfl, rfl, hjq, HJ⟩ := hrel
        by_cases hj0 : 0 < j
        · obtain ⟨i, hij⟩ : ∃ i, j = i + 1 := ⟨j - 1, by omega⟩
          subst hij
          have hji : ((i + 1 : Nat) : Int) - 1 = (i : Int) := by omega
          rw [hji]
          have hiq : i < x.path.length := by rw [HQ.out]; omega
          obtain ⟨b, o, wa, wn, rfl, hbl, hst, hcs⟩ := HSS.out.get' i hiq
          obtain ⟨s0, s1, s2, s3⟩ := hcs wr HJ.out.2.1
          have x2' : wr.cell? ⟨w.heap.size, 2, none⟩ = some (.slice (some ⟨b, o, none⟩) q pc) := by rw [cell_heap HJ.out.2.2.1]; rfl
          have HB : Hid (Calls Tryd.prog 31 #[.pointer (some ⟨hb, 0, none⟩), .agg (stepC x.path[i] wa wn).toArray, .slice (some ⟨Q, 0, none⟩) n n] wr fun e w' => ∃ P, e = .returned (.slice (some ⟨P, 0, none⟩) n n) ∧ wr.heap.size ≤ P ∧ TsAt w' (some ⟨P, 0, none⟩) n (pathK (exprT hs f) hs x i) ∧ Below wr.heap.size wr w') := Lib.hid (by
            obtain ⟨a', c', hcc, hwl, _, _, _, hwn, hxs⟩ := hst
            cases hcc
            rw [HPK.out i hiq]
            exact HBK.out i hiq _ _ _ _ wr HJ.out.2.1 (XsAt.below hxs HJ.out.2.1) hwn HJ.out.2.2.2)
          have HWL : Hid (w.heap.size < wr.heap.size) := Lib.hid (Array.getElem?_eq_some_iff.1 HJ.out.2.2.1).1
          have i2 : (0 : Int) ≤ (i : Int) := by omega
          have i3 : (i : Int) < (q : Int) := by have := HQ.out; omega
          have ewi : IntKind.i64.wrap ((i : Int) - 1) = (i : Int) - 1 := IntWalk.i64_in _ (by omega)
          unfold stepC at HB
          clear hst hcs
          generalize x.path[i] = s at *
          go_wp2_with fail
          (with_reducible refine HB.out.mono ?_)
          rintro e w5 ⟨P5, rfl, hP5, hts, hb5⟩
          have HX5 : Hid (w.heap.size ≤ P5 ∧ Below w.heap.size w w5 ∧ w5.heap[w.heap.size]? = some (.cells #[.int .i64 3, .slice aa x.args.length ac, .slice (some ⟨b, o, none⟩) q pc, .string (strL x.attr), .int .i64 x.cmp, .string (strL x.text), .int .i64 x.num] 30) ∧ TsAt w5 (some ⟨P5, 0, none⟩) n (pathK (exprT hs f) hs x i)) := Lib.hid ⟨by have := HWL.out; omega, HJ.out.2.1.trans (hb5.mono HJ.out.2.1.size), (hb5.block _ HWL.out).trans HJ.out.2.2.1, hts⟩
          clear hP5 hts hb5
          go_wp2_with fail
          go_roundw
          case rel => exact ⟨i, P5, rfl, rfl, by omega, HX5⟩
          case measure => first | (simp [intOf]; done) | (simp [intOf]; omega)
        · have hj2 : j = 0 := by omega
          have HF := Lib.hid HJ.out
          rw [hj2, HP0.out] at HF
          have i9 : (j : Int) - 1 < 0 := by omega
          go_wp2_with fail
          go_ret
          exact ⟨Q, rfl, HF.out.1, HF.out.2.2.2, HF.out.2.1⟩
end Go.Proofs.YtklpihaelaagpaaDoor

namespace Go.Proofs.YtklpihaelaagpaaDoor
open Go.RowKit

structure PtAt (B n : Nat) (W : World) (v : Value) (L : List (List Int)) : Prop where
  own : ∃ cells, W.ownsRow B 65 1 v L.length cells ∧ ∀ (i : Nat) (l : List Int), L[i]? = some l → ∃ P, cells[i]? = some (.slice (some ⟨P, 0, none⟩) n n) ∧ B ≤ P ∧ v.ownBlock ≠ some P ∧ TsAt W (some ⟨P, 0, none⟩) n l
theorem PtAt.nil (B n : Nat) (W : World) : PtAt B n W (.slice none 0 0) [] := ⟨[], World.ownsRow_nil _ _ _ _, fun i l h => by simp at h⟩
theorem PtAt.below {B n : Nat} {W W' : World} {v : Value} {L : List (List Int)} (h : PtAt B n W v L) (hb : Below W.heap.size W W') : PtAt B n W' v L := by
  obtain ⟨cells, h1, h2⟩ := h
  refine ⟨cells, own_block h1 fun k hk => hb.block _ (h1.lt k hk).2, fun i l hl => ?_⟩
  obtain ⟨P, g1, g2, g3, g4⟩ := h2 i l hl
  exact ⟨P, g1, g2, g3, g4.below hb⟩
theorem PtAt.far {B n : Nat} {W : World} {v : Value} {L : List (List Int)} (h : PtAt B n W v L) {Q : Nat} (hQ : Q < B) (i : Nat) (u : Value) : PtAt B n (W.setCell ⟨Q, i, none⟩ u) v L := by
  obtain ⟨cells, h1, h2⟩ := h
  refine ⟨cells, own_block h1 fun k hk => Below.heap_setCell _ _ _ _ (show k ≠ Q by have := (h1.lt k hk).1; omega), fun i l hl => ?_⟩
  obtain ⟨P, g1, g2, g3, g4⟩ := h2 i l hl
  exact ⟨P, g1, g2, g3, g4.far (fun ad e => by cases e; show P ≠ Q; omega) _⟩
theorem TsAt.keep {w w' : World} {P n : Nat} {l : List Int} (h : TsAt w (some ⟨P, 0, none⟩) n l) (hs : w.heap.size ≤ w'.heap.size) (hk : w'.heap[P]? = w.heap[P]?) : TsAt w' (some ⟨P, 0, none⟩) n l :=
  ⟨h.len, fun i hi => by
    obtain ⟨b, o, e, h1, h2⟩ := h.at' i hi
    cases e
    exact ⟨P, 0, rfl, Nat.lt_of_lt_of_le h1 hs, by rw [← h2]; simp only [World.cell?, hk]⟩⟩
theorem PtAt.push {B n : Nat} {W W' : World} {v v' : Value} {L : List (List Int)} {cells : List Value} {o : Obj} (hn : 1 ≤ n) (hc : W.ownsRow B 65 1 v L.length cells) (h : ∀ (i : Nat) (l : List Int), L[i]? = some l → ∃ P, cells[i]? = some (.slice (some ⟨P, 0, none⟩) n n) ∧ B ≤ P ∧ v.ownBlock ≠ some P ∧ TsAt W (some ⟨P, 0, none⟩) n l)
    (hap : App (W.alloc o) W' v v') (P : Nat) (l : List Int) (hP : B ≤ P) (hv : v.ownBlock ≠ some P) (hT : TsAt W (some ⟨P, 0, none⟩) n l)
    (hown : W'.ownsRow B 65 1 v' (L.length + 1) (cells ++ [.slice (some ⟨P, 0, none⟩) n n])) : PtAt B n W' v' (L ++ [l]) := by
  have key : ∀ P m, v.ownBlock ≠ some P → TsAt W (some ⟨P, 0, none⟩) n m → v'.ownBlock ≠ some P ∧ TsAt W' (some ⟨P, 0, none⟩) n m := fun P m h1 h2 => by
    have hlt := (h2.at0 0 hn).2
    have hlt2 : P < (W.alloc o).heap.size := by simp; omega
    have hsz : W.heap.size ≤ W'.heap.size := by have := hap.grown.size; simp at this; omega
    exact ⟨hap.ne hlt2 h1, h2.keep hsz ((hap.keep hlt2 h1).trans (Below.heap_alloc _ _ _ hlt))⟩
  have hl : cells.length = L.length := by have := hc.1; omega
  refine ⟨cells ++ [.slice (some ⟨P, 0, none⟩) n n], by rw [List.length_append]; exact hown, fun i m hm => ?_⟩
  rcases snoc_get hm with ⟨hi, hm⟩ | ⟨hi, rfl⟩
  · obtain ⟨P', g1, g2, g3, g4⟩ := h i m hm
    exact ⟨P', by rw [List.getElem?_append_left (by omega)]; exact g1, g2, key _ _ g3 g4⟩
  · exact ⟨P, by rw [List.getElem?_append_right (by omega), hi, hl, Nat.sub_self]; rfl, hP, key _ _ hv hT⟩
theorem MI.below2 {w W W' : World} {k P n B : Nat} {o : Obj} {l : List Int} (h : MI w k o P n l W) (hk : k < B) (hP : P < B) (hB : w.heap.size ≤ B) (hb : Below B W W') : MI w k o P n l W' :=
  ⟨h.old.trans (hb.mono hB), (hb.block _ hk).trans h.box, h.lo, h.ne, own_block h.own fun j hj => by cases hj; exact hb.block _ hP, h.len⟩
theorem own_ts {B n : Nat} {W : World} {v : Value} {l : List Int} (h : W.ownsRow B 41 1 v n (tsC l)) : ∃ a c, v = .slice a n c ∧ n ≤ c ∧ TsAt W a n l := by
  have hlen := h.1
  rw [tsC_len, Nat.mul_one] at hlen
  obtain ⟨a, c, rfl, h1, h2, h3⟩ := own_slice h
  refine ⟨a, c, rfl, h1, hlen.symm, fun i hi => ?_⟩
  cases a with
  | none => have := h2 rfl; omega
  | some ad =>
    obtain ⟨g, rfl, _, g2, _, g4⟩ := h3 _ rfl
    exact ⟨g, 0, rfl, g2, by rw [Nat.zero_add]; exact g4 i _ (tsC_at l i hi)⟩
theorem infoTrus : (Tryd.prog.info? 65).map (fun i => (i.zero, i.size, i.bytes)) = some (some (.slice none 0 0), 1, 24) := by kernel_rfl
end Go.Proofs.YtklpihaelaagpaaDoor
