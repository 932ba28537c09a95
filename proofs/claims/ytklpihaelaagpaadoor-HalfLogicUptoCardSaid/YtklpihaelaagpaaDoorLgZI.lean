/-
  half: path.
-/
import Derived.Test.YtklpihaelaagpaaDoorLgS
import Derived.Test.YtklpihaelaagpaaDoorLgZH
namespace Go.Proofs.YtklpihaelaagpaaDoor
open Go.RowKit

theorem alloc_atH (w : World) (o : Obj) {k : Nat} (h : k = w.heap.size) : (w.alloc o).heap[k]? = some o := by subst h; exact heap_alloc_new w o
set_option maxRecDepth 100000 in
set_option maxHeartbeats 8000000 in
theorem path_any {hb : Nat} {hs : List HN} {f : Nat} (HX : HalfX hb hs f) (ss : List PS) (pa : Option Addr) (pc : Nat) (w : World) (hH : HAt w hb hs) (hroot : ∀ h, hs[0]? = some h → h.par = -1) (hp : SsAt f w pa ss) (hpl : ss.length ≤ 1048576) (hg : goodPB (goodXB f) ss = true) :
    Calls Tryd.prog 18 #[.pointer (some ⟨hb, 0, none⟩), .agg #[.slice pa ss.length pc]] w fun e w' => ∃ P, e = .returned (.slice (some ⟨P, 0, none⟩) hs.length hs.length) ∧ w.heap.size ≤ P ∧ TsAt w' (some ⟨P, 0, none⟩) hs.length (pathT (exprT hs f) hs ss ss.length) ∧ Below w.heap.size w w' := by
  obtain ⟨i0, hi, hz0, hz1, hz2⟩ := info_parts infoTru
  obtain ⟨q, hq⟩ : ∃ q, ss.length = q := ⟨_, rfl⟩
  have HQ := Lib.hid hq
  rw [hq] at hpl
  obtain ⟨na, nc, hlt, hcn, hrow⟩ := hH.get
  have HROW := Lib.hid hrow
  have HPAR := Lib.hid hH.par
  have HROOT := Lib.hid hroot
  have HSS := Lib.hid hp
  have hcap := hH.cap
  have hpos := hH.pos
  obtain ⟨n, hnn⟩ : ∃ n, hs.length = n := ⟨_, rfl⟩
  have HN := Lib.hid hnn
  have HCN : Hid (∀ W, Below w.heap.size w W → W.cell? ⟨hb, 1, none⟩ = some (.slice na n nc)) := Lib.hid (by rw [← hnn]; exact hcn)
  have HP0 : Hid (pathT (exprT hs f) hs ss 0 = rowOf n fun k => truthI (decide (k = 0))) := Lib.hid (by rw [pathT_zero]; unfold led0; rw [hnn])
  have HPS : Hid (∀ j (hj : j < ss.length), pathT (exprT hs f) hs ss (j + 1) = metT (exprT hs f) hs ss[j] (rowOf n (frT hs (pathT (exprT hs f) hs ss j) ss[j].axis))) := Lib.hid fun j hj => by rw [pathT_succ _ _ _ j hj]; unfold ledT; rw [hnn]
  have HME : Hid (∀ j (hj : j < ss.length) wa wn a l W, Below w.heap.size w W → XsAt f W wa ss[j].wher → ss[j].wher.length ≤ 1048576 → TsAt W a n l → Calls Tryd.prog 36 #[.pointer (some ⟨hb, 0, none⟩), .agg (stepC ss[j] wa wn).toArray, .slice a n n] W fun e w' => ∃ P, e = .returned (.slice (some ⟨P, 0, none⟩) n n) ∧ W.heap.size ≤ P ∧ TsAt w' (some ⟨P, 0, none⟩) n (metT (exprT hs f) hs ss[j] l) ∧ Below W.heap.size W w') := Lib.hid fun j hj wa wn a l W hW g1 g2 g3 => by
    have hgs := goodPB_at hg j hj
    have := met_any HX ss[j] wa wn a n l W (hH.below hW) g1 g2 (List.all_eq_true.2 fun y hy => by
      obtain ⟨i, hi, rfl⟩ := List.getElem_of_mem hy
      exact goodSB_at hgs i hi) (by rw [hnn]; exact g3)
    rw [hnn] at this; exact this
  have HOR2 : Hid (∀ (p q : Int) (W : World) (Q : Nat), W.heap[Q]? = some (.cells #[.int .i64 p, .int .i64 q] 41 (0, 0)) → Calls Tryd.prog 33 #[.slice (some ⟨Q, 0, none⟩) 2 2] W fun e w' => e = .returned (.int .i64 (orL [p, q])) ∧ w' = W) := Lib.hid fun p q W Q h => kOr_any _ 2 2 [p, q] W (ts_two h) (by decide)
  have HORD : Hid (∀ (p q : Int) (W : World) (Q : Nat), W.heap[Q]? = some (.cells #[.int .i64 p, .int .i64 q] 41 (0, 0)) → Calls Tryd.prog 33 #[.slice (some ⟨Q, 0, none⟩) 2 2] W.drew fun e w' => e = .returned (.int .i64 (orL [p, q])) ∧ w' = W.drew) := Lib.hid fun p q W Q h => kOr_any _ 2 2 [p, q] W.drew (ts_two h) (by decide)
  have HTR : Hid (∀ (b : Bool) (W : World), Calls Tryd.prog 35 #[.bool b] W fun e w' => e = .returned (.int .i64 (truthI b)) ∧ w' = W) := Lib.hid fun b W => truth_any b W
  rw [hq, hnn]
  obtain ⟨R, hR⟩ : ∃ R, pathT (exprT hs f) hs ss q = R := ⟨_, rfl⟩
  have HRR := Lib.hid hR
  rw [hR]
  rw [hnn] at hcap hpos
  have HMK : Hid (∀ w1, w1.ownsRow (w.alloc (.cells #[.slice pa q pc] 27)).heap.size 41 1 (.slice (some ⟨(w.alloc (.cells #[.slice pa q pc] 27)).heap.size, 0, none⟩) n n) n (madeCells (Value.int .i64 0).cells (n * 1)).toList → (w.alloc (.cells #[.slice pa q pc] 27)).grownBy w1 none → MI w w.heap.size (.cells #[.slice pa q pc] 27) (w.heap.size + 1) n (List.replicate n 0) w1) := Lib.hid fun w1 hown hgr => by
    obtain ⟨h1, h2⟩ := MI.made (w := w) (k := w.heap.size) (o := (.cells #[.slice pa q pc] 27)) ((Below.refl w.heap.size w).alloc (Nat.le_refl _) _) (heap_alloc_new w _) hown hgr
    rw [World.size_alloc] at h1
    exact h1
  have c0 := HCN.out w (Below.refl _ _)
  clear hR hH hrow hcn hp hg HX hq hroot
  go_enter Tryd.func18, Tryd.ntmps18
  go_wp2_with (at_make; go_must ((refine wpList_make_full (w.alloc (.cells #[.slice pa q pc] 27)) (by rfl) _ _ 65 (by rfl) (w.alloc (.cells #[.slice pa q pc] 27)).heap.size 41 i0 _ 1 Tryd.underlying65 hi hz0 hz1 .i64 .i64 (n : Int) (n : Int) n (by rfl) (by rfl) rfl rfl (by rw [hz2]; omega) (by unfold maxLen; omega) (Nat.le_refl _) (fun w1 hown hgr => ?_)); have HMI := Lib.hid (HMK.out w1 hown hgr)))
  clear hown hgr HMK
  generalize hP : w.heap.size + 1 = P at *
  go_loopw [22] (fun iv wr => ∃ k : Nat, iv = .int .i64 k ∧ k ≤ n ∧ Hid (MI w w.heap.size (.cells #[.slice pa q pc] 27) P n (mixR n k (fun k => truthI (decide (k = 0))) (fun _ => 0)) wr)) (fun iv _ => n - (intOf iv).toNat)
  case atStart => exact ⟨0, rfl, Nat.zero_le _, Lib.hid (by rw [← rep_mix]; exact HMI.out)⟩
  case round =>
    obtain ⟨k, rfl, hk, HM⟩ := hrel
    by_cases hkn : k < n
    · have HNX : Hid (MI w w.heap.size (.cells #[.slice pa q pc] 27) P n (mixR n (k + 1) (fun k => truthI (decide (k = 0))) (fun _ => 0)) (wr.setCell ⟨P, k, none⟩ (.int .i64 (truthI (decide (k = 0)))))) := Lib.hid (by
        have := HM.out.set k (truthI (decide (k = 0)))
        rwa [mixR_set _ _ _ _ _ rfl] at this)
      have z1 := HM.out.at k hkn
      generalize (mixR n k (fun k => truthI (decide (k = 0))) (fun _ => 0)).getD k 0 = zz at z1
      have f1 := HM.out.frozen k
      have l1 := (HM.out.own.lt _ rfl).2
      have HTD : Hid (∀ W : World, Calls Tryd.prog 35 #[.bool ((k : Int) == 0)] W fun e w' => e = .returned (.int .i64 (truthI (decide (k = 0)))) ∧ w' = W) := Lib.hid fun W => by
        have : ((k : Int) == 0) = decide (k = 0) := by by_cases h : k = 0 <;> simp [h]
        rw [this]; exact HTR.out _ W
      have i2 : (0 : Int) ≤ (k : Int) := by omega
      have i3 : (k : Int) < (n : Int) := by omega
      have ewi : IntKind.i64.wrap ((k : Int) + 1) = (k : Int) + 1 := IntWalk.i64_in _ (by omega)
      go_wp2_with fail
      (with_reducible refine (HTD.out _).mono ?_)
      rintro e w5 ⟨rfl, rfl⟩
      go_wp2_with fail
      go_roundw
      case rel => exact ⟨k + 1, by go_num, by omega, HNX⟩
      case measure => simp [intOf]; omega
    · have hk2 : n = k := by omega
      subst hk2
      have HM2 : Hid (w.heap.size ≤ P ∧ Below w.heap.size w wr ∧ wr.heap[w.heap.size]? = some (.cells #[.slice pa q pc] 27 (0, 0)) ∧ TsAt wr (some ⟨P, 0, none⟩) n (pathT (exprT hs f) hs ss 0)) := Lib.hid ⟨HM.out.lo, HM.out.old, HM.out.box, by have := HM.out.ts; rw [mixR_all] at this; rw [HP0.out]; exact this⟩
      have x2 : wr.cell? ⟨w.heap.size, 0, none⟩ = some (.slice pa q pc) := by rw [cell_heap HM.out.box]; rfl
      clear HM hk hkn HMI
      go_wp2_with fail
      go_loopw [5, 35] (fun ov iv wr => ∃ j Q : Nat, ov = .slice (some ⟨Q, 0, none⟩) n n ∧ iv = .int .i64 (j : Int) ∧ j ≤ q ∧ Hid (w.heap.size ≤ Q ∧ Below w.heap.size w wr ∧ wr.heap[w.heap.size]? = some (.cells #[.slice pa q pc] 27 (0, 0)) ∧ TsAt wr (some ⟨Q, 0, none⟩) n (pathT (exprT hs f) hs ss j))) (fun _ iv _ => q - (intOf iv).toNat)
      case atStart => exact ⟨0, P, rfl, rfl, Nat.zero_le _, HM2⟩
      case round =>
        obtain ⟨j, Q, rfl, rfl, hjq, HJ⟩ := hrel
        obtain ⟨W0, rfl⟩ : ∃ W0, W0 = wr := ⟨_, rfl⟩
        by_cases hj0 : j < q
        · have hiq : j < ss.length := by rw [HQ.out]; exact hj0
          obtain ⟨b, o, wa, wn, rfl, hbl, hst, hcs⟩ := HSS.out.get' j hiq
          obtain ⟨s0, s1, s2, s3⟩ := hcs W0 HJ.out.2.1
          have HPJ := Lib.hid (HPS.out j hiq)
          obtain ⟨a', c', hcc, hwl, _, _, _, hwn, hxs⟩ := hst
          cases hcc
          obtain ⟨led, hled⟩ : ∃ led, pathT (exprT hs f) hs ss j = led := ⟨_, rfl⟩
          rw [hled] at HPJ
          have HTL : Hid (TsAt W0 (some ⟨Q, 0, none⟩) n led) := Lib.hid (by rw [← hled]; exact HJ.out.2.2.2)
          have HMT : Hid (∀ a l W, Below W0.heap.size W0 W → TsAt W a n l → Calls Tryd.prog 36 #[.pointer (some ⟨hb, 0, none⟩), .agg #[.int .i64 ss[j].axis, .int .i64 ss[j].test, .string (strL ss[j].name), .slice wa ss[j].wher.length wn], .slice a n n] W fun e w' => ∃ P, e = .returned (.slice (some ⟨P, 0, none⟩) n n) ∧ W.heap.size ≤ P ∧ TsAt w' (some ⟨P, 0, none⟩) n (metT (exprT hs f) hs ss[j] l) ∧ Below W.heap.size W w') := Lib.hid fun a l W hW hT => by
            have hb := HJ.out.2.1.trans (hW.mono HJ.out.2.1.size)
            exact HME.out j hiq wa wn a l W hb (XsAt.below hxs hb) hwn hT
          have hs1 := HJ.out.2.1.size
          have x2 : W0.cell? ⟨w.heap.size, 0, none⟩ = some (.slice (some ⟨b, o, none⟩) q pc) := by rw [cell_heap HJ.out.2.2.1]; rfl
          clear hcs hxs hled HPS
          generalize ss[j] = s at *
          have HMK2 : Hid (∀ w2, w2.ownsRow (W0.alloc (.cells #[.int .i64 s.axis, .int .i64 s.test, .string (strL s.name), .slice wa s.wher.length wn] 48)).heap.size 41 1 (.slice (some ⟨(W0.alloc (.cells #[.int .i64 s.axis, .int .i64 s.test, .string (strL s.name), .slice wa s.wher.length wn] 48)).heap.size, 0, none⟩) n n) n (madeCells (Value.int .i64 0).cells (n * 1)).toList → (W0.alloc (.cells #[.int .i64 s.axis, .int .i64 s.test, .string (strL s.name), .slice wa s.wher.length wn] 48)).grownBy w2 none → MI W0 W0.heap.size (.cells #[.int .i64 s.axis, .int .i64 s.test, .string (strL s.name), .slice wa s.wher.length wn] 48) (W0.heap.size + 1) n (List.replicate n 0) w2 ∧ TsAt w2 (some ⟨Q, 0, none⟩) n led ∧ Q < W0.heap.size + 1 ∧ W0.heap.size + 1 < w2.heap.size) := Lib.hid fun w2 hown hgr => by
            have hbo := (Below.refl W0.heap.size W0).alloc (Nat.le_refl _) (.cells #[.int .i64 s.axis, .int .i64 s.test, .string (strL s.name), .slice wa s.wher.length wn] 48)
            obtain ⟨h1, h2⟩ := MI.made (w := W0) (k := W0.heap.size) (o := (.cells #[.int .i64 s.axis, .int .i64 s.test, .string (strL s.name), .slice wa s.wher.length wn] 48)) hbo (heap_alloc_new W0 _) hown hgr
            have h3 := (HTL.out.below hbo).below h2
            have h4 := (HTL.out.at0 0 (by omega)).2
            rw [World.size_alloc] at h1
            exact ⟨h1, h3, by omega, (h1.own.lt _ rfl).2⟩
          have HMK3 : Hid (∀ w2 w3, (MI W0 W0.heap.size (.cells #[.int .i64 s.axis, .int .i64 s.test, .string (strL s.name), .slice wa s.wher.length wn] 48) (W0.heap.size + 1) n (List.replicate n 0) w2 ∧ TsAt w2 (some ⟨Q, 0, none⟩) n led ∧ Q < W0.heap.size + 1 ∧ W0.heap.size + 1 < w2.heap.size) → w3.ownsRow w2.heap.size 41 1 (.slice (some ⟨w2.heap.size, 0, none⟩) n n) n (madeCells (Value.int .i64 0).cells (n * 1)).toList → w2.grownBy w3 none → MB W0 W0.heap.size (.cells #[.int .i64 s.axis, .int .i64 s.test, .string (strL s.name), .slice wa s.wher.length wn] 48) Q (W0.heap.size + 1) w2.heap.size n led (List.replicate n 0) (List.replicate n 0) w3 ∧ w3.cell? ⟨hb, 1, none⟩ = some (.slice na n nc)) := Lib.hid fun w2 w3 ⟨g1, g2, g3, g4⟩ hown hgr => by
            obtain ⟨h1, h2⟩ := MI.made g1.old g1.box hown hgr
            exact ⟨⟨g2.below h2, g1.below h2, h1, by omega, by omega, by omega⟩, HCN.out _ (HJ.out.2.1.trans (h1.old.mono HJ.out.2.1.size))⟩
          have i2 : (0 : Int) ≤ (j : Int) := by omega
          have i3 : (j : Int) < (q : Int) := by omega
          have ewi : IntKind.i64.wrap ((j : Int) + 1) = (j : Int) + 1 := IntWalk.i64_in _ (by omega)
          go_wp2_with (at_make; go_must (first | ((refine wpList_make_full (W0.alloc (.cells #[.int .i64 s.axis, .int .i64 s.test, .string (strL s.name), .slice wa s.wher.length wn] 48)) (by rfl) _ _ 65 (by rfl) (W0.alloc (.cells #[.int .i64 s.axis, .int .i64 s.test, .string (strL s.name), .slice wa s.wher.length wn] 48)).heap.size 41 i0 _ 1 Tryd.underlying65 hi hz0 hz1 .i64 .i64 (n : Int) (n : Int) n (by rfl) (by rfl) rfl rfl (by rw [hz2]; omega) (by unfold maxLen; omega) (Nat.le_refl _) (fun w2 hown2 hgr2 => ?_)); have HM2 := Lib.hid (HMK2.out w2 hown2 hgr2)) | ((refine wpList_make_full w2 (by rfl) _ _ 65 (by rfl) w2.heap.size 41 i0 _ 1 Tryd.underlying65 hi hz0 hz1 .i64 .i64 (n : Int) (n : Int) n (by rfl) (by rfl) rfl rfl (by rw [hz2]; omega) (by unfold maxLen; omega) (Nat.le_refl _) (fun w3 hown3 hgr3 => ?_)); have HM3 := Lib.hid (HMK3.out w2 w3 HM2.out hown3 hgr3); have c3 := HM3.out.2)))
          have HMB := Lib.hid HM3.out.1
          clear hown2 hgr2 hown3 hgr3 HM2 HM3 HMK2 HMK3 c3
          generalize W0.heap.size + 1 = P1 at *
          generalize w2.heap.size = P2 at *
          have HPD : Hid (∀ k, k < n → frT hs led s.axis k = if s.axis = 0 then parV hs led k else if s.axis = 1 then (abvAll hs led (k + 1)).getD k 0 else if s.axis = 2 then orL [(abvAll hs led (k + 1)).getD k 0, led.getD k 0] else led.getD k 0) := Lib.hid fun k _ => rfl
          go_loopw [50] (fun iv wr => ∃ k : Nat, iv = .int .i64 k ∧ k ≤ n ∧ Hid (MB W0 W0.heap.size (.cells #[.int .i64 s.axis, .int .i64 s.test, .string (strL s.name), .slice wa s.wher.length wn] 48) Q P1 P2 n led (mixR n k (frT hs led s.axis) (fun _ => 0)) (abvAll hs led k) wr)) (fun iv _ => n - (intOf iv).toNat)
          case atStart => exact ⟨0, rfl, Nat.zero_le _, Lib.hid (by rw [← rep_mix, abvAll_zero, HN.out]; exact HMB.out)⟩
          case round =>
            obtain ⟨k, rfl, hk, HM⟩ := hrel
            by_cases hkn : k < n
            · have hkl : k < hs.length := by rw [HN.out]; exact hkn
              obtain ⟨nb, no, A, m, c', rfl, hnbl, hm, hA, hat, htx, hcells⟩ := HROW.out k hkl
              obtain ⟨e0, e1, e2, e3, e4, e5, e6, e7, e8, e9, e10, e11, e12, e13⟩ := hcells wr (HJ.out.2.1.trans (HM.out.one.old.mono hs1))
              have z2 := HM.out.two.at k hkn
              have f2 := HM.out.two.frozen k
              have l2 := (HM.out.two.own.lt P2 rfl).2
              have n02 := HM.out.n02
              have n20 : ¬ P2 = Q := fun e => n02 e.symm
              have i7 : (0 : Int) ≤ (k : Int) := by omega
              have i8 : (k : Int) < (n : Int) := by omega
              have ewk : IntKind.i64.wrap ((k : Int) + 1) = (k : Int) + 1 := IntWalk.i64_in _ (by omega)
              have HPV : Hid ((¬ 0 ≤ hs[k].par ∧ parV hs led k = 0 ∧ abvAll hs led (k + 1) = (abvAll hs led k).set k 0) ∨ ∃ p : Nat, hs[k].par = (p : Int) ∧ p < k ∧ parV hs led k = led.getD p 0 ∧ abvAll hs led (k + 1) = (abvAll hs led k).set k (orL [(abvAll hs led k).getD p 0, led.getD p 0])) := Lib.hid (by
                by_cases hp : 0 ≤ hs[k].par
                · have hk1 : 1 ≤ k := by
                    rcases Nat.eq_zero_or_pos k with h0 | h0
                    · subst h0
                      have := HROOT.out _ (List.getElem?_eq_getElem hkl)
                      omega
                    · exact h0
                  have h1 := HPAR.out k _ (List.getElem?_eq_getElem hkl) hk1
                  refine .inr ⟨hs[k].par.toNat, by omega, by omega, parV_at hs led k hkl (by omega), ?_⟩
                  rw [abvAll_succ, abvV_at hs led _ k hkl (p := hs[k].par.toNat) (by omega)]
                · exact .inl ⟨hp, parV_no hs led k hkl hp, by rw [abvAll_succ, abvV_no hs led _ k hkl hp]⟩)
              clear hcells hA hat hm htx hnbl
              generalize hs[k]'hkl = hn' at *
              generalize (abvAll hs led k).getD k 0 = zz at z2
              go_upto_if 60 with fail
              go_cut [13] from 53 to 116 (fun s13 wx => s13 = .int .i64 (parV hs led k) ∧ Hid (MB W0 W0.heap.size (.cells #[.int .i64 s.axis, .int .i64 s.test, .string (strL s.name), .slice wa s.wher.length wn] 48) Q P1 P2 n led (mixR n k (frT hs led s.axis) (fun _ => 0)) (abvAll hs led (k + 1)) wx))
              case first =>
                rcases HPV.out with ⟨hp, hpv, hab⟩ | ⟨p, hp, hpk, hpv, hab⟩
                · have HNX : Hid (MB W0 W0.heap.size (.cells #[.int .i64 s.axis, .int .i64 s.test, .string (strL s.name), .slice wa s.wher.length wn] 48) Q P1 P2 n led (mixR n k (frT hs led s.axis) (fun _ => 0)) (abvAll hs led (k + 1)) (wr.setCell ⟨P2, k, none⟩ (.int .i64 0))) := Lib.hid (by rw [hab]; exact HM.out.set2 k 0)
                  have HVV : Hid (parV hs led k = 0) := Lib.hid hpv
                  have t9 : hn'.par < 0 := by omega
                  clear hab hpv hp
                  go_wp2_with fail
                  go_meet
                  case rel => exact ⟨by rw [HVV.out], Lib.hid (HNX.out.below ((Below.refl _ _).alloc (Nat.le_refl _) _))⟩
                · obtain ⟨y1, l0⟩ := HM.out.ts.at0 p (by omega)
                  have y2 := HM.out.two.at p (by omega)
                  have HNX : Hid (MB W0 W0.heap.size (.cells #[.int .i64 s.axis, .int .i64 s.test, .string (strL s.name), .slice wa s.wher.length wn] 48) Q P1 P2 n led (mixR n k (frT hs led s.axis) (fun _ => 0)) (abvAll hs led (k + 1)) ((wr.setCell ⟨P2, k, none⟩ (.int .i64 0)).setCell ⟨P2, k, none⟩ (.int .i64 (orL [(abvAll hs led k).getD p 0, led.getD p 0])))) := Lib.hid (by
                    have := (HM.out.set2 k 0).set2 k (orL [(abvAll hs led k).getD p 0, led.getD p 0])
                    rw [List.set_set] at this
                    rw [hab]; exact this)
                  have HVV : Hid (parV hs led k = led.getD p 0) := Lib.hid hpv
                  have j1 : ¬ p = k := by omega
                  have j2 : ¬ k = p := by omega
                  have j3 : (0 : Int) ≤ (p : Int) := by omega
                  have j4 : (p : Int) < (n : Int) := by omega
                  clear hab hpv
                  generalize led.getD p 0 = v1 at *
                  generalize (abvAll hs led k).getD p 0 = v2 at *
                  rw [hp]
                  go_wp2_with fail
                  (with_reducible refine (HOR2.out v2 v1 _ _ ?_).mono ?_)
                  · exact alloc_atH _ _ (by simp)
                  rintro e w6 ⟨rfl, rfl⟩
                  go_wp2_with fail
                  go_meet
                  case rel => exact ⟨by rw [HVV.out], Lib.hid (HNX.out.below (((Below.refl _ _).alloc (Nat.le_refl _) _).alloc (by simp) _))⟩
              case rest =>
                obtain ⟨rfl, HJ2⟩ := hcut
                have x0 : wc.cell? ⟨W0.heap.size, 0, none⟩ = some (.int .i64 s.axis) := by rw [cell_heap HJ2.out.one.box]; rfl
                have g1 := HJ2.out.one.at k hkn
                have f1 := HJ2.out.one.frozen k
                have l1 := (HJ2.out.one.own.lt P1 rfl).2
                have HNY : Hid (∀ v, v = frT hs led s.axis k → MB W0 W0.heap.size (.cells #[.int .i64 s.axis, .int .i64 s.test, .string (strL s.name), .slice wa s.wher.length wn] 48) Q P1 P2 n led (mixR n (k + 1) (frT hs led s.axis) (fun _ => 0)) (abvAll hs led (k + 1)) (wc.setCell ⟨P1, k, none⟩ (.int .i64 v))) := Lib.hid fun v hv => by
                  have := HJ2.out.set1 k v
                  rwa [mixR_set _ _ _ _ _ hv] at this
                have g2 := HJ2.out.two.at k hkn
                have g3 := (HJ2.out.ts.at0 k hkn).1
                have HPK := Lib.hid (HPD.out k hkn)
                generalize frT hs led s.axis k = fv at *
                generalize (mixR n k (frT hs led s.axis) (fun _ => 0)).getD k 0 = yy at g1
                generalize (abvAll hs led (k + 1)).getD k 0 = v2 at *
                generalize led.getD k 0 = v1 at *
                generalize parV hs led k = v3 at *
                clear e0 e1 e2 e3 e4 e5 e6 e7 e8 e9 e10 e11 e12 e13 z2 HPV HM
                by_cases a0 : s.axis = 0
                · have HF : Hid (v3 = fv) := Lib.hid (by have := HPK.out; rw [if_pos a0] at this; exact this.symm)
                  have t0 : ((s.axis : Int) == 0) = true := by simpa using a0
                  clear a0 HPK
                  go_wp2_with fail
                  go_roundw
                  case rel => exact ⟨k + 1, by go_num, by omega, Lib.hid (HNY.out v3 HF.out)⟩
                  case measure => simp [intOf]; omega
                have t0 : ((s.axis : Int) == 0) = false := by simpa using a0
                by_cases a1 : s.axis = 1
                · have HF : Hid (v2 = fv) := Lib.hid (by have := HPK.out; rw [if_neg a0, if_pos a1] at this; exact this.symm)
                  have t1 : ((s.axis : Int) == 1) = true := by simpa using a1
                  clear a0 a1 HPK
                  go_wp2_with fail
                  go_roundw
                  case rel => exact ⟨k + 1, by go_num, by omega, Lib.hid (HNY.out v2 HF.out)⟩
                  case measure => simp [intOf]; omega
                have t1 : ((s.axis : Int) == 1) = false := by simpa using a1
                by_cases a2 : s.axis = 2
                · have HF : Hid (orL [v2, v1] = fv) := Lib.hid (by have := HPK.out; rw [if_neg a0, if_neg a1, if_pos a2] at this; exact this.symm)
                  have t2 : ((s.axis : Int) == 2) = true := by simpa using a2
                  clear a0 a1 a2 HPK
                  go_wp2_with fail
                  go_region_with (first | (go_at_call 33; (with_reducible refine (HORD.out v2 v1 _ _ (heap_alloc_new _ _)).mono ?_); rintro e w6 ⟨rfl, rfl⟩))
                  all_goals
                    go_wp2_with fail
                    go_roundw
                    case rel => exact ⟨k + 1, by go_num, by omega, Lib.hid ((HNY.out _ HF.out).below (((Below.refl _ _).alloc (Nat.le_refl _) _).drew))⟩
                    case measure => simp [intOf]; omega
                have t2 : ((s.axis : Int) == 2) = false := by simpa using a2
                have HF : Hid (v1 = fv) := Lib.hid (by have := HPK.out; rw [if_neg a0, if_neg a1, if_neg a2] at this; exact this.symm)
                clear a0 a1 a2 HPK
                go_wp2_with fail
                go_roundw
                case rel => exact ⟨k + 1, by go_num, by omega, Lib.hid (HNY.out v1 HF.out)⟩
                case measure => simp [intOf]; omega
            · have hk2 : n = k := by omega
              subst hk2
              have HT2 : Hid (TsAt wr (some ⟨P1, 0, none⟩) n (rowOf n (frT hs led s.axis))) := Lib.hid (by have := HM.out.one.ts; rwa [mixR_all] at this)
              have HM4 := Lib.hid (HMT.out _ _ wr HM.out.one.old HT2.out)
              have x0 : wr.cell? ⟨W0.heap.size, 0, none⟩ = some (.int .i64 s.axis) := by rw [cell_heap HM.out.one.box]; rfl
              have x1 : wr.cell? ⟨W0.heap.size, 1, none⟩ = some (.int .i64 s.test) := by rw [cell_heap HM.out.one.box]; rfl
              have x2 : wr.cell? ⟨W0.heap.size, 2, none⟩ = some (.string (strL s.name)) := by rw [cell_heap HM.out.one.box]; rfl
              have x3 : wr.cell? ⟨W0.heap.size, 3, none⟩ = some (.slice wa s.wher.length wn) := by rw [cell_heap HM.out.one.box]; rfl
              have HOB : Hid (Below w.heap.size w wr ∧ wr.heap[w.heap.size]? = some (.cells #[.slice (some ⟨b, o, none⟩) q pc] 27 (0, 0)) ∧ w.heap.size < wr.heap.size) := Lib.hid (by
                have h1 := HJ.out.2.1.trans (HM.out.one.old.mono hs1)
                have h2 := (Array.getElem?_eq_some_iff.1 HJ.out.2.2.1).1
                exact ⟨h1, (HM.out.one.old.block _ h2).trans HJ.out.2.2.1, Nat.lt_of_lt_of_le h2 HM.out.one.old.size⟩)
              clear HM hk hkn
              go_wp2_with fail
              (with_reducible refine HM4.out.mono ?_)
              rintro e w6 ⟨P6, rfl, hP6, hT6, hb6⟩
              have HX6 : Hid (w.heap.size ≤ P6 ∧ Below w.heap.size w w6 ∧ w6.heap[w.heap.size]? = some (.cells #[.slice (some ⟨b, o, none⟩) q pc] 27 (0, 0)) ∧ TsAt w6 (some ⟨P6, 0, none⟩) n (pathT (exprT hs f) hs ss (j + 1))) := Lib.hid ⟨by have := HOB.out.2.2; omega, HOB.out.1.trans (hb6.mono HOB.out.1.size), (hb6.block _ HOB.out.2.2).trans HOB.out.2.1, by rw [HPJ.out]; exact hT6⟩
              clear hP6 hT6 hb6 x0 x1 x2 x3
              go_wp2_with fail
              go_roundw
              case rel => exact ⟨j + 1, P6, rfl, by go_num, by omega, HX6⟩
              case measure => simp [intOf]; omega
        · have hjq2 : j = q := by omega
          have HF : Hid (w.heap.size ≤ Q ∧ Below w.heap.size w W0 ∧ TsAt W0 (some ⟨Q, 0, none⟩) n R) := Lib.hid ⟨HJ.out.1, HJ.out.2.1, by have := HJ.out.2.2.2; rw [hjq2, HRR.out] at this; exact this⟩
          clear HJ
          go_wp2_with fail
          go_ret
          exact ⟨Q, rfl, HF.out.1, HF.out.2.2, HF.out.2.1⟩
end Go.Proofs.YtklpihaelaagpaaDoor
