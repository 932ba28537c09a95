/-
  half: back.
-/
import Derived.Test.YtklpihaelaagpaaDoorLgM
import Derived.Test.YtklpihaelaagpaaDoorProg
import Derived.Shelf.Unicode.ValidAny
import Derived.Lib.LaidU8T
import Derived.Test.YtklpihaelaagpaaDoorLgE
import Derived.Test.YtklpihaelaagpaaDoorLgJ
import Derived.Test.YtklpihaelaagpaaDoorShelf
namespace Go.Proofs.YtklpihaelaagpaaDoor
open Go.RowKit

def opT (hs : List HN) (k : Nat) : Int := if (hs[k]?.map fun (h : HN) => h.op).getD false then 1 else 0
theorem opT_at {hs : List HN} {k : Nat} (h : k < hs.length) : opT hs k = if hs[k].op then 1 else 0 := by unfold opT; rw [List.getElem?_eq_getElem h]; rfl
theorem rep_mix (n : Nat) (g : Nat → Int) : List.replicate n (0 : Int) = mixR n 0 g (fun _ => 0) := by
  rw [mixR_zero]
  refine List.ext_getElem (by rw [List.length_replicate, rowOf_len]) fun i h1 h2 => ?_
  rw [rowOf_get]; simp
theorem cdAll_top {hs : List HN} {n : Nat} (h : hs.length = n) (he : List Int) : cdAll hs he n = (rowOf n (opT hs), rowOf n (opT hs)) := by subst h; exact cdAll_end hs he
theorem cdAll_at {hs : List HN} (he : List Int) (i p : Nat) (hi : i < hs.length) (hp : hs[i].par = (p : Int)) : cdAll hs he i = ((cdAll hs he (i + 1)).1.set p (orL [(cdAll hs he (i + 1)).1.getD p 0, he.getD i 0]), (cdAll hs he (i + 1)).2.set p (orL [(cdAll hs he (i + 1)).2.getD p 0, he.getD i 0, (cdAll hs he (i + 1)).2.getD i 0])) := by
  rw [cdAll_step hs he i hi]
  unfold cdStep
  rw [List.getElem?_eq_getElem hi]
  simp only [Option.map_some, Option.getD_some, hp, Int.toNat_natCast]
set_option maxRecDepth 100000 in
set_option maxHeartbeats 8000000 in
theorem back_any {hb : Nat} {hs : List HN} {f : Nat} (HX : HalfX hb hs f) (s : PS) (wa : Option Addr) (wn : Nat) (a : Option Addr) (c : Nat) (l : List Int) (w : World) (hH : HAt w hb hs) (hx : XsAt f w wa s.wher) (hn : s.wher.length ≤ 1048576) (hg : s.wher.all (goodXB f) = true) (hT : TsAt w a hs.length l) :
    Calls Tryd.prog 31 #[.pointer (some ⟨hb, 0, none⟩), .agg (stepC s wa wn).toArray, .slice a hs.length c] w fun e w' => ∃ P, e = .returned (.slice (some ⟨P, 0, none⟩) hs.length hs.length) ∧ w.heap.size ≤ P ∧ TsAt w' (some ⟨P, 0, none⟩) hs.length (backT (exprT hs f) hs s l) ∧ Below w.heap.size w w' := by
  obtain ⟨i0, hi, hz0, hz1, hz2⟩ := info_parts infoTru
  have HH := Lib.hid hH
  obtain ⟨na, nc, hlt, hcn, hrow⟩ := hH.get
  have HROW := Lib.hid hrow
  have HPAR := Lib.hid hH.par
  have hcap := hH.cap
  have hpos := hH.pos
  have HOR2 : Hid (∀ (p q : Int) (W : World) (Q : Nat), W.heap[Q]? = some (.cells #[.int .i64 p, .int .i64 q] 41 (0, 0)) → Calls Tryd.prog 33 #[.slice (some ⟨Q, 0, none⟩) 2 2] W.drew fun e w' => e = .returned (.int .i64 (orL [p, q])) ∧ w' = W.drew) := Lib.hid fun p q W Q h => kOr_any _ 2 2 [p, q] W.drew (ts_two h) (by decide)
  have HOR3 : Hid (∀ (p q r : Int) (W : World) (Q : Nat), W.heap[Q]? = some (.cells #[.int .i64 p, .int .i64 q, .int .i64 r] 41 (0, 0)) → Calls Tryd.prog 33 #[.slice (some ⟨Q, 0, none⟩) 3 3] W.drew fun e w' => e = .returned (.int .i64 (orL [p, q, r])) ∧ w' = W.drew) := Lib.hid fun p q r W Q h => kOr_any _ 3 3 [p, q, r] W.drew (ts_three h) (by decide)
  obtain ⟨n, hnn⟩ : ∃ n, hs.length = n := ⟨_, rfl⟩
  have HN := Lib.hid hnn
  have HCN : Hid (∀ W, Below w.heap.size w W → W.cell? ⟨hb, 1, none⟩ = some (.slice na n nc)) := Lib.hid (by rw [← hnn]; exact hcn)
  obtain ⟨he, hhe⟩ : ∃ he, metT (exprT hs f) hs s l = he := ⟨_, rfl⟩
  have HBT : Hid (backT (exprT hs f) hs s l = if s.axis = 3 then he else if s.axis = 0 then (cdAll hs he 1).1 else if s.axis = 2 then rowOf n fun k => orL [(cdAll hs he 1).2.getD k 0, he.getD k 0] else (cdAll hs he 1).2) := Lib.hid (by unfold backT; simp only [hhe, hnn])
  have HME : Hid (∀ W, Below w.heap.size w W → Calls Tryd.prog 36 #[.pointer (some ⟨hb, 0, none⟩), .agg #[.int .i64 s.axis, .int .i64 s.test, .string (strL s.name), .slice wa s.wher.length wn], .slice a n c] W fun e w' => ∃ P, e = .returned (.slice (some ⟨P, 0, none⟩) n n) ∧ W.heap.size ≤ P ∧ TsAt w' (some ⟨P, 0, none⟩) n he ∧ Below W.heap.size W w') := Lib.hid fun W hW => by
    have := met_any HX s wa wn a c l W (hH.below hW) (hx.below hW) hn hg (hT.below hW)
    rw [hnn, hhe] at this; exact this
  have HB1 : Hid (∀ o, Below w.heap.size w (w.alloc o) ∧ (w.alloc o).heap[w.heap.size]? = some o ∧ (w.alloc o).heap.size = w.heap.size + 1) := Lib.hid fun o => ⟨(Below.refl w.heap.size w).alloc (Nat.le_refl _) _, heap_alloc_new w _, by simp⟩
  obtain ⟨R, hR⟩ : ∃ R, backT (exprT hs f) hs s l = R := ⟨_, rfl⟩
  rw [hR, hnn]
  rw [hR] at HBT
  rw [hnn] at hcap hpos
  unfold stepC
  clear hR hH hrow hcn hx hT hg HX hhe
  go_enter Tryd.func31, Tryd.ntmps31
  go_wp2_with fail
  (with_reducible refine (HME.out _ (HB1.out _).1).mono ?_)
  rintro e w1 ⟨P0, rfl, hP0, hts, hb1⟩
  have hbox1 := (hb1.block w.heap.size (by rw [(HB1.out (.cells #[.int .i64 s.axis, .int .i64 s.test, .string (strL s.name), .slice wa s.wher.length wn] 48)).2.2]; omega)).trans (HB1.out (.cells #[.int .i64 s.axis, .int .i64 s.test, .string (strL s.name), .slice wa s.wher.length wn] 48)).2.1
  have hold1 := (HB1.out (.cells #[.int .i64 s.axis, .int .i64 s.test, .string (strL s.name), .slice wa s.wher.length wn] 48)).1.trans (hb1.mono (HB1.out (.cells #[.int .i64 s.axis, .int .i64 s.test, .string (strL s.name), .slice wa s.wher.length wn] 48)).1.size)
  have hlo : w.heap.size ≤ P0 := by rw [(HB1.out (.cells #[.int .i64 s.axis, .int .i64 s.test, .string (strL s.name), .slice wa s.wher.length wn] 48)).2.2] at hP0; omega
  have a0 : w1.cell? ⟨w.heap.size, 0, none⟩ = some (.int .i64 s.axis) := by rw [cell_heap hbox1]; rfl
  by_cases h3 : s.axis = 3
  · rw [if_pos h3] at HBT
    have HF := Lib.hid (⟨hlo, hts, hold1⟩ : _ ∧ _ ∧ _)
    clear hts hold1 hbox1 hb1
    generalize s.axis = ax at *
    subst h3
    go_wp2_with fail
    go_ret
    exact ⟨P0, rfl, HF.out.1, by rw [HBT.out]; exact HF.out.2.1, HF.out.2.2⟩
  rw [if_neg h3] at HBT
  have t3 : ((s.axis : Int) == 3) = false := by simpa using h3
  have HMK2 : Hid (∀ w2, w2.ownsRow w1.heap.size 41 1 (.slice (some ⟨w1.heap.size, 0, none⟩) n n) n (madeCells (Value.int .i64 0).cells (n * 1)).toList → w1.grownBy w2 none → MI w w.heap.size (.cells #[.int .i64 s.axis, .int .i64 s.test, .string (strL s.name), .slice wa s.wher.length wn] 48) w1.heap.size n (List.replicate n 0) w2 ∧ TsAt w2 (some ⟨P0, 0, none⟩) n he ∧ P0 < w1.heap.size ∧ w1.heap.size < w2.heap.size ∧ w2.cell? ⟨hb, 1, none⟩ = some (.slice na n nc)) := Lib.hid fun w2 hown hgr => by
    obtain ⟨h1, h2⟩ := MI.made hold1 hbox1 hown hgr
    exact ⟨h1, hts.below h2, (hts.at0 0 (by omega)).2, (h1.own.lt _ rfl).2, HCN.out _ h1.old⟩
  have HMK3 : Hid (∀ w2 w3, (MI w w.heap.size (.cells #[.int .i64 s.axis, .int .i64 s.test, .string (strL s.name), .slice wa s.wher.length wn] 48) w1.heap.size n (List.replicate n 0) w2 ∧ TsAt w2 (some ⟨P0, 0, none⟩) n he ∧ P0 < w1.heap.size ∧ w1.heap.size < w2.heap.size ∧ w2.cell? ⟨hb, 1, none⟩ = some (.slice na n nc)) → w3.ownsRow w2.heap.size 41 1 (.slice (some ⟨w2.heap.size, 0, none⟩) n n) n (madeCells (Value.int .i64 0).cells (n * 1)).toList → w2.grownBy w3 none → MB w w.heap.size (.cells #[.int .i64 s.axis, .int .i64 s.test, .string (strL s.name), .slice wa s.wher.length wn] 48) P0 w1.heap.size w2.heap.size n he (List.replicate n 0) (List.replicate n 0) w3 ∧ w3.cell? ⟨hb, 1, none⟩ = some (.slice na n nc)) := Lib.hid fun w2 w3 ⟨g1, g2, g3, g4, _⟩ hown hgr => by
    obtain ⟨h1, h2⟩ := MI.made g1.old g1.box hown hgr
    exact ⟨⟨g2.below h2, g1.below h2, h1, by omega, by omega, by omega⟩, HCN.out _ h1.old⟩
  have c1 := HCN.out w1 hold1
  clear hts hold1 hbox1 hb1 h3 hP0
  go_wp2_with (at_make; go_must (first | ((refine wpList_make_full w1 (by rfl) _ _ 65 (by rfl) w1.heap.size 41 i0 _ 1 Tryd.underlying65 hi hz0 hz1 .i64 .i64 (n : Int) (n : Int) n (by rfl) (by rfl) rfl rfl (by rw [hz2]; omega) (by unfold maxLen; omega) (Nat.le_refl _) (fun w2 hown2 hgr2 => ?_)); have HM2 := Lib.hid (HMK2.out w2 hown2 hgr2); have c2 := HM2.out.2.2.2.2) | ((refine wpList_make_full w2 (by rfl) _ _ 65 (by rfl) w2.heap.size 41 i0 _ 1 Tryd.underlying65 hi hz0 hz1 .i64 .i64 (n : Int) (n : Int) n (by rfl) (by rfl) rfl rfl (by rw [hz2]; omega) (by unfold maxLen; omega) (Nat.le_refl _) (fun w3 hown3 hgr3 => ?_)); have HM3 := Lib.hid (HMK3.out w2 w3 HM2.out hown3 hgr3); have c3 := HM3.out.2)))
  have HMB := Lib.hid HM3.out.1
  clear hown2 hgr2 hown3 hgr3 HM2 HM3 c1 c2 HMK2 HMK3 a0 HME
  generalize w1.heap.size = P1 at *
  generalize w2.heap.size = P2 at *
  obtain ⟨q, hq⟩ : ∃ q, n = q + 1 := ⟨n - 1, by omega⟩
  have HQ := Lib.hid hq
  have ewn : IntKind.i64.wrap ((n : Int) - 1) = (q : Int) := by rw [IntWalk.i64_in _ (by omega)]; omega
  clear hq
  go_loopw [40] (fun iv wr => ∃ k : Nat, iv = .int .i64 k ∧ k ≤ n ∧ Hid (MB w w.heap.size (.cells #[.int .i64 s.axis, .int .i64 s.test, .string (strL s.name), .slice wa s.wher.length wn] 48) P0 P1 P2 n he (mixR n k (opT hs) (fun _ => 0)) (mixR n k (opT hs) (fun _ => 0)) wr)) (fun iv _ => n - (intOf iv).toNat)
  case atStart => exact ⟨0, rfl, Nat.zero_le _, Lib.hid (by rw [← rep_mix]; exact HMB.out)⟩
  case round =>
    obtain ⟨k, rfl, hk, HM⟩ := hrel
    by_cases hkn : k < n
    · obtain ⟨b, o, A, m, c', rfl, hbl, hm, hA, hat, htx, hcells⟩ := HROW.out k (by rw [HN.out]; exact hkn)
      obtain ⟨e0, e1, e2, e3, e4, e5, e6, e7, e8, e9, e10, e11, e12, e13⟩ := hcells wr HM.out.one.old
      have hopt := opT_at (hs := hs) (k := k) (by rw [HN.out]; exact hkn)
      have hm0 : ∀ j : Nat, (mixR n j (opT hs) (fun _ => 0)).length = n := fun j => mixR_len ..
      have z1 : wr.cell? ⟨P1, k, none⟩ = some (.int .i64 0) := by
        have h1 := HM.out.one.at k hkn
        rwa [List.getD_eq_getElem?_getD, mixR_get _ _ _ _ _ hkn (Nat.le_refl _), Option.getD_some] at h1
      have z2 : wr.cell? ⟨P2, k, none⟩ = some (.int .i64 0) := by
        have h1 := HM.out.two.at k hkn
        rwa [List.getD_eq_getElem?_getD, mixR_get _ _ _ _ _ hkn (Nat.le_refl _), Option.getD_some] at h1
      have f1 := HM.out.one.frozen k
      have f2 := HM.out.two.frozen k
      have l1 := (HM.out.one.own.lt P1 rfl).2
      have l2 := (HM.out.two.own.lt P2 rfl).2
      have n12 := HM.out.n12
      have n21 : ¬ P2 = P1 := fun e => n12 e.symm
      have HNX : Hid (∀ v, v = opT hs k → MB w w.heap.size (.cells #[.int .i64 s.axis, .int .i64 s.test, .string (strL s.name), .slice wa s.wher.length wn] 48) P0 P1 P2 n he (mixR n (k + 1) (opT hs) (fun _ => 0)) (mixR n (k + 1) (opT hs) (fun _ => 0)) ((wr.setCell ⟨P1, k, none⟩ (.int .i64 v)).setCell ⟨P2, k, none⟩ (.int .i64 v))) := Lib.hid fun v hv => by
        have h1 := (HM.out.set1 k v).set2 k v
        rwa [mixR_set _ _ _ _ _ hv] at h1
      have HNY : Hid (∀ u v, v = opT hs k → MB w w.heap.size (.cells #[.int .i64 s.axis, .int .i64 s.test, .string (strL s.name), .slice wa s.wher.length wn] 48) P0 P1 P2 n he (mixR n (k + 1) (opT hs) (fun _ => 0)) (mixR n (k + 1) (opT hs) (fun _ => 0)) (((wr.setCell ⟨P1, k, none⟩ (.int .i64 u)).setCell ⟨P1, k, none⟩ (.int .i64 v)).setCell ⟨P2, k, none⟩ (.int .i64 v))) := Lib.hid fun u v hv => by
        have h1 := ((HM.out.set1 k u).set1 k v).set2 k v
        rwa [List.set_set, mixR_set _ _ _ _ _ hv] at h1
      clear hcells hA hat hm htx hm0
      generalize hs[k]'(by rw [HN.out]; exact hkn) = hn' at *
      have i2 : (0 : Int) ≤ (k : Int) := by omega
      have i3 : (k : Int) < (n : Int) := by omega
      have ewi : IntKind.i64.wrap ((k : Int) + 1) = (k : Int) + 1 := IntWalk.i64_in _ (by omega)
      cases hop : hn'.op with
      | true =>
        rw [hop] at e10
        have HV : Hid ((1 : Int) = opT hs k) := Lib.hid (by rw [hopt, hop]; rfl)
        clear hopt
        go_wp2_with fail
        go_roundw
        case rel => exact ⟨k + 1, by go_num, by omega, Lib.hid ((HNY.out 0 1 HV.out).below ((Below.refl _ _).alloc (Nat.le_refl _) _))⟩
        case measure => simp [intOf]; omega
      | false =>
        rw [hop] at e10
        have HV : Hid ((0 : Int) = opT hs k) := Lib.hid (by rw [hopt, hop]; rfl)
        clear hopt
        go_wp2_with fail
        go_roundw
        case rel => exact ⟨k + 1, by go_num, by omega, Lib.hid ((HNX.out 0 HV.out).below ((Below.refl _ _).alloc (Nat.le_refl _) _))⟩
        case measure => simp [intOf]; omega
    · have hk2 : n = k := by omega
      subst hk2
      have HM2 : Hid (MB w w.heap.size (.cells #[.int .i64 s.axis, .int .i64 s.test, .string (strL s.name), .slice wa s.wher.length wn] 48) P0 P1 P2 n he (cdAll hs he n).1 (cdAll hs he n).2 wr) := Lib.hid (by have := HM.out; rw [mixR_all] at this; rw [cdAll_top HN.out]; exact this)
      have c4 := HCN.out wr HM.out.one.old
      clear HM hk hkn HMB c3
      go_wp2_with fail
      go_loopw [12] (fun iv wr => ∃ i : Nat, iv = .int .i64 i ∧ i < n ∧ Hid (MB w w.heap.size (.cells #[.int .i64 s.axis, .int .i64 s.test, .string (strL s.name), .slice wa s.wher.length wn] 48) P0 P1 P2 n he (cdAll hs he (i + 1)).1 (cdAll hs he (i + 1)).2 wr)) (fun iv _ => (intOf iv).toNat)
      case atStart => exact ⟨q, rfl, by have := HQ.out; omega, Lib.hid (by rw [← HQ.out]; exact HM2.out)⟩
      case round =>
        obtain ⟨i, rfl, hin, HI⟩ := hrel
        by_cases hi0 : 0 < i
        · obtain ⟨b, o, A, m, c', rfl, hbl, hm, hA, hat, htx, hcells⟩ := HROW.out i (by rw [HN.out]; exact hin)
          obtain ⟨e0, e1, e2, e3, e4, e5, e6, e7, e8, e9, e10, e11, e12, e13⟩ := hcells wr HI.out.one.old
          obtain ⟨hp0, hp1⟩ := HPAR.out i (hs[i]'(by rw [HN.out]; exact hin)) (List.getElem?_eq_getElem _) hi0
          obtain ⟨p, hpp⟩ : ∃ p : Nat, (hs[i]'(by rw [HN.out]; exact hin)).par = (p : Int) := ⟨(hs[i]'(by rw [HN.out]; exact hin)).par.toNat, by omega⟩
          have HST := Lib.hid (cdAll_at he i p (by rw [HN.out]; exact hin) hpp)
          rw [hpp] at e9 hp1
          have hpn : p < n := by omega
          have hpi : (p : Int) < (n : Int) := by omega
          have hpi0 : (0 : Int) ≤ (p : Int) := by omega
          have i5 : (0 : Int) < (i : Int) := by omega
          have i50 : (0 : Int) ≤ (i : Int) := by omega
          have i6 : (i : Int) < (n : Int) := by omega
          obtain ⟨i', hi'⟩ : ∃ i', i = i' + 1 := ⟨i - 1, by omega⟩
          have HI' := Lib.hid hi'
          have ewd : IntKind.i64.wrap ((i : Int) - 1) = (i' : Int) := by rw [IntWalk.i64_in _ (by omega)]; omega
          have c5 := HCN.out wr HI.out.one.old
          clear hcells hA hat hm htx e0 e1 e2 e3 e4 e5 e6 e7 e8 e10 e11 e12 e13 hi' hp0 hpp
          generalize (cdAll hs he (i + 1)).1 = cv at *
          generalize (cdAll hs he (i + 1)).2 = dv at *
          go_upto_region 18 with fail
          go_cut [] from 79 to 91 (fun wx => Hid (MB w w.heap.size (.cells #[.int .i64 s.axis, .int .i64 s.test, .string (strL s.name), .slice wa s.wher.length wn] 48) P0 P1 P2 n he (cv.set p (orL [cv.getD p 0, he.getD i 0])) dv wx))
          case first =>
            have z1 := HI.out.one.at p hpn
            obtain ⟨z2, l0⟩ := HI.out.ts.at0 i hin
            have f1 := HI.out.one.frozen p
            have l1 := (HI.out.one.own.lt P1 rfl).2
            have HNX := Lib.hid (HI.out.set1 p (orL [cv.getD p 0, he.getD i 0]))
            generalize cv.getD p 0 = v1 at *
            generalize he.getD i 0 = v2 at *
            go_region_with (first | (go_at_call 33; (with_reducible refine (HOR2.out v1 v2 _ _ (heap_alloc_new _ _)).mono ?_); rintro e w6 ⟨rfl, rfl⟩))
            all_goals
              go_wp2_with fail
              go_meet
              exact Lib.hid (HNX.out.below (((Below.refl _ _).alloc (Nat.le_refl _) _).drew))
          case rest =>
            have HJ := hcut
            clear hcut HI
            obtain ⟨z1, l0⟩ := HJ.out.ts.at0 i hin
            have z2 := HJ.out.two.at p hpn
            have z3 := HJ.out.two.at i hin
            have f1 := HJ.out.two.frozen p
            have l2 := (HJ.out.two.own.lt P2 rfl).2
            have HNX := Lib.hid (HJ.out.set2 p (orL [dv.getD p 0, he.getD i 0, dv.getD i 0]))
            have HNZ : Hid (MB w w.heap.size (.cells #[.int .i64 s.axis, .int .i64 s.test, .string (strL s.name), .slice wa s.wher.length wn] 48) P0 P1 P2 n he (cdAll hs he (i' + 1)).1 (cdAll hs he (i' + 1)).2 (wc.setCell ⟨P2, p, none⟩ (.int .i64 (orL [dv.getD p 0, he.getD i 0, dv.getD i 0])))) := Lib.hid (by rw [← HI'.out, HST.out]; exact HNX.out)
            clear HNX HST
            generalize dv.getD p 0 = v1 at *
            generalize he.getD i 0 = v2 at *
            generalize dv.getD i 0 = v3 at *
            go_upto_region 19 with fail
            go_region_with (first | (go_at_call 33; (with_reducible refine (HOR3.out v1 v2 v3 _ _ (heap_alloc_new _ _)).mono ?_); rintro e w6 ⟨rfl, rfl⟩))
            all_goals
              go_wp2_with fail
              go_roundw
              case rel => exact ⟨i', rfl, by have := HI'.out; omega, Lib.hid (HNZ.out.below (((Below.refl _ _).alloc (Nat.le_refl _) _).drew))⟩
              case measure => simp [intOf]; have := HI'.out; omega
        · have hi2 : i = 0 := by omega
          subst hi2
          have HF := Lib.hid HI.out
          rw [Nat.zero_add] at HF
          have a1 : wr.cell? ⟨w.heap.size, 0, none⟩ = some (.int .i64 s.axis) := by rw [cell_heap HF.out.one.box]; rfl
          obtain ⟨z, hz⟩ : ∃ z : Int, ((0 : Nat) : Int) = z := ⟨_, rfl⟩
          rw [hz]
          have t9 : z ≤ 0 := by omega
          clear hz
          clear HI HM2 c4
          generalize (cdAll hs he 1).1 = cv at *
          generalize (cdAll hs he 1).2 = dv at *
          by_cases h0 : s.axis = 0
          · have HR : Hid (R = cv) := Lib.hid (by have := HBT.out; rw [if_pos h0] at this; exact this)
            clear HBT t3
            generalize s.axis = ax at *
            subst h0
            go_wp2_with fail
            go_ret
            exact ⟨P1, rfl, HF.out.one.lo, by rw [HR.out]; exact HF.out.one.ts, HF.out.one.old⟩
          have t0 : ((s.axis : Int) == 0) = false := by simpa using h0
          by_cases h2 : s.axis = 2
          · have HR : Hid (R = rowOf n fun k => orL [dv.getD k 0, he.getD k 0]) := Lib.hid (by have := HBT.out; rw [if_neg h0, if_pos h2] at this; exact this)
            clear HBT t3 t0 h0
            generalize s.axis = ax at *
            subst h2
            go_wp2_with fail
            go_loopw [118] (fun jv wr => ∃ j : Nat, jv = .int .i64 j ∧ j ≤ n ∧ Hid (MB w w.heap.size (.cells #[.int .i64 2, .int .i64 s.test, .string (strL s.name), .slice wa s.wher.length wn] 48) P0 P1 P2 n he cv (mixR n j (fun k => orL [dv.getD k 0, he.getD k 0]) (fun k => dv.getD k 0)) wr)) (fun jv _ => n - (intOf jv).toNat)
            case atStart => exact ⟨0, rfl, Nat.zero_le _, Lib.hid (by rw [mixR_zero, rowOf_self _ _ HF.out.two.len]; exact HF.out)⟩
            case round =>
              obtain ⟨j, rfl, hjn, HJ⟩ := hrel
              by_cases hj : j < n
              · obtain ⟨z1, l0⟩ := HJ.out.ts.at0 j hj
                have z2 : wr.cell? ⟨P2, j, none⟩ = some (.int .i64 (dv.getD j 0)) := by
                  have h1 := HJ.out.two.at j hj
                  rwa [List.getD_eq_getElem?_getD, mixR_get _ _ _ _ _ hj (Nat.le_refl _), Option.getD_some] at h1
                have f2 := HJ.out.two.frozen j
                have l2 := (HJ.out.two.own.lt P2 rfl).2
                have HNX : Hid (MB w w.heap.size (.cells #[.int .i64 2, .int .i64 s.test, .string (strL s.name), .slice wa s.wher.length wn] 48) P0 P1 P2 n he cv (mixR n (j + 1) (fun k => orL [dv.getD k 0, he.getD k 0]) (fun k => dv.getD k 0)) (wr.setCell ⟨P2, j, none⟩ (.int .i64 (orL [dv.getD j 0, he.getD j 0])))) := Lib.hid (by
                  have h1 := HJ.out.set2 j (orL [dv.getD j 0, he.getD j 0])
                  rwa [mixR_set _ _ _ _ _ rfl] at h1)
                generalize dv.getD j 0 = v1 at *
                generalize he.getD j 0 = v2 at *
                have i5 : (0 : Int) ≤ (j : Int) := by omega
                have i6 : (j : Int) < (n : Int) := by omega
                have ewi : IntKind.i64.wrap ((j : Int) + 1) = (j : Int) + 1 := IntWalk.i64_in _ (by omega)
                go_wp2_with fail
                go_region_with (first | (go_at_call 33; (with_reducible refine (HOR2.out v1 v2 _ _ (heap_alloc_new _ _)).mono ?_); rintro e w6 ⟨rfl, rfl⟩))
                all_goals
                  go_wp2_with fail
                  go_roundw
                  case rel => exact ⟨j + 1, by go_num, by omega, Lib.hid (HNX.out.below (((Below.refl _ _).alloc (Nat.le_refl _) _).drew))⟩
                  case measure => simp [intOf]; omega
              · have hj2 : j = n := by omega
                have HE := Lib.hid HJ.out
                rw [hj2, mixR_all] at HE
                go_wp2_with fail
                go_ret
                exact ⟨P2, rfl, HE.out.two.lo, by rw [HR.out]; exact HE.out.two.ts, HE.out.two.old⟩
          have t2 : ((s.axis : Int) == 2) = false := by simpa using h2
          have HR : Hid (R = dv) := Lib.hid (by have := HBT.out; rw [if_neg h0, if_neg h2] at this; exact this)
          clear HBT t3 h0 h2
          generalize s.axis = ax at *
          go_wp2_with fail
          go_ret
          exact ⟨P2, rfl, HF.out.two.lo, by rw [HR.out]; exact HF.out.two.ts, HF.out.two.old⟩
end Go.Proofs.YtklpihaelaagpaaDoor

namespace Go.Proofs.YtklpihaelaagpaaDoor
open Go.RowKit

def validRen : Go.Shelf.Ren := ⟨fun | 196 => 58 | 259 => 73 | n => n, fun | 12 => 12 | 46 => 126 | 53 => 131 | 119 => 122 | 138 => 124 | 139 => 125 | n => n, fun | 3 => 0 | 4 => 1 | n => n⟩
theorem laysValid : Go.Proofs.Lays.n196 Tryd.prog validRen where
  mixed := by kernel_rfl
  f196 := Tryd.func58.trans (congrArg some (by kernel_rfl))
  f259 := Tryd.func73.trans (congrArg some (by kernel_rfl))
  t0 := Tryd.underlying0
  a0 := Tryd.isAgg0
  z0 := Tryd.sizeOf0
  v0 := Tryd.zeroValue0
  t3 := Tryd.underlying3
  a3 := Tryd.isAgg3
  z3 := Tryd.sizeOf3
  v3 := Tryd.zeroValue3
  t4 := Tryd.underlying4
  a4 := Tryd.isAgg4
  z4 := Tryd.sizeOf4
  v4 := Tryd.zeroValue4
  t5 := Tryd.underlying5
  a5 := Tryd.isAgg5
  z5 := Tryd.sizeOf5
  v5 := Tryd.zeroValue5
  t9 := Tryd.underlying9
  a9 := Tryd.isAgg9
  z9 := Tryd.sizeOf9
  v9 := Tryd.zeroValue9
  t12 := Tryd.underlying12
  a12 := Tryd.isAgg12
  z12 := Tryd.sizeOf12
  v12 := Tryd.zeroValue12
  t46 := Tryd.underlying126
  a46 := Tryd.isAgg126
  z46 := Tryd.sizeOf126
  v46 := Tryd.zeroValue126
  t53 := Tryd.underlying131
  a53 := Tryd.isAgg131
  z53 := Tryd.sizeOf131
  v53 := Tryd.zeroValue131
  t119 := Tryd.underlying122
  a119 := Tryd.isAgg122
  z119 := Tryd.sizeOf122
  t138 := Tryd.underlying124
  a138 := Tryd.isAgg124
  z138 := Tryd.sizeOf124
  v138 := Tryd.zeroValue124
  t139 := Tryd.underlying125
  a139 := Tryd.isAgg125
  z139 := Tryd.sizeOf125
  v139 := Tryd.zeroValue125
  g3 := by kernel_rfl
  g4 := by kernel_rfl
theorem Valid_any (s : ByteArray) (w : World) (hs : s.size ≤ 9223372036854775807) (hT : Lib.Utf8Tabs 0 1 w) :
    Calls Tryd.prog 58 #[.string s] w fun e w' => e = .returned (.bool (Lib.validD s.data.toList)) ∧ Below w.heap.size w w' :=
  Any.utf8_ValidString laysValid s w hs hT
theorem u8types : U8Types Tryd.prog validRen := U8Types.of196 laysValid
end Go.Proofs.YtklpihaelaagpaaDoor

namespace Go.Proofs.YtklpihaelaagpaaDoor
open Go.RowKit

set_option maxRecDepth 100000 in
set_option maxHeartbeats 1000000 in
theorem Name_any (l : List UInt8) (w : World) (hl : l.length ≤ 1073741824) (hR : RangesAt w 2) (hT : Lib.Utf8Tabs 0 1 w) :
    Calls Tryd.prog 41 #[.string (strU l)] w fun e w' => e = .returned (.bool (nameB l)) ∧ Below w.heap.size w w' := by
  have HR := Lib.hid hR
  have HT := Lib.hid hT
  have HV : Hid (∀ W, Below w.heap.size w W → Calls Tryd.prog 58 #[.string (strU l)] W fun e w' => e = .returned (.bool (Lib.validD l)) ∧ Below W.heap.size W w') := Lib.hid fun W hW => by
    have := Valid_any (strU l) W (by rw [strU_size]; omega) (Utf8Tabs_below HT.out hW)
    rw [strU_data] at this
    exact this
  have HI : Hid (∀ (c r : Nat) W, c < 6 → Below w.heap.size w W → Calls Tryd.prog 57 #[.int .i64 c, .int .i32 r] W fun e w' => e = .returned (.bool (isR (rng c) r)) ∧ Below W.heap.size W w') := Lib.hid fun c r W hc hW => Is_any c hc r W (HR.out.below hW)
  have HD : Hid (∀ pos, decL (l.drop pos) = Utf8.decode (strU l) pos) := Lib.hid (decL_str l)
  have HE : Hid (nameB l = (!l.isEmpty && (clsL 2 l && Lib.validD l))) := Lib.hid rfl
  have hse := strU_empty l
  have HZ : Hid ((strU l).size = l.length) := Lib.hid (strU_size l)
  clear hR hT HR HT
  generalize Lib.validD l = V at *
  generalize nameB l = T at *
  generalize hS : strU l = S at *
  have HS := Lib.hid hS
  clear hS
  go_enter Tryd.func41, Tryd.ntmps41
  go_wp2_with fail
  go_loopw [3] (fun cv wr => ∃ pos cc, cv = .int .i64 (cc : Nat) ∧ cc < 6 ∧ (pos = 0 ∨ l.isEmpty = false) ∧ wr.heap[w.heap.size]? = some (.stringIter S pos) ∧ Below w.heap.size w wr ∧ Hid (clsL cc (l.drop pos) = clsL 2 l)) (fun _ wr => S.size - wr.iterPos w.heap.size)
  case atStart => exact ⟨0, 2, rfl, by decide, .inl rfl, World.iter_heap _ _ _, (Below.refl _ _).alloc (Nat.le_refl _) _, rfl⟩
  case round =>
    obtain ⟨pos, cc, rfl, hcc, hpe, hit, hbw, hr⟩ := hrel
    have hsz : w.heap.size < wr.heap.size := (Array.getElem?_eq_some_iff.1 hit).1
    by_cases hp : pos < S.size
    · have hnx : ∀ ty, (Instr.next (.pointer (some ⟨w.heap.size, 0, none⟩)) true ty).run Tryd.prog wr = _ := fun ty => Lib.run_next_any_at wr w.heap.size S pos ty hit hp
      have hwd := width_pos S pos hp
      have hst := hr.out
      have hne : l.drop pos ≠ [] := by
        intro h
        have := congrArg List.length h
        rw [List.length_drop] at this
        have := HZ.out
        simp at *; omega
      rw [clsL_step _ _ hne, List.drop_drop, HD.out pos] at hst
      have HST := Lib.hid hst
      have HIT := Lib.hid hit
      generalize hw2 : wr.iterAt w.heap.size S (pos + (Utf8.decode S pos).2) = w2 at hnx
      have hit2 : w2.heap[w.heap.size]? = some (.stringIter S (pos + (Utf8.decode S pos).2)) := by rw [← hw2]; exact Lib.iterAt_heap wr w.heap.size S pos _ hit
      have hbw2 : Below w.heap.size w w2 := by rw [← hw2]; exact Lib.below_iterAt hbw (by omega) S _
      have hsz2 : w2.heap.size = wr.heap.size := by rw [← hw2, Lib.iterAt_size]
      clear hw2 hit hbw hst hne hr
      have HC := Lib.hid (HI.out cc (Utf8.decode S pos).1 w2 hcc hbw2)
      have hle : l.isEmpty = false := by
        cases hq : l with
        | nil => have := HZ.out; rw [hq, List.length_nil] at this; omega
        | cons _ _ => rfl
      have HLE := Lib.hid hle
      clear hle hpe hcc
      generalize (Utf8.decode S pos).1 = r at *
      generalize (Utf8.decode S pos).2 = wd at *
      cases hb : isR (rng cc) r with
      | false =>
        rw [hb] at HC HST
        go_wp2_with fail
        (with_reducible refine HC.out.mono ?_)
        rintro e w3 ⟨rfl, hb3⟩
        go_wp2_with fail
        go_ret
        exact ⟨ret_bool (by rw [HE.out, ← HST.out]; simp), hbw2.trans (hb3.mono hbw2.size)⟩
      | true =>
        rw [hb] at HC HST
        go_wp2_with fail
        (with_reducible refine HC.out.mono ?_)
        rintro e w3 ⟨rfl, hb3⟩
        have hit3 := (hb3.block w.heap.size (by omega)).trans hit2
        go_wp2_with fail
        go_roundw
        case rel => exact ⟨pos + wd, 3, rfl, by decide, .inr HLE.out, hit3, hbw2.trans (hb3.mono hbw2.size), by have := HST.out; rw [Bool.true_and] at this; exact this⟩
        case measure =>
          have e1 : w3.iterPos w.heap.size = pos + wd := by unfold World.iterPos; rw [hit3]
          have e2 : wr.iterPos w.heap.size = pos := by unfold World.iterPos; rw [HIT.out]
          rw [e1, e2]
          omega
    · have hnx : ∀ ty, (Instr.next (.pointer (some ⟨w.heap.size, 0, none⟩)) true ty).run Tryd.prog wr = _ := fun ty => Lib.run_next_end_at wr w.heap.size S pos ty hit hp
      have hst := hr.out
      rw [List.drop_of_length_le (by have := HZ.out; omega)] at hst
      have HST := Lib.hid hst
      clear hst hr
      clear hpe hcc
      cases hq : l.isEmpty with
      | true =>
        rw [hq] at hse HE
        have HE2 := HE
        clear hq
        go_wp2_with fail
        go_ret
        exact ⟨ret_bool (by rw [HE2.out]; rfl), hbw⟩
      | false =>
        rw [hq] at hse HE
        have HE2 := HE
        clear hq
        go_wp2_with fail
        (with_reducible refine (HV.out _ hbw).mono ?_)
        rintro e w3 ⟨rfl, hb3⟩
        go_wp2_with fail
        go_ret
        exact ⟨ret_bool (by rw [HE2.out, ← HST.out]; simp [clsL_nil]), hbw.trans (hb3.mono hbw.size)⟩
end Go.Proofs.YtklpihaelaagpaaDoor

namespace Go.Proofs.YtklpihaelaagpaaDoor
open Go.RowKit

structure EnvT (w : World) : Prop where
  rng : RangesAt w 2
  tab : Lib.Utf8Tabs 0 1 w
theorem EnvT.below {w w' : World} (h : EnvT w) (hb : Below w.heap.size w w') : EnvT w' := ⟨h.rng.below hb, Utf8Tabs_below h.tab hb⟩
theorem nameL_any (l : List UInt8) (w : World) (hl : l.length ≤ 1048576) (hE : EnvT w) :
    Calls Tryd.prog 41 #[.string (strL l)] w fun e w' => e = .returned (.bool (nameB l)) ∧ Below w.heap.size w w' := Name_any l w (by omega) hE.rng hE.tab
theorem strL_isE2 (l : List UInt8) : (strL l).toList.isEmpty = l.isEmpty := strU_empty l

set_option maxRecDepth 100000 in
set_option maxHeartbeats 1000000 in
theorem goodText_any (l : List UInt8) (w : World) (hl : l.length ≤ 1048576) (hE : EnvT w) :
    Calls Tryd.prog 60 #[.string (strL l)] w fun e w' => e = .returned (.bool (goodTB l)) ∧ Below w.heap.size w w' := by
  have HV : Hid (∀ W, Below w.heap.size w W → Calls Tryd.prog 58 #[.string (strL l)] W fun e w' => e = .returned (.bool (Lib.validD l)) ∧ Below W.heap.size W w') := Lib.hid fun W hW => by
    have := Valid_any (strL l) W (by rw [strL_size]; omega) (Utf8Tabs_below hE.tab hW)
    rw [strL_data] at this
    exact this
  have HC : Hid (∀ (c : UInt8) W, Calls Tryd.prog 74 #[.string (strL l), .string ⟨#[c]⟩] W fun e w' => e = .returned (.bool (decide (0 ≤ Lib.indexByte l c))) ∧ w' = W) := Lib.hid fun c W => by
    have := Tryd.strings_Contains_one (strL l) c W
    rw [strL_data] at this
    exact this
  unfold goodTB
  generalize Lib.validD l = V at *
  have HC1 : Hid (∀ W, Calls Tryd.prog 74 #[.string (strL l), .string ⟨#[39]⟩] W fun e w' => e = .returned (.bool (decide (0 ≤ Lib.indexByte l 39))) ∧ w' = W) := Lib.hid (HC.out 39)
  have HC2 : Hid (∀ W, Calls Tryd.prog 74 #[.string (strL l), .string ⟨#[34]⟩] W fun e w' => e = .returned (.bool (decide (0 ≤ Lib.indexByte l 34))) ∧ w' = W) := Lib.hid (HC.out 34)
  clear HC
  generalize decide (0 ≤ Lib.indexByte l 39) = P at *
  generalize decide (0 ≤ Lib.indexByte l 34) = Q at *
  go_enter Tryd.func60, Tryd.ntmps60
  go_wp2_with fail
  (with_reducible refine (HV.out _ (Below.refl _ _)).mono ?_)
  rintro e w1 ⟨rfl, hb⟩
  have HB := Lib.hid hb
  clear hb
  cases V with
  | false =>
    go_wp2_with fail
    go_ret
    exact ⟨rfl, HB.out⟩
  | true =>
    go_wp2_with fail
    (with_reducible refine (HC1.out _).mono ?_)
    rintro e w2 ⟨rfl, rfl⟩
    cases P with
    | false =>
      go_wp2_with fail
      go_ret
      exact ⟨rfl, HB.out⟩
    | true =>
      go_wp2_with fail
      (with_reducible refine (HC2.out _).mono ?_)
      rintro e w3 ⟨rfl, rfl⟩
      go_wp2_with fail
      go_ret
      exact ⟨by cases Q <;> rfl, HB.out⟩
end Go.Proofs.YtklpihaelaagpaaDoor
