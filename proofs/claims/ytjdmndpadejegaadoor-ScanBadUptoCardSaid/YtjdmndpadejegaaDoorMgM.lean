/-
  The scanner's cursor: section.
-/
import Derived.Test.YtjdmndpadejegaaDoorMgK
import Derived.Test.YtjdmndpadejegaaDoorMgL
namespace Go.Proofs.YtjdmndpadejegaaDoor
open Go.RowKit

theorem cr_next {l : List UInt8} {j r k : Nat} (h : charL 0 (l.drop j) = .ok r k) : crAt l (j + k) = decide (r = 13) := by
  obtain ⟨h1, h2, _, h4, _, h6⟩ := charL_ok (.inl rfl) h
  rw [List.length_drop] at h2
  have hk := congrArg List.length h6
  rw [List.length_take, List.length_drop, Nat.min_eq_left h2, show (encU r).length = (encN r).length by simp [encU]] at hk
  have hg : l.getD (j + k - 1) 0 = (encU r).getD (k - 1) 0 := by
    rw [← h6]
    simp only [List.getD_eq_getElem?_getD]
    rw [List.getElem?_take, if_pos (by omega), List.getElem?_drop, show j + (k - 1) = j + k - 1 by omega]
  unfold crAt
  rw [hg]
  by_cases hr : r < 128
  · have e : encU r = [UInt8.ofNat r] := by unfold encU encN; rw [if_pos hr]; rfl
    have hk1 : k = 1 := by rw [hk]; unfold encN; rw [if_pos hr]; rfl
    subst hk1
    rw [e]
    rw [Nat.sub_self, List.getD_cons_zero]
    rw [toNat_of r (by omega)]
    rw [decide_eq_decide]
    omega
  · have hm : (encU r).getD (k - 1) 0 ∈ encU r := by
      rw [List.getD_eq_getElem?_getD, List.getElem?_eq_getElem (by rw [show (encU r).length = (encN r).length by simp [encU]]; omega)]
      simp
    have := encU_high r (by omega) h4 _ hm
    rw [decide_eq_false (by omega), decide_eq_false (by omega)]
theorem putL_app (cr : Bool) (t0 t : List Nat) (r : Nat) : putL cr (t0 ++ t) r = t0 ++ putL cr t r := by
  rw [putL_eq, putL_eq]
  split
  · rfl
  · rw [List.append_assoc]
theorem putL_len (cr : Bool) (t : List Nat) (r : Nat) : (putL cr t r).length ≤ t.length + 1 ∧ t.length ≤ (putL cr t r).length := by
  rw [putL_eq]
  split
  · omega
  · rw [List.length_append, List.length_singleton]; omega
theorem be_next {t0 t t' : List Nat} (h : t.length ≤ t'.length) (x y : Int) : (if t0 ++ t = [] ∧ t0 ++ t' ≠ [] then x else if t0 = [] ∧ t ≠ [] then x else y) = if t0 = [] ∧ t' ≠ [] then x else y := by
  by_cases h0 : t0 = []
  · subst h0
    by_cases h1 : t = []
    · subst h1; simp
    · have h2 : t' ≠ [] := by
        intro e
        rw [e, List.length_nil] at h
        exact h1 (List.eq_nil_of_length_eq_zero (by omega))
      simp [h1, h2]
  · simp [h0]
def SecA (c : Cu) (t0 : List Nat) (c' : Cu) (t' : List Nat) : Sc (List Nat) → Prop
  | .wait => ∃ i v be, c' = { c with i := i, how := 1, tv := v, beg := be }
  | .bad k => ∃ v be, c' = { c with i := c.i + k, how := 2, tv := v, beg := be }
  | .ok t k => ∃ v, c' = { c with i := c.i + k, tv := v, beg := if t0 = [] ∧ t ≠ [] then (c.st : Int) else c.beg } ∧ t' = t0 ++ t
section
variable {w0 w : World} {cb : Nat} {a : Option Addr} {n cap : Nat} {l : List UInt8} {inn : Nat} {nm : List UInt8} {c : Cu} {G : Nat} {t0 : List Nat}
theorem cut_strk (hE : CE w0 w cb a n cap l) (i k : Nat) (hk : 0 < k) (hj : i + k ≤ n) : ∃ b o, a = some ⟨b, o, none⟩ ∧ cap ≠ i ∧ ∀ W, Kp (· = cb) w W → ∀ d, (convert 26 9 (.slice (some ⟨b, o + i, none⟩) k (cap - i))).run Tryd.prog (W.drewN d) = .ok (.string (strL ((l.drop i).take k))) (W.drewN d) := by
  obtain ⟨b, o, h1, h2, h3⟩ := cut_str hE i (i + k) (by omega) hj
  rw [Nat.add_sub_cancel_left] at h3
  exact ⟨b, o, h1, h2, h3⟩
theorem strL_is (q r : List UInt8) (h : q = r) : ((strL q).toList == r) = true := by rw [Lib.toList_data, strL_data, h]; simp
theorem strL_isnt (q r : List UInt8) (h : q ≠ r) : ((strL q).toList == r) = false := by rw [Lib.toList_data, strL_data]; simpa using h
set_option maxRecDepth 100000 in
set_option maxHeartbeats 4000000 in
theorem section_any (hL : Laid w0) (hE : CE w0 w cb a n cap l) (hG : w0.heap.size ≤ G) (hC : CuAt w cb (.slice a n cap) inn nm c) (hX : TX G cb a w c.tv t0) (hi : c.i ≤ n) (ht0 : t0.length ≤ c.i) (hcr0 : crAt l c.i = false) (F : Nat) (hF : (l.drop c.i).length < F) :
    Calls Tryd.prog 57 #[.pointer (some ⟨cb, 0, none⟩)] w fun e w' => e = .returned (.bool (secGo F false [] (l.drop c.i)).good) ∧ ∃ c' t', SecA c t0 c' t' (secGo F false [] (l.drop c.i)) ∧ CuAt w' cb (.slice a n cap) inn nm c' ∧ TS G cb a w w' c.tv c'.tv t0 t' := by
  have HE := Lib.hid hE
  have HC := Lib.hid hC
  have HX := Lib.hid hX
  have HL := Lib.hid hL
  have hcb := hC.lt
  obtain ⟨S, hS⟩ : ∃ S, secGo F false [] (l.drop c.i) = S := ⟨_, rfl⟩
  rw [hS]
  have HLEN := Lib.hid hE.len
  have hsm := hE.small
  have hcap := hE.cap
  have hl0 : (l.drop c.i).length = n - c.i := by rw [List.length_drop, HLEN.out]
  rw [hl0] at hF
  have HG := Lib.hid hG
  obtain ⟨i, hii⟩ : ∃ i, c.i = i := ⟨_, rfl⟩
  rw [hii] at hS hi ht0 hcr0 hF
  have HI := Lib.hid hii
  have HS0 : Hid (secGo F false [] (l.drop i) = S) := hS
  have HCR0 := Lib.hid hcr0
  have hst := hC.c_st
  clear hS hl0 hE hC hX hL hG hii hcr0
  go_enter Tryd.func57, Tryd.ntmps57
  go_wp2_with fail
  go_loopw [3] (fun _ wr => ∃ (j f : Nat) (t : List Nat) (v : Value) (c2 : Cu), c2 = { c with i := j, tv := v, beg := if t0 = [] ∧ t ≠ [] then (c.st : Int) else c.beg } ∧ i ≤ j ∧ j ≤ n ∧ t0.length + t.length ≤ j ∧ Hid (CuAt wr cb (.slice a n cap) inn nm c2 ∧ TS G cb a w wr c.tv v t0 (t0 ++ t) ∧ n - j < f ∧ (secGo f (crAt l j) t (l.drop j)).up (j - i) = S)) (fun _ wr => muI n cb wr)
  case atStart =>
    refine ⟨i, F, [], c.tv, c, ?_, Nat.le_refl _, hi, by simpa using ht0, HC.out, ?_, hF, ?_⟩
    · rw [if_neg (by simp), ← HI.out]
    · rw [List.append_nil]; exact TS.refl HX.out (Kp.refl _ _)
    · rw [Nat.sub_self, Sc.up_zero, HCR0.out]; exact HS0.out
  case round =>
    obtain ⟨j, f, t, v, c2, hc2, hij, hjn, htl, hh⟩ := hrel
    obtain ⟨hC2, hT2, hf2, hs2⟩ := hh.out
    obtain ⟨f, rfl⟩ : ∃ g, f = g + 1 := ⟨f - 1, by omega⟩
    have hE2 := HE.out.keep hT2.kp (fun k e => by rcases e with e | e; rw [e]; exact HE.out.low; exact Nat.le_trans HG.out (HX.out.lt e).1) (fun b o hb e => by rcases e with e | e; exact HE.out.ne b o hb e; exact HX.out.ne2 b o hb e)
    have HE2 := Lib.hid hE2
    have HC2 := Lib.hid hC2
    have HT2 := Lib.hid hT2
    have hcb2 := hC2.lt
    have hj2 : c2.i = j := by rw [hc2]
    have hci2 := hC2.c_i
    have hcb0 := hC2.c_b
    have hst2 := hC2.c_st
    have hfz2 := hC2.fz 1
    have hfz4 := hC2.fz 4
    have hcw2 := hC2.c_how
    rw [hj2] at hci2
    have HC2E := Lib.hid hc2
    have hmu := muI_eq (n := n) hC2
    rw [hj2] at hmu
    have HMU := Lib.hid hmu
    have HF2 := Lib.hid hf2
    have htv2 : c2.tv = v := by rw [hc2]
    have HTV := Lib.hid htv2
    cases hx : l.drop j with
    | nil =>
      have HB := Lib.hid (byte_none hE2 hC2 (by rw [hj2]; exact hx))
      rw [hx] at hs2
      have HS2 : Hid (S = .wait) := hs2.symm
      clear hh hC2 hE2 hs2 hx hc2 hj2 hf2 hmu hT2 htv2
      go_wp2_with (go_at_call 28; (with_reducible refine HB.out.mono ?_); rintro e w2 ⟨rfl, h1, h2⟩)
      go_ret
      refine ⟨by rw [HS2.out]; rfl, _, t0 ++ t, ?_, h1, ?_⟩
      · rw [HS2.out]
        exact ⟨j, v, _, by rw [HC2E.out]⟩
      · show TS G cb a w w2 c.tv c2.tv t0 (t0 ++ t)
        rw [HTV.out]
        exact TS.trans HX.out HT2.out (TS.refl HT2.out.tx h2)
    | cons x u =>
      have hlt := hE2.lt_of hx
      obtain ⟨m, hm⟩ : ∃ m, l.drop j = m := ⟨_, rfl⟩
      have hml : m.length = n - j := by rw [← hm, List.length_drop, HLEN.out]
      have hmne : m ≠ [] := by rw [← hm, hx]; simp
      have HB := Lib.hid (byte_some hE2 hC2 x u (by rw [hj2]; exact hx))
      rw [hm] at hs2
      rw [secGo_eq, if_neg hmne] at hs2
      obtain ⟨b, o, hab, hcj, hcvR⟩ := cut_strk hE2 j (n - j) (by omega) (by omega)
      rw [hm, List.take_of_length_le (by omega)] at hcvR
      have HCVR := Lib.hid hcvR
      subst hab
      have hjni : (j : Int) ≤ (n : Int) := by omega
      have hncap : (n : Int) ≤ (cap : Int) := by omega
      clear hmne
      by_cases h3 : m.take 3 = [93, 93, 62]
      · have hm3 : 3 ≤ n - j := by
          have := congrArg List.length h3
          rw [List.length_take] at this
          simp only [List.length_cons, List.length_nil] at this
          omega
        have hm3i : (3 : Int) ≤ ((n - j : Nat) : Int) := by omega
        have hm3c : (3 : Int) ≤ ((cap - j : Nat) : Int) := by omega
        rw [if_pos h3] at hs2
        have HS2 : Hid (S = .ok t (j - i + 3)) := hs2.symm
        obtain ⟨b', o', hab', _, hcv3⟩ := cut_strk hE2 j 3 (by omega) (by omega)
        injection hab' with hab'
        injection hab' with hb' ho'
        subst hb'
        subst ho'
        rw [hm, h3] at hcv3
        have HCV3 := Lib.hid hcv3
        have heq := strL_is [93, 93, 62] [93, 93, 62] rfl
        clear hh hC2 hE2 hs2 hx hc2 hj2 hf2 hmu hT2 htv2 hm hml hcvR hcv3 h3
        go_wp2_with (go_at_call 28; (with_reducible refine HB.out.mono ?_); rintro e w2 ⟨rfl, hb2⟩; have d0 := (hb2.cell (p := ⟨cb, 0, none⟩) hcb2).trans hcb0; have d1 := (hb2.cell (p := ⟨cb, 1, none⟩) hcb2).trans hci2; have d4 := (hb2.cell (p := ⟨cb, 4, none⟩) hcb2).trans hcw2; have f1 := (hb2.frozen (p := ⟨cb, 1, none⟩) hcb2).trans hfz2; have f4 := (hb2.frozen (p := ⟨cb, 4, none⟩) hcb2).trans hfz4; have hcb4 := Nat.lt_of_lt_of_le hcb2 hb2.size; have cvR := HCVR.out w2 (Kp.of hb2); have cv3 := HCV3.out w2 (Kp.of hb2))
        go_quiet (fail)
        go_wp2_with fail
        go_ret
        have hbN := Below.trans hb2 ((Below.drewN (Below.refl w2.heap.size w2) nq).mono hb2.size)
        have hC4 := (HC2.out.below hbN).set_iz ((j : Int) + 3) (j + 3) (by simp)
        have hK4 := ((Kp.refl (· = cb) wr).on hbN).set (.inl rfl) 1 (.int .i64 ((j : Int) + 3))
        refine ⟨by rw [HS2.out]; rfl, _, t0 ++ t, ?_, hC4, ?_⟩
        · rw [HS2.out]
          refine ⟨v, ?_, rfl⟩
          rw [HC2E.out, HI.out, show i + (j - i + 3) = j + 3 by omega]
        · show TS G cb _ w _ c.tv c2.tv t0 (t0 ++ t)
          rw [HTV.out]
          exact TS.trans HX.out HT2.out (TS.refl HT2.out.tx hK4)
      · rw [if_neg h3] at hs2
        by_cases h1 : m = [93]
        · rw [if_pos (.inl h1)] at hs2
          have HS2 : Hid (S = .wait) := hs2.symm
          have hn1 : n - j = 1 := by rw [← hml, h1]; rfl
          have hn1i : ¬ (3 : Int) ≤ ((n - j : Nat) : Int) := by omega
          have heq : ((strL m).toList == [93]) = true := strL_is _ _ h1
          clear hh hC2 hE2 hs2 hx hc2 hj2 hf2 hmu hT2 htv2 hm hml hcvR h3 h1 hn1
          go_wp2_with (go_at_call 28; (with_reducible refine HB.out.mono ?_); rintro e w2 ⟨rfl, hb2⟩; have d0 := (hb2.cell (p := ⟨cb, 0, none⟩) hcb2).trans hcb0; have d1 := (hb2.cell (p := ⟨cb, 1, none⟩) hcb2).trans hci2; have d4 := (hb2.cell (p := ⟨cb, 4, none⟩) hcb2).trans hcw2; have f1 := (hb2.frozen (p := ⟨cb, 1, none⟩) hcb2).trans hfz2; have f4 := (hb2.frozen (p := ⟨cb, 4, none⟩) hcb2).trans hfz4; have hcb4 := Nat.lt_of_lt_of_le hcb2 hb2.size; have cvR := HCVR.out w2 (Kp.of hb2))
          go_quiet (fail)
          go_wp2_with fail
          go_ret
          have hbN := Below.trans hb2 ((Below.drewN (Below.refl w2.heap.size w2) nq).mono hb2.size)
          have hC4 := ((HC2.out.below hbN).set_iz (n : Int) n rfl).set_how 1
          have hK4 := (((Kp.refl (· = cb) wr).on hbN).set (.inl rfl) 1 (.int .i64 (n : Int))).set (b := cb) (.inl rfl) 4 (.int .i64 ((1 : Nat) : Int))
          refine ⟨by rw [HS2.out]; rfl, _, t0 ++ t, ?_, hC4, ?_⟩
          · rw [HS2.out]
            exact ⟨n, v, _, by rw [HC2E.out]⟩
          · show TS G cb _ w _ c.tv c2.tv t0 (t0 ++ t)
            rw [HTV.out]
            exact TS.trans HX.out HT2.out (TS.refl HT2.out.tx hK4)
        · by_cases h2 : m = [93, 93]
          · rw [if_pos (.inr h2)] at hs2
            have HS2 : Hid (S = .wait) := hs2.symm
            have hn1 : n - j = 2 := by rw [← hml, h2]; rfl
            have hn1i : ¬ (3 : Int) ≤ ((n - j : Nat) : Int) := by omega
            have heq : ((strL m).toList == [93]) = false := strL_isnt _ _ h1
            have heq2 : ((strL m).toList == [93, 93]) = true := strL_is _ _ h2
            clear hh hC2 hE2 hs2 hx hc2 hj2 hf2 hmu hT2 htv2 hm hml hcvR h3 h1 h2 hn1
            go_wp2_with (go_at_call 28; (with_reducible refine HB.out.mono ?_); rintro e w2 ⟨rfl, hb2⟩; have d0 := (hb2.cell (p := ⟨cb, 0, none⟩) hcb2).trans hcb0; have d1 := (hb2.cell (p := ⟨cb, 1, none⟩) hcb2).trans hci2; have d4 := (hb2.cell (p := ⟨cb, 4, none⟩) hcb2).trans hcw2; have f1 := (hb2.frozen (p := ⟨cb, 1, none⟩) hcb2).trans hfz2; have f4 := (hb2.frozen (p := ⟨cb, 4, none⟩) hcb2).trans hfz4; have hcb4 := Nat.lt_of_lt_of_le hcb2 hb2.size; have cvR := HCVR.out w2 (Kp.of hb2))
            go_quiet (fail)
            go_wp2_with fail
            go_ret
            have hbN := Below.trans hb2 ((Below.drewN (Below.refl w2.heap.size w2) nq).mono hb2.size)
            have hC4 := ((HC2.out.below hbN).set_iz (n : Int) n rfl).set_how 1
            have hK4 := (((Kp.refl (· = cb) wr).on hbN).set (.inl rfl) 1 (.int .i64 (n : Int))).set (b := cb) (.inl rfl) 4 (.int .i64 ((1 : Nat) : Int))
            refine ⟨by rw [HS2.out]; rfl, _, t0 ++ t, ?_, hC4, ?_⟩
            · rw [HS2.out]
              exact ⟨n, v, _, by rw [HC2E.out]⟩
            · show TS G cb _ w _ c.tv c2.tv t0 (t0 ++ t)
              rw [HTV.out]
              exact TS.trans HX.out HT2.out (TS.refl HT2.out.tx hK4)
          · rw [if_neg (by rintro (e | e); exact h1 e; exact h2 e)] at hs2
            have heq : ((strL m).toList == [93]) = false := strL_isnt _ _ h1
            have heq2 : ((strL m).toList == [93, 93]) = false := strL_isnt _ _ h2
            rw [← hm] at hs2
            have HCH3 := Lib.hid (fun W (hb : Below wr.heap.size wr W) => char0 HL.out (hE2.below hb) (hC2.below hb) (by rw [hj2]; omega))
            rw [hj2] at HCH3
            by_cases hR : 3 ≤ n - j
            · have hm3i : (3 : Int) ≤ ((n - j : Nat) : Int) := by omega
              have hm3c : (3 : Int) ≤ ((cap - j : Nat) : Int) := by omega
              obtain ⟨b', o', hab', _, hcv3⟩ := cut_strk hE2 j 3 (by omega) (by omega)
              injection hab' with hab'
              injection hab' with hb' ho'
              subst hb'
              subst ho'
              rw [hm] at hcv3
              have heq3 : ((strL (m.take 3)).toList == [93, 93, 62]) = false := strL_isnt _ _ h3
              have HCV3 := Lib.hid hcv3
              clear hcv3
              cases hch : charL 0 (l.drop j) with
              | wait =>
                rw [hch] at HCH3 hs2
                have HS2 : Hid (S = .wait) := hs2.symm
                clear hh hC2 hE2 hs2 hx hc2 hj2 hf2 hmu hT2 htv2 hm hml hcvR h3 h1 h2 hch
                go_wp2_with (go_at_call 28; (with_reducible refine HB.out.mono ?_); rintro e w2 ⟨rfl, hb2⟩; have d0 := (hb2.cell (p := ⟨cb, 0, none⟩) hcb2).trans hcb0; have d1 := (hb2.cell (p := ⟨cb, 1, none⟩) hcb2).trans hci2; have hcb4 := Nat.lt_of_lt_of_le hcb2 hb2.size; have cvR := HCVR.out w2 (Kp.of hb2); have cv3 := HCV3.out w2 (Kp.of hb2))
                go_quiet (fail)
                go_wp2_with (go_at_call 35; (with_reducible refine (HCH3.out _ (Below.trans hb2 ((Below.drewN (Below.refl w2.heap.size w2) nq).mono hb2.size))).mono ?_); rintro e w3 ⟨rfl, c3, ha3, h3, h4⟩)
                go_ret
                have hK := (Kp.of (S := (· = cb)) (Below.trans hb2 ((Below.drewN (Below.refl w2.heap.size w2) nq).mono hb2.size))).trans h4 fun k e => .inl e
                obtain ⟨i', rfl⟩ := ha3
                refine ⟨by rw [HS2.out]; rfl, _, t0 ++ t, ?_, h3, ?_⟩
                · rw [HS2.out]
                  exact ⟨i', v, _, by rw [HC2E.out]⟩
                · show TS G cb _ w _ c.tv c2.tv t0 (t0 ++ t)
                  rw [HTV.out]
                  exact TS.trans HX.out HT2.out (TS.refl HT2.out.tx hK)
              | bad k =>
                rw [hch] at HCH3 hs2
                have HS2 : Hid (S = .bad (j - i + k)) := hs2.symm
                clear hh hC2 hE2 hs2 hx hc2 hj2 hf2 hmu hT2 htv2 hm hml hcvR h3 h1 h2 hch
                go_wp2_with (go_at_call 28; (with_reducible refine HB.out.mono ?_); rintro e w2 ⟨rfl, hb2⟩; have d0 := (hb2.cell (p := ⟨cb, 0, none⟩) hcb2).trans hcb0; have d1 := (hb2.cell (p := ⟨cb, 1, none⟩) hcb2).trans hci2; have hcb4 := Nat.lt_of_lt_of_le hcb2 hb2.size; have cvR := HCVR.out w2 (Kp.of hb2); have cv3 := HCV3.out w2 (Kp.of hb2))
                go_quiet (fail)
                go_wp2_with (go_at_call 35; (with_reducible refine (HCH3.out _ (Below.trans hb2 ((Below.drewN (Below.refl w2.heap.size w2) nq).mono hb2.size))).mono ?_); rintro e w3 ⟨rfl, c3, ha3, h3, h4⟩)
                go_ret
                have hK := (Kp.of (S := (· = cb)) (Below.trans hb2 ((Below.drewN (Below.refl w2.heap.size w2) nq).mono hb2.size))).trans h4 fun k e => .inl e
                have ha4 : c3 = { c2 with i := c2.i + k, how := 2 } := ha3
                refine ⟨by rw [HS2.out]; rfl, c3, t0 ++ t, ?_, h3, ?_⟩
                · rw [HS2.out]
                  refine ⟨v, c2.beg, ?_⟩
                  rw [ha4, HC2E.out, HI.out]
                  simp only [Cu.mk.injEq, and_true]
                  omega
                · rw [ha4]
                  show TS G cb _ w _ c.tv c2.tv t0 (t0 ++ t)
                  rw [HTV.out]
                  exact TS.trans HX.out HT2.out (TS.refl HT2.out.tx hK)
              | ok r k =>
                obtain ⟨hk1', hk2', _, hchr, _, henc⟩ := charL_ok (.inl rfl) hch
                rw [List.length_drop, ← HLEN.out] at hk2'
                have hkk : k = (encN r).length := by
                  have := congrArg List.length henc
                  rw [List.length_take, List.length_drop, ← HLEN.out, Nat.min_eq_left hk2', show (encU r).length = (encN r).length by simp [encU]] at this
                  exact this
                rw [hch] at HCH3 hs2
                obtain ⟨t', ht'⟩ : ∃ t', putL (crAt l j) t r = t' := ⟨_, rfl⟩
                have hpl := putL_len (crAt l j) t r
                rw [ht'] at hpl
                have hs4 : (secGo f (crAt l (j + k)) t' (l.drop (j + k))).up (j + k - i) = S := by
                  rw [← hs2, ← ht', cr_next hch]
                  show _ = ((secGo f (decide (r = 13)) (putL (crAt l j) t r) ((l.drop j).drop k)).up k).up (j - i)
                  rw [Sc.up_up, List.drop_drop, show j - i + k = j + k - i by omega]
                have HS4 := Lib.hid hs4
                have HPU := Lib.hid (fun W c3 (hc3 : c3 = { c2 with i := c2.i + k }) (h3 : CuAt W cb (.slice (some ⟨b, o, none⟩) n cap) inn nm c3) (hK : Kp (· = cb) wr W) => put_any (HE2.out.keep1 hK) h3 (t := t0 ++ t) (G := G) (by rw [hc3]; show TX G cb _ W c2.tv _; rw [HTV.out]; exact HT2.out.tx.keep1 hK) (by rw [List.length_append]; omega) r hchr c.st true (crAt l j) (fun _ h10 => by
                  subst h10
                  have hk1 : k = 1 := hkk
                  subst hk1
                  rw [hc3, show ({ c2 with i := c2.i + 1 } : Cu).i = j + 1 by show c2.i + 1 = j + 1; omega]
                  exact ⟨by omega, by omega, rfl⟩))
                have hst3 : c2.st = c.st := by rw [HC2E.out]
                have HST := Lib.hid hst3
                have HHE : Hid (TX G cb (some ⟨b, o, none⟩) w c.tv t0) := HX
                clear hh hC2 hE2 hs2 hx hc2 hj2 hf2 hmu hT2 htv2 hm hml hcvR h3 h1 h2 hch hs4 henc hkk hst3
                go_wp2_with (go_at_call 28; (with_reducible refine HB.out.mono ?_); rintro e w2 ⟨rfl, hb2⟩; have d0 := (hb2.cell (p := ⟨cb, 0, none⟩) hcb2).trans hcb0; have d1 := (hb2.cell (p := ⟨cb, 1, none⟩) hcb2).trans hci2; have hcb4 := Nat.lt_of_lt_of_le hcb2 hb2.size; have cvR := HCVR.out w2 (Kp.of hb2); have cv3 := HCV3.out w2 (Kp.of hb2))
                go_quiet (fail)
                go_wp2_with (first | (go_at_call 35; (with_reducible refine (HCH3.out _ (Below.trans hb2 ((Below.drewN (Below.refl w2.heap.size w2) nq).mono hb2.size))).mono ?_); rintro e w3 ⟨he, c3, ha3, h3, h4⟩; obtain rfl : e = .returned (.tuple #[.int .i32 (r : Int), .bool true]) := he; have HA3 : Hid (c3 = { c2 with i := c2.i + k }) := ha3; have H3 := Lib.hid h3; have H4 : Hid (Kp (· = cb) wr w3) := (Kp.of (S := (· = cb)) (Below.trans hb2 ((Below.drewN (Below.refl w2.heap.size w2) nq).mono hb2.size))).trans h4 fun k e => .inl e; have e18 : w3.cell? ⟨cb, 18, none⟩ = some (.int .i64 c.st) := h3.c_st.trans (by rw [show c3 = { c2 with i := c2.i + k } from ha3, HC2E.out]); clear ha3 h3 h4) | (go_at_call 34; (with_reducible refine (HPU.out _ _ HA3.out H3.out H4.out).mono ?_); rintro e w4 ⟨rfl, v', be, g1, g2, g3⟩; have G1 := Lib.hid g1; have G2 := Lib.hid g2; have G3 := Lib.hid g3; clear g1 g2 g3))
                have hA : c3 = { c2 with i := c2.i + k } := HA3.out
                have HA4 := Lib.hid hA
                clear hA
                go_roundw
                case rel =>
                  have htt : TS G cb (some ⟨b, o, none⟩) w w4 c.tv v' t0 (t0 ++ t') := by
                    have g2 := G2.out
                    rw [HA4.out] at g2
                    have g2' : TS G cb _ w3 w4 c2.tv v' (t0 ++ t) (putL (crAt l j) (t0 ++ t) r) := g2
                    rw [HTV.out, putL_app, ht'] at g2'
                    exact TS.trans HHE.out (TS.trans HHE.out HT2.out (TS.refl HT2.out.tx H4.out)) g2'
                  refine ⟨j + k, f, t', v', _, ?_, by omega, by omega, by omega, G1.out, htt, by have := HF2.out; omega, HS4.out⟩
                  rw [G3.out, HA4.out]
                  have e : putW true (crAt l j) (t0 ++ t) r = t0 ++ t' := by rw [← ht', ← putL_app]; rfl
                  rw [e, HC2E.out]
                  simp only [be_next hpl.2]
                case measure =>
                  rw [muI_eq G1.out, HMU.out]
                  show n - c3.i < n - j
                  rw [HA4.out]
                  show n - (c2.i + k) < n - j
                  rw [HC2E.out]
                  show n - (j + k) < n - j
                  omega
            · have hn1i : ¬ (3 : Int) ≤ ((n - j : Nat) : Int) := by omega
              cases hch : charL 0 (l.drop j) with
              | wait =>
                rw [hch] at HCH3 hs2
                have HS2 : Hid (S = .wait) := hs2.symm
                clear hh hC2 hE2 hs2 hx hc2 hj2 hf2 hmu hT2 htv2 hm hml hcvR h3 h1 h2 hch
                go_wp2_with (go_at_call 28; (with_reducible refine HB.out.mono ?_); rintro e w2 ⟨rfl, hb2⟩; have d0 := (hb2.cell (p := ⟨cb, 0, none⟩) hcb2).trans hcb0; have d1 := (hb2.cell (p := ⟨cb, 1, none⟩) hcb2).trans hci2; have hcb4 := Nat.lt_of_lt_of_le hcb2 hb2.size; have cvR := HCVR.out w2 (Kp.of hb2))
                go_quiet (fail)
                go_wp2_with (go_at_call 35; (with_reducible refine (HCH3.out _ (Below.trans hb2 ((Below.drewN (Below.refl w2.heap.size w2) nq).mono hb2.size))).mono ?_); rintro e w3 ⟨rfl, c3, ha3, h3, h4⟩)
                go_ret
                have hK := (Kp.of (S := (· = cb)) (Below.trans hb2 ((Below.drewN (Below.refl w2.heap.size w2) nq).mono hb2.size))).trans h4 fun k e => .inl e
                obtain ⟨i', rfl⟩ := ha3
                refine ⟨by rw [HS2.out]; rfl, _, t0 ++ t, ?_, h3, ?_⟩
                · rw [HS2.out]
                  exact ⟨i', v, _, by rw [HC2E.out]⟩
                · show TS G cb _ w _ c.tv c2.tv t0 (t0 ++ t)
                  rw [HTV.out]
                  exact TS.trans HX.out HT2.out (TS.refl HT2.out.tx hK)
              | bad k =>
                rw [hch] at HCH3 hs2
                have HS2 : Hid (S = .bad (j - i + k)) := hs2.symm
                clear hh hC2 hE2 hs2 hx hc2 hj2 hf2 hmu hT2 htv2 hm hml hcvR h3 h1 h2 hch
                go_wp2_with (go_at_call 28; (with_reducible refine HB.out.mono ?_); rintro e w2 ⟨rfl, hb2⟩; have d0 := (hb2.cell (p := ⟨cb, 0, none⟩) hcb2).trans hcb0; have d1 := (hb2.cell (p := ⟨cb, 1, none⟩) hcb2).trans hci2; have hcb4 := Nat.lt_of_lt_of_le hcb2 hb2.size; have cvR := HCVR.out w2 (Kp.of hb2))
                go_quiet (fail)
                go_wp2_with (go_at_call 35; (with_reducible refine (HCH3.out _ (Below.trans hb2 ((Below.drewN (Below.refl w2.heap.size w2) nq).mono hb2.size))).mono ?_); rintro e w3 ⟨rfl, c3, ha3, h3, h4⟩)
                go_ret
                have hK := (Kp.of (S := (· = cb)) (Below.trans hb2 ((Below.drewN (Below.refl w2.heap.size w2) nq).mono hb2.size))).trans h4 fun k e => .inl e
                have ha4 : c3 = { c2 with i := c2.i + k, how := 2 } := ha3
                refine ⟨by rw [HS2.out]; rfl, c3, t0 ++ t, ?_, h3, ?_⟩
                · rw [HS2.out]
                  refine ⟨v, c2.beg, ?_⟩
                  rw [ha4, HC2E.out, HI.out]
                  simp only [Cu.mk.injEq, and_true]
                  omega
                · rw [ha4]
                  show TS G cb _ w _ c.tv c2.tv t0 (t0 ++ t)
                  rw [HTV.out]
                  exact TS.trans HX.out HT2.out (TS.refl HT2.out.tx hK)
              | ok r k =>
                obtain ⟨hk1', hk2', _, hchr, _, henc⟩ := charL_ok (.inl rfl) hch
                rw [List.length_drop, ← HLEN.out] at hk2'
                have hkk : k = (encN r).length := by
                  have := congrArg List.length henc
                  rw [List.length_take, List.length_drop, ← HLEN.out, Nat.min_eq_left hk2', show (encU r).length = (encN r).length by simp [encU]] at this
                  exact this
                rw [hch] at HCH3 hs2
                obtain ⟨t', ht'⟩ : ∃ t', putL (crAt l j) t r = t' := ⟨_, rfl⟩
                have hpl := putL_len (crAt l j) t r
                rw [ht'] at hpl
                have hs4 : (secGo f (crAt l (j + k)) t' (l.drop (j + k))).up (j + k - i) = S := by
                  rw [← hs2, ← ht', cr_next hch]
                  show _ = ((secGo f (decide (r = 13)) (putL (crAt l j) t r) ((l.drop j).drop k)).up k).up (j - i)
                  rw [Sc.up_up, List.drop_drop, show j - i + k = j + k - i by omega]
                have HS4 := Lib.hid hs4
                have HPU := Lib.hid (fun W c3 (hc3 : c3 = { c2 with i := c2.i + k }) (h3 : CuAt W cb (.slice (some ⟨b, o, none⟩) n cap) inn nm c3) (hK : Kp (· = cb) wr W) => put_any (HE2.out.keep1 hK) h3 (t := t0 ++ t) (G := G) (by rw [hc3]; show TX G cb _ W c2.tv _; rw [HTV.out]; exact HT2.out.tx.keep1 hK) (by rw [List.length_append]; omega) r hchr c.st true (crAt l j) (fun _ h10 => by
                  subst h10
                  have hk1 : k = 1 := hkk
                  subst hk1
                  rw [hc3, show ({ c2 with i := c2.i + 1 } : Cu).i = j + 1 by show c2.i + 1 = j + 1; omega]
                  exact ⟨by omega, by omega, rfl⟩))
                have hst3 : c2.st = c.st := by rw [HC2E.out]
                have HST := Lib.hid hst3
                have HHE : Hid (TX G cb (some ⟨b, o, none⟩) w c.tv t0) := HX
                clear hh hC2 hE2 hs2 hx hc2 hj2 hf2 hmu hT2 htv2 hm hml hcvR h3 h1 h2 hch hs4 henc hkk hst3
                go_wp2_with (go_at_call 28; (with_reducible refine HB.out.mono ?_); rintro e w2 ⟨rfl, hb2⟩; have d0 := (hb2.cell (p := ⟨cb, 0, none⟩) hcb2).trans hcb0; have d1 := (hb2.cell (p := ⟨cb, 1, none⟩) hcb2).trans hci2; have hcb4 := Nat.lt_of_lt_of_le hcb2 hb2.size; have cvR := HCVR.out w2 (Kp.of hb2))
                go_quiet (fail)
                go_wp2_with (first | (go_at_call 35; (with_reducible refine (HCH3.out _ (Below.trans hb2 ((Below.drewN (Below.refl w2.heap.size w2) nq).mono hb2.size))).mono ?_); rintro e w3 ⟨he, c3, ha3, h3, h4⟩; obtain rfl : e = .returned (.tuple #[.int .i32 (r : Int), .bool true]) := he; have HA3 : Hid (c3 = { c2 with i := c2.i + k }) := ha3; have H3 := Lib.hid h3; have H4 : Hid (Kp (· = cb) wr w3) := (Kp.of (S := (· = cb)) (Below.trans hb2 ((Below.drewN (Below.refl w2.heap.size w2) nq).mono hb2.size))).trans h4 fun k e => .inl e; have e18 : w3.cell? ⟨cb, 18, none⟩ = some (.int .i64 c.st) := h3.c_st.trans (by rw [show c3 = { c2 with i := c2.i + k } from ha3, HC2E.out]); clear ha3 h3 h4) | (go_at_call 34; (with_reducible refine (HPU.out _ _ HA3.out H3.out H4.out).mono ?_); rintro e w4 ⟨rfl, v', be, g1, g2, g3⟩; have G1 := Lib.hid g1; have G2 := Lib.hid g2; have G3 := Lib.hid g3; clear g1 g2 g3))
                have hA : c3 = { c2 with i := c2.i + k } := HA3.out
                have HA4 := Lib.hid hA
                clear hA
                go_roundw
                case rel =>
                  have htt : TS G cb (some ⟨b, o, none⟩) w w4 c.tv v' t0 (t0 ++ t') := by
                    have g2 := G2.out
                    rw [HA4.out] at g2
                    have g2' : TS G cb _ w3 w4 c2.tv v' (t0 ++ t) (putL (crAt l j) (t0 ++ t) r) := g2
                    rw [HTV.out, putL_app, ht'] at g2'
                    exact TS.trans HHE.out (TS.trans HHE.out HT2.out (TS.refl HT2.out.tx H4.out)) g2'
                  refine ⟨j + k, f, t', v', _, ?_, by omega, by omega, by omega, G1.out, htt, by have := HF2.out; omega, HS4.out⟩
                  rw [G3.out, HA4.out]
                  have e : putW true (crAt l j) (t0 ++ t) r = t0 ++ t' := by rw [← ht', ← putL_app]; rfl
                  rw [e, HC2E.out]
                  simp only [be_next hpl.2]
                case measure =>
                  rw [muI_eq G1.out, HMU.out]
                  show n - c3.i < n - j
                  rw [HA4.out]
                  show n - (c2.i + k) < n - j
                  rw [HC2E.out]
                  show n - (j + k) < n - j
                  omega
end
end Go.Proofs.YtjdmndpadejegaaDoor

namespace Go.Proofs.YtjdmndpadejegaaDoor
open Go.RowKit

structure VT (G pb : Nat) (w : World) (v : Value) (t : List Nat) : Prop where
  cell : w.heap[pb]? = some (.cells #[v] 26 (0, 0))
  tx : TX G pb none w v t
theorem VT.below {G pb : Nat} {w w' : World} {v : Value} {t : List Nat} (h : VT G pb w v t) (k : Below w.heap.size w w') : VT G pb w' v t :=
  ⟨(k.block pb (heap_lt h.cell)).trans h.cell, h.tx.keep (Kp.of (S := fun _ => False) k) fun _ _ e => e⟩
theorem VT.keep {S : Nat → Prop} {G pb : Nat} {w w' : World} {v : Value} {t : List Nat} (h : VT G pb w v t) (k : Kp S w w') (h1 : ¬ S pb) (h2 : ∀ j, S j → j < G) : VT G pb w' v t :=
  ⟨k.heap h.cell h1, h.tx.keep k fun j hj e => by have := (h.tx.lt hj).1; have := h2 j e; omega⟩
theorem VT.step {G pb : Nat} {w w2 : World} {o : Obj} {v v' : Value} {t : List Nat} {q : Nat} (h : VT G pb w v t) (hq : chr q)
    (hown : w2.ownsRow G 5 1 v' ((encs t).length + (encN q).length) (u8s (encs t) ++ u8s (encU q))) (happ : App2 (w.alloc o) w2 v v' (encs t).length (encN q).length) :
    w2.heap[pb]? = some (.cells #[v] 26 (0, 0)) ∧ VT G pb (w2.setCell ⟨pb, 0, none⟩ v') v' (t ++ [q]) ∧ Kp (SV pb v) w (w2.setCell ⟨pb, 0, none⟩ v') := by
  obtain ⟨h1, h2, h3⟩ := ar_post (a := none) (w := w) (W := w) h.tx (heap_lt h.cell) (fun _ _ e => by cases e) hq (Kp.refl _ _) hown happ
  have hb := h2.trans h.cell
  refine ⟨hb, ⟨?_, h1.tx.keep1 ((Kp.refl (· = pb) w2).set (.inl rfl) _ _)⟩, h1.kp.set (.inl (.inl rfl)) _ _⟩
  exact setCell_heap hb v'
theorem ar_ok {G pb : Nat} {w : World} {v : Value} {t : List Nat} (h : VT G pb w v t) (hlen : t.length ≤ 1099511627776) (q : Nat) (hq : chr q) :
    Calls Tryd.prog 46 #[v, .int .i32 (q : Nat)] w fun e w' => ∃ v', e = .returned v' ∧ w'.heap[pb]? = some (.cells #[v] 26 (0, 0)) ∧ (∃ a2 n2 c2, v' = .slice a2 n2 c2) ∧ VT G pb (w'.setCell ⟨pb, 0, none⟩ v') v' (t ++ [q]) ∧ Kp (SV pb v) w (w'.setCell ⟨pb, 0, none⟩ v') ∧ w.heap.size ≤ w'.heap.size := by
  have hm4 := encs_len t
  refine (appRune_any G v (encs t).length (u8s (encs t)) q hq w h.tx.own (by omega) h.tx.le).mono ?_
  rintro e w' ⟨v', rfl, hown, o, happ⟩
  obtain ⟨h1, h2, h3⟩ := h.step hq hown happ
  obtain ⟨a2, c2, hv, _⟩ := own_slice hown
  refine ⟨v', rfl, h1, ⟨a2, _, c2, hv⟩, h2, h3, ?_⟩
  have := h3.size
  simpa [World.setCell] using this
set_option maxHeartbeats 1000000 in
theorem valc_any {G pb : Nat} {w : World} {v : Value} {t : List Nat} (h : VT G pb w v t) (hlen : t.length ≤ 1099511627776) (q : Nat) (hq : chr q) (frm : Nat) :
    Calls Tryd.prog 82 #[.int .i32 (q : Nat), .int .i64 (frm : Nat), .pointer (some ⟨pb, 0, none⟩)] w fun e w' => e = .returned (.tuple #[]) ∧ ∃ v', VT G pb w' v' (t ++ [q]) ∧ Kp (SV pb v) w w' := by
  have HA := Lib.hid (ar_ok h hlen q hq)
  obtain ⟨a0, c0, hv, _⟩ := own_slice h.tx.own
  have hc : w.cell? ⟨pb, 0, none⟩ = some v := by rw [cell_heap h.cell]; rfl
  have hpb := heap_lt h.cell
  rw [hv] at hc HA
  have HV := Lib.hid hv
  clear h hv
  go_enter Tryd.func82, Tryd.ntmps82
  go_wp2_with (go_at_call 46; (with_reducible refine HA.out.mono ?_); rintro e w2 ⟨v', rfl, hb, ⟨a2, n2, c2, rfl⟩, h1, h2, h3⟩; have d0 : w2.cell? ⟨pb, 0, none⟩ = some (.slice a0 _ c0) := (by rw [cell_heap hb]; rfl); have f0 : w2.frozen? ⟨pb, 0, none⟩ = false := frozen_heap hb; have HB := Lib.hid h1; have HK := Lib.hid h2; clear h1 h2 hb)
  go_end0
  exact ⟨rfl, _, HB.out, by rw [HV.out]; exact HK.out⟩
end Go.Proofs.YtjdmndpadejegaaDoor
