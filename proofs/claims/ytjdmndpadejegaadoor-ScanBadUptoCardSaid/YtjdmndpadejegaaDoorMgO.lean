/-
  The scanner's cursor: value.
-/
import Derived.Test.YtjdmndpadejegaaDoorMgM
import Derived.Test.YtjdmndpadejegaaDoorMgN
namespace Go.Proofs.YtjdmndpadejegaaDoor
open Go.RowKit

theorem chr_of {r : Nat} (h : isR (rng 0) r = true) : chr r := by
  obtain ⟨p, hp, h1, h2⟩ := isR_find _ _ h
  have hg := List.all_eq_true.1 (gd_all 0 (.inl rfl)) p hp
  simp only [Bool.and_eq_true, Bool.or_eq_true, decide_eq_true_eq] at hg
  unfold chr
  omega
theorem cr_ref {l : List UInt8} {j r k : Nat} (h : refL (l.drop j) = .ok r k) : crAt l (j + k) = false := by
  obtain ⟨h1, h2, _, _, ⟨y, hy, h59⟩, _⟩ := refL_ok _ _ _ h
  rw [List.getElem?_drop] at hy
  unfold crAt
  rw [List.getD_eq_getElem?_getD, show j + k - 1 = j + (k - 1) by omega, hy]
  simp only [Option.getD_some]
  rw [decide_eq_false_iff_not]
  omega
def frVal (cb pb : Nat) (q : UInt8) (t : Array Value) : Array Value := #[.pointer (some ⟨cb, 0, none⟩), slotOf t 1, slotOf t 2, slotOf t 3, .pointer (some ⟨pb, 0, none⟩), .int .u8 q.toNat, slotOf t 6, slotOf t 7, slotOf t 8, slotOf t 9, slotOf t 10, slotOf t 11, slotOf t 12, slotOf t 13, slotOf t 14, slotOf t 15, slotOf t 16, slotOf t 17, slotOf t 18, slotOf t 19, slotOf t 20, slotOf t 21, slotOf t 22, slotOf t 23, slotOf t 24, slotOf t 25, slotOf t 26, slotOf t 27, slotOf t 28, slotOf t 29, slotOf t 30, slotOf t 31, slotOf t 32, slotOf t 33, slotOf t 34, slotOf t 35, slotOf t 36, slotOf t 37, slotOf t 38, slotOf t 39, slotOf t 40, slotOf t 41, slotOf t 42, slotOf t 43, slotOf t 44, slotOf t 45, slotOf t 46, slotOf t 47, slotOf t 48, slotOf t 49, slotOf t 50, slotOf t 51, slotOf t 52, slotOf t 53, slotOf t 54, slotOf t 55, slotOf t 56, slotOf t 57, slotOf t 58, slotOf t 59, slotOf t 60, slotOf t 61, slotOf t 62, slotOf t 63, slotOf t 64, slotOf t 65, slotOf t 66, slotOf t 67, slotOf t 68, slotOf t 69, slotOf t 70, slotOf t 71, slotOf t 72, slotOf t 73, slotOf t 74, slotOf t 75, slotOf t 76, slotOf t 77, slotOf t 78, slotOf t 79, slotOf t 80, slotOf t 81, slotOf t 82, slotOf t 83, slotOf t 84, slotOf t 85, slotOf t 86, slotOf t 87, slotOf t 88, slotOf t 89, slotOf t 90, slotOf t 91, slotOf t 92, slotOf t 93, slotOf t 94, slotOf t 95, slotOf t 96, slotOf t 97, slotOf t 98, slotOf t 99, slotOf t 100, slotOf t 101, slotOf t 102, slotOf t 103, slotOf t 104, slotOf t 105, slotOf t 106, slotOf t 107]
def VR (w : World) (cb : Nat) (bv : Value) (inn : Nat) (nm : List UInt8) (c : Cu) (s : Sc (List Nat)) (e : Ending) (w' : World) : Prop :=
  e = .returned (.tuple #[.string (strL (match s with | .ok v _ => encs v | _ => [])), .bool s.good]) ∧ (∃ c', Aft c c' s ∧ CuAt w' cb bv inn nm c' ∧ Kp (· = cb) w w')
def valS (F : Nat) (l : List UInt8) : Sc (List Nat) := pk l fun q l => if q.toNat ≠ 34 ∧ q.toNat ≠ 39 then badP l else on1 (fun l => valueGo q F false [] l) l
section
variable {w0 w : World} {cb : Nat} {a : Option Addr} {n cap : Nat} {l : List UInt8} {inn : Nat} {nm : List UInt8} {c : Cu}
def JVal (n : Nat) (w : World) (cb : Nat) (bv : Value) (inn : Nat) (nm : List UInt8) (c : Cu) (l : List UInt8) (q : UInt8) (S : Sc (List Nat)) (a' : Act) (wr : World) : Prop :=
  ∃ (j f : Nat) (out : List Nat) (v : Value) (c2 : Cu), a' = { tmps := frVal cb w.heap.size q a'.tmps, defers := [] } ∧ c2 = { c with i := j } ∧ c.i + 1 ≤ j ∧ j ≤ n ∧ out.length ≤ j ∧ CuAt wr cb bv inn nm c2 ∧ Kp (· = cb) w wr ∧ VT w.heap.size w.heap.size wr v out ∧ n - j < f ∧ (valueGo q f (crAt l j) out (l.drop j)).up (j - c.i) = S
set_option maxRecDepth 100000 in
set_option maxHeartbeats 4000000 in
theorem valu_any (hL : Laid w0) (hE : CE w0 w cb a n cap l) (hC : CuAt w cb (.slice a n cap) inn nm c) (hi : c.i < n) (F : Nat) (hF : (l.drop c.i).length < F) :
    Calls Tryd.prog 76 #[.pointer (some ⟨cb, 0, none⟩)] w fun e w' => VR w cb (.slice a n cap) inn nm c (valS F (l.drop c.i)) e w' := by
  have HE := Lib.hid hE
  have HC := Lib.hid hC
  have HL := Lib.hid hL
  have hcb := hC.lt
  have hsm := hE.small
  have hcap := hE.cap
  have HLEN := Lib.hid hE.len
  obtain ⟨b, o, q, u, rfl, hb, hne, hx, hu, e0⟩ := hE.byte hi
  obtain ⟨S, hS⟩ : ∃ S, valS F (l.drop c.i) = S := ⟨_, rfl⟩
  rw [hS]
  have hs0 : (if q.toNat ≠ 34 ∧ q.toNat ≠ 39 then badP (q :: u) else on1 (fun l => valueGo q F false [] l) (q :: u)) = S := by rw [← hS, hx]; rfl
  have hci := hC.c_i
  have hcb0 := hC.c_b
  have hfz1 := hC.fz 1
  have hq256 := q.toNat_lt
  obtain ⟨i, hii⟩ : ∃ i, c.i = i := ⟨_, rfl⟩
  have HI := Lib.hid hii
  rw [hii] at hci hi e0
  have hl0 : (l.drop c.i).length = n - i := by rw [List.length_drop, HLEN.out, hii]
  rw [hl0] at hF
  obtain ⟨pb, hpb⟩ : ∃ pb, w.heap.size = pb := ⟨_, rfl⟩
  have HPB := Lib.hid hpb
  have hcpb : cb < pb := by omega
  have hbpb : b < pb := by omega
  have hmf : ∀ (fn : Fn) (first cap : Array Value) (w : World), (Instr.makeFunc fn first cap).run Tryd.prog w = .ok (.func fn first cap) w := fun _ _ _ _ => rfl
  by_cases hqq : q.toNat ≠ 34 ∧ q.toNat ≠ 39
  · rw [if_pos hqq] at hs0
    have HS : Hid (S = .bad 0) := hs0.symm
    have h34 : ((q.toNat : Int) != 34) = true := by simp; omega
    have h39 : ((q.toNat : Int) != 39) = true := by simp; omega
    have HW := Lib.hid (fun W (hb : Below w.heap.size w W) => wrong_any (hC.below hb))
    clear hS hs0 hE hC hL hqq hx hu hl0 hii hF
    go_enter Tryd.func76, Tryd.ntmps76
    go_wp2_with fail
    refine wp_scope_jumps 0 (fun _ _ => False) (fun _ _ => 0) rfl ?_ (fun _ _ h => h.elim)
    go_wp2_with fail
    go_quiet (fail)
    go_wp2_with (go_at_call 31; (with_reducible refine (HW.out _ (Below.drewN ((Below.refl w.heap.size w).alloc (Nat.le_refl _) _) _)).mono ?_); rintro e w2 ⟨rfl, h1, h2⟩)
    simp only [Exit.jump]
    go_ret2
    refine ⟨by rw [HS.out]; rfl, _, ?_, h1, (((Kp.refl (· = cb) w).alloc _).drewN _).trans h2 fun _ e => .inl e⟩
    rw [HS.out]
    show _ = _
    simp
  · rw [if_neg hqq] at hs0
    have HS0 : Hid ((valueGo q F false [] u).up 1 = S) := hs0
    have HQ3 : Hid (q.toNat = 34 ∨ q.toNat = 39) := by show _ ∨ _; omega
    have hcrq : crAt l (i + 1) = false := by
      have hg : l.getD i 0 = q := by
        have := congrArg (fun q : List UInt8 => q.getD 0 0) hx
        rw [hii] at this
        simpa [List.getD_eq_getElem?_getD] using this
      unfold crAt
      rw [Nat.add_sub_cancel, hg, decide_eq_false_iff_not]
      omega
    have HCRQ := Lib.hid hcrq
    have HU : Hid (u = l.drop (i + 1)) := by show _ = _; rw [hu, hii]
    clear hs0 hcrq
    go_enter Tryd.func76, Tryd.ntmps76
    go_wp2_with fail
    refine wp_scope_from 0 (JVal n w cb (.slice (some ⟨b, o, none⟩) n cap) inn nm c l q S) (fun _ wr => muI n cb wr) rfl (fun Q2 hp => ?_) ?_
    · have HHP := Lib.hid hp
      have hq3 : q.toNat = 34 ∨ q.toNat = 39 := HQ3.out
      clear hp hS hE hC hL hx hu hl0 hii hqq
      have fin : ∀ (d : Nat) (T : Array Value), T = frVal cb pb q T → Hid (JVal n w cb (.slice (some ⟨b, o, none⟩) n cap) inn nm c l q S { tmps := T, defers := [] } (((w.alloc (.cells #[.slice none 0 0] 26)).drewN d).setCell ⟨cb, 1, none⟩ (.int .i64 ((i : Int) + 1)))) := by
        intro d T hT
        have hbN : Below w.heap.size w ((w.alloc (.cells #[.slice none 0 0] 26)).drewN d) := Below.drewN ((Below.refl w.heap.size w).alloc (Nat.le_refl _) _) d
        refine ⟨i + 1, F, [], .slice none 0 0, { c with i := i + 1 }, by rw [HPB.out]; exact congrArg (fun T => ({ tmps := T, defers := [] } : Act)) hT, rfl, by have := HI.out; omega, by omega, by simp, (HC.out.below hbN).set_iz _ _ (by simp), (Kp.of (S := (· = cb)) hbN).set (.inl rfl) _ _, ⟨?_, ?_⟩, by omega, ?_⟩
        · rw [Below.heap_setCell _ _ _ _ (show w.heap.size ≠ cb by omega)]
          exact heap_alloc_new w _
        · refine ⟨⟨rfl, .inl ⟨rfl, rfl⟩⟩, (fun r hr => by cases hr), (fun e => by cases e), (fun _ _ e => by cases e), ?_⟩
          simp [World.setCell]
        · rw [HCRQ.out, HI.out, show i + 1 - i = 1 by omega, ← HU.out]; exact HS0.out
      rcases hq3 with hq3 | hq3
      · have h34 : ((q.toNat : Int) != 34) = false := by simp; omega
        clear hq3
        go_wp2_with fail
        go_quiet (fail)
        go_wp2_with fail
        go_step3
        exact ‹∀ a w, _ → _› _ _ (HHP.out _ _ (fin _ _ rfl).out)
      · have h34 : ((q.toNat : Int) != 34) = true := by simp; omega
        have h39 : ((q.toNat : Int) != 39) = false := by simp; omega
        clear hq3
        go_wp2_with fail
        go_quiet (fail)
        go_wp2_with fail
        go_step3
        exact ‹∀ a w, _ → _› _ _ (HHP.out _ _ (fin _ _ rfl).out)
    · rintro ⟨t, dd⟩ wr ⟨j, f, out, v, c2, ha, hc2, hij, hjn, hol, hC2, hK2, hV2, hf2, hs2⟩
      obtain ⟨f, rfl⟩ : ∃ g, f = g + 1 := ⟨f - 1, by omega⟩
      rw [hpb] at ha hV2
      obtain ⟨ha1, rfl⟩ := Act.mk.inj ha
      rw [ha1]
      clear ha ha1
      dsimp only [frVal]
      have hE2 := HE.out.keep1 hK2
      have HE2 := Lib.hid hE2
      have HC2 := Lib.hid hC2
      have HK2 := Lib.hid hK2
      have HV2 := Lib.hid hV2
      have hcb2 := hC2.lt
      have hj2 : c2.i = j := by rw [hc2]
      have hci2 := hC2.c_i
      have hcb02 := hC2.c_b
      have hfz2 := hC2.fz 1
      rw [hj2] at hci2
      have HC2E := Lib.hid hc2
      have HJ2 := Lib.hid hj2
      rw [hii] at hs2 hij
      have hmu := muI_eq (n := n) hC2
      rw [hj2] at hmu
      rw [hmu]
      have HF2 := Lib.hid hf2
      have hpcb : pb ≠ cb := by omega
      have hpb2 := heap_lt hV2.cell
      have hv40 : wr.cell? ⟨pb, 0, none⟩ = some v := by rw [cell_heap hV2.cell]; rfl
      have hvf : wr.frozen? ⟨pb, 0, none⟩ = false := frozen_heap hV2.cell
      cases hx2 : l.drop j with
      | nil =>
        have HB := Lib.hid (byte_none hE2 hC2 (by rw [hj2]; exact hx2))
        rw [hx2] at hs2
        have HS2 : Hid (S = .wait) := hs2.symm
        clear hS hE hC hL hx hu hl0 hii hF hqq hC2 hE2 hs2 hx2 hc2 hj2 hf2 hmu hV2
        go_wp2_with (go_at_call 28; (with_reducible refine HB.out.mono ?_); rintro e w2 ⟨rfl, h1, h2⟩)
        simp only [Exit.jump]
        go_ret2
        refine ⟨by rw [HS2.out]; rfl, _, ?_, h1, HK2.out.trans h2 fun k e => .inl e⟩
        rw [HS2.out]
        exact ⟨j, by rw [HC2E.out]⟩
      | cons x u2 =>
        have hlt := hE2.lt_of hx2
        have ht2 := drop_tail hx2
        have hs3 : (if x = q then on1 (doneP out) (x :: u2) else if x.toNat = 60 then badP (x :: u2) else if x.toNat = 38 then (refL (x :: u2)).next (x :: u2) fun r l => valueGo q f false (out ++ [r]) l else (charL 0 (x :: u2)).next (x :: u2) fun r l' => valueGo q f (decide (r = 13)) (valPut (crAt l j) out r) l').up (j - i) = S := by rw [← hs2, hx2]; rfl
        have HB := Lib.hid (byte_some hE2 hC2 x u2 (by rw [hj2]; exact hx2))
        have hx256 := x.toNat_lt
        by_cases hxq : x = q
        · subst hxq
          rw [if_pos rfl] at hs3
          have HS2 : Hid (S = .ok out (j - i + (1 + 0))) := hs3.symm
          have hxe : ((x.toNat : Int) == (x.toNat : Int)) = true := by simp
          obtain ⟨va, vn, hvv, _⟩ := own_slice hV2.tx.own
          have HCV : Hid (∀ W, VT pb pb W v out → (convert 26 9 v).run Tryd.prog W = .ok (.string (strL (encs out))) W) := by
            intro W hW
            obtain ⟨a', c', hv', hs'⟩ := own_sl hW.tx.own
            rw [hv']
            exact run_bytes_str (P := Tryd.prog) (s := strL (encs out)) (by unfold bytesV; rw [strL_data]; exact hs') 26 9 5 Tryd.underlying26 Tryd.underlying5 Tryd.underlying9 c'
          rw [hvv] at hv40 HCV
          have HVV := Lib.hid hvv
          clear hS hE hC hL hx hu hl0 hii hF hqq hC2 hE2 hs2 hs3 hx2 hc2 hj2 hf2 hmu ht2 hV2 hvv
          go_wp2_with (go_at_call 28; (with_reducible refine HB.out.mono ?_); rintro e w2 ⟨rfl, hb2⟩; have d1 := (hb2.cell (p := ⟨cb, 1, none⟩) hcb2).trans hci2; have f1 := (hb2.frozen (p := ⟨cb, 1, none⟩) hcb2).trans hfz2; have hcb4 := Nat.lt_of_lt_of_le hcb2 hb2.size; have hV4 := ((HV2.out.below hb2).keep ((Kp.refl (· = cb) w2).set (.inl rfl) 1 (.int .i64 ((j : Int) + 1))) hpcb (fun j' e => by have e' : j' = cb := e; omega)); have hcv := HCV.out _ (by rw [← HVV.out]; exact hV4); have d40 : w2.cell? ⟨pb, 0, none⟩ = some _ := (hb2.cell (p := ⟨pb, 0, none⟩) hpb2).trans hv40)
          simp only [Exit.jump]
          go_ret2
          refine ⟨by rw [HS2.out]; rfl, { c2 with i := j + 1 }, ?_, (HC2.out.below hb2).set_iz _ _ (by simp), (HK2.out.on hb2).set (.inl rfl) _ _⟩
          rw [HS2.out]
          show _ = _
          rw [HC2E.out, HI.out, show i + (j - i + (1 + 0)) = j + 1 by omega]
        · have hxe : ((x.toNat : Int) == (q.toNat : Int)) = false := by
            simp only [beq_eq_false_iff_ne, ne_eq]
            intro h
            exact hxq (UInt8.toNat_inj.1 (by omega))
          rw [if_neg hxq] at hs3
          by_cases hx60 : x.toNat = 60
          · have hxe2 : ((x.toNat : Int) == 60) = true := by simp; omega
            rw [if_pos hx60] at hs3
            have HS2 : Hid (S = .bad (j - i)) := hs3.symm
            have HW := Lib.hid (fun W (hb : Below wr.heap.size wr W) => wrong_any (hC2.below hb))
            clear hS hE hC hL hx hu hl0 hii hF hqq hC2 hE2 hs2 hs3 hx2 hc2 hj2 hf2 hmu ht2 hV2 hx60 hxq
            go_wp2_with (first | (go_at_call 28; (with_reducible refine HB.out.mono ?_); rintro e w2 ⟨rfl, hb2⟩) | (go_at_call 31; (with_reducible refine (HW.out _ hb2).mono ?_); rintro e w3 ⟨rfl, h1, h2⟩))
            simp only [Exit.jump]
            go_ret2
            refine ⟨by rw [HS2.out]; rfl, _, ?_, h1, (HK2.out.on hb2).trans h2 fun k e => .inl e⟩
            rw [HS2.out]
            show _ = _
            rw [HC2E.out, HI.out, show i + (j - i) = j by omega]
          · have hxe2 : ((x.toNat : Int) == 60) = false := by simp; omega
            rw [if_neg hx60] at hs3
            by_cases hx38 : x.toNat = 38
            · have hxe3 : ((x.toNat : Int) == 38) = true := by simp; omega
              rw [if_pos hx38, ← hx2] at hs3
              have HRF := Lib.hid (fun W (hb : Below wr.heap.size wr W) => refer_val HL.out (hE2.below hb) (hC2.below hb) (by rw [hj2]; exact hlt) pb (fun r w' => ∀ k, refL (l.drop j) = .ok r k → ∃ v', VT pb pb w' v' (out ++ [r]) ∧ CuAt w' cb (.slice (some ⟨b, o, none⟩) n cap) inn nm { c with i := j + k } ∧ Kp (fun m => m = cb ∨ pb ≤ m) wr w') (by
                intro r k W' hr h1 h2
                rw [hj2] at hr h1
                obtain ⟨_, _, _, hir, _⟩ := refL_ok _ _ _ hr
                have hV := (hV2.below hb).keep h2 hpcb (fun j' e => by have e' : j' = cb := e; omega)
                refine (valc_any hV (by omega) r (chr_of hir) c2.i).mono ?_
                rintro e w' ⟨he, v', hv', hk'⟩
                refine ⟨he, fun k' hk2 => ⟨v', hv', ?_, ?_⟩⟩
                · rw [hr] at hk2
                  cases hk2
                  have h5 := h1.keep hk' (by
                    rintro (e | e)
                    · omega
                    · have := (hV.tx.lt e).1; omega)
                  rw [hc2] at h5
                  exact h5
                · refine (((Kp.of (S := fun m => m = cb ∨ pb ≤ m) hb).trans h2 fun _ e => .inl (.inl e)).trans hk' fun m e => ?_)
                  rcases e with e | e
                  · exact .inl (.inr (by omega))
                  · exact .inl (.inr (hV.tx.lt e).1)))
              rw [hj2] at HRF
              cases hrf : refL (l.drop j) with
              | wait =>
                rw [hrf] at HRF hs3
                have HS2 : Hid (S = .wait) := hs3.symm
                clear hS hE hC hL hx hu hl0 hii hF hqq hC2 hE2 hs2 hs3 hx2 hc2 hj2 hf2 hmu ht2 hV2 hx60 hx38 hxq hrf
                go_wp2_with (first | (go_at_call 28; (with_reducible refine HB.out.mono ?_); rintro e w2 ⟨rfl, hb2⟩) | (go_at_call 32; (with_reducible refine (HRF.out _ hb2).mono ?_); rintro e w3 ⟨rfl, hra⟩))
                simp only [Exit.jump]
                go_ret2
                obtain ⟨i', h1, h2⟩ := hra
                refine ⟨by rw [HS2.out]; rfl, _, ?_, h1, (HK2.out.on hb2).trans h2 fun k e => .inl e⟩
                rw [HS2.out]
                exact ⟨i', by rw [HC2E.out]⟩
              | bad k =>
                rw [hrf] at HRF hs3
                have HS2 : Hid (S = .bad (j - i + k)) := hs3.symm
                clear hS hE hC hL hx hu hl0 hii hF hqq hC2 hE2 hs2 hs3 hx2 hc2 hj2 hf2 hmu ht2 hV2 hx60 hx38 hxq hrf
                go_wp2_with (first | (go_at_call 28; (with_reducible refine HB.out.mono ?_); rintro e w2 ⟨rfl, hb2⟩) | (go_at_call 32; (with_reducible refine (HRF.out _ hb2).mono ?_); rintro e w3 ⟨rfl, hra⟩))
                simp only [Exit.jump]
                go_ret2
                obtain ⟨h1, h2⟩ := hra
                refine ⟨by rw [HS2.out]; rfl, _, ?_, h1, (HK2.out.on hb2).trans h2 fun k e => .inl e⟩
                rw [HS2.out]
                show _ = _
                rw [HC2E.out, HI.out]
                simp only [Cu.mk.injEq, and_true]
                omega
              | ok r k =>
                obtain ⟨hk1', hk2', _⟩ := refL_ok _ _ _ hrf
                rw [List.length_drop, ← HLEN.out] at hk2'
                have hs4 : (valueGo q f (crAt l (j + k)) (out ++ [r]) (l.drop (j + k))).up (j + k - i) = S := by
                  rw [cr_ref hrf, ← hs3, hrf]
                  show _ = ((valueGo q f false (out ++ [r]) ((l.drop j).drop k)).up k).up (j - i)
                  rw [Sc.up_up, List.drop_drop, show j - i + k = j + k - i by omega]
                have HS4 := Lib.hid hs4
                rw [hrf] at HRF
                clear hS hE hC hL hx hu hl0 hii hF hqq hC2 hE2 hs2 hs3 hx2 hc2 hj2 hf2 hmu ht2 hV2 hx60 hx38 hxq hrf hs4
                go_wp2_with (first | (go_at_call 28; (with_reducible refine HB.out.mono ?_); rintro e w2 ⟨rfl, hb2⟩) | (go_at_call 32; (with_reducible refine (HRF.out _ hb2).mono ?_); rintro e w3 ⟨he, hra⟩; obtain rfl : e = .returned (.bool true) := he; obtain ⟨v', hv', h1, h2⟩ := hra k rfl; have HV3 := Lib.hid hv'; have H1 := Lib.hid h1; have H2 := Lib.hid h2; clear hra hv' h1 h2))
                go_step3
                refine ⟨rfl, ⟨j + k, f, out ++ [r], v', _, by rw [HPB.out]; rfl, rfl, by rw [HI.out]; omega, by omega, by rw [List.length_append, List.length_singleton]; omega, H1.out, HK2.out.trans H2.out (fun m e => by rcases e with e | e; exact .inl e; exact .inr (by have := HPB.out; omega)), by rw [HPB.out]; exact HV3.out, by have := HF2.out; omega, ?_⟩, ?_⟩
                · rw [HI.out]; exact HS4.out
                · rw [muI_eq H1.out]; show n - (j + k) < n - j; omega
            · have hxe3 : ((x.toNat : Int) == 38) = false := by simp; omega
              rw [if_neg hx38, ← hx2] at hs3
              have HCH3 := Lib.hid (fun W (hb : Below wr.heap.size wr W) => char0 HL.out (hE2.below hb) (hC2.below hb) (by rw [hj2]; omega))
              rw [hj2] at HCH3
              cases hch : charL 0 (l.drop j) with
              | wait =>
                rw [hch] at HCH3 hs3
                have HS2 : Hid (S = .wait) := hs3.symm
                clear hS hE hC hL hx hu hl0 hii hF hqq hC2 hE2 hs2 hs3 hx2 hc2 hj2 hf2 hmu ht2 hV2 hx60 hx38 hxq hch
                go_wp2_with (first | (go_at_call 28; (with_reducible refine HB.out.mono ?_); rintro e w2 ⟨rfl, hb2⟩) | (go_at_call 35; (with_reducible refine (HCH3.out _ hb2).mono ?_); rintro e w3 ⟨rfl, c3, ha3, h3, h4⟩))
                simp only [Exit.jump]
                go_ret2
                refine ⟨by rw [HS2.out]; rfl, c3, ?_, h3, (HK2.out.on hb2).trans h4 fun k e => .inl e⟩
                rw [HS2.out]
                obtain ⟨i', rfl⟩ := ha3
                exact ⟨i', by rw [HC2E.out]⟩
              | bad k =>
                rw [hch] at HCH3 hs3
                have HS2 : Hid (S = .bad (j - i + k)) := hs3.symm
                clear hS hE hC hL hx hu hl0 hii hF hqq hC2 hE2 hs2 hs3 hx2 hc2 hj2 hf2 hmu ht2 hV2 hx60 hx38 hxq hch
                go_wp2_with (first | (go_at_call 28; (with_reducible refine HB.out.mono ?_); rintro e w2 ⟨rfl, hb2⟩) | (go_at_call 35; (with_reducible refine (HCH3.out _ hb2).mono ?_); rintro e w3 ⟨rfl, c3, ha3, h3, h4⟩))
                simp only [Exit.jump]
                go_ret2
                refine ⟨by rw [HS2.out]; rfl, c3, ?_, h3, (HK2.out.on hb2).trans h4 fun k e => .inl e⟩
                rw [HS2.out]
                show _ = _
                rw [show c3 = { c2 with i := c2.i + k, how := 2 } from ha3, HC2E.out, HI.out]
                simp only [Cu.mk.injEq, and_true]
                omega
              | ok r k =>
                obtain ⟨hk1', hk2', hwb, hchr, _, henc⟩ := charL_ok (.inl rfl) hch
                clear hwb
                rw [List.length_drop, ← HLEN.out] at hk2'
                have hkk : k = (encN r).length := by
                  have := congrArg List.length henc
                  rw [List.length_take, List.length_drop, ← HLEN.out, Nat.min_eq_left hk2', show (encU r).length = (encN r).length by simp [encU]] at this
                  exact this
                rw [hch] at HCH3 hs3
                have hs4 : (valueGo q f (crAt l (j + k)) (valPut (crAt l j) out r) (l.drop (j + k))).up (j + k - i) = S := by
                  rw [cr_next hch, ← hs3]
                  show _ = ((valueGo q f (decide (r = 13)) (valPut (crAt l j) out r) ((l.drop j).drop k)).up k).up (j - i)
                  rw [Sc.up_up, List.drop_drop, show j - i + k = j + k - i by omega]
                have HS4 := Lib.hid hs4
                obtain ⟨va, vc, hvv, _⟩ := own_slice hV2.tx.own
                have HVV := Lib.hid hvv
                have hvp : r ≠ 10 → r ≠ 13 → r ≠ 9 → valPut (crAt l j) out r = out ++ [r] := by
                  intro h1 h2 h3
                  unfold valPut
                  rw [if_neg (fun h => h1 h.1), if_neg (by omega)]
                have hsp : (r = 10 → crAt l j = false) → (r = 10 ∨ r = 13 ∨ r = 9) → valPut (crAt l j) out r = out ++ [32] := by
                  intro h1 h2
                  unfold valPut
                  rw [if_neg (fun h => by rw [h1 h.1] at h; exact absurd h.2 (by simp)), if_pos h2]
                have hskp : r = 10 → crAt l j = true → valPut (crAt l j) out r = out := by
                  intro h1 h2
                  unfold valPut
                  rw [if_pos ⟨h1, h2⟩]
                by_cases hr : r ≠ 10 ∧ r ≠ 13 ∧ r ≠ 9
                · obtain ⟨hr10, hr13, hr9⟩ := hr
                  rw [hvp hr10 hr13 hr9] at hs4
                  have HS5 := Lib.hid hs4
                  have z10 : ((r : Int) == 10) = false := by simp; omega
                  have z13 : ((r : Int) == 13) = false := by simp; omega
                  have z9 : ((r : Int) == 9) = false := by simp; omega
                  have COK : Hid (∀ W W3 c3, Below wr.heap.size wr W → Aft c2 c3 (Sc.ok r k) → CuAt W3 cb (.slice (some ⟨b, o, none⟩) n cap) inn nm c3 → Kp (· = cb) W W3 → CuAt W3 cb (.slice (some ⟨b, o, none⟩) n cap) inn nm { c with i := j + k } ∧ Kp (· = cb) wr W3 ∧ VT pb pb W3 v out ∧ W3.cell? ⟨cb, 0, none⟩ = some (.slice (some ⟨b, o, none⟩) n cap) ∧ W3.cell? ⟨cb, 1, none⟩ = some (.int .i64 (j + k : Nat)) ∧ W3.cell? ⟨pb, 0, none⟩ = some (.slice va (encs out).length vc) ∧ W3.frozen? ⟨pb, 0, none⟩ = false ∧ cb < W3.heap.size ∧ pb < W3.heap.size) := by
                    intro W W3 c3 hbW ha3 h3 h4
                    have hA : c3 = { c2 with i := c2.i + k } := ha3
                    have hA2 : c3 = { c with i := j + k } := by rw [hA, HC2E.out]
                    rw [hA2] at h3
                    have hK := (Kp.of (S := (· = cb)) hbW).trans h4 fun _ e => .inl e
                    have hV := (HV2.out.below hbW).keep h4 hpcb (fun j' e => by have e' : j' = cb := e; omega)
                    exact ⟨h3, hK, hV, h3.c_b, h3.c_i, by rw [cell_heap hV.cell, ← hvv]; rfl, frozen_heap hV.cell, h3.lt, heap_lt hV.cell⟩
                  have HCHR := Lib.hid hchr
                  have HAR := Lib.hid (fun W (h : VT pb pb W v out) => ar_ok h (by omega) r hchr)
                  rw [hvv] at HAR
                  clear hS hE hC hL hx hu hl0 hii hF hqq hC2 hE2 hs2 hs3 hx2 hc2 hj2 hf2 hmu ht2 hV2 hx60 hx38 hxq hch hs4 hkk henc hvp hsp hskp hvv hr10 hr13 hr9 HS4
                  go_wp2_with (first | (go_at_call 28; (with_reducible refine HB.out.mono ?_); rintro e w2 ⟨rfl, hb2⟩) | (go_at_call 35; (with_reducible refine (HCH3.out _ hb2).mono ?_); rintro e w3 ⟨he, c3, ha3, h3, h4⟩; obtain rfl : e = .returned (.tuple #[.int .i32 (r : Int), .bool true]) := he; obtain ⟨H3, H4, HV3, d0, d1, d40, f40, hcb3, hpb3⟩ := COK.out _ _ _ hb2 ha3 h3 h4; clear ha3 h3 h4))
                  go_quiet (fail)
                  go_wp2_with (go_at_call 46; (with_reducible refine (HAR.out _ (by rw [← HVV.out]; exact HV3.below (Below.drewN (Below.refl _ w3) nq))).mono ?_); rintro e w4 ⟨v', rfl, hb4, ⟨a2, n2, c2', rfl⟩, h5, h6, h7⟩; have d44 : w4.cell? ⟨pb, 0, none⟩ = some (.slice va (encs out).length vc) := (by rw [cell_heap hb4]; rfl); have f44 : w4.frozen? ⟨pb, 0, none⟩ = false := frozen_heap hb4; have HVF := Lib.hid h5; have HK6 := Lib.hid h6; clear h5 h6 hb4)
                  have HKF : Hid (Kp (fun m => m = cb ∨ pb ≤ m) wr (w4.setCell ⟨pb, 0, none⟩ (.slice a2 n2 c2'))) := by
                    refine ((H4.mono (S' := fun m => m = cb ∨ pb ≤ m) fun _ _ e => .inl e).drewN nq).trans HK6.out fun m e => ?_
                    rcases e with e | e
                    · exact .inl (.inr (by omega))
                    · have hV9 := HV3
                      rw [HVV.out] at hV9
                      exact .inl (.inr (hV9.tx.lt e).1)
                  have HCF : Hid (CuAt (w4.setCell ⟨pb, 0, none⟩ (.slice a2 n2 c2')) cb (.slice (some ⟨b, o, none⟩) n cap) inn nm { c with i := j + k }) := by
                    refine (H3.below (Below.drewN (Below.refl _ w3) nq)).keep HK6.out ?_
                    rintro (e | e)
                    · omega
                    · have hV9 := HV3
                      rw [HVV.out] at hV9
                      have := (hV9.tx.lt e).1
                      omega
                  go_step3
                  refine ⟨rfl, ⟨j + k, f, out ++ [r], _, _, by rw [HPB.out]; rfl, rfl, by rw [HI.out]; omega, by omega, by rw [List.length_append, List.length_singleton]; omega, HCF.out, HK2.out.trans HKF.out (fun m e => by rcases e with e | e; exact .inl e; exact .inr (by have := HPB.out; omega)), by rw [HPB.out]; exact HVF.out, by have := HF2.out; omega, ?_⟩, ?_⟩
                  · rw [HI.out]; exact HS5.out
                  · rw [muI_eq HCF.out]; show n - (j + k) < n - j; omega
                · have hr2 : r = 10 ∨ r = 13 ∨ r = 9 := by omega
                  have e32 : u8s (encU 32) = [.int .u8 32] := by simp [u8s, encU, encN]
                  have e32l : (encN 32).length = 1 := rfl
                  have hlen4 := encs_len out
                  obtain ⟨i0, hinf, hi3⟩ := Option.map_eq_some_iff.1 infoU8r
                  simp only [Prod.mk.injEq] at hi3
                  obtain ⟨hz0, hz1, hz2⟩ := hi3
                  by_cases hr10 : r = 10
                  · subst hr10
                    have hk1 : k = 1 := hkk
                    subst hk1
                    obtain ⟨z, hz⟩ : ∃ z, j + 1 = z := ⟨_, rfl⟩
                    obtain ⟨j1, hj1⟩ : ∃ j1, j1 + 1 = j := ⟨j - 1, by omega⟩
                    obtain ⟨b', o', x1, u1, hab, hb1, hne1, hxx, _, e1⟩ := HE2.out.byte (i := j1) (by omega)
                    injection hab with hab
                    injection hab with hab1 hab2
                    subst hab1
                    subst hab2
                    have hg1 : crAt l j = decide (x1.toNat = 13) := by
                      have hg : l.getD j1 0 = x1 := by
                        have := congrArg (fun q : List UInt8 => q.getD 0 0) hxx
                        simpa [List.getD_eq_getElem?_getD] using this
                      unfold crAt
                      rw [show j - 1 = j1 by omega, hg, decide_eq_decide]
                      omega
                    have hwj : IntKind.i64.wrap ((z : Int) - 2) = (j1 : Int) := by rw [IntKind.wrap_i64]; omega
                    have hj1n : (j1 : Int) < (n : Int) := by omega
                    have hj10 : (0 : Int) ≤ (j1 : Int) := by omega
                    have COK : Hid (∀ W W3 c3, Below wr.heap.size wr W → Aft c2 c3 (Sc.ok 10 1) → CuAt W3 cb (.slice (some ⟨b, o, none⟩) n cap) inn nm c3 → Kp (· = cb) W W3 → CuAt W3 cb (.slice (some ⟨b, o, none⟩) n cap) inn nm { c with i := j + 1 } ∧ Kp (· = cb) wr W3 ∧ VT pb pb W3 v out ∧ W3.cell? ⟨cb, 0, none⟩ = some (.slice (some ⟨b, o, none⟩) n cap) ∧ W3.cell? ⟨cb, 1, none⟩ = some (.int .i64 (z : Nat)) ∧ W3.cell? ⟨pb, 0, none⟩ = some (.slice va (encs out).length vc) ∧ W3.frozen? ⟨pb, 0, none⟩ = false ∧ cb < W3.heap.size ∧ pb < W3.heap.size ∧ W3.cell? ⟨b, o + j1, none⟩ = some (.int .u8 x1.toNat)) := by
                      intro W W3 c3 hbW ha3 h3 h4
                      have hA : c3 = { c2 with i := c2.i + 1 } := ha3
                      have hA2 : c3 = { c with i := j + 1 } := by rw [hA, HC2E.out]
                      rw [hA2] at h3
                      have hK := (Kp.of (S := (· = cb)) hbW).trans h4 fun _ e => .inl e
                      have hV := (HV2.out.below hbW).keep h4 hpcb (fun j' e => by have e' : j' = cb := e; omega)
                      exact ⟨h3, hK, hV, h3.c_b, by rw [← hz]; exact h3.c_i, by rw [cell_heap hV.cell, ← hvv]; rfl, frozen_heap hV.cell, h3.lt, heap_lt hV.cell, (hK.cell (p := ⟨b, o + j1, none⟩) hb1 hne1).trans e1⟩
                    by_cases hx13 : x1.toNat = 13
                    · have hx13e : ((x1.toNat : Int) == 13) = true := by simp; omega
                      rw [hskp rfl (by rw [hg1]; exact decide_eq_true hx13)] at hs4
                      have HS5 := Lib.hid hs4
                      clear hS hE hC hL hx hu hl0 hii hF hqq hC2 hE2 hs2 hs3 hx2 hc2 hj2 hf2 hmu ht2 hV2 hx60 hx38 hxq hch hs4 hkk henc hvp hsp hskp hvv HS4 hx13 hg1 hxx hj1
                      go_wp2_with (first | (go_at_call 28; (with_reducible refine HB.out.mono ?_); rintro e w2 ⟨rfl, hb2⟩) | (go_at_call 35; (with_reducible refine (HCH3.out _ hb2).mono ?_); rintro e w3 ⟨he, c3, ha3, h3, h4⟩; obtain rfl : e = .returned (.tuple #[.int .i32 (10 : Int), .bool true]) := he; obtain ⟨H3, H4, HV3, d0, d1, d40, f40, hcb3, hpb3, e9⟩ := COK.out _ _ _ hb2 ha3 h3 h4; clear ha3 h3 h4))
                      go_quiet (fail)
                      have HKF : Hid (Kp (fun m => m = cb ∨ pb ≤ m) wr (w3.drewN nq)) := (H4.mono (S' := fun m => m = cb ∨ pb ≤ m) fun _ _ e => .inl e).drewN nq
                      have HCF : Hid (CuAt (w3.drewN nq) cb (.slice (some ⟨b, o, none⟩) n cap) inn nm { c with i := j + 1 }) := H3.below (Below.drewN (Below.refl _ w3) nq)
                      have HVF : Hid (VT pb pb (w3.drewN nq) v out) := HV3.below (Below.drewN (Below.refl _ w3) nq)
                      go_wp2_with fail
                      go_step3
                      refine ⟨rfl, ⟨j + 1, f, out, v, _, by rw [HPB.out]; rfl, rfl, by rw [HI.out]; omega, by omega, by omega, HCF.out, HK2.out.trans HKF.out (fun m e => by rcases e with e | e; exact .inl e; exact .inr (by have := HPB.out; omega)), by rw [HPB.out]; exact HVF.out, by have := HF2.out; omega, ?_⟩, ?_⟩
                      · rw [HI.out]; exact HS5.out
                      · rw [muI_eq HCF.out]; show n - (j + 1) < n - j; omega
                    · have hx13e : ((x1.toNat : Int) == 13) = false := by simp; omega
                      rw [hsp (fun _ => by rw [hg1]; exact decide_eq_false hx13) (.inl rfl)] at hs4
                      have HS5 := Lib.hid hs4
                      clear hS hE hC hL hx hu hl0 hii hF hqq hC2 hE2 hs2 hs3 hx2 hc2 hj2 hf2 hmu ht2 hV2 hx60 hx38 hxq hch hs4 hkk henc hvp hsp hskp hvv HS4 hx13 hg1 hxx hj1
                      go_wp2_with (first | (go_at_call 28; (with_reducible refine HB.out.mono ?_); rintro e w2 ⟨rfl, hb2⟩) | (go_at_call 35; (with_reducible refine (HCH3.out _ hb2).mono ?_); rintro e w3 ⟨he, c3, ha3, h3, h4⟩; obtain rfl : e = .returned (.tuple #[.int .i32 (10 : Int), .bool true]) := he; obtain ⟨H3, H4, HV3, d0, d1, d40, f40, hcb3, hpb3, e9⟩ := COK.out _ _ _ hb2 ha3 h3 h4; clear ha3 h3 h4))
                      go_quiet (fail)
                      have hV4 := HV3.below (Below.drewN (Below.refl _ w3) nq)
                      have hown4 := hV4.tx.own
                      rw [HVV.out] at hown4
                      have HV4 := Lib.hid hV4
                      clear hV4
                      go_wp2_with (at_builtin; refine wpList_app2 _ rfl (.tmp 105) (.tmp 106) 26 rfl pb 5 i0 (.int .u8 0) 1 1 Tryd.underlying26 hinf hz0 hz1 hz2 rfl (by decide) _ _ _ rfl (hown4.alloc _) ⟨w3.heap.size, 0, none⟩ 1 1 (by decide) [.int .u8 32] rfl rfl ?c1 ?c2 ?c3 ?c4 ?c5 ?_)
                      case c1 =>
                        intro j' u' hj'
                        match j', hj' with
                        | 0, hj' => simp at hj'; subst hj'; show (World.alloc (w3.drewN nq) (.cells #[.int .u8 32] 5)).cell? ⟨(w3.drewN nq).heap.size, 0, none⟩ = _; rw [cell_heap (heap_alloc_new _ _)]; rfl
                        | (j' + 1), hj' => simp at hj'
                      case c2 => intro u' hu'; simp at hu'; subst hu'; rfl
                      case c3 => unfold maxLen; omega
                      case c4 => omega
                      case c5 => simp; omega
                      intro v' w4 hown5 happ5
                      obtain ⟨hb4, h5, h6⟩ := HV4.out.step (o := .cells #[.int .u8 32] 5) (q := 32) (v' := v') (.inl (by decide)) (by rw [e32]; exact hown5) (by rw [HVV.out]; exact happ5)
                      obtain ⟨a2, c2', hv2', _⟩ := own_slice hown5
                      subst hv2'
                      have d44 : w4.cell? ⟨pb, 0, none⟩ = some (.slice va (encs out).length vc) := by rw [cell_heap hb4, ← HVV.out]; rfl
                      have f44 : w4.frozen? ⟨pb, 0, none⟩ = false := frozen_heap hb4
                      have HVF := Lib.hid h5
                      have HK6 := Lib.hid h6
                      clear h5 h6 hb4 hown5 happ5 hown4
                      have hV9 := HV3
                      have HKF : Hid (Kp (fun m => m = cb ∨ pb ≤ m) wr (w4.setCell ⟨pb, 0, none⟩ (.slice a2 ((encs out).length + 1) c2'))) := by
                        refine ((H4.mono (S' := fun m => m = cb ∨ pb ≤ m) fun _ _ e => .inl e).drewN nq).trans HK6.out fun m e => ?_
                        rcases e with e | e
                        · exact .inl (.inr (by omega))
                        · exact .inl (.inr (hV9.tx.lt e).1)
                      have HCF : Hid (CuAt (w4.setCell ⟨pb, 0, none⟩ (.slice a2 ((encs out).length + 1) c2')) cb (.slice (some ⟨b, o, none⟩) n cap) inn nm { c with i := j + 1 }) := by
                        refine (H3.below (Below.drewN (Below.refl _ w3) nq)).keep HK6.out ?_
                        rintro (e | e)
                        · omega
                        · have := (hV9.tx.lt e).1
                          omega
                      clear hV9
                      go_wp2_with fail
                      go_step3
                      refine ⟨rfl, ⟨j + 1, f, out ++ [32], _, _, by rw [HPB.out]; rfl, rfl, by rw [HI.out]; omega, by omega, by rw [List.length_append, List.length_singleton]; omega, HCF.out, HK2.out.trans HKF.out (fun m e => by rcases e with e | e; exact .inl e; exact .inr (by have := HPB.out; omega)), by rw [HPB.out]; exact HVF.out, by have := HF2.out; omega, ?_⟩, ?_⟩
                      · rw [HI.out]; exact HS5.out
                      · rw [muI_eq HCF.out]; show n - (j + 1) < n - j; omega
                  · have hr2 : r = 13 ∨ r = 9 := by omega
                    obtain ⟨z, hz⟩ : ∃ z, j + 1 = z := ⟨_, rfl⟩
                    rw [hsp (fun h => absurd h hr10) (.inr hr2)] at hs4
                    rcases hr2 with rfl | rfl
                    · have hk1 : k = 1 := hkk
                      subst hk1
                      have COK : Hid (∀ W W3 c3, Below wr.heap.size wr W → Aft c2 c3 (Sc.ok 13 1) → CuAt W3 cb (.slice (some ⟨b, o, none⟩) n cap) inn nm c3 → Kp (· = cb) W W3 → CuAt W3 cb (.slice (some ⟨b, o, none⟩) n cap) inn nm { c with i := j + 1 } ∧ Kp (· = cb) wr W3 ∧ VT pb pb W3 v out ∧ W3.cell? ⟨cb, 0, none⟩ = some (.slice (some ⟨b, o, none⟩) n cap) ∧ W3.cell? ⟨cb, 1, none⟩ = some (.int .i64 (z : Nat)) ∧ W3.cell? ⟨pb, 0, none⟩ = some (.slice va (encs out).length vc) ∧ W3.frozen? ⟨pb, 0, none⟩ = false ∧ cb < W3.heap.size ∧ pb < W3.heap.size) := by
                        intro W W3 c3 hbW ha3 h3 h4
                        have hA : c3 = { c2 with i := c2.i + 1 } := ha3
                        have hA2 : c3 = { c with i := j + 1 } := by rw [hA, HC2E.out]
                        rw [hA2] at h3
                        have hK := (Kp.of (S := (· = cb)) hbW).trans h4 fun _ e => .inl e
                        have hV := (HV2.out.below hbW).keep h4 hpcb (fun j' e => by have e' : j' = cb := e; omega)
                        exact ⟨h3, hK, hV, h3.c_b, by rw [← hz]; exact h3.c_i, by rw [cell_heap hV.cell, ← hvv]; rfl, frozen_heap hV.cell, h3.lt, heap_lt hV.cell⟩
                      have HS5 := Lib.hid hs4
                      clear hS hE hC hL hx hu hl0 hii hF hqq hC2 hE2 hs2 hs3 hx2 hc2 hj2 hf2 hmu ht2 hV2 hx60 hx38 hxq hch hs4 hkk henc hvp hsp hskp hvv HS4 hr10
                      go_wp2_with (first | (go_at_call 28; (with_reducible refine HB.out.mono ?_); rintro e w2 ⟨rfl, hb2⟩) | (go_at_call 35; (with_reducible refine (HCH3.out _ hb2).mono ?_); rintro e w3 ⟨he, c3, ha3, h3, h4⟩; obtain rfl : e = .returned (.tuple #[.int .i32 (13 : Int), .bool true]) := he; obtain ⟨H3, H4, HV3, d0, d1, d40, f40, hcb3, hpb3⟩ := COK.out _ _ _ hb2 ha3 h3 h4; clear ha3 h3 h4))
                      go_quiet (fail)
                      have hV4 := HV3.below (Below.drewN (Below.refl _ w3) nq)
                      have hown4 := hV4.tx.own
                      rw [HVV.out] at hown4
                      have HV4 := Lib.hid hV4
                      clear hV4
                      go_wp2_with (at_builtin; refine wpList_app2 _ rfl (.tmp 105) (.tmp 106) 26 rfl pb 5 i0 (.int .u8 0) 1 1 Tryd.underlying26 hinf hz0 hz1 hz2 rfl (by decide) _ _ _ rfl (hown4.alloc _) ⟨w3.heap.size, 0, none⟩ 1 1 (by decide) [.int .u8 32] rfl rfl ?c1 ?c2 ?c3 ?c4 ?c5 ?_)
                      case c1 =>
                        intro j' u' hj'
                        match j', hj' with
                        | 0, hj' => simp at hj'; subst hj'; show (World.alloc (w3.drewN nq) (.cells #[.int .u8 32] 5)).cell? ⟨(w3.drewN nq).heap.size, 0, none⟩ = _; rw [cell_heap (heap_alloc_new _ _)]; rfl
                        | (j' + 1), hj' => simp at hj'
                      case c2 => intro u' hu'; simp at hu'; subst hu'; rfl
                      case c3 => unfold maxLen; omega
                      case c4 => omega
                      case c5 => simp; omega
                      intro v' w4 hown5 happ5
                      obtain ⟨hb4, h5, h6⟩ := HV4.out.step (o := .cells #[.int .u8 32] 5) (q := 32) (v' := v') (.inl (by decide)) (by rw [e32]; exact hown5) (by rw [HVV.out]; exact happ5)
                      obtain ⟨a2, c2', hv2', _⟩ := own_slice hown5
                      subst hv2'
                      have d44 : w4.cell? ⟨pb, 0, none⟩ = some (.slice va (encs out).length vc) := by rw [cell_heap hb4, ← HVV.out]; rfl
                      have f44 : w4.frozen? ⟨pb, 0, none⟩ = false := frozen_heap hb4
                      have HVF := Lib.hid h5
                      have HK6 := Lib.hid h6
                      clear h5 h6 hb4 hown5 happ5 hown4
                      have hV9 := HV3
                      have HKF : Hid (Kp (fun m => m = cb ∨ pb ≤ m) wr (w4.setCell ⟨pb, 0, none⟩ (.slice a2 ((encs out).length + 1) c2'))) := by
                        refine ((H4.mono (S' := fun m => m = cb ∨ pb ≤ m) fun _ _ e => .inl e).drewN nq).trans HK6.out fun m e => ?_
                        rcases e with e | e
                        · exact .inl (.inr (by omega))
                        · exact .inl (.inr (hV9.tx.lt e).1)
                      have HCF : Hid (CuAt (w4.setCell ⟨pb, 0, none⟩ (.slice a2 ((encs out).length + 1) c2')) cb (.slice (some ⟨b, o, none⟩) n cap) inn nm { c with i := j + 1 }) := by
                        refine (H3.below (Below.drewN (Below.refl _ w3) nq)).keep HK6.out ?_
                        rintro (e | e)
                        · omega
                        · have := (hV9.tx.lt e).1
                          omega
                      clear hV9
                      go_wp2_with fail
                      go_step3
                      refine ⟨rfl, ⟨j + 1, f, out ++ [32], _, _, by rw [HPB.out]; rfl, rfl, by rw [HI.out]; omega, by omega, by rw [List.length_append, List.length_singleton]; omega, HCF.out, HK2.out.trans HKF.out (fun m e => by rcases e with e | e; exact .inl e; exact .inr (by have := HPB.out; omega)), by rw [HPB.out]; exact HVF.out, by have := HF2.out; omega, ?_⟩, ?_⟩
                      · rw [HI.out]; exact HS5.out
                      · rw [muI_eq HCF.out]; show n - (j + 1) < n - j; omega
                    · have hk1 : k = 1 := hkk
                      subst hk1
                      have COK : Hid (∀ W W3 c3, Below wr.heap.size wr W → Aft c2 c3 (Sc.ok 9 1) → CuAt W3 cb (.slice (some ⟨b, o, none⟩) n cap) inn nm c3 → Kp (· = cb) W W3 → CuAt W3 cb (.slice (some ⟨b, o, none⟩) n cap) inn nm { c with i := j + 1 } ∧ Kp (· = cb) wr W3 ∧ VT pb pb W3 v out ∧ W3.cell? ⟨cb, 0, none⟩ = some (.slice (some ⟨b, o, none⟩) n cap) ∧ W3.cell? ⟨cb, 1, none⟩ = some (.int .i64 (z : Nat)) ∧ W3.cell? ⟨pb, 0, none⟩ = some (.slice va (encs out).length vc) ∧ W3.frozen? ⟨pb, 0, none⟩ = false ∧ cb < W3.heap.size ∧ pb < W3.heap.size) := by
                        intro W W3 c3 hbW ha3 h3 h4
                        have hA : c3 = { c2 with i := c2.i + 1 } := ha3
                        have hA2 : c3 = { c with i := j + 1 } := by rw [hA, HC2E.out]
                        rw [hA2] at h3
                        have hK := (Kp.of (S := (· = cb)) hbW).trans h4 fun _ e => .inl e
                        have hV := (HV2.out.below hbW).keep h4 hpcb (fun j' e => by have e' : j' = cb := e; omega)
                        exact ⟨h3, hK, hV, h3.c_b, by rw [← hz]; exact h3.c_i, by rw [cell_heap hV.cell, ← hvv]; rfl, frozen_heap hV.cell, h3.lt, heap_lt hV.cell⟩
                      have HS5 := Lib.hid hs4
                      clear hS hE hC hL hx hu hl0 hii hF hqq hC2 hE2 hs2 hs3 hx2 hc2 hj2 hf2 hmu ht2 hV2 hx60 hx38 hxq hch hs4 hkk henc hvp hsp hskp hvv HS4 hr10
                      go_wp2_with (first | (go_at_call 28; (with_reducible refine HB.out.mono ?_); rintro e w2 ⟨rfl, hb2⟩) | (go_at_call 35; (with_reducible refine (HCH3.out _ hb2).mono ?_); rintro e w3 ⟨he, c3, ha3, h3, h4⟩; obtain rfl : e = .returned (.tuple #[.int .i32 (9 : Int), .bool true]) := he; obtain ⟨H3, H4, HV3, d0, d1, d40, f40, hcb3, hpb3⟩ := COK.out _ _ _ hb2 ha3 h3 h4; clear ha3 h3 h4))
                      go_quiet (fail)
                      have hV4 := HV3.below (Below.drewN (Below.refl _ w3) nq)
                      have hown4 := hV4.tx.own
                      rw [HVV.out] at hown4
                      have HV4 := Lib.hid hV4
                      clear hV4
                      go_wp2_with (at_builtin; refine wpList_app2 _ rfl (.tmp 105) (.tmp 106) 26 rfl pb 5 i0 (.int .u8 0) 1 1 Tryd.underlying26 hinf hz0 hz1 hz2 rfl (by decide) _ _ _ rfl (hown4.alloc _) ⟨w3.heap.size, 0, none⟩ 1 1 (by decide) [.int .u8 32] rfl rfl ?c1 ?c2 ?c3 ?c4 ?c5 ?_)
                      case c1 =>
                        intro j' u' hj'
                        match j', hj' with
                        | 0, hj' => simp at hj'; subst hj'; show (World.alloc (w3.drewN nq) (.cells #[.int .u8 32] 5)).cell? ⟨(w3.drewN nq).heap.size, 0, none⟩ = _; rw [cell_heap (heap_alloc_new _ _)]; rfl
                        | (j' + 1), hj' => simp at hj'
                      case c2 => intro u' hu'; simp at hu'; subst hu'; rfl
                      case c3 => unfold maxLen; omega
                      case c4 => omega
                      case c5 => simp; omega
                      intro v' w4 hown5 happ5
                      obtain ⟨hb4, h5, h6⟩ := HV4.out.step (o := .cells #[.int .u8 32] 5) (q := 32) (v' := v') (.inl (by decide)) (by rw [e32]; exact hown5) (by rw [HVV.out]; exact happ5)
                      obtain ⟨a2, c2', hv2', _⟩ := own_slice hown5
                      subst hv2'
                      have d44 : w4.cell? ⟨pb, 0, none⟩ = some (.slice va (encs out).length vc) := by rw [cell_heap hb4, ← HVV.out]; rfl
                      have f44 : w4.frozen? ⟨pb, 0, none⟩ = false := frozen_heap hb4
                      have HVF := Lib.hid h5
                      have HK6 := Lib.hid h6
                      clear h5 h6 hb4 hown5 happ5 hown4
                      have hV9 := HV3
                      have HKF : Hid (Kp (fun m => m = cb ∨ pb ≤ m) wr (w4.setCell ⟨pb, 0, none⟩ (.slice a2 ((encs out).length + 1) c2'))) := by
                        refine ((H4.mono (S' := fun m => m = cb ∨ pb ≤ m) fun _ _ e => .inl e).drewN nq).trans HK6.out fun m e => ?_
                        rcases e with e | e
                        · exact .inl (.inr (by omega))
                        · exact .inl (.inr (hV9.tx.lt e).1)
                      have HCF : Hid (CuAt (w4.setCell ⟨pb, 0, none⟩ (.slice a2 ((encs out).length + 1) c2')) cb (.slice (some ⟨b, o, none⟩) n cap) inn nm { c with i := j + 1 }) := by
                        refine (H3.below (Below.drewN (Below.refl _ w3) nq)).keep HK6.out ?_
                        rintro (e | e)
                        · omega
                        · have := (hV9.tx.lt e).1
                          omega
                      clear hV9
                      go_wp2_with fail
                      go_step3
                      refine ⟨rfl, ⟨j + 1, f, out ++ [32], _, _, by rw [HPB.out]; rfl, rfl, by rw [HI.out]; omega, by omega, by rw [List.length_append, List.length_singleton]; omega, HCF.out, HK2.out.trans HKF.out (fun m e => by rcases e with e | e; exact .inl e; exact .inr (by have := HPB.out; omega)), by rw [HPB.out]; exact HVF.out, by have := HF2.out; omega, ?_⟩, ?_⟩
                      · rw [HI.out]; exact HS5.out
                      · rw [muI_eq HCF.out]; show n - (j + 1) < n - j; omega
end
end Go.Proofs.YtjdmndpadejegaaDoor
