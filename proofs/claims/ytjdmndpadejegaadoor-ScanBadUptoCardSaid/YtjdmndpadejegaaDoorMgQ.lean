/-
  The scanner's cursor: attribute.
-/
import Derived.Test.YtjdmndpadejegaaDoorMgP
namespace Go.Proofs.YtjdmndpadejegaaDoor
open Go.RowKit

theorem infoAt : (Tryd.prog.info? 85).map (fun i => (i.zero, i.size, i.bytes)) = some (some (.agg #[.string { data := #[] }, .string { data := #[] }]), 2, 32) := by kernel_rfl
theorem blanks_nobad : ∀ (F : Nat) (l : List UInt8) (n : Nat), blanksGo F l ≠ .bad n
  | 0, _, _, h => by cases h
  | F + 1, [], _, h => by cases h
  | F + 1, x :: l, n, h => by
    have h : (if blankB x = true then on1 (blanksGo F) (x :: l) else retP () (x :: l)) = .bad n := h
    split at h
    · obtain ⟨k, h1, _⟩ := up_bad (show (blanksGo F l).up 1 = .bad n from h)
      exact blanks_nobad F l k h1
    · cases h
section
variable {w0 w : World} {cb : Nat} {a : Option Addr} {n cap : Nat} {l : List UInt8} {inn : Nat} {nm : List UInt8} {c : Cu} {G tb k : Nat} {tq : List UInt8} {av : Value} {ats : List (List UInt8 × List Nat)}
theorem lit61 (hE : CE w0 w cb a n cap l) (hC : CuAt w cb (.slice a n cap) inn nm c) : Calls Tryd.prog 56 #[.pointer (some ⟨cb, 0, none⟩), .string { data := #[61] }] w fun e w' => BR w cb (.slice a n cap) inn nm c (lit [61] (l.drop c.i)) e w' := literal_any hE hC [61] (by decide)
def AtR (G tb : Nat) (w : World) (cb : Nat) (bv : Value) (inn : Nat) (nm : List UInt8) (c : Cu) (tk : Nat) (tq : List UInt8) (ats : List (List UInt8 × List Nat)) (s : Sc (List UInt8 × List Nat)) (e : Ending) (w' : World) : Prop :=
  e = .returned (.bool s.good) ∧ (∃ c', Aft c c' s ∧ CuAt w' cb bv inn nm c') ∧ Kp (fun m => m = cb ∨ G ≤ m) w w' ∧ match s with | .ok p _ => ∃ av', TkB G tb w' tk tq av' (ats ++ [p]) | _ => True
set_option maxRecDepth 100000 in
set_option maxHeartbeats 8000000 in
theorem attribute_any (hL : Laid w0) (hE : CE w0 w cb a n cap l) (hC : CuAt w cb (.slice a n cap) inn nm c) (hi : c.i ≤ n) (hT : TkB G tb w k tq av ats) (hG : cb < G) (hatl : ats.length ≤ n) (hn30 : n ≤ 1073741824) (F : Nat) (hF : (l.drop c.i).length < F) :
    Calls Tryd.prog 60 #[.pointer (some ⟨cb, 0, none⟩), .pointer (some ⟨tb, 0, none⟩)] w fun e w' => AtR G tb w cb (.slice a n cap) inn nm c k tq ats (attrF F (ats.map (·.1)) (l.drop c.i)) e w' := by
  have HE := Lib.hid hE
  have HC := Lib.hid hC
  have HL := Lib.hid hL
  have HT := Lib.hid hT
  have hsm := hE.small
  have hcap := hE.cap
  have HLEN := Lib.hid hE.len
  obtain ⟨S, hS⟩ : ∃ S, attrF F (ats.map (·.1)) (l.drop c.i) = S := ⟨_, rfl⟩
  rw [hS]
  rw [attrF_eq] at hS
  have HW := Lib.hid (word_any hL hE hC hi F hF)
  have hl0 : (l.drop c.i).length = n - c.i := by rw [List.length_drop, HLEN.out]
  rw [hl0] at hF
  have htb := heap_lt hT.cell
  have hgt := hT.gt
  cases hw : wordF F (l.drop c.i) with
  | wait =>
    rw [hw] at HW hS
    have HS : Hid (S = .wait) := hS.symm
    clear hS hw hE hC hL hT hl0
    go_enter Tryd.func60, Tryd.ntmps60
    go_wp2_with (go_at_call 59; (with_reducible refine HW.out.mono ?_); rintro e w1 ⟨rfl, c1, ha1, h1, h2⟩)
    go_ret
    exact ⟨by rw [HS.out]; rfl, ⟨c1, by rw [HS.out]; exact ha1, h1⟩, h2.mono fun _ _ e => .inl e, by rw [HS.out]; trivial⟩
  | bad k1 =>
    rw [hw] at HW hS
    have HS : Hid (S = .bad k1) := hS.symm
    clear hS hw hE hC hL hT hl0
    go_enter Tryd.func60, Tryd.ntmps60
    go_wp2_with (go_at_call 59; (with_reducible refine HW.out.mono ?_); rintro e w1 ⟨rfl, c1, ha1, h1, h2⟩)
    go_ret
    exact ⟨by rw [HS.out]; rfl, ⟨c1, by rw [HS.out]; exact ha1, h1⟩, h2.mono fun _ _ e => .inl e, by rw [HS.out]; trivial⟩
  | ok q k1 =>
    have hd := ((det_word F).ok _ _ _ hw).1
    rw [hl0] at hd
    rw [hw] at HW hS
    obtain ⟨i, hii⟩ : ∃ i, c.i = i := ⟨_, rfl⟩
    have HI := Lib.hid hii
    rw [hii] at hd hF
    obtain ⟨j, hj⟩ : ∃ j, i + k1 = j := ⟨_, rfl⟩
    obtain ⟨b, o, x, u, rfl, hb, hne, hx, hu, e0⟩ := hE.byte (i := j) (by omega)
    have hs1 : (if x.toNat ≠ 61 ∧ blankB x = false then badP (x :: u) else if q ∈ ats.map (·.1) then badP (x :: u) else attrR F q (x :: u) : Sc (List UInt8 × List Nat)).up k1 = S := by
      rw [← hS]
      show _ = (pk ((l.drop c.i).drop k1) fun x l => if x.toNat ≠ 61 ∧ blankB x = false then badP l else if q ∈ ats.map (·.1) then badP l else attrR F q l).up k1
      rw [List.drop_drop, hii, hj, hx]
      rfl
    have HBL := Lib.hid (fun W => blank_any x W)
    have hjn : (j : Int) < (n : Int) := by omega
    have hj0 : (0 : Int) ≤ (j : Int) := by omega
    have hx256 := x.toNat_lt
    -- behind the name
    have WOK : Hid (∀ w1 c1, Aft c c1 (Sc.ok q k1) → CuAt w1 cb (.slice (some ⟨b, o, none⟩) n cap) inn nm c1 → Kp (· = cb) w w1 → CuAt w1 cb (.slice (some ⟨b, o, none⟩) n cap) inn nm { c with i := j } ∧ w1.cell? ⟨cb, 0, none⟩ = some (.slice (some ⟨b, o, none⟩) n cap) ∧ w1.cell? ⟨cb, 1, none⟩ = some (.int .i64 (j : Nat)) ∧ w1.cell? ⟨b, o + j, none⟩ = some (.int .u8 x.toNat) ∧ TkB G tb w1 k tq av ats ∧ w1.cell? ⟨tb, 2, none⟩ = some av ∧ cb < w1.heap.size ∧ tb < w1.heap.size) := by
      intro w1 c1 ha1 h1 h2
      have hA : c1 = { c with i := c.i + k1 } := ha1
      have hA2 : c1 = { c with i := j } := by rw [hA, hii, hj]
      rw [hA2] at h1
      have hT1 := hT.keep h2 (fun m e => by have e' : m = cb := e; exact .inl (by omega))
      exact ⟨h1, h1.c_b, h1.c_i, (h2.cell (p := ⟨b, o + j, none⟩) hb hne).trans e0, hT1, by rw [cell_heap hT1.cell]; rfl, h1.lt, heap_lt hT1.cell⟩
    obtain ⟨va, vc, hav, _, hvn, hvs⟩ := own_slice hT.row
    have HAV := Lib.hid hav
    rw [hav] at WOK
    have HTS : Hid (TkB G tb w k tq (.slice va ats.length vc) ats) := (by show TkB G tb w k tq (.slice va ats.length vc) ats; rw [← hav]; exact hT)
    obtain ⟨iA, hinfA, hiA3⟩ := Option.map_eq_some_iff.1 infoAt
    simp only [Prod.mk.injEq] at hiA3
    obtain ⟨hzA0, hzA1, hzA2⟩ := hiA3
    have HX : Hid (l.drop j = x :: u) := hx
    by_cases hbad : x.toNat ≠ 61 ∧ blankB x = false
    · rw [if_pos hbad] at hs1
      have HS : Hid (S = .bad k1) := by
        show _ = _
        rw [← hs1]; rfl
      have h61 : ((x.toNat : Int) != 61) = true := by simp; omega
      rw [hbad.2] at HBL
      have HWR := Lib.hid (fun W (h1 : CuAt W cb (.slice (some ⟨b, o, none⟩) n cap) inn nm { c with i := j }) => wrong_any h1)
      clear hS hw hE hC hL hT hl0 hx hu e0 hs1 hav hbad
      go_enter Tryd.func60, Tryd.ntmps60
      go_wp2_with (go_at_call 59; (with_reducible refine HW.out.mono ?_); rintro e w1 ⟨he, c1, ha1, h1, h2⟩; obtain rfl : e = .returned (.tuple #[.string (strL q), .bool true]) := he; obtain ⟨h3, d0, d1, dx, hT1, dt, hcb1, htb1⟩ := WOK.out _ _ ha1 h1 h2; have H3 := Lib.hid h3; have H2 := Lib.hid h2; have HT1 := Lib.hid hT1; clear ha1 h1 h2 h3 hT1)
      go_quiet (fail)
      go_wp2_with (first | (go_at_call 30; (with_reducible refine (HBL.out _).mono ?_); rintro e w4 ⟨rfl, rfl⟩) | (go_at_call 31; (with_reducible refine (HWR.out _ (H3.out.below (Below.drewN (Below.refl _ w1) nq))).mono ?_); rintro e w5 ⟨rfl, h5, h6⟩))
      go_ret
      refine ⟨by rw [HS.out]; rfl, ⟨_, ?_, h5⟩, ((H2.out.drewN nq).trans h6 fun _ e => .inl e).mono fun _ _ e => .inl e, by rw [HS.out]; trivial⟩
      rw [HS.out]
      show _ = _
      rw [HI.out, hj]
    · rw [if_neg hbad] at hs1
      have HS1 := Lib.hid hs1
      have hbl : x.toNat = 61 ∨ (x.toNat ≠ 61 ∧ blankB x = true) := by
        by_cases h : x.toNat = 61
        · exact .inl h
        · right
          refine ⟨h, ?_⟩
          cases hb2 : blankB x with
          | true => rfl
          | false => exact absurd ⟨h, hb2⟩ hbad
      rcases hbl with HXQ | HXQ
      · have h61 : ((x.toNat : Int) != 61) = false := by simp; omega
        clear hS hw hE hC hL hT hl0 hx hu e0 hs1 hav hbad HXQ
        go_enter Tryd.func60, Tryd.ntmps60
        go_wp2_with (go_at_call 59; (with_reducible refine HW.out.mono ?_); rintro e w1 ⟨he, c1, ha1, h1, h2⟩; obtain rfl : e = .returned (.tuple #[.string (strL q), .bool true]) := he; obtain ⟨h3, d0, d1, dx, hT1, dt, hcb1, htb1⟩ := WOK.out _ _ ha1 h1 h2; have H3 := Lib.hid h3; have H2 := Lib.hid h2; have HT1 := Lib.hid hT1; clear ha1 h1 h2 h3 hT1)
        go_quiet (fail)
        go_wp2_with fail
        go_loopw [42] (fun ix wr => ∃ m : Nat, ix = .int .i64 m ∧ m ≤ ats.length ∧ Hid (Below w1.heap.size w1 wr) ∧ Hid (∀ p, p ∈ ats.take m → p.1 ≠ q)) (fun ix _ => ats.length - (intOf ix).toNat)
        case atStart => exact ⟨0, rfl, Nat.zero_le _, Below.drewN (Below.refl _ w1) nq, fun p hp => by simp at hp⟩
        case round =>
          obtain ⟨m, rfl, hm, hbw, hno⟩ := hrel
          by_cases hml : m < ats.length
          · obtain ⟨ad, had⟩ : ∃ ad, va = some ad := by
              cases hva : va with
              | none => have := hvn hva; omega
              | some ad => exact ⟨ad, rfl⟩
            obtain ⟨g, rfl, hg1, hg2, _, hgc⟩ := hvs ad had
            subst had
            obtain ⟨c0, c1'⟩ := atsC_get ats m hml
            have hgw : g < w1.heap.size := Nat.lt_of_lt_of_le hg2 H2.out.size
            have hgcb : g ≠ cb := by omega
            have y0 : wr.cell? ⟨g, m * 2, none⟩ = some (.string (strL (ats[m]'hml).1)) := (hbw.out.cell (p := ⟨g, m * 2, none⟩) hgw).trans ((H2.out.cell (p := ⟨g, m * 2, none⟩) hg2 hgcb).trans (hgc _ _ c0))
            have y1 : wr.cell? ⟨g, m * 2 + 1, none⟩ = some (.string (strL (encs (ats[m]'hml).2))) := (hbw.out.cell (p := ⟨g, m * 2 + 1, none⟩) hgw).trans ((H2.out.cell (p := ⟨g, m * 2 + 1, none⟩) hg2 hgcb).trans (hgc _ _ c1'))
            have hmi : (m : Int) < (ats.length : Int) := by omega
            have hws := hbw.out.size
            obtain ⟨p, hp⟩ : ∃ p, ats[m]'hml = p := ⟨_, rfl⟩
            rw [hp] at y0 y1
            obtain ⟨p1, p2⟩ := p
            simp only at y0 y1
            by_cases hpq : p1 = q
            · have hs3 := HS1.out
              rw [if_pos (by rw [List.mem_map]; exact ⟨(p1, p2), by rw [← hp]; exact List.getElem_mem hml, hpq⟩)] at hs3
              have HS : Hid (S = .bad k1) := hs3.symm
              have heq : ((strL p1).toList == (strL q).toList) = true := by rw [hpq]; simp
              have HWR := Lib.hid (fun W (h1 : CuAt W cb (.slice (some ⟨b, o, none⟩) n cap) inn nm { c with i := j }) => wrong_any h1)
              clear hs3 hpq hp c0 c1' hgc hvs hvn hno
              go_wp2_with (go_at_call 31; (with_reducible refine (HWR.out _ (H3.out.below (hbw.out.alloc hws _))).mono ?_); rintro e w5 ⟨rfl, h5, h6⟩)
              go_ret
              refine ⟨by rw [HS.out]; rfl, ⟨_, ?_, h5⟩, ((H2.out.on (hbw.out.alloc hws _)).trans h6 fun _ e => .inl e).mono fun _ _ e => .inl e, by rw [HS.out]; trivial⟩
              rw [HS.out]
              show _ = _
              rw [HI.out, hj]
            · have heq : ((strL p1).toList == (strL q).toList) = false := by
                rw [Lib.toList_data, Lib.toList_data, strL_data, strL_data]
                simpa using hpq
              clear c0 c1' hgc hvs hvn
              go_wp2_with fail
              go_roundw
              case rel =>
                refine ⟨m + 1, by go_num, by omega, hbw.out.alloc hws _, fun p' hp' => ?_⟩
                rw [List.take_add_one, List.mem_append] at hp'
                rcases hp' with hp' | hp'
                · exact hno.out p' hp'
                · rw [List.getElem?_eq_getElem hml, hp] at hp'
                  simp at hp'
                  rw [hp']; exact hpq
              case measure => simp [intOf]; omega
          · have hml2 : m = ats.length := by omega
            have hs2 : (attrR F q (x :: u)).up k1 = S := by
              rw [← HS1.out, if_neg]
              intro h
              rw [List.mem_map] at h
              obtain ⟨p, hp1, hp2⟩ := h
              refine hno.out p ?_ hp2
              rw [hml2, List.take_length]; exact hp1
            have hmi : ¬ (m : Int) < (ats.length : Int) := by omega
            clear hvs hvn hno
            have HKR : Hid (Kp (· = cb) w wr) := H2.out.on hbw.out
            have HC5 : Hid (CuAt wr cb (.slice (some ⟨b, o, none⟩) n cap) inn nm ({ c with i := j })) := H3.out.below hbw.out
            have HB1 : Hid (∀ W, CuAt W cb (.slice (some ⟨b, o, none⟩) n cap) inn nm ({ c with i := j }) → Kp (· = cb) w W → Calls Tryd.prog 75 #[.pointer (some ⟨cb, 0, none⟩)] W fun e w' => BR W cb (.slice (some ⟨b, o, none⟩) n cap) inn nm ({ c with i := j }) (blanksGo F (l.drop j)) e w') := fun W h1 h2 => blanks_any (HE.out.keep1 h2) h1 F (by rw [List.length_drop, ← HLEN.out]; show n - j < F; omega)
            have HTT : Hid ((attrR F q (l.drop j)).up (j - i) = S) := by
              show _ = _
              rw [HX.out, show j - i = k1 by omega]; exact hs2
            clear hs2
            cases hB1 : blanksGo F (l.drop j) with
            | wait =>
              rw [hB1] at HB1
              have HS : Hid (S = .wait) := by show _ = _; rw [← HTT.out]; unfold attrR; rw [hB1]; rfl
              clear hB1
              go_wp2_with (go_at_call 75; (with_reducible refine (HB1.out _ HC5.out HKR.out).mono ?_); rintro e w5 ⟨rfl, c5, ha5, h5, h6⟩)
              go_ret
              obtain ⟨i', rfl⟩ := ha5
              exact ⟨by rw [HS.out]; rfl, ⟨_, by rw [HS.out]; exact ⟨i', rfl⟩, h5⟩, (HKR.out.trans h6 fun _ e => .inl e).mono fun _ _ e => .inl e, by rw [HS.out]; trivial⟩
            | bad kb => exact absurd hB1 (blanks_nobad F _ _)
            | ok ub kb =>
              have hdb := ((det_blanks F).ok _ _ _ hB1).1
              rw [List.length_drop, ← HLEN.out] at hdb
              rw [hB1] at HB1
              have HL2 : Hid (∀ W, CuAt W cb (.slice (some ⟨b, o, none⟩) n cap) inn nm ({ c with i := j + kb }) → Kp (· = cb) w W → Calls Tryd.prog 56 #[.pointer (some ⟨cb, 0, none⟩), .string { data := #[61] }] W fun e w' => BR W cb (.slice (some ⟨b, o, none⟩) n cap) inn nm ({ c with i := j + kb }) (lit [61] (l.drop (j + kb))) e w') := fun W h1 h2 => lit61 (HE.out.keep1 h2) h1
              have HT2 : Hid (((lit [61] (l.drop (j + kb))).next (l.drop (j + kb)) fun _ l => (blanksGo F l).next l fun _ l => (valS F l).next l fun v l => doneP (q, v) l).up (j + kb - i) = S) := by
                show _ = _
                rw [← HTT.out]; unfold attrR; rw [hB1]
                show _ = (((lit [61] ((l.drop j).drop kb)).next ((l.drop j).drop kb) fun _ l => (blanksGo F l).next l fun _ l => (valS F l).next l fun v l => doneP (q, v) l).up kb).up (j - i)
                rw [Sc.up_up, List.drop_drop, show j - i + kb = j + kb - i by omega]
              clear hB1
              cases hL2 : lit [61] (l.drop (j + kb)) with
              | wait =>
                rw [hL2] at HL2
                have HS : Hid (S = .wait) := by show _ = _; rw [← HT2.out, hL2]; rfl
                clear hL2
                go_wp2_with (first | (go_at_call 75; (with_reducible refine (HB1.out _ HC5.out HKR.out).mono ?_); rintro e w5 ⟨he, c5, ha5, h5, h6⟩; obtain rfl : e = .returned (.bool true) := he; have H5 : Hid (CuAt w5 cb (.slice (some ⟨b, o, none⟩) n cap) inn nm ({ c with i := j + kb })) := (by have hA : c5 = { c with i := j + kb } := ha5; rw [hA] at h5; exact h5); have K5 : Hid (Kp (· = cb) w w5) := HKR.out.trans h6 (fun _ e => .inl e); clear ha5 h5 h6) | (go_at_call 56; (with_reducible refine (HL2.out _ H5.out K5.out).mono ?_); rintro e w6 ⟨rfl, c6, ha6, h7, h8⟩))
                go_ret
                obtain ⟨i', rfl⟩ := ha6
                exact ⟨by rw [HS.out]; rfl, ⟨_, by rw [HS.out]; exact ⟨i', rfl⟩, h7⟩, (K5.out.trans h8 fun _ e => .inl e).mono fun _ _ e => .inl e, by rw [HS.out]; trivial⟩
              | bad kl =>
                rw [hL2] at HL2
                have HS : Hid (S = .bad (j + kb - i + kl)) := by show _ = _; rw [← HT2.out, hL2]; rfl
                clear hL2
                go_wp2_with (first | (go_at_call 75; (with_reducible refine (HB1.out _ HC5.out HKR.out).mono ?_); rintro e w5 ⟨he, c5, ha5, h5, h6⟩; obtain rfl : e = .returned (.bool true) := he; have H5 : Hid (CuAt w5 cb (.slice (some ⟨b, o, none⟩) n cap) inn nm ({ c with i := j + kb })) := (by have hA : c5 = { c with i := j + kb } := ha5; rw [hA] at h5; exact h5); have K5 : Hid (Kp (· = cb) w w5) := HKR.out.trans h6 (fun _ e => .inl e); clear ha5 h5 h6) | (go_at_call 56; (with_reducible refine (HL2.out _ H5.out K5.out).mono ?_); rintro e w6 ⟨rfl, c6, ha6, h7, h8⟩))
                go_ret
                refine ⟨by rw [HS.out]; rfl, ⟨c6, ?_, h7⟩, (K5.out.trans h8 fun _ e => .inl e).mono fun _ _ e => .inl e, by rw [HS.out]; trivial⟩
                rw [HS.out]
                show _ = _
                rw [show c6 = { c with i := j + kb + kl, how := 2 } from ha6, HI.out, show i + (j + kb - i + kl) = j + kb + kl by omega]
              | ok ul kl =>
                have hdl := ((det_lit [61]).ok _ _ _ hL2).1
                rw [List.length_drop, ← HLEN.out] at hdl
                rw [hL2] at HL2
                have HB3 : Hid (∀ W, CuAt W cb (.slice (some ⟨b, o, none⟩) n cap) inn nm ({ c with i := j + kb + kl }) → Kp (· = cb) w W → Calls Tryd.prog 75 #[.pointer (some ⟨cb, 0, none⟩)] W fun e w' => BR W cb (.slice (some ⟨b, o, none⟩) n cap) inn nm ({ c with i := j + kb + kl }) (blanksGo F (l.drop (j + kb + kl))) e w') := fun W h1 h2 => blanks_any (HE.out.keep1 h2) h1 F (by rw [List.length_drop, ← HLEN.out]; show n - (j + kb + kl) < F; omega)
                have HT3 : Hid (((blanksGo F (l.drop (j + kb + kl))).next (l.drop (j + kb + kl)) fun _ l => (valS F l).next l fun v l => doneP (q, v) l).up (j + kb + kl - i) = S) := by
                  show _ = _
                  rw [← HT2.out, hL2]
                  show _ = (((blanksGo F ((l.drop (j + kb)).drop kl)).next ((l.drop (j + kb)).drop kl) fun _ l => (valS F l).next l fun v l => doneP (q, v) l).up kl).up (j + kb - i)
                  rw [Sc.up_up, List.drop_drop, show j + kb - i + kl = j + kb + kl - i by omega]
                clear hL2
                cases hB3 : blanksGo F (l.drop (j + kb + kl)) with
                | wait =>
                  rw [hB3] at HB3
                  have HS : Hid (S = .wait) := by show _ = _; rw [← HT3.out, hB3]; rfl
                  clear hB3
                  go_wp2_with (first | (go_at_call 75; (with_reducible refine (HB1.out _ HC5.out HKR.out).mono ?_); rintro e w5 ⟨he, c5, ha5, h5, h6⟩; obtain rfl : e = .returned (.bool true) := he; have H5 : Hid (CuAt w5 cb (.slice (some ⟨b, o, none⟩) n cap) inn nm ({ c with i := j + kb })) := (by have hA : c5 = { c with i := j + kb } := ha5; rw [hA] at h5; exact h5); have K5 : Hid (Kp (· = cb) w w5) := HKR.out.trans h6 (fun _ e => .inl e); clear ha5 h5 h6) | (go_at_call 56; (with_reducible refine (HL2.out _ H5.out K5.out).mono ?_); rintro e w6 ⟨he, c6, ha6, h7, h8⟩; obtain rfl : e = .returned (.bool true) := he; have H6 : Hid (CuAt w6 cb (.slice (some ⟨b, o, none⟩) n cap) inn nm ({ c with i := j + kb + kl })) := (by have hA : c6 = { c with i := j + kb + kl } := ha6; rw [hA] at h7; exact h7); have K6 : Hid (Kp (· = cb) w w6) := K5.out.trans h8 (fun _ e => .inl e); clear ha6 h7 h8) | (go_at_call 75; (with_reducible refine (HB3.out _ H6.out K6.out).mono ?_); rintro e w7 ⟨rfl, c7, ha7, h7, h8⟩))
                  go_ret
                  obtain ⟨i', rfl⟩ := ha7
                  exact ⟨by rw [HS.out]; rfl, ⟨_, by rw [HS.out]; exact ⟨i', rfl⟩, h7⟩, (K6.out.trans h8 fun _ e => .inl e).mono fun _ _ e => .inl e, by rw [HS.out]; trivial⟩
                | bad kb => exact absurd hB3 (blanks_nobad F _ _)
                | ok ub2 kb2 =>
                  have hdb2 := ((det_blanks F).ok _ _ _ hB3).1
                  rw [List.length_drop, ← HLEN.out] at hdb2
                  rw [hB3] at HB3
                  have HV4 : Hid (∀ W, CuAt W cb (.slice (some ⟨b, o, none⟩) n cap) inn nm ({ c with i := j + kb + kl + kb2 }) → Kp (· = cb) w W → Calls Tryd.prog 76 #[.pointer (some ⟨cb, 0, none⟩)] W fun e w' => VR W cb (.slice (some ⟨b, o, none⟩) n cap) inn nm ({ c with i := j + kb + kl + kb2 }) (valS F (l.drop (j + kb + kl + kb2))) e w') := fun W h1 h2 => valu_any HL.out (HE.out.keep1 h2) h1 (by show j + kb + kl + kb2 < n; omega) F (by rw [List.length_drop, ← HLEN.out]; show n - (j + kb + kl + kb2) < F; omega)
                  have HT4 : Hid (((valS F (l.drop (j + kb + kl + kb2))).next (l.drop (j + kb + kl + kb2)) fun v l => doneP (q, v) l).up (j + kb + kl + kb2 - i) = S) := by
                    show _ = _
                    rw [← HT3.out, hB3]
                    show _ = (((valS F ((l.drop (j + kb + kl)).drop kb2)).next ((l.drop (j + kb + kl)).drop kb2) fun v l => doneP (q, v) l).up kb2).up (j + kb + kl - i)
                    rw [Sc.up_up, List.drop_drop, show j + kb + kl - i + kb2 = j + kb + kl + kb2 - i by omega]
                  clear hB3
                  cases hV4 : valS F (l.drop (j + kb + kl + kb2)) with
                  | wait =>
                    rw [hV4] at HV4
                    have HS : Hid (S = .wait) := by show _ = _; rw [← HT4.out, hV4]; rfl
                    clear hV4
                    go_wp2_with (first | (go_at_call 75; (with_reducible refine (HB1.out _ HC5.out HKR.out).mono ?_); rintro e w5 ⟨he, c5, ha5, h5, h6⟩; obtain rfl : e = .returned (.bool true) := he; have H5 : Hid (CuAt w5 cb (.slice (some ⟨b, o, none⟩) n cap) inn nm ({ c with i := j + kb })) := (by have hA : c5 = { c with i := j + kb } := ha5; rw [hA] at h5; exact h5); have K5 : Hid (Kp (· = cb) w w5) := HKR.out.trans h6 (fun _ e => .inl e); clear ha5 h5 h6) | (go_at_call 56; (with_reducible refine (HL2.out _ H5.out K5.out).mono ?_); rintro e w6 ⟨he, c6, ha6, h7, h8⟩; obtain rfl : e = .returned (.bool true) := he; have H6 : Hid (CuAt w6 cb (.slice (some ⟨b, o, none⟩) n cap) inn nm ({ c with i := j + kb + kl })) := (by have hA : c6 = { c with i := j + kb + kl } := ha6; rw [hA] at h7; exact h7); have K6 : Hid (Kp (· = cb) w w6) := K5.out.trans h8 (fun _ e => .inl e); clear ha6 h7 h8) | (go_at_call 75; (with_reducible refine (HB3.out _ H6.out K6.out).mono ?_); rintro e w7 ⟨he, c7, ha7, h7, h8⟩; obtain rfl : e = .returned (.bool true) := he; have H7 : Hid (CuAt w7 cb (.slice (some ⟨b, o, none⟩) n cap) inn nm ({ c with i := j + kb + kl + kb2 })) := (by have hA : c7 = { c with i := j + kb + kl + kb2 } := ha7; rw [hA] at h7; exact h7); have K7 : Hid (Kp (· = cb) w w7) := K6.out.trans h8 (fun _ e => .inl e); clear ha7 h7 h8) | (go_at_call 76; (with_reducible refine (HV4.out _ H7.out K7.out).mono ?_); rintro e w8 ⟨rfl, c8, ha8, h7, h8⟩))
                    go_ret
                    obtain ⟨i', rfl⟩ := ha8
                    exact ⟨by rw [HS.out]; rfl, ⟨_, by rw [HS.out]; exact ⟨i', rfl⟩, h7⟩, (K7.out.trans h8 fun _ e => .inl e).mono fun _ _ e => .inl e, by rw [HS.out]; trivial⟩
                  | bad kv =>
                    rw [hV4] at HV4
                    have HS : Hid (S = .bad (j + kb + kl + kb2 - i + kv)) := by show _ = _; rw [← HT4.out, hV4]; rfl
                    clear hV4
                    go_wp2_with (first | (go_at_call 75; (with_reducible refine (HB1.out _ HC5.out HKR.out).mono ?_); rintro e w5 ⟨he, c5, ha5, h5, h6⟩; obtain rfl : e = .returned (.bool true) := he; have H5 : Hid (CuAt w5 cb (.slice (some ⟨b, o, none⟩) n cap) inn nm ({ c with i := j + kb })) := (by have hA : c5 = { c with i := j + kb } := ha5; rw [hA] at h5; exact h5); have K5 : Hid (Kp (· = cb) w w5) := HKR.out.trans h6 (fun _ e => .inl e); clear ha5 h5 h6) | (go_at_call 56; (with_reducible refine (HL2.out _ H5.out K5.out).mono ?_); rintro e w6 ⟨he, c6, ha6, h7, h8⟩; obtain rfl : e = .returned (.bool true) := he; have H6 : Hid (CuAt w6 cb (.slice (some ⟨b, o, none⟩) n cap) inn nm ({ c with i := j + kb + kl })) := (by have hA : c6 = { c with i := j + kb + kl } := ha6; rw [hA] at h7; exact h7); have K6 : Hid (Kp (· = cb) w w6) := K5.out.trans h8 (fun _ e => .inl e); clear ha6 h7 h8) | (go_at_call 75; (with_reducible refine (HB3.out _ H6.out K6.out).mono ?_); rintro e w7 ⟨he, c7, ha7, h7, h8⟩; obtain rfl : e = .returned (.bool true) := he; have H7 : Hid (CuAt w7 cb (.slice (some ⟨b, o, none⟩) n cap) inn nm ({ c with i := j + kb + kl + kb2 })) := (by have hA : c7 = { c with i := j + kb + kl + kb2 } := ha7; rw [hA] at h7; exact h7); have K7 : Hid (Kp (· = cb) w w7) := K6.out.trans h8 (fun _ e => .inl e); clear ha7 h7 h8) | (go_at_call 76; (with_reducible refine (HV4.out _ H7.out K7.out).mono ?_); rintro e w8 ⟨rfl, c8, ha8, h7, h8⟩))
                    go_ret
                    refine ⟨by rw [HS.out]; rfl, ⟨c8, ?_, h7⟩, (K7.out.trans h8 fun _ e => .inl e).mono fun _ _ e => .inl e, by rw [HS.out]; trivial⟩
                    rw [HS.out]
                    show _ = _
                    rw [show c8 = { c with i := j + kb + kl + kb2 + kv, how := 2 } from ha8, HI.out, show i + (j + kb + kl + kb2 - i + kv) = j + kb + kl + kb2 + kv by omega]
                  | ok v kv =>
                    rw [hV4] at HV4
                    have HS : Hid (S = .ok (q, v) (j + kb + kl + kb2 - i + (kv + 0))) := by show _ = _; rw [← HT4.out, hV4]; rfl
                    clear hV4
                    go_wp2_with (first | (go_at_call 75; (with_reducible refine (HB1.out _ HC5.out HKR.out).mono ?_); rintro e w5 ⟨he, c5, ha5, h5, h6⟩; obtain rfl : e = .returned (.bool true) := he; have H5 : Hid (CuAt w5 cb (.slice (some ⟨b, o, none⟩) n cap) inn nm ({ c with i := j + kb })) := (by have hA : c5 = { c with i := j + kb } := ha5; rw [hA] at h5; exact h5); have K5 : Hid (Kp (· = cb) w w5) := HKR.out.trans h6 (fun _ e => .inl e); clear ha5 h5 h6) | (go_at_call 56; (with_reducible refine (HL2.out _ H5.out K5.out).mono ?_); rintro e w6 ⟨he, c6, ha6, h7, h8⟩; obtain rfl : e = .returned (.bool true) := he; have H6 : Hid (CuAt w6 cb (.slice (some ⟨b, o, none⟩) n cap) inn nm ({ c with i := j + kb + kl })) := (by have hA : c6 = { c with i := j + kb + kl } := ha6; rw [hA] at h7; exact h7); have K6 : Hid (Kp (· = cb) w w6) := K5.out.trans h8 (fun _ e => .inl e); clear ha6 h7 h8) | (go_at_call 75; (with_reducible refine (HB3.out _ H6.out K6.out).mono ?_); rintro e w7 ⟨he, c7, ha7, h7, h8⟩; obtain rfl : e = .returned (.bool true) := he; have H7 : Hid (CuAt w7 cb (.slice (some ⟨b, o, none⟩) n cap) inn nm ({ c with i := j + kb + kl + kb2 })) := (by have hA : c7 = { c with i := j + kb + kl + kb2 } := ha7; rw [hA] at h7; exact h7); have K7 : Hid (Kp (· = cb) w w7) := K6.out.trans h8 (fun _ e => .inl e); clear ha7 h7 h8) | (go_at_call 76; (with_reducible refine (HV4.out _ H7.out K7.out).mono ?_); rintro e w8 ⟨he, c8, ha8, h7, h8⟩; obtain rfl : e = .returned (.tuple #[.string (strL (encs v)), .bool true]) := he; have HA8 : Hid (c8 = { c with i := j + kb + kl + kb2 + kv }) := ha8; have H8 := Lib.hid h7; have K8 : Hid (Kp (· = cb) w w8) := K7.out.trans h8 (fun _ e => .inl e); have hT8 := HTS.out.keep K8.out (fun m e => by have e' : m = cb := e; exact .inl (by omega)); have HT8 := Lib.hid hT8; have d42 : w8.cell? ⟨tb, 2, none⟩ = some (.slice va ats.length vc) := (by rw [cell_heap hT8.cell]; rfl); have f42 : w8.frozen? ⟨tb, 2, none⟩ = false := frozen_heap hT8.cell; have hrow8 := hT8.row; have htb8 := heap_lt hT8.cell; have hle8 := hT8.le; have hne8 := hT8.ne; clear ha8 h7 h8 hT8) | (at_builtin; refine wpList_app w8 rfl (.tmp 76) (.tmp 80) 37 rfl G 85 iA (.agg #[.string { data := #[] }, .string { data := #[] }]) 2 32 Tryd.underlying37 hinfA hzA0 hzA1 hzA2 rfl (by decide) (.slice va ats.length vc) ats.length (atsC ats) rfl hrow8 w8.heap.size rfl 1 [.string (strL q), .string (strL (encs v))] rfl rfl (by intro u' hu'; simp at hu'; rcases hu' with rfl | rfl <;> rfl) (by omega) (by decide) hle8 ?_; intro v' w9 hown9 happ9; obtain ⟨a9, c9, hv9, _⟩ := own_slice hown9; subst hv9; have hlt8 : tb < (w8.alloc (.cells #[.string (strL q), .string (strL (encs v))] 85)).heap.size := (by simp; omega); have hb9 : w9.heap[tb]? = some (.cells (tokC k tq (.slice va ats.length vc)).toArray 41 (0, 0)) := (happ9.keep hlt8 hne8).trans ((heap_alloc_old _ _ htb8).trans HT8.out.cell); have d43 : w9.cell? ⟨tb, 2, none⟩ = some (.slice va ats.length vc) := (by rw [cell_heap hb9]; rfl); have f43 : w9.frozen? ⟨tb, 2, none⟩ = false := frozen_heap hb9; have HB9 := Lib.hid hb9; have HO9 := Lib.hid hown9; have HP9 := Lib.hid happ9; clear hb9 hown9 happ9))
                    go_ret
                    have hcb8 := H8.out.lt
                    have hnc8 : (Value.slice va ats.length vc).ownBlock ≠ some cb := fun e => by have := (hrow8.lt cb e).1; omega
                    have hlc8 : cb < (w8.alloc (.cells #[.string (strL q), .string (strL (encs v))] 85)).heap.size := by simp; omega
                    have hcu9 : CuAt w9 cb (.slice (some ⟨b, o, none⟩) n cap) inn nm c8 := (HP9.out.keep hlc8 hnc8).trans ((heap_alloc_old _ _ hcb8).trans H8.out)
                    have htc : cb ≠ tb := by omega
                    have hnt9 := HP9.out.ne hlt8 hne8
                    refine ⟨by rw [HS.out]; rfl, ⟨c8, ?_, (Below.heap_setCell _ _ _ _ htc).trans hcu9⟩, ?_, ?_⟩
                    · rw [HS.out]
                      show _ = _
                      rw [HA8.out, HI.out, show i + (j + kb + kl + kb2 - i + (kv + 0)) = j + kb + kl + kb2 + kv by omega]
                    · refine ((((K8.out.mono (S' := fun m => m = cb ∨ G ≤ m) fun _ _ e => .inl e).alloc _).grown HP9.out.grown fun m e => .inl (.inr (hrow8.lt m e).1)).set (.inl (.inr hgt)) _ _)
                    · rw [HS.out]
                      refine ⟨_, ⟨setCell_heap HB9.out _, ?_, hnt9, hgt, ?_⟩⟩
                      · have h9 := HO9.out
                        rw [show (ats ++ [(q, v)]).length = ats.length + 1 by simp, atsC_app]
                        exact own_block h9 fun m hm => Below.heap_setCell _ _ _ _ (fun e => by
                          have e' : m = tb := e
                          rw [e'] at hm
                          exact hnt9 hm)
                      · have h9 := HP9.out.grown.size
                        simp [World.setCell] at h9 ⊢
                        omega
      · have h61 : ((x.toNat : Int) != 61) = true := by simp; omega
        rw [HXQ.2] at HBL
        clear hS hw hE hC hL hT hl0 hx hu e0 hs1 hav hbad HXQ
        go_enter Tryd.func60, Tryd.ntmps60
        go_wp2_with (first | (go_at_call 59; (with_reducible refine HW.out.mono ?_); rintro e w1 ⟨he, c1, ha1, h1, h2⟩; obtain rfl : e = .returned (.tuple #[.string (strL q), .bool true]) := he; obtain ⟨h3, d0, d1, dx, hT1, dt, hcb1, htb1⟩ := WOK.out _ _ ha1 h1 h2; have H3 := Lib.hid h3; have H2 := Lib.hid h2; have HT1 := Lib.hid hT1; clear ha1 h1 h2 h3 hT1) | (go_at_call 30; (with_reducible refine (HBL.out _).mono ?_); rintro e w4 ⟨rfl, rfl⟩))
        go_quiet (fail)
        go_wp2_with (go_at_call 30; (with_reducible refine (HBL.out _).mono ?_); rintro e w4 ⟨rfl, rfl⟩)
        go_loopw [42] (fun ix wr => ∃ m : Nat, ix = .int .i64 m ∧ m ≤ ats.length ∧ Hid (Below w1.heap.size w1 wr) ∧ Hid (∀ p, p ∈ ats.take m → p.1 ≠ q)) (fun ix _ => ats.length - (intOf ix).toNat)
        case atStart => exact ⟨0, rfl, Nat.zero_le _, Below.drewN (Below.refl _ w1) nq, fun p hp => by simp at hp⟩
        case round =>
          obtain ⟨m, rfl, hm, hbw, hno⟩ := hrel
          by_cases hml : m < ats.length
          · obtain ⟨ad, had⟩ : ∃ ad, va = some ad := by
              cases hva : va with
              | none => have := hvn hva; omega
              | some ad => exact ⟨ad, rfl⟩
            obtain ⟨g, rfl, hg1, hg2, _, hgc⟩ := hvs ad had
            subst had
            obtain ⟨c0, c1'⟩ := atsC_get ats m hml
            have hgw : g < w1.heap.size := Nat.lt_of_lt_of_le hg2 H2.out.size
            have hgcb : g ≠ cb := by omega
            have y0 : wr.cell? ⟨g, m * 2, none⟩ = some (.string (strL (ats[m]'hml).1)) := (hbw.out.cell (p := ⟨g, m * 2, none⟩) hgw).trans ((H2.out.cell (p := ⟨g, m * 2, none⟩) hg2 hgcb).trans (hgc _ _ c0))
            have y1 : wr.cell? ⟨g, m * 2 + 1, none⟩ = some (.string (strL (encs (ats[m]'hml).2))) := (hbw.out.cell (p := ⟨g, m * 2 + 1, none⟩) hgw).trans ((H2.out.cell (p := ⟨g, m * 2 + 1, none⟩) hg2 hgcb).trans (hgc _ _ c1'))
            have hmi : (m : Int) < (ats.length : Int) := by omega
            have hws := hbw.out.size
            obtain ⟨p, hp⟩ : ∃ p, ats[m]'hml = p := ⟨_, rfl⟩
            rw [hp] at y0 y1
            obtain ⟨p1, p2⟩ := p
            simp only at y0 y1
            by_cases hpq : p1 = q
            · have hs3 := HS1.out
              rw [if_pos (by rw [List.mem_map]; exact ⟨(p1, p2), by rw [← hp]; exact List.getElem_mem hml, hpq⟩)] at hs3
              have HS : Hid (S = .bad k1) := hs3.symm
              have heq : ((strL p1).toList == (strL q).toList) = true := by rw [hpq]; simp
              have HWR := Lib.hid (fun W (h1 : CuAt W cb (.slice (some ⟨b, o, none⟩) n cap) inn nm { c with i := j }) => wrong_any h1)
              clear hs3 hpq hp c0 c1' hgc hvs hvn hno
              go_wp2_with (go_at_call 31; (with_reducible refine (HWR.out _ (H3.out.below (hbw.out.alloc hws _))).mono ?_); rintro e w5 ⟨rfl, h5, h6⟩)
              go_ret
              refine ⟨by rw [HS.out]; rfl, ⟨_, ?_, h5⟩, ((H2.out.on (hbw.out.alloc hws _)).trans h6 fun _ e => .inl e).mono fun _ _ e => .inl e, by rw [HS.out]; trivial⟩
              rw [HS.out]
              show _ = _
              rw [HI.out, hj]
            · have heq : ((strL p1).toList == (strL q).toList) = false := by
                rw [Lib.toList_data, Lib.toList_data, strL_data, strL_data]
                simpa using hpq
              clear c0 c1' hgc hvs hvn
              go_wp2_with fail
              go_roundw
              case rel =>
                refine ⟨m + 1, by go_num, by omega, hbw.out.alloc hws _, fun p' hp' => ?_⟩
                rw [List.take_add_one, List.mem_append] at hp'
                rcases hp' with hp' | hp'
                · exact hno.out p' hp'
                · rw [List.getElem?_eq_getElem hml, hp] at hp'
                  simp at hp'
                  rw [hp']; exact hpq
              case measure => simp [intOf]; omega
          · have hml2 : m = ats.length := by omega
            have hs2 : (attrR F q (x :: u)).up k1 = S := by
              rw [← HS1.out, if_neg]
              intro h
              rw [List.mem_map] at h
              obtain ⟨p, hp1, hp2⟩ := h
              refine hno.out p ?_ hp2
              rw [hml2, List.take_length]; exact hp1
            have hmi : ¬ (m : Int) < (ats.length : Int) := by omega
            clear hvs hvn hno
            have HKR : Hid (Kp (· = cb) w wr) := H2.out.on hbw.out
            have HC5 : Hid (CuAt wr cb (.slice (some ⟨b, o, none⟩) n cap) inn nm ({ c with i := j })) := H3.out.below hbw.out
            have HB1 : Hid (∀ W, CuAt W cb (.slice (some ⟨b, o, none⟩) n cap) inn nm ({ c with i := j }) → Kp (· = cb) w W → Calls Tryd.prog 75 #[.pointer (some ⟨cb, 0, none⟩)] W fun e w' => BR W cb (.slice (some ⟨b, o, none⟩) n cap) inn nm ({ c with i := j }) (blanksGo F (l.drop j)) e w') := fun W h1 h2 => blanks_any (HE.out.keep1 h2) h1 F (by rw [List.length_drop, ← HLEN.out]; show n - j < F; omega)
            have HTT : Hid ((attrR F q (l.drop j)).up (j - i) = S) := by
              show _ = _
              rw [HX.out, show j - i = k1 by omega]; exact hs2
            clear hs2
            cases hB1 : blanksGo F (l.drop j) with
            | wait =>
              rw [hB1] at HB1
              have HS : Hid (S = .wait) := by show _ = _; rw [← HTT.out]; unfold attrR; rw [hB1]; rfl
              clear hB1
              go_wp2_with (go_at_call 75; (with_reducible refine (HB1.out _ HC5.out HKR.out).mono ?_); rintro e w5 ⟨rfl, c5, ha5, h5, h6⟩)
              go_ret
              obtain ⟨i', rfl⟩ := ha5
              exact ⟨by rw [HS.out]; rfl, ⟨_, by rw [HS.out]; exact ⟨i', rfl⟩, h5⟩, (HKR.out.trans h6 fun _ e => .inl e).mono fun _ _ e => .inl e, by rw [HS.out]; trivial⟩
            | bad kb => exact absurd hB1 (blanks_nobad F _ _)
            | ok ub kb =>
              have hdb := ((det_blanks F).ok _ _ _ hB1).1
              rw [List.length_drop, ← HLEN.out] at hdb
              rw [hB1] at HB1
              have HL2 : Hid (∀ W, CuAt W cb (.slice (some ⟨b, o, none⟩) n cap) inn nm ({ c with i := j + kb }) → Kp (· = cb) w W → Calls Tryd.prog 56 #[.pointer (some ⟨cb, 0, none⟩), .string { data := #[61] }] W fun e w' => BR W cb (.slice (some ⟨b, o, none⟩) n cap) inn nm ({ c with i := j + kb }) (lit [61] (l.drop (j + kb))) e w') := fun W h1 h2 => lit61 (HE.out.keep1 h2) h1
              have HT2 : Hid (((lit [61] (l.drop (j + kb))).next (l.drop (j + kb)) fun _ l => (blanksGo F l).next l fun _ l => (valS F l).next l fun v l => doneP (q, v) l).up (j + kb - i) = S) := by
                show _ = _
                rw [← HTT.out]; unfold attrR; rw [hB1]
                show _ = (((lit [61] ((l.drop j).drop kb)).next ((l.drop j).drop kb) fun _ l => (blanksGo F l).next l fun _ l => (valS F l).next l fun v l => doneP (q, v) l).up kb).up (j - i)
                rw [Sc.up_up, List.drop_drop, show j - i + kb = j + kb - i by omega]
              clear hB1
              cases hL2 : lit [61] (l.drop (j + kb)) with
              | wait =>
                rw [hL2] at HL2
                have HS : Hid (S = .wait) := by show _ = _; rw [← HT2.out, hL2]; rfl
                clear hL2
                go_wp2_with (first | (go_at_call 75; (with_reducible refine (HB1.out _ HC5.out HKR.out).mono ?_); rintro e w5 ⟨he, c5, ha5, h5, h6⟩; obtain rfl : e = .returned (.bool true) := he; have H5 : Hid (CuAt w5 cb (.slice (some ⟨b, o, none⟩) n cap) inn nm ({ c with i := j + kb })) := (by have hA : c5 = { c with i := j + kb } := ha5; rw [hA] at h5; exact h5); have K5 : Hid (Kp (· = cb) w w5) := HKR.out.trans h6 (fun _ e => .inl e); clear ha5 h5 h6) | (go_at_call 56; (with_reducible refine (HL2.out _ H5.out K5.out).mono ?_); rintro e w6 ⟨rfl, c6, ha6, h7, h8⟩))
                go_ret
                obtain ⟨i', rfl⟩ := ha6
                exact ⟨by rw [HS.out]; rfl, ⟨_, by rw [HS.out]; exact ⟨i', rfl⟩, h7⟩, (K5.out.trans h8 fun _ e => .inl e).mono fun _ _ e => .inl e, by rw [HS.out]; trivial⟩
              | bad kl =>
                rw [hL2] at HL2
                have HS : Hid (S = .bad (j + kb - i + kl)) := by show _ = _; rw [← HT2.out, hL2]; rfl
                clear hL2
                go_wp2_with (first | (go_at_call 75; (with_reducible refine (HB1.out _ HC5.out HKR.out).mono ?_); rintro e w5 ⟨he, c5, ha5, h5, h6⟩; obtain rfl : e = .returned (.bool true) := he; have H5 : Hid (CuAt w5 cb (.slice (some ⟨b, o, none⟩) n cap) inn nm ({ c with i := j + kb })) := (by have hA : c5 = { c with i := j + kb } := ha5; rw [hA] at h5; exact h5); have K5 : Hid (Kp (· = cb) w w5) := HKR.out.trans h6 (fun _ e => .inl e); clear ha5 h5 h6) | (go_at_call 56; (with_reducible refine (HL2.out _ H5.out K5.out).mono ?_); rintro e w6 ⟨rfl, c6, ha6, h7, h8⟩))
                go_ret
                refine ⟨by rw [HS.out]; rfl, ⟨c6, ?_, h7⟩, (K5.out.trans h8 fun _ e => .inl e).mono fun _ _ e => .inl e, by rw [HS.out]; trivial⟩
                rw [HS.out]
                show _ = _
                rw [show c6 = { c with i := j + kb + kl, how := 2 } from ha6, HI.out, show i + (j + kb - i + kl) = j + kb + kl by omega]
              | ok ul kl =>
                have hdl := ((det_lit [61]).ok _ _ _ hL2).1
                rw [List.length_drop, ← HLEN.out] at hdl
                rw [hL2] at HL2
                have HB3 : Hid (∀ W, CuAt W cb (.slice (some ⟨b, o, none⟩) n cap) inn nm ({ c with i := j + kb + kl }) → Kp (· = cb) w W → Calls Tryd.prog 75 #[.pointer (some ⟨cb, 0, none⟩)] W fun e w' => BR W cb (.slice (some ⟨b, o, none⟩) n cap) inn nm ({ c with i := j + kb + kl }) (blanksGo F (l.drop (j + kb + kl))) e w') := fun W h1 h2 => blanks_any (HE.out.keep1 h2) h1 F (by rw [List.length_drop, ← HLEN.out]; show n - (j + kb + kl) < F; omega)
                have HT3 : Hid (((blanksGo F (l.drop (j + kb + kl))).next (l.drop (j + kb + kl)) fun _ l => (valS F l).next l fun v l => doneP (q, v) l).up (j + kb + kl - i) = S) := by
                  show _ = _
                  rw [← HT2.out, hL2]
                  show _ = (((blanksGo F ((l.drop (j + kb)).drop kl)).next ((l.drop (j + kb)).drop kl) fun _ l => (valS F l).next l fun v l => doneP (q, v) l).up kl).up (j + kb - i)
                  rw [Sc.up_up, List.drop_drop, show j + kb - i + kl = j + kb + kl - i by omega]
                clear hL2
                cases hB3 : blanksGo F (l.drop (j + kb + kl)) with
                | wait =>
                  rw [hB3] at HB3
                  have HS : Hid (S = .wait) := by show _ = _; rw [← HT3.out, hB3]; rfl
                  clear hB3
                  go_wp2_with (first | (go_at_call 75; (with_reducible refine (HB1.out _ HC5.out HKR.out).mono ?_); rintro e w5 ⟨he, c5, ha5, h5, h6⟩; obtain rfl : e = .returned (.bool true) := he; have H5 : Hid (CuAt w5 cb (.slice (some ⟨b, o, none⟩) n cap) inn nm ({ c with i := j + kb })) := (by have hA : c5 = { c with i := j + kb } := ha5; rw [hA] at h5; exact h5); have K5 : Hid (Kp (· = cb) w w5) := HKR.out.trans h6 (fun _ e => .inl e); clear ha5 h5 h6) | (go_at_call 56; (with_reducible refine (HL2.out _ H5.out K5.out).mono ?_); rintro e w6 ⟨he, c6, ha6, h7, h8⟩; obtain rfl : e = .returned (.bool true) := he; have H6 : Hid (CuAt w6 cb (.slice (some ⟨b, o, none⟩) n cap) inn nm ({ c with i := j + kb + kl })) := (by have hA : c6 = { c with i := j + kb + kl } := ha6; rw [hA] at h7; exact h7); have K6 : Hid (Kp (· = cb) w w6) := K5.out.trans h8 (fun _ e => .inl e); clear ha6 h7 h8) | (go_at_call 75; (with_reducible refine (HB3.out _ H6.out K6.out).mono ?_); rintro e w7 ⟨rfl, c7, ha7, h7, h8⟩))
                  go_ret
                  obtain ⟨i', rfl⟩ := ha7
                  exact ⟨by rw [HS.out]; rfl, ⟨_, by rw [HS.out]; exact ⟨i', rfl⟩, h7⟩, (K6.out.trans h8 fun _ e => .inl e).mono fun _ _ e => .inl e, by rw [HS.out]; trivial⟩
                | bad kb => exact absurd hB3 (blanks_nobad F _ _)
                | ok ub2 kb2 =>
                  have hdb2 := ((det_blanks F).ok _ _ _ hB3).1
                  rw [List.length_drop, ← HLEN.out] at hdb2
                  rw [hB3] at HB3
                  have HV4 : Hid (∀ W, CuAt W cb (.slice (some ⟨b, o, none⟩) n cap) inn nm ({ c with i := j + kb + kl + kb2 }) → Kp (· = cb) w W → Calls Tryd.prog 76 #[.pointer (some ⟨cb, 0, none⟩)] W fun e w' => VR W cb (.slice (some ⟨b, o, none⟩) n cap) inn nm ({ c with i := j + kb + kl + kb2 }) (valS F (l.drop (j + kb + kl + kb2))) e w') := fun W h1 h2 => valu_any HL.out (HE.out.keep1 h2) h1 (by show j + kb + kl + kb2 < n; omega) F (by rw [List.length_drop, ← HLEN.out]; show n - (j + kb + kl + kb2) < F; omega)
                  have HT4 : Hid (((valS F (l.drop (j + kb + kl + kb2))).next (l.drop (j + kb + kl + kb2)) fun v l => doneP (q, v) l).up (j + kb + kl + kb2 - i) = S) := by
                    show _ = _
                    rw [← HT3.out, hB3]
                    show _ = (((valS F ((l.drop (j + kb + kl)).drop kb2)).next ((l.drop (j + kb + kl)).drop kb2) fun v l => doneP (q, v) l).up kb2).up (j + kb + kl - i)
                    rw [Sc.up_up, List.drop_drop, show j + kb + kl - i + kb2 = j + kb + kl + kb2 - i by omega]
                  clear hB3
                  cases hV4 : valS F (l.drop (j + kb + kl + kb2)) with
                  | wait =>
                    rw [hV4] at HV4
                    have HS : Hid (S = .wait) := by show _ = _; rw [← HT4.out, hV4]; rfl
                    clear hV4
                    go_wp2_with (first | (go_at_call 75; (with_reducible refine (HB1.out _ HC5.out HKR.out).mono ?_); rintro e w5 ⟨he, c5, ha5, h5, h6⟩; obtain rfl : e = .returned (.bool true) := he; have H5 : Hid (CuAt w5 cb (.slice (some ⟨b, o, none⟩) n cap) inn nm ({ c with i := j + kb })) := (by have hA : c5 = { c with i := j + kb } := ha5; rw [hA] at h5; exact h5); have K5 : Hid (Kp (· = cb) w w5) := HKR.out.trans h6 (fun _ e => .inl e); clear ha5 h5 h6) | (go_at_call 56; (with_reducible refine (HL2.out _ H5.out K5.out).mono ?_); rintro e w6 ⟨he, c6, ha6, h7, h8⟩; obtain rfl : e = .returned (.bool true) := he; have H6 : Hid (CuAt w6 cb (.slice (some ⟨b, o, none⟩) n cap) inn nm ({ c with i := j + kb + kl })) := (by have hA : c6 = { c with i := j + kb + kl } := ha6; rw [hA] at h7; exact h7); have K6 : Hid (Kp (· = cb) w w6) := K5.out.trans h8 (fun _ e => .inl e); clear ha6 h7 h8) | (go_at_call 75; (with_reducible refine (HB3.out _ H6.out K6.out).mono ?_); rintro e w7 ⟨he, c7, ha7, h7, h8⟩; obtain rfl : e = .returned (.bool true) := he; have H7 : Hid (CuAt w7 cb (.slice (some ⟨b, o, none⟩) n cap) inn nm ({ c with i := j + kb + kl + kb2 })) := (by have hA : c7 = { c with i := j + kb + kl + kb2 } := ha7; rw [hA] at h7; exact h7); have K7 : Hid (Kp (· = cb) w w7) := K6.out.trans h8 (fun _ e => .inl e); clear ha7 h7 h8) | (go_at_call 76; (with_reducible refine (HV4.out _ H7.out K7.out).mono ?_); rintro e w8 ⟨rfl, c8, ha8, h7, h8⟩))
                    go_ret
                    obtain ⟨i', rfl⟩ := ha8
                    exact ⟨by rw [HS.out]; rfl, ⟨_, by rw [HS.out]; exact ⟨i', rfl⟩, h7⟩, (K7.out.trans h8 fun _ e => .inl e).mono fun _ _ e => .inl e, by rw [HS.out]; trivial⟩
                  | bad kv =>
                    rw [hV4] at HV4
                    have HS : Hid (S = .bad (j + kb + kl + kb2 - i + kv)) := by show _ = _; rw [← HT4.out, hV4]; rfl
                    clear hV4
                    go_wp2_with (first | (go_at_call 75; (with_reducible refine (HB1.out _ HC5.out HKR.out).mono ?_); rintro e w5 ⟨he, c5, ha5, h5, h6⟩; obtain rfl : e = .returned (.bool true) := he; have H5 : Hid (CuAt w5 cb (.slice (some ⟨b, o, none⟩) n cap) inn nm ({ c with i := j + kb })) := (by have hA : c5 = { c with i := j + kb } := ha5; rw [hA] at h5; exact h5); have K5 : Hid (Kp (· = cb) w w5) := HKR.out.trans h6 (fun _ e => .inl e); clear ha5 h5 h6) | (go_at_call 56; (with_reducible refine (HL2.out _ H5.out K5.out).mono ?_); rintro e w6 ⟨he, c6, ha6, h7, h8⟩; obtain rfl : e = .returned (.bool true) := he; have H6 : Hid (CuAt w6 cb (.slice (some ⟨b, o, none⟩) n cap) inn nm ({ c with i := j + kb + kl })) := (by have hA : c6 = { c with i := j + kb + kl } := ha6; rw [hA] at h7; exact h7); have K6 : Hid (Kp (· = cb) w w6) := K5.out.trans h8 (fun _ e => .inl e); clear ha6 h7 h8) | (go_at_call 75; (with_reducible refine (HB3.out _ H6.out K6.out).mono ?_); rintro e w7 ⟨he, c7, ha7, h7, h8⟩; obtain rfl : e = .returned (.bool true) := he; have H7 : Hid (CuAt w7 cb (.slice (some ⟨b, o, none⟩) n cap) inn nm ({ c with i := j + kb + kl + kb2 })) := (by have hA : c7 = { c with i := j + kb + kl + kb2 } := ha7; rw [hA] at h7; exact h7); have K7 : Hid (Kp (· = cb) w w7) := K6.out.trans h8 (fun _ e => .inl e); clear ha7 h7 h8) | (go_at_call 76; (with_reducible refine (HV4.out _ H7.out K7.out).mono ?_); rintro e w8 ⟨rfl, c8, ha8, h7, h8⟩))
                    go_ret
                    refine ⟨by rw [HS.out]; rfl, ⟨c8, ?_, h7⟩, (K7.out.trans h8 fun _ e => .inl e).mono fun _ _ e => .inl e, by rw [HS.out]; trivial⟩
                    rw [HS.out]
                    show _ = _
                    rw [show c8 = { c with i := j + kb + kl + kb2 + kv, how := 2 } from ha8, HI.out, show i + (j + kb + kl + kb2 - i + kv) = j + kb + kl + kb2 + kv by omega]
                  | ok v kv =>
                    rw [hV4] at HV4
                    have HS : Hid (S = .ok (q, v) (j + kb + kl + kb2 - i + (kv + 0))) := by show _ = _; rw [← HT4.out, hV4]; rfl
                    clear hV4
                    go_wp2_with (first | (go_at_call 75; (with_reducible refine (HB1.out _ HC5.out HKR.out).mono ?_); rintro e w5 ⟨he, c5, ha5, h5, h6⟩; obtain rfl : e = .returned (.bool true) := he; have H5 : Hid (CuAt w5 cb (.slice (some ⟨b, o, none⟩) n cap) inn nm ({ c with i := j + kb })) := (by have hA : c5 = { c with i := j + kb } := ha5; rw [hA] at h5; exact h5); have K5 : Hid (Kp (· = cb) w w5) := HKR.out.trans h6 (fun _ e => .inl e); clear ha5 h5 h6) | (go_at_call 56; (with_reducible refine (HL2.out _ H5.out K5.out).mono ?_); rintro e w6 ⟨he, c6, ha6, h7, h8⟩; obtain rfl : e = .returned (.bool true) := he; have H6 : Hid (CuAt w6 cb (.slice (some ⟨b, o, none⟩) n cap) inn nm ({ c with i := j + kb + kl })) := (by have hA : c6 = { c with i := j + kb + kl } := ha6; rw [hA] at h7; exact h7); have K6 : Hid (Kp (· = cb) w w6) := K5.out.trans h8 (fun _ e => .inl e); clear ha6 h7 h8) | (go_at_call 75; (with_reducible refine (HB3.out _ H6.out K6.out).mono ?_); rintro e w7 ⟨he, c7, ha7, h7, h8⟩; obtain rfl : e = .returned (.bool true) := he; have H7 : Hid (CuAt w7 cb (.slice (some ⟨b, o, none⟩) n cap) inn nm ({ c with i := j + kb + kl + kb2 })) := (by have hA : c7 = { c with i := j + kb + kl + kb2 } := ha7; rw [hA] at h7; exact h7); have K7 : Hid (Kp (· = cb) w w7) := K6.out.trans h8 (fun _ e => .inl e); clear ha7 h7 h8) | (go_at_call 76; (with_reducible refine (HV4.out _ H7.out K7.out).mono ?_); rintro e w8 ⟨he, c8, ha8, h7, h8⟩; obtain rfl : e = .returned (.tuple #[.string (strL (encs v)), .bool true]) := he; have HA8 : Hid (c8 = { c with i := j + kb + kl + kb2 + kv }) := ha8; have H8 := Lib.hid h7; have K8 : Hid (Kp (· = cb) w w8) := K7.out.trans h8 (fun _ e => .inl e); have hT8 := HTS.out.keep K8.out (fun m e => by have e' : m = cb := e; exact .inl (by omega)); have HT8 := Lib.hid hT8; have d42 : w8.cell? ⟨tb, 2, none⟩ = some (.slice va ats.length vc) := (by rw [cell_heap hT8.cell]; rfl); have f42 : w8.frozen? ⟨tb, 2, none⟩ = false := frozen_heap hT8.cell; have hrow8 := hT8.row; have htb8 := heap_lt hT8.cell; have hle8 := hT8.le; have hne8 := hT8.ne; clear ha8 h7 h8 hT8) | (at_builtin; refine wpList_app w8 rfl (.tmp 76) (.tmp 80) 37 rfl G 85 iA (.agg #[.string { data := #[] }, .string { data := #[] }]) 2 32 Tryd.underlying37 hinfA hzA0 hzA1 hzA2 rfl (by decide) (.slice va ats.length vc) ats.length (atsC ats) rfl hrow8 w8.heap.size rfl 1 [.string (strL q), .string (strL (encs v))] rfl rfl (by intro u' hu'; simp at hu'; rcases hu' with rfl | rfl <;> rfl) (by omega) (by decide) hle8 ?_; intro v' w9 hown9 happ9; obtain ⟨a9, c9, hv9, _⟩ := own_slice hown9; subst hv9; have hlt8 : tb < (w8.alloc (.cells #[.string (strL q), .string (strL (encs v))] 85)).heap.size := (by simp; omega); have hb9 : w9.heap[tb]? = some (.cells (tokC k tq (.slice va ats.length vc)).toArray 41 (0, 0)) := (happ9.keep hlt8 hne8).trans ((heap_alloc_old _ _ htb8).trans HT8.out.cell); have d43 : w9.cell? ⟨tb, 2, none⟩ = some (.slice va ats.length vc) := (by rw [cell_heap hb9]; rfl); have f43 : w9.frozen? ⟨tb, 2, none⟩ = false := frozen_heap hb9; have HB9 := Lib.hid hb9; have HO9 := Lib.hid hown9; have HP9 := Lib.hid happ9; clear hb9 hown9 happ9))
                    go_ret
                    have hcb8 := H8.out.lt
                    have hnc8 : (Value.slice va ats.length vc).ownBlock ≠ some cb := fun e => by have := (hrow8.lt cb e).1; omega
                    have hlc8 : cb < (w8.alloc (.cells #[.string (strL q), .string (strL (encs v))] 85)).heap.size := by simp; omega
                    have hcu9 : CuAt w9 cb (.slice (some ⟨b, o, none⟩) n cap) inn nm c8 := (HP9.out.keep hlc8 hnc8).trans ((heap_alloc_old _ _ hcb8).trans H8.out)
                    have htc : cb ≠ tb := by omega
                    have hnt9 := HP9.out.ne hlt8 hne8
                    refine ⟨by rw [HS.out]; rfl, ⟨c8, ?_, (Below.heap_setCell _ _ _ _ htc).trans hcu9⟩, ?_, ?_⟩
                    · rw [HS.out]
                      show _ = _
                      rw [HA8.out, HI.out, show i + (j + kb + kl + kb2 - i + (kv + 0)) = j + kb + kl + kb2 + kv by omega]
                    · refine ((((K8.out.mono (S' := fun m => m = cb ∨ G ≤ m) fun _ _ e => .inl e).alloc _).grown HP9.out.grown fun m e => .inl (.inr (hrow8.lt m e).1)).set (.inl (.inr hgt)) _ _)
                    · rw [HS.out]
                      refine ⟨_, ⟨setCell_heap HB9.out _, ?_, hnt9, hgt, ?_⟩⟩
                      · have h9 := HO9.out
                        rw [show (ats ++ [(q, v)]).length = ats.length + 1 by simp, atsC_app]
                        exact own_block h9 fun m hm => Below.heap_setCell _ _ _ _ (fun e => by
                          have e' : m = tb := e
                          rw [e'] at hm
                          exact hnt9 hm)
                      · have h9 := HP9.out.grown.size
                        simp [World.setCell] at h9 ⊢
                        omega
end
end Go.Proofs.YtjdmndpadejegaaDoor
