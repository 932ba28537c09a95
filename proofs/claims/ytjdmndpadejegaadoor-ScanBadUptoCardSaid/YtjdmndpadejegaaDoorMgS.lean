/-
  The scanner's cursor: bang.
-/
import Derived.Test.YtjdmndpadejegaaDoorMgR
namespace Go.Proofs.YtjdmndpadejegaaDoor
open Go.RowKit

theorem lit_is : ∀ (s l : List UInt8) (u : Unit) (k : Nat), lit s l = .ok u k → k = s.length ∧ l.take k = s
  | [], l, u, k, h => by cases h; exact ⟨rfl, rfl⟩
  | y :: s, [], u, k, h => by cases h
  | y :: s, x :: l, u, k, h => by
    have h : (if x = y then on1 (lit s) (x :: l) else badP (x :: l)) = .ok u k := h
    split at h
    · rename_i hxy
      obtain ⟨k', h1, rfl⟩ := up_ok (show (lit s l).up 1 = .ok u k from h)
      obtain ⟨h2, h3⟩ := lit_is s l u k' h1
      refine ⟨by rw [h2, List.length_cons]; omega, ?_⟩
      rw [Nat.add_comm 1 k', List.take_succ_cons, h3, hxy]
    · cases h
theorem cr_cd {l : List UInt8} {j : Nat} (h : (l.drop j).take 7 = [91, 67, 68, 65, 84, 65, 91]) : crAt l (j + 7) = false := by
  have h6 : (l.drop j)[6]? = some 91 := by
    have := congrArg (fun q : List UInt8 => q[6]?) h
    rw [List.getElem?_take_of_lt (by decide)] at this
    exact this
  rw [List.getElem?_drop] at h6
  unfold crAt
  rw [List.getD_eq_getElem?_getD, show j + 7 - 1 = j + 6 by omega, h6, decide_eq_false_iff_not]
  simp
def MkA (c : Cu) (t0 : List Nat) (c' : Cu) (t' : List Nat) : Sc Mk → Prop
  | .wait => ∃ i v be, c' = { c with i := i, how := 1, tv := v, beg := be }
  | .bad k => ∃ v be, c' = { c with i := c.i + k, how := 2, tv := v, beg := be }
  | .ok .com k => c' = { c with i := c.i + k } ∧ t' = t0
  | .ok (.sec t) k => ∃ v, c' = { c with i := c.i + k, tv := v, beg := if t0 = [] ∧ t ≠ [] then (c.st : Int) else c.beg } ∧ t' = t0 ++ t
  | .ok _ _ => False
def BgR (G : Nat) (w : World) (cb : Nat) (a : Option Addr) (bv : Value) (inn : Nat) (nm : List UInt8) (c : Cu) (t0 : List Nat) (s : Sc Mk) (e : Ending) (w' : World) : Prop :=
  e = .returned (.bool s.good) ∧ ∃ c' t', MkA c t0 c' t' s ∧ CuAt w' cb bv inn nm c' ∧ TS G cb a w w' c.tv c'.tv t0 t'
section
variable {w0 w : World} {cb : Nat} {a : Option Addr} {n cap : Nat} {l : List UInt8} {inn : Nat} {nm : List UInt8} {c : Cu} {G : Nat} {t0 : List Nat}
theorem litCD (hE : CE w0 w cb a n cap l) (hC : CuAt w cb (.slice a n cap) inn nm c) : Calls Tryd.prog 56 #[.pointer (some ⟨cb, 0, none⟩), .string { data := #[91, 67, 68, 65, 84, 65, 91] }] w fun e w' => BR w cb (.slice a n cap) inn nm c (lit [91, 67, 68, 65, 84, 65, 91] (l.drop c.i)) e w' := literal_any hE hC [91, 67, 68, 65, 84, 65, 91] (by decide)
theorem litDD (hE : CE w0 w cb a n cap l) (hC : CuAt w cb (.slice a n cap) inn nm c) : Calls Tryd.prog 56 #[.pointer (some ⟨cb, 0, none⟩), .string { data := #[45, 45] }] w fun e w' => BR w cb (.slice a n cap) inn nm c (lit [45, 45] (l.drop c.i)) e w' := literal_any hE hC [45, 45] (by decide)
set_option maxRecDepth 100000 in
set_option maxHeartbeats 8000000 in
theorem bang_any (hL : Laid w0) (hE : CE w0 w cb a n cap l) (hG : w0.heap.size ≤ G) (hC : CuAt w cb (.slice a n cap) inn nm c) (hX : TX G cb a w c.tv t0) (hi : c.i < n) (ht0 : t0.length ≤ c.i) (F : Nat) (hF : (l.drop c.i).length < F) :
    Calls Tryd.prog 42 #[.pointer (some ⟨cb, 0, none⟩)] w fun e w' => BgR G w cb a (.slice a n cap) inn nm c t0 ((bangF F inn (l.drop (c.i + 1))).up 1) e w' := by
  have HE := Lib.hid hE
  have HC := Lib.hid hC
  have HX := Lib.hid hX
  have HL := Lib.hid hL
  have HG := Lib.hid hG
  have hcb := hC.lt
  have hsm := hE.small
  have HLEN := Lib.hid hE.len
  have hl0 : (l.drop c.i).length = n - c.i := by rw [List.length_drop, HLEN.out]
  rw [hl0] at hF
  obtain ⟨i, hii⟩ : ∃ i, c.i = i := ⟨_, rfl⟩
  have HI := Lib.hid hii
  have hci := hC.c_i
  have hfz := hC.fz 1
  rw [hii] at hci hi ht0 hF ⊢
  obtain ⟨S, hS⟩ : ∃ S, (bangF F inn (l.drop (i + 1))).up 1 = S := ⟨_, rfl⟩
  rw [hS]
  cases hx : l.drop (i + 1) with
  | nil =>
    rw [hx] at hS
    have HS : Hid (S = .wait) := hS.symm
    have HB := Lib.hid (fun W (h1 : CuAt W cb (.slice a n cap) inn nm { c with i := i + 1 }) (h2 : Kp (· = cb) w W) => byte_none (HE.out.keep1 h2) h1 hx)
    clear hS hx hE hC hX hL hG hl0 hii
    go_enter Tryd.func42, Tryd.ntmps42
    go_wp2_with (go_at_call 28; (with_reducible refine (HB.out _ (HC.out.set_iz ((i : Int) + 1) (i + 1) (by simp)) (kp_set (Below.refl _ w) _ _)).mono ?_); rintro e w2 ⟨rfl, h1, h2⟩)
    go_ret
    refine ⟨by rw [HS.out]; rfl, _, t0, ?_, h1, TS.refl HX.out ((kp_set (Below.refl _ w) _ _).trans h2 fun _ e => .inl e)⟩
    rw [HS.out]
    exact ⟨i + 1, c.tv, c.beg, rfl⟩
  | cons x u =>
    rw [hx] at hS
    have hlt : i + 1 < n := HE.out.lt_of hx
    have hs1 : ((if x.toNat = 91 ∧ inn = 1 then (lit [91, 67, 68, 65, 84, 65, 91] (l.drop (i + 1))).next (l.drop (i + 1)) fun _ l => (secGo F false [] l).next l fun t l => doneP (.sec t) l
      else (lit [45, 45] (l.drop (i + 1))).next (l.drop (i + 1)) fun _ l => (comGo F 0 l).next l fun _ l => doneP .com l) : Sc Mk).up 1 = S := by rw [← hS, hx]; rfl
    have HB := Lib.hid (fun W (h1 : CuAt W cb (.slice a n cap) inn nm { c with i := i + 1 }) (h2 : Kp (· = cb) w W) => byte_some (HE.out.keep1 h2) h1 x u hx)
    have hx256 := x.toNat_lt
    have K1 : Hid (∀ W, Below (w.setCell ⟨cb, 1, none⟩ (.int .i64 ((i : Int) + 1))).heap.size (w.setCell ⟨cb, 1, none⟩ (.int .i64 ((i : Int) + 1))) W → CuAt W cb (.slice a n cap) inn nm { c with i := i + 1 } ∧ Kp (· = cb) w W ∧ W.cell? ⟨cb, 2, none⟩ = some (.int .i64 inn)) := by
      intro W hb
      have h := (HC.out.set_iz ((i : Int) + 1) (i + 1) (by simp)).below hb
      exact ⟨h, (kp_set (Below.refl _ w) _ _).on hb, h.c_in⟩
    by_cases hx91 : x.toNat = 91
    · have hxe : ((x.toNat : Int) == 91) = true := by simp; omega
      by_cases hin : inn = 1
      · have hie : ((inn : Int) == 1) = true := by simp; omega
        rw [if_pos ⟨hx91, hin⟩] at hs1
        have HLI := Lib.hid (fun W (h1 : CuAt W cb (.slice a n cap) inn nm { c with i := i + 1 }) (h2 : Kp (· = cb) w W) => litCD (HE.out.keep1 h2) h1)
        cases hq : lit [91, 67, 68, 65, 84, 65, 91] (l.drop (i + 1)) with
        | wait =>
          rw [hq] at hs1
          have HS : Hid (S = .wait) := hs1.symm
          have HL2 := Lib.hid (fun W h1 h2 => hq ▸ HLI.out W h1 h2)
          clear hS hx hE hC hX hL hG hl0 hii hs1 hq hx91 hin
          go_enter Tryd.func42, Tryd.ntmps42
          go_wp2_with (first | (go_at_call 28; (with_reducible refine (HB.out _ (HC.out.set_iz ((i : Int) + 1) (i + 1) (by simp)) (kp_set (Below.refl _ w) _ _)).mono ?_); rintro e w2 ⟨rfl, hb2⟩; obtain ⟨k1, k2, d2⟩ := K1.out w2 hb2; have HK1 := Lib.hid k1; have HK2 := Lib.hid k2; clear k1 k2) | (go_at_call 56; (with_reducible refine (HL2.out _ HK1.out HK2.out).mono ?_); rintro e w3 ⟨rfl, c3, ha3, h3, h4⟩))
          go_ret
          obtain ⟨i', rfl⟩ := ha3
          refine ⟨by rw [HS.out]; rfl, _, t0, ?_, h3, TS.refl HX.out (HK2.out.trans h4 fun _ e => .inl e)⟩
          rw [HS.out]
          exact ⟨i', c.tv, c.beg, rfl⟩
        | bad kl =>
          rw [hq] at hs1
          have HS : Hid (S = .bad (1 + kl)) := hs1.symm
          have HL2 := Lib.hid (fun W h1 h2 => hq ▸ HLI.out W h1 h2)
          clear hS hx hE hC hX hL hG hl0 hii hs1 hq hx91 hin
          go_enter Tryd.func42, Tryd.ntmps42
          go_wp2_with (first | (go_at_call 28; (with_reducible refine (HB.out _ (HC.out.set_iz ((i : Int) + 1) (i + 1) (by simp)) (kp_set (Below.refl _ w) _ _)).mono ?_); rintro e w2 ⟨rfl, hb2⟩; obtain ⟨k1, k2, d2⟩ := K1.out w2 hb2; have HK1 := Lib.hid k1; have HK2 := Lib.hid k2; clear k1 k2) | (go_at_call 56; (with_reducible refine (HL2.out _ HK1.out HK2.out).mono ?_); rintro e w3 ⟨rfl, c3, ha3, h3, h4⟩))
          go_ret
          have hA : c3 = { c with i := i + 1 + kl, how := 2 } := ha3
          subst hA
          refine ⟨by rw [HS.out]; rfl, _, t0, ?_, h3, TS.refl HX.out (HK2.out.trans h4 fun _ e => .inl e)⟩
          rw [HS.out]
          refine ⟨c.tv, c.beg, ?_⟩
          rw [HI.out, Nat.add_assoc]
        | ok ul kl =>
          have hdl := ((det_lit _).ok _ _ _ hq).1
          rw [List.length_drop, ← HLEN.out] at hdl
          obtain ⟨hkl, htk⟩ := lit_is _ _ _ _ hq
          rw [hq] at hs1
          have HL2 := Lib.hid (fun W h1 h2 => hq ▸ HLI.out W h1 h2)
          have hs2 : ((secGo F false [] (l.drop (i + 1 + kl))).next (l.drop (i + 1 + kl)) fun t l => doneP (.sec t) l : Sc Mk).up (1 + kl) = S := by
            rw [← hs1]
            show _ = (((secGo F false [] ((l.drop (i + 1)).drop kl)).next ((l.drop (i + 1)).drop kl) fun t l => doneP (.sec t) l : Sc Mk).up kl).up 1
            rw [Sc.up_up, List.drop_drop]
          have hcr : crAt l (i + 1 + kl) = false := by
            have h7 : kl = 7 := hkl
            subst h7
            exact cr_cd htk
          clear hkl htk
          have HSE := Lib.hid (fun W (h1 : CuAt W cb (.slice a n cap) inn nm { c with i := i + 1 + kl }) (h2 : Kp (· = cb) w W) => section_any HL.out (HE.out.keep1 h2) HG.out h1 (t0 := t0) (HX.out.keep1 h2) (by show i + 1 + kl ≤ n; omega) (by show t0.length ≤ i + 1 + kl; omega) hcr F (by rw [List.length_drop, ← HLEN.out]; show n - (i + 1 + kl) < F; omega))
          have HS2 := Lib.hid hs2
          clear hS hx hE hC hX hL hG hl0 hii hs1 hq hx91 hin hs2 hcr
          go_enter Tryd.func42, Tryd.ntmps42
          go_wp2_with (first | (go_at_call 28; (with_reducible refine (HB.out _ (HC.out.set_iz ((i : Int) + 1) (i + 1) (by simp)) (kp_set (Below.refl _ w) _ _)).mono ?_); rintro e w2 ⟨rfl, hb2⟩; obtain ⟨k1, k2, d2⟩ := K1.out w2 hb2; have HK1 := Lib.hid k1; have HK2 := Lib.hid k2; clear k1 k2) | (go_at_call 56; (with_reducible refine (HL2.out _ HK1.out HK2.out).mono ?_); rintro e w3 ⟨he, c3, ha3, h3, h4⟩; obtain rfl : e = .returned (.bool true) := he; have H3 : Hid (CuAt w3 cb (.slice a n cap) inn nm { c with i := i + 1 + kl }) := (by have hA : c3 = { c with i := i + 1 + kl } := ha3; rw [hA] at h3; exact h3); have K3 : Hid (Kp (· = cb) w w3) := HK2.out.trans h4 (fun _ e => .inl e); clear ha3 h3 h4) | (go_at_call 57; (with_reducible refine (HSE.out _ H3.out K3.out).mono ?_); rintro e w4 ⟨rfl, c4, t', ha4, h5, h6⟩; have H6 := Lib.hid h6; clear h6))
          go_ret
          have hts : TS G cb a w w4 c.tv c4.tv t0 t' := TS.trans HX.out (TS.refl HX.out K3.out) H6.out
          have hs2 := HS2.out
          cases hsec : secGo F false [] (l.drop (i + 1 + kl)) with
          | wait =>
            rw [hsec] at ha4 hs2
            have hS3 : S = .wait := hs2.symm
            obtain ⟨i', v, be, rfl⟩ := ha4
            exact ⟨by rw [hS3]; rfl, _, t', by rw [hS3]; exact ⟨i', v, be, rfl⟩, h5, hts⟩
          | bad ks =>
            rw [hsec] at ha4 hs2
            have hS3 : S = .bad (1 + kl + ks) := hs2.symm
            obtain ⟨v, be, hA⟩ := ha4
            refine ⟨by rw [hS3]; rfl, c4, t', ?_, h5, hts⟩
            rw [hS3]
            refine ⟨v, be, ?_⟩
            rw [hA, HI.out, show i + (1 + kl + ks) = i + 1 + kl + ks by omega]
          | ok ts ks =>
            rw [hsec] at ha4 hs2
            have hS3 : S = .ok (.sec ts) (1 + kl + (ks + 0)) := hs2.symm
            obtain ⟨v, hA, ht'⟩ := ha4
            refine ⟨by rw [hS3]; rfl, c4, t', ?_, h5, hts⟩
            rw [hS3]
            refine ⟨v, ?_, ht'⟩
            rw [hA, HI.out, show i + (1 + kl + (ks + 0)) = i + 1 + kl + ks by omega]
      · have hie : ((inn : Int) == 1) = false := by simp; omega
        rw [if_neg (fun h => hin h.2)] at hs1
        have HLI := Lib.hid (fun W (h1 : CuAt W cb (.slice a n cap) inn nm { c with i := i + 1 }) (h2 : Kp (· = cb) w W) => litDD (HE.out.keep1 h2) h1)
        cases hq : lit [45, 45] (l.drop (i + 1)) with
        | wait =>
          rw [hq] at hs1
          have HS : Hid (S = .wait) := hs1.symm
          have HL2 := Lib.hid (fun W h1 h2 => hq ▸ HLI.out W h1 h2)
          clear hS hx hE hC hX hL hG hl0 hii hs1 hq hx91 hin
          go_enter Tryd.func42, Tryd.ntmps42
          go_wp2_with (first | (go_at_call 28; (with_reducible refine (HB.out _ (HC.out.set_iz ((i : Int) + 1) (i + 1) (by simp)) (kp_set (Below.refl _ w) _ _)).mono ?_); rintro e w2 ⟨rfl, hb2⟩; obtain ⟨k1, k2, d2⟩ := K1.out w2 hb2; have HK1 := Lib.hid k1; have HK2 := Lib.hid k2; clear k1 k2) | (go_at_call 56; (with_reducible refine (HL2.out _ HK1.out HK2.out).mono ?_); rintro e w3 ⟨rfl, c3, ha3, h3, h4⟩))
          go_ret
          obtain ⟨i', rfl⟩ := ha3
          refine ⟨by rw [HS.out]; rfl, _, t0, ?_, h3, TS.refl HX.out (HK2.out.trans h4 fun _ e => .inl e)⟩
          rw [HS.out]
          exact ⟨i', c.tv, c.beg, rfl⟩
        | bad kl =>
          rw [hq] at hs1
          have HS : Hid (S = .bad (1 + kl)) := hs1.symm
          have HL2 := Lib.hid (fun W h1 h2 => hq ▸ HLI.out W h1 h2)
          clear hS hx hE hC hX hL hG hl0 hii hs1 hq hx91 hin
          go_enter Tryd.func42, Tryd.ntmps42
          go_wp2_with (first | (go_at_call 28; (with_reducible refine (HB.out _ (HC.out.set_iz ((i : Int) + 1) (i + 1) (by simp)) (kp_set (Below.refl _ w) _ _)).mono ?_); rintro e w2 ⟨rfl, hb2⟩; obtain ⟨k1, k2, d2⟩ := K1.out w2 hb2; have HK1 := Lib.hid k1; have HK2 := Lib.hid k2; clear k1 k2) | (go_at_call 56; (with_reducible refine (HL2.out _ HK1.out HK2.out).mono ?_); rintro e w3 ⟨rfl, c3, ha3, h3, h4⟩))
          go_ret
          have hA : c3 = { c with i := i + 1 + kl, how := 2 } := ha3
          subst hA
          refine ⟨by rw [HS.out]; rfl, _, t0, ?_, h3, TS.refl HX.out (HK2.out.trans h4 fun _ e => .inl e)⟩
          rw [HS.out]
          refine ⟨c.tv, c.beg, ?_⟩
          rw [HI.out, Nat.add_assoc]
        | ok ul kl =>
          have hdl := ((det_lit _).ok _ _ _ hq).1
          rw [List.length_drop, ← HLEN.out] at hdl
          obtain ⟨hkl, htk⟩ := lit_is _ _ _ _ hq
          rw [hq] at hs1
          have HL2 := Lib.hid (fun W h1 h2 => hq ▸ HLI.out W h1 h2)
          have hs2 : ((comGo F 0 (l.drop (i + 1 + kl))).next (l.drop (i + 1 + kl)) fun _ l => doneP .com l : Sc Mk).up (1 + kl) = S := by
            rw [← hs1]
            show _ = (((comGo F 0 ((l.drop (i + 1)).drop kl)).next ((l.drop (i + 1)).drop kl) fun _ l => doneP .com l : Sc Mk).up kl).up 1
            rw [Sc.up_up, List.drop_drop]
          clear hkl htk
          have HSE := Lib.hid (fun W (h1 : CuAt W cb (.slice a n cap) inn nm { c with i := i + 1 + kl }) (h2 : Kp (· = cb) w W) => comment_any HL.out (HE.out.keep1 h2) h1 (by show i + 1 + kl ≤ n; omega) F (by rw [List.length_drop, ← HLEN.out]; show n - (i + 1 + kl) < F; omega))
          have HS2 := Lib.hid hs2
          clear hS hx hE hC hX hL hG hl0 hii hs1 hq hx91 hin hs2
          go_enter Tryd.func42, Tryd.ntmps42
          go_wp2_with (first | (go_at_call 28; (with_reducible refine (HB.out _ (HC.out.set_iz ((i : Int) + 1) (i + 1) (by simp)) (kp_set (Below.refl _ w) _ _)).mono ?_); rintro e w2 ⟨rfl, hb2⟩; obtain ⟨k1, k2, d2⟩ := K1.out w2 hb2; have HK1 := Lib.hid k1; have HK2 := Lib.hid k2; clear k1 k2) | (go_at_call 56; (with_reducible refine (HL2.out _ HK1.out HK2.out).mono ?_); rintro e w3 ⟨he, c3, ha3, h3, h4⟩; obtain rfl : e = .returned (.bool true) := he; have H3 : Hid (CuAt w3 cb (.slice a n cap) inn nm { c with i := i + 1 + kl }) := (by have hA : c3 = { c with i := i + 1 + kl } := ha3; rw [hA] at h3; exact h3); have K3 : Hid (Kp (· = cb) w w3) := HK2.out.trans h4 (fun _ e => .inl e); clear ha3 h3 h4) | (go_at_call 58; (with_reducible refine (HSE.out _ H3.out K3.out).mono ?_); rintro e w4 ⟨rfl, c4, ha4, h5, h6⟩; have H6 := Lib.hid h6; clear h6))
          go_ret
          have hk4 : Kp (· = cb) w w4 := K3.out.trans H6.out fun _ e => .inl e
          have hs2 := HS2.out
          cases hsec : comGo F 0 (l.drop (i + 1 + kl)) with
          | wait =>
            rw [hsec] at ha4 hs2
            have hS3 : S = .wait := hs2.symm
            obtain ⟨i', rfl⟩ := ha4
            exact ⟨by rw [hS3]; rfl, _, t0, by rw [hS3]; exact ⟨i', c.tv, c.beg, rfl⟩, h5, TS.refl HX.out hk4⟩
          | bad ks =>
            rw [hsec] at ha4 hs2
            have hS3 : S = .bad (1 + kl + ks) := hs2.symm
            have hA : c4 = { c with i := i + 1 + kl + ks, how := 2 } := ha4
            subst hA
            refine ⟨by rw [hS3]; rfl, _, t0, ?_, h5, TS.refl HX.out hk4⟩
            rw [hS3]
            refine ⟨c.tv, c.beg, ?_⟩
            rw [HI.out, show i + (1 + kl + ks) = i + 1 + kl + ks by omega]
          | ok ts ks =>
            rw [hsec] at ha4 hs2
            have hS3 : S = .ok .com (1 + kl + (ks + 0)) := hs2.symm
            have hA : c4 = { c with i := i + 1 + kl + ks } := ha4
            subst hA
            refine ⟨by rw [hS3]; rfl, _, t0, ?_, h5, TS.refl HX.out hk4⟩
            rw [hS3]
            refine ⟨?_, rfl⟩
            rw [HI.out, show i + (1 + kl + (ks + 0)) = i + 1 + kl + ks by omega]
    · have hxe : ((x.toNat : Int) == 91) = false := by simp; omega
      rw [if_neg (fun h => hx91 h.1)] at hs1
      have HLI := Lib.hid (fun W (h1 : CuAt W cb (.slice a n cap) inn nm { c with i := i + 1 }) (h2 : Kp (· = cb) w W) => litDD (HE.out.keep1 h2) h1)
      cases hq : lit [45, 45] (l.drop (i + 1)) with
      | wait =>
        rw [hq] at hs1
        have HS : Hid (S = .wait) := hs1.symm
        have HL2 := Lib.hid (fun W h1 h2 => hq ▸ HLI.out W h1 h2)
        clear hS hx hE hC hX hL hG hl0 hii hs1 hq hx91
        go_enter Tryd.func42, Tryd.ntmps42
        go_wp2_with (first | (go_at_call 28; (with_reducible refine (HB.out _ (HC.out.set_iz ((i : Int) + 1) (i + 1) (by simp)) (kp_set (Below.refl _ w) _ _)).mono ?_); rintro e w2 ⟨rfl, hb2⟩; obtain ⟨k1, k2, d2⟩ := K1.out w2 hb2; have HK1 := Lib.hid k1; have HK2 := Lib.hid k2; clear k1 k2) | (go_at_call 56; (with_reducible refine (HL2.out _ HK1.out HK2.out).mono ?_); rintro e w3 ⟨rfl, c3, ha3, h3, h4⟩))
        go_ret
        obtain ⟨i', rfl⟩ := ha3
        refine ⟨by rw [HS.out]; rfl, _, t0, ?_, h3, TS.refl HX.out (HK2.out.trans h4 fun _ e => .inl e)⟩
        rw [HS.out]
        exact ⟨i', c.tv, c.beg, rfl⟩
      | bad kl =>
        rw [hq] at hs1
        have HS : Hid (S = .bad (1 + kl)) := hs1.symm
        have HL2 := Lib.hid (fun W h1 h2 => hq ▸ HLI.out W h1 h2)
        clear hS hx hE hC hX hL hG hl0 hii hs1 hq hx91
        go_enter Tryd.func42, Tryd.ntmps42
        go_wp2_with (first | (go_at_call 28; (with_reducible refine (HB.out _ (HC.out.set_iz ((i : Int) + 1) (i + 1) (by simp)) (kp_set (Below.refl _ w) _ _)).mono ?_); rintro e w2 ⟨rfl, hb2⟩; obtain ⟨k1, k2, d2⟩ := K1.out w2 hb2; have HK1 := Lib.hid k1; have HK2 := Lib.hid k2; clear k1 k2) | (go_at_call 56; (with_reducible refine (HL2.out _ HK1.out HK2.out).mono ?_); rintro e w3 ⟨rfl, c3, ha3, h3, h4⟩))
        go_ret
        have hA : c3 = { c with i := i + 1 + kl, how := 2 } := ha3
        subst hA
        refine ⟨by rw [HS.out]; rfl, _, t0, ?_, h3, TS.refl HX.out (HK2.out.trans h4 fun _ e => .inl e)⟩
        rw [HS.out]
        refine ⟨c.tv, c.beg, ?_⟩
        rw [HI.out, Nat.add_assoc]
      | ok ul kl =>
        have hdl := ((det_lit _).ok _ _ _ hq).1
        rw [List.length_drop, ← HLEN.out] at hdl
        obtain ⟨hkl, htk⟩ := lit_is _ _ _ _ hq
        rw [hq] at hs1
        have HL2 := Lib.hid (fun W h1 h2 => hq ▸ HLI.out W h1 h2)
        have hs2 : ((comGo F 0 (l.drop (i + 1 + kl))).next (l.drop (i + 1 + kl)) fun _ l => doneP .com l : Sc Mk).up (1 + kl) = S := by
          rw [← hs1]
          show _ = (((comGo F 0 ((l.drop (i + 1)).drop kl)).next ((l.drop (i + 1)).drop kl) fun _ l => doneP .com l : Sc Mk).up kl).up 1
          rw [Sc.up_up, List.drop_drop]
        clear hkl htk
        have HSE := Lib.hid (fun W (h1 : CuAt W cb (.slice a n cap) inn nm { c with i := i + 1 + kl }) (h2 : Kp (· = cb) w W) => comment_any HL.out (HE.out.keep1 h2) h1 (by show i + 1 + kl ≤ n; omega) F (by rw [List.length_drop, ← HLEN.out]; show n - (i + 1 + kl) < F; omega))
        have HS2 := Lib.hid hs2
        clear hS hx hE hC hX hL hG hl0 hii hs1 hq hx91 hs2
        go_enter Tryd.func42, Tryd.ntmps42
        go_wp2_with (first | (go_at_call 28; (with_reducible refine (HB.out _ (HC.out.set_iz ((i : Int) + 1) (i + 1) (by simp)) (kp_set (Below.refl _ w) _ _)).mono ?_); rintro e w2 ⟨rfl, hb2⟩; obtain ⟨k1, k2, d2⟩ := K1.out w2 hb2; have HK1 := Lib.hid k1; have HK2 := Lib.hid k2; clear k1 k2) | (go_at_call 56; (with_reducible refine (HL2.out _ HK1.out HK2.out).mono ?_); rintro e w3 ⟨he, c3, ha3, h3, h4⟩; obtain rfl : e = .returned (.bool true) := he; have H3 : Hid (CuAt w3 cb (.slice a n cap) inn nm { c with i := i + 1 + kl }) := (by have hA : c3 = { c with i := i + 1 + kl } := ha3; rw [hA] at h3; exact h3); have K3 : Hid (Kp (· = cb) w w3) := HK2.out.trans h4 (fun _ e => .inl e); clear ha3 h3 h4) | (go_at_call 58; (with_reducible refine (HSE.out _ H3.out K3.out).mono ?_); rintro e w4 ⟨rfl, c4, ha4, h5, h6⟩; have H6 := Lib.hid h6; clear h6))
        go_ret
        have hk4 : Kp (· = cb) w w4 := K3.out.trans H6.out fun _ e => .inl e
        have hs2 := HS2.out
        cases hsec : comGo F 0 (l.drop (i + 1 + kl)) with
        | wait =>
          rw [hsec] at ha4 hs2
          have hS3 : S = .wait := hs2.symm
          obtain ⟨i', rfl⟩ := ha4
          exact ⟨by rw [hS3]; rfl, _, t0, by rw [hS3]; exact ⟨i', c.tv, c.beg, rfl⟩, h5, TS.refl HX.out hk4⟩
        | bad ks =>
          rw [hsec] at ha4 hs2
          have hS3 : S = .bad (1 + kl + ks) := hs2.symm
          have hA : c4 = { c with i := i + 1 + kl + ks, how := 2 } := ha4
          subst hA
          refine ⟨by rw [hS3]; rfl, _, t0, ?_, h5, TS.refl HX.out hk4⟩
          rw [hS3]
          refine ⟨c.tv, c.beg, ?_⟩
          rw [HI.out, show i + (1 + kl + ks) = i + 1 + kl + ks by omega]
        | ok ts ks =>
          rw [hsec] at ha4 hs2
          have hS3 : S = .ok .com (1 + kl + (ks + 0)) := hs2.symm
          have hA : c4 = { c with i := i + 1 + kl + ks } := ha4
          subst hA
          refine ⟨by rw [hS3]; rfl, _, t0, ?_, h5, TS.refl HX.out hk4⟩
          rw [hS3]
          refine ⟨?_, rfl⟩
          rw [HI.out, show i + (1 + kl + (ks + 0)) = i + 1 + kl + ks by omega]
end
end Go.Proofs.YtjdmndpadejegaaDoor

namespace Go.Proofs.YtjdmndpadejegaaDoor
open Go.RowKit

def LsA (c : Cu) (t0 : List Nat) (c' : Cu) (t' : List Nat) : Sc Mk → Prop
  | .ok (.tag t) k => (∃ ta, c' = { c with i := c.i + k, how := 0, tk := t.kind, tn := t.name, ta := ta }) ∧ t' = t0
  | s => MkA c t0 c' t' s
def Sc.goes : Sc Mk → Bool
  | .ok .com _ => true
  | .ok (.sec _) _ => true
  | _ => false
def LsT (B : Nat) (w' : World) (c' : Cu) : Sc Mk → Prop
  | .ok (.tag t) _ => w'.ownsRow B 85 2 c'.ta t.attrs.length (atsC t.attrs)
  | _ => True
def LsR (G : Nat) (w : World) (cb : Nat) (a : Option Addr) (bv : Value) (inn : Nat) (nm : List UInt8) (c : Cu) (t0 : List Nat) (s : Sc Mk) (e : Ending) (w' : World) : Prop :=
  e = .returned (.bool s.goes) ∧ ∃ c' t', LsA { c with st := c.i, i := c.i + 1 } t0 c' t' s ∧ CuAt w' cb bv inn nm c' ∧ TS G cb a w w' c.tv c'.tv t0 t' ∧ LsT w.heap.size w' c' s
theorem end_attrs {F : Nat} {nm l : List UInt8} {t : Tok} {k : Nat} (h : endF F nm l = .ok t k) : t.attrs = [] := by
  have e : endF F nm l = (lit nm l).next l fun _ l => (endGo F l).next l fun _ l => doneP ⟨2, nm, []⟩ l := rfl
  rw [e] at h
  cases h1 : lit nm l with
  | wait => rw [h1] at h; cases h
  | bad n => rw [h1] at h; cases h
  | ok a n =>
    rw [h1] at h
    obtain ⟨j, h, _⟩ := up_ok h
    have h : ((endGo F (l.drop n)).next (l.drop n) fun _ l => doneP (⟨2, nm, []⟩ : Tok) l) = .ok t j := h
    cases h2 : endGo F (l.drop n) with
    | wait => rw [h2] at h; cases h
    | bad n => rw [h2] at h; cases h
    | ok a n =>
      rw [h2] at h
      simp only [Sc.next, doneP, Sc.up, Sc.ok.injEq] at h
      rw [← h.1]
theorem kp_new {w w' : World} {cb : Nat} (h : Kp (fun m => m = cb ∨ w.heap.size ≤ m) w w') : Kp (· = cb) w w' :=
  h.mono fun k hk e => by
    rcases e with e | e
    · exact e
    · omega
section
variable {w0 w : World} {cb : Nat} {a : Option Addr} {n cap : Nat} {l : List UInt8} {inn : Nat} {nm : List UInt8} {c : Cu} {G : Nat} {t0 : List Nat}
set_option maxRecDepth 100000 in
set_option maxHeartbeats 8000000 in
theorem less_any (hL : Laid w0) (hE : CE w0 w cb a n cap l) (hG : w0.heap.size ≤ G) (hC : CuAt w cb (.slice a n cap) inn nm c) (hX : TX G cb a w c.tv t0) (hi : c.i < n) (ht0 : t0.length ≤ c.i) (hin : inn ≤ 2) (hnm : nm.length ≤ 1099511627776) (hn30 : n ≤ 1073741824) (F : Nat) (hF : (l.drop c.i).length < F) :
    Calls Tryd.prog 29 #[.pointer (some ⟨cb, 0, none⟩)] w fun e w' => LsR G w cb a (.slice a n cap) inn nm c t0 (lessF F inn nm (l.drop (c.i + 1))) e w' := by
  have HE := Lib.hid hE
  have HC := Lib.hid hC
  have HX := Lib.hid hX
  have HL := Lib.hid hL
  have HG := Lib.hid hG
  have hcb := hC.lt
  have hsm := hE.small
  have HLEN := Lib.hid hE.len
  have hl0 : (l.drop c.i).length = n - c.i := by rw [List.length_drop, HLEN.out]
  rw [hl0] at hF
  obtain ⟨i, hii⟩ : ∃ i, c.i = i := ⟨_, rfl⟩
  have HI := Lib.hid hii
  have hci := hC.c_i
  have hcst := hC.c_st
  have hfz := hC.fz 1
  have hfz18 := hC.fz 18
  rw [hii] at hci hi ht0 hF ⊢
  obtain ⟨S, hS⟩ : ∃ S, lessF F inn nm (l.drop (i + 1)) = S := ⟨_, rfl⟩
  rw [hS]
  have hcu0 : CuAt ((w.setCell ⟨cb, 18, none⟩ (.int .i64 i)).setCell ⟨cb, 1, none⟩ (.int .i64 ((i : Int) + 1))) cb (.slice a n cap) inn nm { c with st := i, i := i + 1 } := (hC.set_st i).set_iz _ _ (by simp)
  have hkp0 : Kp (· = cb) w ((w.setCell ⟨cb, 18, none⟩ (.int .i64 i)).setCell ⟨cb, 1, none⟩ (.int .i64 ((i : Int) + 1))) := (kp_set (Below.refl _ w) _ _).set (.inl rfl) _ _
  have HU0 := Lib.hid hcu0
  have HK0 := Lib.hid hkp0
  cases hx : l.drop (i + 1) with
  | nil =>
    rw [hx] at hS
    have HS : Hid (S = .wait) := hS.symm
    have HB := Lib.hid (fun W (h1 : CuAt W cb (.slice a n cap) inn nm { c with st := i, i := i + 1 }) (h2 : Kp (· = cb) w W) => byte_none (HE.out.keep1 h2) h1 hx)
    clear hS hx hE hC hX hL hG hl0 hii hcu0 hkp0
    go_enter Tryd.func29, Tryd.ntmps29
    go_wp2_with (go_at_call 28; (with_reducible refine (HB.out _ HU0.out HK0.out).mono ?_); rintro e w2 ⟨rfl, h1, h2⟩)
    go_ret
    refine ⟨by rw [HS.out]; rfl, _, t0, ?_, h1, TS.refl HX.out (HK0.out.trans h2 fun _ e => .inl e), by rw [HS.out]; trivial⟩
    rw [HS.out]
    exact ⟨i + 1, c.tv, c.beg, by rw [HI.out]⟩
  | cons x u =>
    rw [hx] at hS
    have hlt : i + 1 < n := HE.out.lt_of hx
    have hu := drop_tail hx
    have hs1 : (if x.toNat = 33 then on1 (bangF F inn) (x :: u) else if inn = 2 then badP (x :: u) else if x.toNat = 47 ∧ inn = 1 then on1 (fun l => (endF F nm l).next l fun t l => doneP (.tag t) l) (x :: u)
      else (openF F (x :: u)).next (x :: u) fun t l => doneP (.tag t) l) = S := hS
    have HB := Lib.hid (fun W (h1 : CuAt W cb (.slice a n cap) inn nm { c with st := i, i := i + 1 }) (h2 : Kp (· = cb) w W) => byte_some (HE.out.keep1 h2) h1 x u hx)
    have hx256 := x.toNat_lt
    have K1 : Hid (∀ W, Below ((w.setCell ⟨cb, 18, none⟩ (.int .i64 i)).setCell ⟨cb, 1, none⟩ (.int .i64 ((i : Int) + 1))).heap.size ((w.setCell ⟨cb, 18, none⟩ (.int .i64 i)).setCell ⟨cb, 1, none⟩ (.int .i64 ((i : Int) + 1))) W → CuAt W cb (.slice a n cap) inn nm { c with st := i, i := i + 1 } ∧ Kp (· = cb) w W ∧ W.cell? ⟨cb, 2, none⟩ = some (.int .i64 inn) ∧ W.cell? ⟨cb, 1, none⟩ = some (.int .i64 ((i : Int) + 1)) ∧ W.frozen? ⟨cb, 1, none⟩ = false ∧ cb < W.heap.size) := by
      intro W hb
      have h := hcu0.below hb
      exact ⟨h, hkp0.on hb, h.c_in, by have := h.c_i; simpa using this, h.fz 1, h.lt⟩
    by_cases hx33 : x.toNat = 33
    · have hxe : ((x.toNat : Int) == 33) = true := by simp; omega
      rw [if_pos hx33] at hs1
      have HBG := Lib.hid (fun W (h1 : CuAt W cb (.slice a n cap) inn nm { c with st := i, i := i + 1 }) (h2 : Kp (· = cb) w W) => bang_any HL.out (HE.out.keep1 h2) HG.out h1 (t0 := t0) (HX.out.keep1 h2) (by show i + 1 < n; omega) (by show t0.length ≤ i + 1; omega) F (by rw [List.length_drop, ← HLEN.out]; show n - (i + 1) < F; omega))
      have hs2 : (bangF F inn (l.drop (i + 1 + 1))).up 1 = S := by rw [← hs1, hu]; rfl
      have HS2 := Lib.hid hs2
      clear hS hx hE hC hX hL hG hl0 hii hcu0 hkp0 hs1 hs2 hu hx33
      go_enter Tryd.func29, Tryd.ntmps29
      go_wp2_with (first | (go_at_call 28; (with_reducible refine (HB.out _ HU0.out HK0.out).mono ?_); rintro e w2 ⟨rfl, hb2⟩; obtain ⟨k1, k2, d2, d1, f1, hcb2⟩ := K1.out w2 hb2; have HK1 := Lib.hid k1; have HK2 := Lib.hid k2; clear k1 k2) | (go_at_call 42; (with_reducible refine (HBG.out _ HK1.out HK2.out).mono ?_); rintro e w3 ⟨rfl, c3, t3, ha3, h3, h4⟩))
      go_ret
      have hts := TS.trans HX.out (TS.refl HX.out HK2.out) h4
      have ha4 : MkA { c with st := i, i := i + 1 } t0 c3 t3 S := by rw [← HS2.out]; exact ha3
      have hg : ((bangF F inn (l.drop (i + 1 + 1))).up 1).good = S.good := by rw [HS2.out]
      refine ⟨?_, c3, t3, ?_, h3, hts, ?_⟩
      · show Ending.returned (.bool ((bangF F inn (l.drop (i + 1 + 1))).up 1).good) = _
        rw [hg]
        cases S with
        | wait => rfl
        | bad k => rfl
        | ok mk' k => cases mk' <;> first | rfl | exact ha4.elim
      · rw [HI.out]
        cases S with
        | wait => exact ha4
        | bad k => exact ha4
        | ok mk' k => cases mk' <;> first | exact ha4 | exact ha4.elim
      · cases S with
        | wait => trivial
        | bad k => trivial
        | ok mk' k => cases mk' <;> first | trivial | exact ha4.elim
    · have hxe : ((x.toNat : Int) == 33) = false := by simp; omega
      rw [if_neg hx33] at hs1
      by_cases hin2 : inn = 2
      · have hie2 : ((inn : Int) == 2) = true := by simp; omega
        rw [if_pos hin2] at hs1
        have HS : Hid (S = .bad 0) := hs1.symm
        have HWR := Lib.hid (fun W (h1 : CuAt W cb (.slice a n cap) inn nm { c with st := i, i := i + 1 }) => wrong_any h1)
        clear hS hx hE hC hX hL hG hl0 hii hcu0 hkp0 hs1 hu hx33 hin2
        go_enter Tryd.func29, Tryd.ntmps29
        go_wp2_with (first | (go_at_call 28; (with_reducible refine (HB.out _ HU0.out HK0.out).mono ?_); rintro e w2 ⟨rfl, hb2⟩; obtain ⟨k1, k2, d2, d1, f1, hcb2⟩ := K1.out w2 hb2; have HK1 := Lib.hid k1; have HK2 := Lib.hid k2; clear k1 k2) | (go_at_call 31; (with_reducible refine (HWR.out _ HK1.out).mono ?_); rintro e w3 ⟨rfl, h3, h4⟩))
        go_ret
        refine ⟨by rw [HS.out]; rfl, _, t0, ?_, h3, TS.refl HX.out (HK2.out.trans h4 fun _ e => .inl e), by rw [HS.out]; trivial⟩
        rw [HS.out]
        exact ⟨c.tv, c.beg, by rw [HI.out]⟩
      · have hie2 : ((inn : Int) == 2) = false := by simp; omega
        rw [if_neg hin2] at hs1
        by_cases hx47 : x.toNat = 47
        · have hxe2 : ((x.toNat : Int) == 47) = true := by simp; omega
          by_cases hin1 : inn = 1
          · have hie1 : ((inn : Int) == 1) = true := by simp; omega
            rw [if_pos ⟨hx47, hin1⟩] at hs1
            have HEN := Lib.hid (fun W (h1 : CuAt W cb (.slice a n cap) inn nm { c with st := i, i := i + 2 }) (h2 : Kp (· = cb) w W) => end_any (HE.out.keep1 h2) h1 hnm F (by rw [List.length_drop, ← HLEN.out]; show n - (i + 2) < F; omega))
            have hs2 : ((endF F nm (l.drop (i + 2))).next (l.drop (i + 2)) fun t l => doneP (.tag t) l : Sc Mk).up 1 = S := by rw [← hs1, hu]; rfl
            have HS2 := Lib.hid hs2
            clear hS hx hE hC hX hL hG hl0 hii hcu0 hkp0 hs1 hu hx33 hs2 hx47 hin1 hin2
            go_enter Tryd.func29, Tryd.ntmps29
            go_wp2_with (first | (go_at_call 28; (with_reducible refine (HB.out _ HU0.out HK0.out).mono ?_); rintro e w2 ⟨rfl, hb2⟩; obtain ⟨k1, k2, d2, d1, f1, hcb2⟩ := K1.out w2 hb2; have HK1 := Lib.hid k1; have HK2 := Lib.hid k2; clear k1 k2) | (go_at_call 43; (with_reducible refine (HEN.out _ (HK1.out.set_iz ((i : Int) + 1 + 1) (i + 2) (by simp; omega)) (HK2.out.set (.inl rfl) _ _)).mono ?_); rintro e w3 ⟨rfl, c3, ha3, h3, h4⟩))
            go_ret
            have hk3 : Kp (· = cb) w w3 := (HK2.out.set (.inl rfl) _ _).trans h4 fun _ e => .inl e
            have hs2 := HS2.out
            cases hop : endF F nm (l.drop (i + 2)) with
            | wait =>
              rw [hop] at ha3 hs2
              have hS3 : S = .wait := hs2.symm
              obtain ⟨i', rfl⟩ := ha3
              refine ⟨by rw [hS3]; rfl, _, t0, ?_, h3, TS.refl HX.out hk3, by rw [hS3]; trivial⟩
              rw [hS3]
              exact ⟨i', c.tv, c.beg, by rw [HI.out]⟩
            | bad ks =>
              rw [hop] at ha3 hs2
              have hS3 : S = .bad (1 + ks) := hs2.symm
              have hA : c3 = { c with st := i, i := i + 2 + ks, how := 2 } := ha3
              subst hA
              refine ⟨by rw [hS3]; rfl, _, t0, ?_, h3, TS.refl HX.out hk3, by rw [hS3]; trivial⟩
              rw [hS3]
              exact ⟨c.tv, c.beg, by rw [HI.out, show i + 1 + (1 + ks) = i + 2 + ks by omega]⟩
            | ok tk ks =>
              rw [hop] at ha3 hs2
              have hS3 : S = .ok (.tag tk) (1 + (ks + 0)) := hs2.symm
              have hA : c3 = { c with st := i, i := i + 2 + ks, how := 0, tk := tk.kind, tn := tk.name, ta := .slice none 0 0 } := ha3
              subst hA
              have htk : tk.attrs = [] := end_attrs hop
              refine ⟨by rw [hS3]; rfl, _, t0, ?_, h3, TS.refl HX.out hk3, ?_⟩
              · rw [hS3]
                exact ⟨⟨_, by rw [HI.out, show i + 1 + (1 + (ks + 0)) = i + 2 + ks by omega]⟩, rfl⟩
              · rw [hS3]
                show World.ownsRow w3 w.heap.size 85 2 (.slice none 0 0) tk.attrs.length (atsC tk.attrs)
                rw [htk]
                exact ⟨rfl, .inl ⟨rfl, rfl⟩⟩
          · have hie1 : ((inn : Int) == 1) = false := by simp; omega
            rw [if_neg (fun h => hin1 h.2)] at hs1
            have HOP := Lib.hid (fun W (h1 : CuAt W cb (.slice a n cap) inn nm { c with st := i, i := i + 1 }) (h2 : Kp (· = cb) w W) => open_any HL.out (HE.out.keep1 h2) h1 (by show i + 1 ≤ n; omega) hn30 F (by rw [List.length_drop, ← HLEN.out]; show n - (i + 1) < F; omega))
            rw [← hx] at hs1
            have HS1 := Lib.hid hs1
            clear hS hx hE hC hX hL hG hl0 hii hcu0 hkp0 hs1 hu hx33 hx47 hin1 hin2
            go_enter Tryd.func29, Tryd.ntmps29
            go_wp2_with (first | (go_at_call 28; (with_reducible refine (HB.out _ HU0.out HK0.out).mono ?_); rintro e w2 ⟨rfl, hb2⟩; obtain ⟨k1, k2, d2, d1, f1, hcb2⟩ := K1.out w2 hb2; have HK1 := Lib.hid k1; have HK2 := Lib.hid k2; clear k1 k2) | (go_at_call 44; (with_reducible refine (HOP.out _ HK1.out HK2.out).mono ?_); rintro e w3 ⟨rfl, c3, av3, ha3, h3, h4, h5⟩))
            go_ret
            have hsz : w.heap.size ≤ w2.heap.size := HK2.out.size
            have hk3 : Kp (· = cb) w w3 := HK2.out.trans (kp_new h4) fun _ e => .inl e
            have hs1 := HS1.out
            cases hop : openF F (l.drop (i + 1)) with
            | wait =>
              rw [hop] at ha3 hs1
              have hS3 : S = .wait := hs1.symm
              obtain ⟨i', rfl⟩ := ha3
              refine ⟨by rw [hS3]; rfl, _, t0, ?_, h3, TS.refl HX.out hk3, by rw [hS3]; trivial⟩
              rw [hS3]
              exact ⟨i', c.tv, c.beg, by rw [HI.out]⟩
            | bad ks =>
              rw [hop] at ha3 hs1
              have hS3 : S = .bad ks := hs1.symm
              have hA : c3 = { c with st := i, i := i + 1 + ks, how := 2 } := ha3
              subst hA
              refine ⟨by rw [hS3]; rfl, _, t0, ?_, h3, TS.refl HX.out hk3, by rw [hS3]; trivial⟩
              rw [hS3]
              exact ⟨c.tv, c.beg, by rw [HI.out]⟩
            | ok tk ks =>
              rw [hop] at ha3 hs1 h5
              have hS3 : S = .ok (.tag tk) (ks + 0) := hs1.symm
              have hA : c3 = { c with st := i, i := i + 1 + ks, how := 0, tk := tk.kind, tn := tk.name, ta := av3 } := ha3
              subst hA
              refine ⟨by rw [hS3]; rfl, _, t0, ?_, h3, TS.refl HX.out hk3, by rw [hS3]; exact own_base h5 hsz⟩
              rw [hS3]
              exact ⟨⟨av3, by rw [HI.out]; rfl⟩, rfl⟩
        · have hxe2 : ((x.toNat : Int) == 47) = false := by simp; omega
          rw [if_neg (fun h => hx47 h.1)] at hs1
          have HOP := Lib.hid (fun W (h1 : CuAt W cb (.slice a n cap) inn nm { c with st := i, i := i + 1 }) (h2 : Kp (· = cb) w W) => open_any HL.out (HE.out.keep1 h2) h1 (by show i + 1 ≤ n; omega) hn30 F (by rw [List.length_drop, ← HLEN.out]; show n - (i + 1) < F; omega))
          rw [← hx] at hs1
          have HS1 := Lib.hid hs1
          clear hS hx hE hC hX hL hG hl0 hii hcu0 hkp0 hs1 hu hx33 hx47 hin2
          go_enter Tryd.func29, Tryd.ntmps29
          go_wp2_with (first | (go_at_call 28; (with_reducible refine (HB.out _ HU0.out HK0.out).mono ?_); rintro e w2 ⟨rfl, hb2⟩; obtain ⟨k1, k2, d2, d1, f1, hcb2⟩ := K1.out w2 hb2; have HK1 := Lib.hid k1; have HK2 := Lib.hid k2; clear k1 k2) | (go_at_call 44; (with_reducible refine (HOP.out _ HK1.out HK2.out).mono ?_); rintro e w3 ⟨rfl, c3, av3, ha3, h3, h4, h5⟩))
          go_ret
          have hsz : w.heap.size ≤ w2.heap.size := HK2.out.size
          have hk3 : Kp (· = cb) w w3 := HK2.out.trans (kp_new h4) fun _ e => .inl e
          have hs1 := HS1.out
          cases hop : openF F (l.drop (i + 1)) with
          | wait =>
            rw [hop] at ha3 hs1
            have hS3 : S = .wait := hs1.symm
            obtain ⟨i', rfl⟩ := ha3
            refine ⟨by rw [hS3]; rfl, _, t0, ?_, h3, TS.refl HX.out hk3, by rw [hS3]; trivial⟩
            rw [hS3]
            exact ⟨i', c.tv, c.beg, by rw [HI.out]⟩
          | bad ks =>
            rw [hop] at ha3 hs1
            have hS3 : S = .bad ks := hs1.symm
            have hA : c3 = { c with st := i, i := i + 1 + ks, how := 2 } := ha3
            subst hA
            refine ⟨by rw [hS3]; rfl, _, t0, ?_, h3, TS.refl HX.out hk3, by rw [hS3]; trivial⟩
            rw [hS3]
            exact ⟨c.tv, c.beg, by rw [HI.out]⟩
          | ok tk ks =>
            rw [hop] at ha3 hs1 h5
            have hS3 : S = .ok (.tag tk) (ks + 0) := hs1.symm
            have hA : c3 = { c with st := i, i := i + 1 + ks, how := 0, tk := tk.kind, tn := tk.name, ta := av3 } := ha3
            subst hA
            refine ⟨by rw [hS3]; rfl, _, t0, ?_, h3, TS.refl HX.out hk3, by rw [hS3]; exact own_base h5 hsz⟩
            rw [hS3]
            exact ⟨⟨av3, by rw [HI.out]; rfl⟩, rfl⟩
end
end Go.Proofs.YtjdmndpadejegaaDoor

namespace Go.Proofs.YtjdmndpadejegaaDoor
open Go.RowKit

section
variable {w0 w : World} {cb : Nat} {a : Option Addr} {n cap : Nat} {l : List UInt8} {inn : Nat} {nm : List UInt8} {c : Cu} {G : Nat} {t0 : List Nat}
set_option maxHeartbeats 1000000 in
theorem betc_any (xb : Nat) (hx : w.cell? ⟨xb, 0, none⟩ = some (.pointer (some ⟨cb, 0, none⟩))) (hE : CE w0 w cb a n cap l) (hC : CuAt w cb (.slice a n cap) inn nm c) (hX : TX G cb a w c.tv t0) (hlen : t0.length ≤ 1099511627776) (r : Nat) (hr : chr r) (frm : Nat) :
    Calls Tryd.prog 33 #[.int .i32 (r : Nat), .int .i64 (frm : Nat), .pointer (some ⟨xb, 0, none⟩)] w fun e w' => e = .returned (.tuple #[]) ∧ PR G w cb a (.slice a n cap) inn nm c t0 (t0 ++ [r]) frm w' := by
  have HP := Lib.hid (put_any hE hC hX hlen r hr frm false false (fun h => by cases h))
  clear hE hC hX
  go_enter Tryd.func33, Tryd.ntmps33
  go_wp2_with (go_at_call 34; (with_reducible refine HP.out.mono ?_); rintro e w2 ⟨rfl, h2⟩)
  go_end0
  exact ⟨rfl, h2⟩
end
end Go.Proofs.YtjdmndpadejegaaDoor

namespace Go.Proofs.YtjdmndpadejegaaDoor
open Go.RowKit

section
variable {w : World} {cb : Nat} {inn : Nat} {nm : List UInt8} {c : Cu} {bv : Value}
def markC (i : Nat) (be : Int) (br : Nat) (tv : Value) : List Value := [.int .i64 0, .string (strL []), .int .i64 i, .int .i64 be, .int .i64 br, tv]
theorem mark_set (hC : CuAt w cb bv inn nm c) (i : Nat) (be : Int) (br : Nat) (tv : Value) : CuAt (w.setCells cb 21 (markC i be br tv)) cb bv inn nm { c with mi := 0, mn := [], mk' := i, mb := be, mr := br, mt := tv } ∧ Kp (· = cb) w (w.setCells cb 21 (markC i be br tv)) := by
  obtain ⟨h1, h2, h3, h4, h5, h6⟩ := setCells_mid cb 77 [] (markC i be br tv) w
    [bv, .int .i64 c.i, .int .i64 inn, .string (strL nm), .int .i64 c.how, .bool c.out, .int .i64 c.tk, .string (strL c.tn), c.ta, .string (strL []), .int .i64 0, .int .i64 0, .int .i64 0, .int .i64 0, .int .i64 0, .int .i64 0, .int .i64 0, .int .i64 0, .int .i64 c.st, c.tv, .int .i64 c.beg]
    [.int .i64 c.mi, .string (strL c.mn), .int .i64 c.mk', .int .i64 c.mb, .int .i64 c.mr, c.mt] hC rfl
  exact ⟨h1, ⟨h4, h5, h6, Nat.le_of_eq h3.symm, fun j _ hj => h2 j hj⟩⟩
theorem mark_there (hC : CuAt w cb bv inn nm c) : w.there cb 21 6 := by
  intro j hj
  refine ⟨?_, hC.fz _⟩
  rw [cell_heap hC]
  have : 21 + j < (cuC bv inn nm c).size := by show 21 + j < 27; omega
  rw [Array.getElem?_eq_getElem this]; rfl
end
end Go.Proofs.YtjdmndpadejegaaDoor
