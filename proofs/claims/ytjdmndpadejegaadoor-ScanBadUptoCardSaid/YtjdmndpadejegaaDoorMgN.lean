/-
  The scanner's cursor: reference, with each of its two takes.
-/
import Derived.Test.YtjdmndpadejegaaDoorMgJ
import Derived.Test.YtjdmndpadejegaaDoorMgE
import Derived.Test.YtjdmndpadejegaaDoorMgF
namespace Go.Proofs.YtjdmndpadejegaaDoor
open Go.RowKit

def RefA (w : World) (cb : Nat) (bv : Value) (inn : Nat) (nm : List UInt8) (c : Cu) (Q : Nat → World → Prop) (w' : World) : Sc Nat → Prop
  | .wait => ∃ i, CuAt w' cb bv inn nm { c with i := i, how := 1 } ∧ Kp (· = cb) w w'
  | .bad k => CuAt w' cb bv inn nm { c with i := c.i + k, how := 2 } ∧ Kp (· = cb) w w'
  | .ok r _ => Q r w'
theorem read_sc (l : List UInt8) (r n h : Int) (e : readF l = (r, n, h)) : (h = 0 ∧ ∃ r' n' : Nat, r = r' ∧ n = n' ∧ refL l = .ok r' n' ∧ n' ≤ l.length) ∨ (h = 1 ∧ refL l = .wait) ∨ (h = 2 ∧ ∃ n' : Nat, n = n' ∧ refL l = .bad n' ∧ n' ≤ l.length) := by
  have hr := refL_eq l r n h e
  rcases readF_cut l with hw | ⟨k, hk, _, hc, _⟩
  · have := hw l.length (Nat.le_refl _)
    rw [List.take_length, e] at this
    simp only [Prod.mk.injEq] at this
    obtain ⟨rfl, rfl, rfl⟩ := this
    exact .inr (.inl ⟨rfl, hr⟩)
  · rcases hc with ⟨r', h'⟩ | h'
    · rw [e] at h'
      simp only [Prod.mk.injEq] at h'
      obtain ⟨rfl, rfl, rfl⟩ := h'
      rw [if_pos rfl] at hr
      obtain ⟨_, h2, h3, _⟩ := refL_ok l _ _ hr
      rw [e] at h3
      simp only [Prod.mk.injEq, and_true] at h3
      exact .inl ⟨rfl, _, _, h3.1, h3.2, hr, h2⟩
    · rw [e] at h'
      simp only [Prod.mk.injEq] at h'
      obtain ⟨rfl, rfl, rfl⟩ := h'
      rw [if_neg (by decide), if_pos rfl] at hr
      exact .inr (.inr ⟨rfl, k, by simp, by rw [hr]; congr 1; omega, by omega⟩)
theorem kp_set {w w1 : World} {cb : Nat} (h : Below w.heap.size w w1) (i : Nat) (u : Value) : Kp (· = cb) w (w1.setCell ⟨cb, i, none⟩ u) := (Kp.of (S := (· = cb)) h).set (.inl rfl) i u
section
variable {w0 w : World} {cb : Nat} {a : Option Addr} {n cap : Nat} {l : List UInt8} {inn : Nat} {nm : List UInt8} {c : Cu}
set_option maxRecDepth 100000 in
set_option maxHeartbeats 4000000 in
theorem refer_put (hL : Laid w0) (hE : CE w0 w cb a n cap l) (hC : CuAt w cb (.slice a n cap) inn nm c) (hi : c.i < n) (pb : Nat) (Q : Nat → World → Prop)
    (hT : ∀ r k W, refL (l.drop c.i) = .ok r k → CuAt W cb (.slice a n cap) inn nm { c with i := c.i + k } → Kp (· = cb) w W → Calls Tryd.prog 33 #[.int .i32 (r : Nat), .int .i64 c.i, .pointer (some ⟨pb, 0, none⟩)] W fun e w' => e = .returned (.tuple #[]) ∧ Q r w') :
    Calls Tryd.prog 32 #[.pointer (some ⟨cb, 0, none⟩), .func (.func 33) #[] #[.pointer (some ⟨pb, 0, none⟩)]] w fun e w' => e = .returned (.bool (refL (l.drop c.i)).good) ∧ RefA w cb (.slice a n cap) inn nm c Q w' (refL (l.drop c.i)) := by
  have HE := Lib.hid hE
  have HC := Lib.hid hC
  have HTK := Lib.hid hT
  have hsm := hE.small
  have hcap := hE.cap
  have hcb := hC.lt
  have hci := hC.c_i
  have hcb0 := hC.c_b
  have hcw := hC.c_how
  have hfz1 := hC.fz 1
  have hfz4 := hC.fz 4
  obtain ⟨i, hii⟩ : ∃ i, c.i = i := ⟨_, rfl⟩
  rw [hii] at hci hi ⊢
  have HI := Lib.hid hii
  rw [hii] at HTK
  obtain ⟨b, o, x, t, rfl, hb, hne, hx, ht, e0⟩ := hE.byte hi
  have hml : (l.drop i).length = n - i := by rw [List.length_drop, ← hE.len]
  obtain ⟨m, hm⟩ : ∃ m, l.drop i = m := ⟨_, rfl⟩
  have hsl := hE.sl.piece i (n - i) (by omega)
  rw [hm] at hml HTK ⊢
  rw [hm, List.take_of_length_le (by omega)] at hsl
  have HRD := Lib.hid (fun W (hb : Below w.heap.size w W) => Read_any (some ⟨b, o + i, none⟩) (n - i) (cap - i) m W (hsl.below hb) (by omega) (by omega) ((hL.rng.below hE.glob).below hb))
  obtain ⟨⟨zr, zn, zh⟩, hq⟩ : ∃ q, readF m = q := ⟨_, rfl⟩
  rw [hq] at HRD
  have hcs := read_sc m zr zn zh hq
  have hini : (i : Int) ≤ (n : Int) := by omega
  have hic : cap ≠ i := by omega
  clear hsl hq hx ht hm hL hE hC hT hii e0 hb hne
  rcases hcs with ⟨rfl, r, k, rfl, rfl, hS, hkl⟩ | ⟨rfl, hS⟩ | ⟨rfl, k, rfl, hS, hkl⟩
  · rw [hS] at HTK ⊢
    have HS := Lib.hid hS
    rw [hml] at hkl
    have HT2 := Lib.hid (fun W (h1 : CuAt W cb (.slice (some ⟨b, o, none⟩) n cap) inn nm { c with i := i + k }) (h2 : Kp (· = cb) w W) => HTK.out r k W rfl h1 h2)
    clear hS hml
    go_enter Tryd.func32, Tryd.ntmps32
    go_wp2_with fail
    go_region_with (go_at_call 45; (with_reducible refine (HRD.out _ (by first | exact Below.refl _ _ | exact (Below.refl _ _).drew | exact Below.drewN (Below.refl _ _) _)).mono ?_); rintro e w1 ⟨rfl, hb1⟩; have hb2 : Below w.heap.size w w1 := ((Below.refl w.heap.size w).drew).trans hb1; have d0 := (hb2.cell (p := ⟨cb, 0, none⟩) hcb).trans hcb0; have d1 := (hb2.cell (p := ⟨cb, 1, none⟩) hcb).trans hci; have d4 := (hb2.cell (p := ⟨cb, 4, none⟩) hcb).trans hcw; have f1 := (hb2.frozen (p := ⟨cb, 1, none⟩) hcb).trans hfz1; have f4 := (hb2.frozen (p := ⟨cb, 4, none⟩) hcb).trans hfz4; have hcb1 := Nat.lt_of_lt_of_le hcb hb2.size)
    all_goals
      go_wp2_with (go_at_call 33; (with_reducible refine (HT2.out _ ((HC.out.below hb2).set_iz ((i : Int) + (k : Int)) (i + k) (by simp)) (kp_set hb2 _ _)).mono ?_); rintro e w3 ⟨rfl, hq3⟩)
      go_ret
      exact ⟨rfl, hq3⟩
  · rw [hS]
    clear hS hml HTK
    go_enter Tryd.func32, Tryd.ntmps32
    go_wp2_with fail
    go_region_with (go_at_call 45; (with_reducible refine (HRD.out _ (by first | exact Below.refl _ _ | exact (Below.refl _ _).drew | exact Below.drewN (Below.refl _ _) _)).mono ?_); rintro e w1 ⟨rfl, hb1⟩; have hb2 : Below w.heap.size w w1 := ((Below.refl w.heap.size w).drew).trans hb1; have d0 := (hb2.cell (p := ⟨cb, 0, none⟩) hcb).trans hcb0; have d1 := (hb2.cell (p := ⟨cb, 1, none⟩) hcb).trans hci; have d4 := (hb2.cell (p := ⟨cb, 4, none⟩) hcb).trans hcw; have f1 := (hb2.frozen (p := ⟨cb, 1, none⟩) hcb).trans hfz1; have f4 := (hb2.frozen (p := ⟨cb, 4, none⟩) hcb).trans hfz4; have hcb1 := Nat.lt_of_lt_of_le hcb hb2.size)
    all_goals
      go_wp2_with fail
      go_ret
      exact ⟨rfl, n, ((HC.out.below hb2).set_iz (n : Int) n rfl).set_how 1, ((Kp.of (S := (· = cb)) hb2).set (.inl rfl) _ _).set (.inl rfl) _ _⟩
  · rw [hS]
    rw [hml] at hkl
    have HW := Lib.hid (fun W (h1 : CuAt W cb (.slice (some ⟨b, o, none⟩) n cap) inn nm { c with i := i + k }) => wrong_any h1)
    clear hS hml HTK
    go_enter Tryd.func32, Tryd.ntmps32
    go_wp2_with fail
    go_region_with (go_at_call 45; (with_reducible refine (HRD.out _ (by first | exact Below.refl _ _ | exact (Below.refl _ _).drew | exact Below.drewN (Below.refl _ _) _)).mono ?_); rintro e w1 ⟨rfl, hb1⟩; have hb2 : Below w.heap.size w w1 := ((Below.refl w.heap.size w).drew).trans hb1; have d0 := (hb2.cell (p := ⟨cb, 0, none⟩) hcb).trans hcb0; have d1 := (hb2.cell (p := ⟨cb, 1, none⟩) hcb).trans hci; have d4 := (hb2.cell (p := ⟨cb, 4, none⟩) hcb).trans hcw; have f1 := (hb2.frozen (p := ⟨cb, 1, none⟩) hcb).trans hfz1; have f4 := (hb2.frozen (p := ⟨cb, 4, none⟩) hcb).trans hfz4; have hcb1 := Nat.lt_of_lt_of_le hcb hb2.size)
    all_goals
      go_wp2_with (go_at_call 31; (with_reducible refine (HW.out _ ((HC.out.below hb2).set_iz ((i : Int) + (k : Int)) (i + k) (by simp))).mono ?_); rintro e w3 ⟨rfl, h1, h2⟩)
      go_ret
      exact ⟨rfl, by rw [HI.out]; exact h1, ((Kp.of (S := (· = cb)) hb2).set (.inl rfl) _ _).trans h2 fun _ e => .inl e⟩
set_option maxRecDepth 100000 in
set_option maxHeartbeats 4000000 in
theorem refer_val (hL : Laid w0) (hE : CE w0 w cb a n cap l) (hC : CuAt w cb (.slice a n cap) inn nm c) (hi : c.i < n) (pb : Nat) (Q : Nat → World → Prop)
    (hT : ∀ r k W, refL (l.drop c.i) = .ok r k → CuAt W cb (.slice a n cap) inn nm { c with i := c.i + k } → Kp (· = cb) w W → Calls Tryd.prog 82 #[.int .i32 (r : Nat), .int .i64 c.i, .pointer (some ⟨pb, 0, none⟩)] W fun e w' => e = .returned (.tuple #[]) ∧ Q r w') :
    Calls Tryd.prog 32 #[.pointer (some ⟨cb, 0, none⟩), .func (.func 82) #[] #[.pointer (some ⟨pb, 0, none⟩)]] w fun e w' => e = .returned (.bool (refL (l.drop c.i)).good) ∧ RefA w cb (.slice a n cap) inn nm c Q w' (refL (l.drop c.i)) := by
  have HE := Lib.hid hE
  have HC := Lib.hid hC
  have HTK := Lib.hid hT
  have hsm := hE.small
  have hcap := hE.cap
  have hcb := hC.lt
  have hci := hC.c_i
  have hcb0 := hC.c_b
  have hcw := hC.c_how
  have hfz1 := hC.fz 1
  have hfz4 := hC.fz 4
  obtain ⟨i, hii⟩ : ∃ i, c.i = i := ⟨_, rfl⟩
  rw [hii] at hci hi ⊢
  have HI := Lib.hid hii
  rw [hii] at HTK
  obtain ⟨b, o, x, t, rfl, hb, hne, hx, ht, e0⟩ := hE.byte hi
  have hml : (l.drop i).length = n - i := by rw [List.length_drop, ← hE.len]
  obtain ⟨m, hm⟩ : ∃ m, l.drop i = m := ⟨_, rfl⟩
  have hsl := hE.sl.piece i (n - i) (by omega)
  rw [hm] at hml HTK ⊢
  rw [hm, List.take_of_length_le (by omega)] at hsl
  have HRD := Lib.hid (fun W (hb : Below w.heap.size w W) => Read_any (some ⟨b, o + i, none⟩) (n - i) (cap - i) m W (hsl.below hb) (by omega) (by omega) ((hL.rng.below hE.glob).below hb))
  obtain ⟨⟨zr, zn, zh⟩, hq⟩ : ∃ q, readF m = q := ⟨_, rfl⟩
  rw [hq] at HRD
  have hcs := read_sc m zr zn zh hq
  have hini : (i : Int) ≤ (n : Int) := by omega
  have hic : cap ≠ i := by omega
  clear hsl hq hx ht hm hL hE hC hT hii e0 hb hne
  rcases hcs with ⟨rfl, r, k, rfl, rfl, hS, hkl⟩ | ⟨rfl, hS⟩ | ⟨rfl, k, rfl, hS, hkl⟩
  · rw [hS] at HTK ⊢
    have HS := Lib.hid hS
    rw [hml] at hkl
    have HT2 := Lib.hid (fun W (h1 : CuAt W cb (.slice (some ⟨b, o, none⟩) n cap) inn nm { c with i := i + k }) (h2 : Kp (· = cb) w W) => HTK.out r k W rfl h1 h2)
    clear hS hml
    go_enter Tryd.func32, Tryd.ntmps32
    go_wp2_with fail
    go_region_with (go_at_call 45; (with_reducible refine (HRD.out _ (by first | exact Below.refl _ _ | exact (Below.refl _ _).drew | exact Below.drewN (Below.refl _ _) _)).mono ?_); rintro e w1 ⟨rfl, hb1⟩; have hb2 : Below w.heap.size w w1 := ((Below.refl w.heap.size w).drew).trans hb1; have d0 := (hb2.cell (p := ⟨cb, 0, none⟩) hcb).trans hcb0; have d1 := (hb2.cell (p := ⟨cb, 1, none⟩) hcb).trans hci; have d4 := (hb2.cell (p := ⟨cb, 4, none⟩) hcb).trans hcw; have f1 := (hb2.frozen (p := ⟨cb, 1, none⟩) hcb).trans hfz1; have f4 := (hb2.frozen (p := ⟨cb, 4, none⟩) hcb).trans hfz4; have hcb1 := Nat.lt_of_lt_of_le hcb hb2.size)
    all_goals
      go_wp2_with (go_at_call 82; (with_reducible refine (HT2.out _ ((HC.out.below hb2).set_iz ((i : Int) + (k : Int)) (i + k) (by simp)) (kp_set hb2 _ _)).mono ?_); rintro e w3 ⟨rfl, hq3⟩)
      go_ret
      exact ⟨rfl, hq3⟩
  · rw [hS]
    clear hS hml HTK
    go_enter Tryd.func32, Tryd.ntmps32
    go_wp2_with fail
    go_region_with (go_at_call 45; (with_reducible refine (HRD.out _ (by first | exact Below.refl _ _ | exact (Below.refl _ _).drew | exact Below.drewN (Below.refl _ _) _)).mono ?_); rintro e w1 ⟨rfl, hb1⟩; have hb2 : Below w.heap.size w w1 := ((Below.refl w.heap.size w).drew).trans hb1; have d0 := (hb2.cell (p := ⟨cb, 0, none⟩) hcb).trans hcb0; have d1 := (hb2.cell (p := ⟨cb, 1, none⟩) hcb).trans hci; have d4 := (hb2.cell (p := ⟨cb, 4, none⟩) hcb).trans hcw; have f1 := (hb2.frozen (p := ⟨cb, 1, none⟩) hcb).trans hfz1; have f4 := (hb2.frozen (p := ⟨cb, 4, none⟩) hcb).trans hfz4; have hcb1 := Nat.lt_of_lt_of_le hcb hb2.size)
    all_goals
      go_wp2_with fail
      go_ret
      exact ⟨rfl, n, ((HC.out.below hb2).set_iz (n : Int) n rfl).set_how 1, ((Kp.of (S := (· = cb)) hb2).set (.inl rfl) _ _).set (.inl rfl) _ _⟩
  · rw [hS]
    rw [hml] at hkl
    have HW := Lib.hid (fun W (h1 : CuAt W cb (.slice (some ⟨b, o, none⟩) n cap) inn nm { c with i := i + k }) => wrong_any h1)
    clear hS hml HTK
    go_enter Tryd.func32, Tryd.ntmps32
    go_wp2_with fail
    go_region_with (go_at_call 45; (with_reducible refine (HRD.out _ (by first | exact Below.refl _ _ | exact (Below.refl _ _).drew | exact Below.drewN (Below.refl _ _) _)).mono ?_); rintro e w1 ⟨rfl, hb1⟩; have hb2 : Below w.heap.size w w1 := ((Below.refl w.heap.size w).drew).trans hb1; have d0 := (hb2.cell (p := ⟨cb, 0, none⟩) hcb).trans hcb0; have d1 := (hb2.cell (p := ⟨cb, 1, none⟩) hcb).trans hci; have d4 := (hb2.cell (p := ⟨cb, 4, none⟩) hcb).trans hcw; have f1 := (hb2.frozen (p := ⟨cb, 1, none⟩) hcb).trans hfz1; have f4 := (hb2.frozen (p := ⟨cb, 4, none⟩) hcb).trans hfz4; have hcb1 := Nat.lt_of_lt_of_le hcb hb2.size)
    all_goals
      go_wp2_with (go_at_call 31; (with_reducible refine (HW.out _ ((HC.out.below hb2).set_iz ((i : Int) + (k : Int)) (i + k) (by simp))).mono ?_); rintro e w3 ⟨rfl, h1, h2⟩)
      go_ret
      exact ⟨rfl, by rw [HI.out]; exact h1, ((Kp.of (S := (· = cb)) hb2).set (.inl rfl) _ _).trans h2 fun _ e => .inl e⟩
end
end Go.Proofs.YtjdmndpadejegaaDoor
