/-
  The scanner's cursor: char.
-/
import Derived.Test.YtjdmndpadejegaaDoorMgG
import Derived.Test.YtjdmndpadejegaaDoorMgH
import Derived.Test.YtjdmndpadejegaaDoorMgI
import Derived.ScopeJumps
import Derived.WalkMore
import Derived.Test.YtjdmndpadejegaaDoorMgD
import Derived.Deep.Upon
namespace Go.Proofs.YtjdmndpadejegaaDoor
open Go.RowKit

structure Laid (w0 : World) : Prop where
  rng : RangesAt w0 0
  tab : Lib.Utf8Tabs 1 2 w0
theorem Sl.piece {w : World} {b o n : Nat} {l : List UInt8} (h : Sl w (some ⟨b, o, none⟩) n (u8s l)) (i k : Nat) (hk : i + k ≤ n) : Sl w (some ⟨b, o + i, none⟩) k (u8s ((l.drop i).take k)) := by
  have hl := h.len
  rw [u8s_length] at hl
  refine ⟨by rw [u8s_length, List.length_take, List.length_drop]; omega, fun j hj => ?_⟩
  rw [u8s_length, List.length_take, List.length_drop] at hj
  obtain ⟨b', o', he, hb, hc⟩ := h.cell (i + j) (by rw [u8s_length]; omega)
  injection he with he
  injection he with he1 he2
  subst he1
  subst he2
  refine ⟨b, o + i, rfl, hb, ?_⟩
  rw [Nat.add_assoc, hc]
  simp only [u8s, List.getElem_map, List.getElem_take, List.getElem_drop]
def CR (w : World) (cb : Nat) (bv : Value) (inn : Nat) (nm : List UInt8) (c : Cu) (s : Sc Nat) (e : Ending) (w' : World) : Prop :=
  e = .returned (.tuple #[.int .i32 (match s with | .ok r _ => (r : Int) | _ => 0), .bool s.good]) ∧ ∃ c', Aft c c' s ∧ CuAt w' cb bv inn nm c' ∧ Kp (· = cb) w w'
theorem widB_le (l : List UInt8) : widB l ≤ 4 := by
  unfold widB leadN
  repeat' split
  all_goals simp
section
variable {w0 w : World} {cb : Nat} {a : Option Addr} {n cap : Nat} {l : List UInt8} {inn : Nat} {nm : List UInt8} {c : Cu}
set_option maxHeartbeats 4000000 in
theorem char_any (hL : Laid w0) (hE : CE w0 w cb a n cap l) (hC : CuAt w cb (.slice a n cap) inn nm c) (hi : c.i ≤ n) (cl : Nat) (hcl : gdC cl) :
    Calls Tryd.prog 35 #[.pointer (some ⟨cb, 0, none⟩), .int .i64 cl] w fun e w' => CR w cb (.slice a n cap) inn nm c (charL cl (l.drop c.i)) e w' := by
  have HE := Lib.hid hE
  have HC := Lib.hid hC
  have HL := Lib.hid hL
  have hcb := hC.lt
  have hcl6 : cl < 6 := by unfold gdC at hcl; omega
  have HCL := Lib.hid hcl
  have hsm := hE.small
  have hcap := hE.cap
  have HLEN := Lib.hid hE.len
  obtain ⟨i, hii⟩ : ∃ i, c.i = i := ⟨_, rfl⟩
  have HI := Lib.hid hii
  rw [hii] at hi ⊢
  obtain ⟨S, hS⟩ : ∃ S, charL cl (l.drop i) = S := ⟨_, rfl⟩
  rw [hS]
  have HS := Lib.hid hS
  have hci := hC.c_i
  have hcbv := hC.c_b
  have hcw := hC.c_how
  have hfz1 := hC.fz 1
  have hfz4 := hC.fz 4
  rw [hii] at hci
  clear hE hC hL hS hcl hii
  go_enter Tryd.func35, Tryd.ntmps35
  go_wp2_with fail
  go_loopw [6] (fun kx wr => ∃ k : Nat, kx = .int .i64 k ∧ 1 ≤ k ∧ k ≤ 5 ∧ Below w.heap.size w wr ∧ Hid (charGo cl (l.drop i) (6 - k) k = S)) (fun kx _ => 5 - (intOf kx).toNat)
  case atStart => exact ⟨1, rfl, by omega, by omega, Below.refl _ _, HS.out⟩
  case round =>
    obtain ⟨k, rfl, hk1, hk5, hbw, hs⟩ := hrel
    have d1 := (hbw.cell (p := ⟨cb, 1, none⟩) hcb).trans hci
    have d0 := (hbw.cell (p := ⟨cb, 0, none⟩) hcb).trans hcbv
    have d4 := (hbw.cell (p := ⟨cb, 4, none⟩) hcb).trans hcw
    have g1 := (hbw.frozen (p := ⟨cb, 1, none⟩) hcb).trans hfz1
    have g4 := (hbw.frozen (p := ⟨cb, 4, none⟩) hcb).trans hfz4
    have hE1 := HE.out.below hbw
    have HE1 := Lib.hid hE1
    have hC1 := HC.out.below hbw
    have HC1 := Lib.hid hC1
    have hws := hbw.size
    have HBW := Lib.hid hbw
    have hgo : charGo cl (l.drop i) (6 - k) k = if (l.drop i).length < k then .wait else if begB cl ((l.drop i).take k) = true then (if k = widB (l.drop i) then .ok (spanL ((l.drop i).take k)).1 k else charGo cl (l.drop i) (5 - k) (k + 1)) else .bad (k - 1) := by
      obtain ⟨f, hf⟩ : ∃ f, 6 - k = f + 1 := ⟨5 - k, by omega⟩
      rw [hf, show 5 - k = f by omega]; rfl
    rw [hgo] at hs
    have hs' := hs.out
    clear hgo hs hbw
    have hlen : (l.drop i).length = n - i := by rw [List.length_drop, HLEN.out]
    have hw1 : IntKind.i64.wrap ((i : Int) + (k : Int)) = ((i + k : Nat) : Int) := by rw [IntKind.wrap_i64]; omega
    by_cases hkn : n < i + k
    · have hkni : (n : Int) < (i : Int) + (k : Int) := by omega
      rw [if_pos (by omega)] at hs'
      have HS2 := Lib.hid hs'
      clear hs' hE1 hC1 hlen
      go_wp2_with fail
      go_quiet (fail)
      go_wp2_with fail
      go_ret2
      rw [← HS2.out]
      refine ⟨rfl, { c with how := 1 }, ⟨c.i, rfl⟩, setCell_heap (HC1.out.below (Below.drewN (Below.refl _ _) _)) _, ?_⟩
      exact ((Kp.of (S := (· = cb)) HBW.out).drewN _).set (.inl rfl) _ _
    · have hkni : ¬ (n : Int) < (i : Int) + (k : Int) := by omega
      have hknj : (i : Int) + (k : Int) ≤ (n : Int) := by omega
      rw [if_neg (by omega)] at hs'
      obtain ⟨b, o, x, t, rfl, hb, hne, hx, ht, e0⟩ := hE1.byte (i := i) (by omega)
      have hsl := hE1.sl.piece i k (by omega)
      obtain ⟨p, hp⟩ : ∃ p, (l.drop i).take k = p := ⟨_, rfl⟩
      have hpl : p.length = k := by rw [← hp, List.length_take]; omega
      have hpne : p ≠ [] := by intro e; rw [e] at hpl; simp at hpl; omega
      rw [hp] at hs' hsl
      have hRw := HL.out.rng.below HE1.out.glob
      have hTw := Utf8Tabs_below HL.out.tab HE1.out.glob
      have HBG := Lib.hid (fun W cc (hb : Below wr.heap.size wr W) => begins_any cl hcl6 (some ⟨b, o + i, none⟩) k cc p W (hsl.below hb) hpne (hRw.below hb))
      have hcj : i + k ≤ cap := by omega
      have hcji : (i : Int) + (k : Int) ≤ (cap : Int) := by omega
      have hic : cap ≠ i := by omega
      have hsz : ((i + k : Nat) : Int) - (i : Int) = (k : Int) := by omega
      cases hb : begB cl p with
      | false =>
        rw [hb] at HBG
        rw [hb, if_neg (by simp)] at hs'
        have HS2 := Lib.hid hs'
        clear hs' hE1 hC1 hlen hb hsl hRw hTw e0 hx ht hp
        obtain ⟨k1, hkk⟩ : ∃ j, j + 1 = k := ⟨k - 1, by omega⟩
        have hw2 : wrap64 ((i : Int) + ((k : Int) - 1)) = ((i + k1 : Nat) : Int) := by rw [w64_id _ (by omega) (by omega)]; omega
        have HW := Lib.hid (fun w1 (hb : Below wr.heap.size wr w1) => wrong_any ((HC1.out.below hb).set_iz ((i : Int) + ((k : Int) - 1)) (i + k1) (by omega)))
        have hlt : cb < wr.heap.size := HC1.out.lt
        have HK1 := Lib.hid hkk
        clear hkk
        go_wp2_with fail
        go_quiet (fail)
        go_wp2_with fail
        go_quiet (fail)
        go_wp2_with (first | (go_at_call 47; (with_reducible refine (HBG.out _ _ (Below.drewN (Below.refl _ _) _)).mono ?_); rintro e w1 ⟨rfl, hb1⟩; have hb2 : Below wr.heap.size wr w1 := (Below.drewN (Below.refl wr.heap.size wr) _).trans hb1; have e1 := (hb2.cell (p := ⟨cb, 1, none⟩) hlt).trans d1; have e4 := (hb2.cell (p := ⟨cb, 4, none⟩) hlt).trans d4; have f1 := (hb2.frozen (p := ⟨cb, 1, none⟩) hlt).trans g1; have f4 := (hb2.frozen (p := ⟨cb, 4, none⟩) hlt).trans g4; have hcb1 := Nat.lt_of_lt_of_le hlt hb2.size) | (go_at_call 31; (with_reducible refine (HW.out _ hb2).mono ?_); rintro e w2 ⟨rfl, h1, h2⟩))
        go_ret2
        rw [← HS2.out]
        refine ⟨rfl, _, ?_, h1, ?_⟩
        · show _ = _
          rw [HI.out, show k - 1 = k1 by have := HK1.out; omega]
        · exact (((Kp.of (S := (· = cb)) HBW.out).on hb2).set (.inl rfl) _ _).trans h2 fun _ e => .inl e
      | true =>
        obtain ⟨_, hcs⟩ := beg_cases cl HCL.out p hb
        have hwp : widB p = widB (l.drop i) := by rw [← hp]; exact widB_take _ _ hk1
        have HNL := Lib.hid (fun W cc (hb : Below wr.heap.size wr W) (hkc : k ≤ cc) (r : Nat) (h1 : fullF p = true) (h2 : decL p = (r, p.length)) (h3 : ¬ (r = 65533 ∧ p.length = 1)) => nextHave_any (some ⟨b, o + i, none⟩) k cc p r W (hsl.below hb) hkc hpne (Utf8Tabs_below hTw hb) h1 h2 h3)
        have HNW := Lib.hid (fun W cc (hb : Below wr.heap.size wr W) (hkc : k ≤ cc) (h1 : fullF p = false) => nextWait_any (some ⟨b, o + i, none⟩) k cc p W (hsl.below hb) hkc hpne (Utf8Tabs_below hTw hb) h1 (by omega))
        rw [hb] at HBG
        rw [hb, if_pos rfl] at hs'
        have hkc : k ≤ cap - i := by omega
        rcases hcs with ⟨hw, r, hr, _, hpe, hdp, hsp, hfp⟩ | ⟨hw, hdp, hfp⟩
        · have hkw : k = widB (l.drop i) := by omega
          rw [if_pos hkw, hsp] at hs'
          have HS2 := Lib.hid hs'
          have HN := Lib.hid (fun W (hb : Below wr.heap.size wr W) => HNL.out W (cap - i) hb hkc r hfp hdp (by
            rintro ⟨rfl, h1⟩
            rw [hpe] at h1
            exact absurd h1 (by decide)))
          clear hs' hE1 hC1 hlen hb hsl hRw hTw e0 hx ht hp HNL HNW hpe hdp hsp hfp hw hkw hwp
          go_wp2_with fail
          go_quiet (fail)
          go_wp2_with fail
          go_quiet (fail)
          have hlt : cb < wr.heap.size := HC1.out.lt
          go_wp2_with (go_at_call 47; (with_reducible refine (HBG.out _ _ (Below.drewN (Below.refl _ _) _)).mono ?_); rintro e w1 ⟨rfl, hb1⟩; have hb2 : Below wr.heap.size wr w1 := (Below.drewN (Below.refl wr.heap.size wr) _).trans hb1)
          have HB2 := Lib.hid hb2
          clear hb1 hb2
          have hw2 : wrap64 ((i : Int) + (k : Int)) = ((i + k : Nat) : Int) := by rw [w64_id _ (by omega) (by omega)]; omega
          go_wp2_with (go_at_call 48; (with_reducible refine (HN.out _ HB2.out).mono ?_); rintro e w2 ⟨rfl, hb3⟩; have HB4 : Hid (Below wr.heap.size wr w2) := Below.tr HB2.out hb3; have e1 := (HB4.out.cell (p := ⟨cb, 1, none⟩) hlt).trans d1; have f1 := (HB4.out.frozen (p := ⟨cb, 1, none⟩) hlt).trans g1; have hcb2 := Nat.lt_of_lt_of_le hlt HB4.out.size)
          go_ret2
          rw [← HS2.out]
          refine ⟨rfl, { c with i := i + k }, ?_, ?_, ?_⟩
          · show _ = _
            rw [HI.out]
          · exact (HC1.out.below HB4.out).set_iz _ _ (by simp)
          · exact (((Kp.of (S := (· = cb)) HBW.out).on HB4.out).set (.inl rfl) _ _)
        · have hkw : k ≠ widB (l.drop i) := by omega
          rw [if_neg hkw] at hs'
          have hk4 : k < 5 := by
            have h4 : widB (l.drop i) ≤ 4 := widB_le _
            omega
          have HS2 := Lib.hid hs'
          have HN := Lib.hid (fun W (hb : Below wr.heap.size wr W) => HNW.out W (cap - i) hb hkc hfp)
          clear hs' hE1 hC1 hlen hb hsl hRw hTw e0 hx ht hp HNL HNW hdp hfp hw hkw hwp
          go_wp2_with fail
          go_quiet (fail)
          go_wp2_with fail
          go_quiet (fail)
          go_wp2_with (go_at_call 47; (with_reducible refine (HBG.out _ _ (Below.drewN (Below.refl _ _) _)).mono ?_); rintro e w1 ⟨rfl, hb1⟩)
          obtain ⟨hb2, hcb1⟩ : Below wr.heap.size wr w1 ∧ cb < wr.heap.size := ⟨(Below.drewN (Below.refl wr.heap.size wr) _).trans hb1, HC1.out.lt⟩
          have HB2 := Lib.hid hb2
          clear hb1 hb2
          go_wp2_with (go_at_call 48; (with_reducible refine (HN.out _ HB2.out).mono ?_); rintro e w2 ⟨rfl, hb3⟩)
          go_roundw
          case rel => exact ⟨k + 1, by go_num, by omega, by omega, Below.tr HBW.out (Below.tr HB2.out hb3), by rw [show 6 - (k + 1) = 5 - k by omega]; exact HS2.out⟩
          case measure => simp [intOf]; omega
theorem char0 (hL : Laid w0) (hE : CE w0 w cb a n cap l) (hC : CuAt w cb (.slice a n cap) inn nm c) (hi : c.i ≤ n) :
    Calls Tryd.prog 35 #[.pointer (some ⟨cb, 0, none⟩), .int .i64 0] w fun e w' => CR w cb (.slice a n cap) inn nm c (charL 0 (l.drop c.i)) e w' := char_any hL hE hC hi 0 (.inl rfl)
theorem char2 (hL : Laid w0) (hE : CE w0 w cb a n cap l) (hC : CuAt w cb (.slice a n cap) inn nm c) (hi : c.i ≤ n) :
    Calls Tryd.prog 35 #[.pointer (some ⟨cb, 0, none⟩), .int .i64 2] w fun e w' => CR w cb (.slice a n cap) inn nm c (charL 2 (l.drop c.i)) e w' := char_any hL hE hC hi 2 (.inr (.inl rfl))
theorem char3 (hL : Laid w0) (hE : CE w0 w cb a n cap l) (hC : CuAt w cb (.slice a n cap) inn nm c) (hi : c.i ≤ n) :
    Calls Tryd.prog 35 #[.pointer (some ⟨cb, 0, none⟩), .int .i64 3] w fun e w' => CR w cb (.slice a n cap) inn nm c (charL 3 (l.drop c.i)) e w' := char_any hL hE hC hi 3 (.inr (.inr rfl))
end
end Go.Proofs.YtjdmndpadejegaaDoor

namespace Go.Proofs.YtjdmndpadejegaaDoor
open Go.RowKit

def WR (w : World) (cb : Nat) (bv : Value) (inn : Nat) (nm : List UInt8) (c : Cu) (s : Sc (List UInt8)) (e : Ending) (w' : World) : Prop :=
  e = .returned (.tuple #[.string (strL (match s with | .ok q _ => q | _ => [])), .bool s.good]) ∧ ∃ c', Aft c c' s ∧ CuAt w' cb bv inn nm c' ∧ Kp (· = cb) w w'
theorem capt_wait {m : List UInt8} {G : List UInt8 → Sc Unit} (h : G m = .wait) : capt G m = .wait := by unfold capt; rw [h]
theorem capt_bad {m : List UInt8} {G : List UInt8 → Sc Unit} {k : Nat} (h : G m = .bad k) : capt G m = .bad k := by unfold capt; rw [h]
theorem capt_ok {m : List UInt8} {G : List UInt8 → Sc Unit} {k : Nat} (h : G m = .ok () k) : capt G m = .ok (m.take k) k := by unfold capt; rw [h]
section
variable {w0 w : World} {cb : Nat} {a : Option Addr} {n cap : Nat} {l : List UInt8} {inn : Nat} {nm : List UInt8} {c : Cu}
theorem CE.lt_of (h : CE w0 w cb a n cap l) {i : Nat} {x : UInt8} {t : List UInt8} (hx : l.drop i = x :: t) : i < n := by
  rcases Nat.lt_or_ge i n with h' | h'
  · exact h'
  · rw [h.none h'] at hx; cases hx
theorem drop_tail {i : Nat} {x : UInt8} {t : List UInt8} (hx : l.drop i = x :: t) : t = l.drop (i + 1) := by
  have := congrArg (List.drop 1) hx
  rw [List.drop_drop] at this
  simpa using this.symm
theorem cut_str (hE : CE w0 w cb a n cap l) (i j : Nat) (hij : i < j) (hj : j ≤ n) : ∃ b o, a = some ⟨b, o, none⟩ ∧ cap ≠ i ∧ ∀ W, Kp (· = cb) w W → ∀ d, (convert 26 9 (.slice (some ⟨b, o + i, none⟩) (j - i) (cap - i))).run Tryd.prog (W.drewN d) = .ok (.string (strL ((l.drop i).take (j - i)))) (W.drewN d) := by
  obtain ⟨b, o, x, t, rfl, hb, hne, _, _, _⟩ := hE.byte (i := i) (by omega)
  refine ⟨b, o, rfl, by have := hE.cap; omega, fun W hK d => ?_⟩
  have hE1 := (hE.keep1 hK).below (Below.drewN (Below.refl _ W) d)
  have hs := hE1.sl.piece i (j - i) (by omega)
  exact run_bytes_str (P := Tryd.prog) (s := strL ((l.drop i).take (j - i))) (by unfold bytesV; rw [strL_data]; exact hs) 26 9 5 Tryd.underlying26 Tryd.underlying5 Tryd.underlying9 (cap - i)
theorem is3 (r : Int) (w : World) (hR : RangesAt w 0) : Calls Tryd.prog 74 #[.int .i64 3, .int .i32 r] w fun e w' => e = .returned (.bool (isR (rng 3) r)) ∧ Below w.heap.size w w' := Is_any 3 (by decide) r w hR
set_option maxRecDepth 100000 in
set_option maxHeartbeats 4000000 in
theorem word_any (hL : Laid w0) (hE : CE w0 w cb a n cap l) (hC : CuAt w cb (.slice a n cap) inn nm c) (hi : c.i ≤ n) (F : Nat) (hF : (l.drop c.i).length < F) :
    Calls Tryd.prog 59 #[.pointer (some ⟨cb, 0, none⟩)] w fun e w' => WR w cb (.slice a n cap) inn nm c (wordF F (l.drop c.i)) e w' := by
  have HE := Lib.hid hE
  have HC := Lib.hid hC
  have HL := Lib.hid hL
  have hcb := hC.lt
  have hsm := hE.small
  have hcap := hE.cap
  have HLEN := Lib.hid hE.len
  obtain ⟨S0, hS0⟩ : ∃ S0, ((charL 2 (l.drop c.i)).next (l.drop c.i) fun _ l => nameGo F l) = S0 := ⟨_, rfl⟩
  obtain ⟨S, hS⟩ : ∃ S, wordF F (l.drop c.i) = S := ⟨_, rfl⟩
  rw [hS]
  have HW : Hid (S0 = .wait → S = .wait) := fun h => by rw [← hS]; exact capt_wait (by rw [hS0]; exact h)
  have HBD : Hid (∀ k, S0 = .bad k → S = .bad k) := fun k h => by rw [← hS]; exact capt_bad (by rw [hS0]; exact h)
  have HOK : Hid (∀ k, S0 = .ok () k → S = .ok ((l.drop c.i).take k) k) := fun k h => by rw [← hS]; exact capt_ok (by rw [hS0]; exact h)
  have HCH := Lib.hid (char2 hL hE hC hi)
  have hci := hC.c_i
  clear hS
  cases hch : charL 2 (l.drop c.i) with
  | wait =>
    rw [hch] at HCH hS0
    have HS0 := Lib.hid hS0
    clear hS0 hch hE hC hL hF
    go_enter Tryd.func59, Tryd.ntmps59
    go_wp2_with (go_at_call 35; (with_reducible refine HCH.out.mono ?_); rintro e w1 ⟨rfl, c1, ha1, h1, h2⟩)
    go_ret2
    have e := HW.out HS0.out.symm
    exact ⟨by rw [e]; rfl, c1, by rw [e]; exact ha1, h1, h2⟩
  | bad k =>
    rw [hch] at HCH hS0
    have HS0 := Lib.hid hS0
    clear hS0 hch hE hC hL hF
    go_enter Tryd.func59, Tryd.ntmps59
    go_wp2_with (go_at_call 35; (with_reducible refine HCH.out.mono ?_); rintro e w1 ⟨rfl, c1, ha1, h1, h2⟩)
    go_ret2
    have e := HBD.out k HS0.out.symm
    exact ⟨by rw [e]; rfl, c1, by rw [e]; exact ha1, h1, h2⟩
  | ok r k0 =>
    obtain ⟨hk1, hk2, _⟩ := charL_ok (.inr (.inl rfl)) hch
    rw [hch] at HCH hS0
    have HS0 := Lib.hid hS0
    have hlen0 : (l.drop c.i).length = n - c.i := by rw [List.length_drop, HLEN.out]
    rw [hlen0] at hk2 hF
    obtain ⟨i, hii⟩ : ∃ i, c.i = i := ⟨_, rfl⟩
    have HI := Lib.hid hii
    rw [hii] at hci hk2 hF hi
    clear hS0 hch hE hC hL hlen0 hii
    go_enter Tryd.func59, Tryd.ntmps59
    go_wp2_with (go_at_call 35; (with_reducible refine HCH.out.mono ?_); rintro e w1 ⟨he, c1, ha1, h1, h2⟩; obtain rfl : e = .returned (.tuple #[.int .i32 (r : Int), .bool true]) := he; have HA1 := Lib.hid ha1; have H1 := Lib.hid h1; have H2 := Lib.hid h2; clear ha1 h1 h2)
    go_loopw [9] (fun _ wr => ∃ (j f : Nat) (c2 : Cu), c2 = { c with i := j } ∧ i < j ∧ j ≤ n ∧ Hid (CuAt wr cb (.slice a n cap) inn nm c2 ∧ Kp (· = cb) w wr ∧ n - j < f ∧ (nameGo f (l.drop j)).up (j - i) = S0)) (fun _ wr => n - (match wr.cell? ⟨cb, 1, none⟩ with | some v => (intOf v).toNat | none => 0))
    case atStart =>
      have hA : c1 = { c with i := c.i + k0 } := HA1.out
      refine ⟨i + k0, F, c1, by rw [hA, HI.out], by omega, by omega, H1.out, H2.out, by omega, ?_⟩
      rw [← HS0.out, HI.out]
      show _ = ((nameGo F ((l.drop i).drop k0)).up k0)
      rw [List.drop_drop, show i + k0 - i = k0 by omega]
    case round =>
      obtain ⟨j, f, c2, hc2, hij, hjn, hh⟩ := hrel
      obtain ⟨hC2, hK2, hf2, hs2⟩ := hh.out
      obtain ⟨f, rfl⟩ : ∃ g, f = g + 1 := ⟨f - 1, by omega⟩
      have hE2 := HE.out.keep1 hK2
      have HC2 := Lib.hid hC2
      have HK2 := Lib.hid hK2
      have HE2 := Lib.hid hE2
      have hcb2 := hC2.lt
      have hci2 := hC2.c_i
      have hcbv2 := hC2.c_b
      have hfz2 := hC2.fz 1
      have hj2 : c2.i = j := by rw [hc2]
      rw [hj2] at hci2
      have HC2E := Lib.hid hc2
      have HJ2 := Lib.hid hj2
      have HF2 := Lib.hid hf2
      cases hx : l.drop j with
      | nil =>
        have HB := Lib.hid (byte_none hE2 hC2 (by rw [hj2]; exact hx))
        rw [hx] at hs2
        have hs2' : S0 = .wait := hs2.symm
        have HS2 := Lib.hid hs2'
        clear hh hC2 hK2 hE2 hs2 hs2' hx hc2 hj2 hf2
        go_wp2_with (go_at_call 28; (with_reducible refine HB.out.mono ?_); rintro e w2 ⟨rfl, h1, h2⟩)
        go_ret2
        have e := HW.out HS2.out
        refine ⟨by rw [e]; rfl, _, ?_, h1, HK2.out.trans h2 fun k e => .inl e⟩
        rw [e]
        exact ⟨j, by rw [HC2E.out]⟩
      | cons x t =>
        have hlt := hE2.lt_of hx
        have ht := drop_tail hx
        have HB := Lib.hid (byte_some hE2 hC2 x t (by rw [hj2]; exact hx))
        have hs3 : (if x.toNat < 128 then (if isR (rng 3) x.toNat = true then on1 (nameGo f) (x :: t) else retP () (x :: t)) else (charL 3 (x :: t)).next (x :: t) fun _ l => nameGo f l).up (j - i) = S0 := by rw [← hs2, hx]; rfl
        have hx256 := x.toNat_lt
        by_cases hxa : x.toNat < 128
        · have hxai : (x.toNat : Int) < 128 := by omega
          rw [if_pos hxa] at hs3
          have hRw := HL.out.rng.below HE2.out.glob
          have HIS := Lib.hid (fun W (hb : Below wr.heap.size wr W) => is3 (x.toNat : Int) W (hRw.below hb))
          obtain ⟨q, hq⟩ : ∃ q, isR (rng 3) x.toNat = q := ⟨_, rfl⟩
          rw [hq] at hs3 HIS
          cases q with
          | false =>
            rw [if_neg (by simp)] at hs3
            have hs4 : S0 = .ok () (j - i) := by rw [← hs3]; rfl
            have HS4 := Lib.hid hs4
            obtain ⟨b, o, hab, hci0, hcv⟩ := cut_str hE2 i j hij (by omega)
            have HCV := Lib.hid hcv
            subst hab
            have hij2 : (i : Int) ≤ (j : Int) := by omega
            have hjc : (j : Int) ≤ (cap : Int) := by omega
            clear hh hC2 hK2 hE2 hs2 hs3 hs4 hx hc2 hj2 ht hRw hq hcv hf2
            go_wp2_with (first | (go_at_call 28; (with_reducible refine HB.out.mono ?_); rintro e w2 ⟨rfl, hb2⟩) | (go_at_call 74; (with_reducible refine (HIS.out _ hb2).mono ?_); rintro e w3 ⟨rfl, hb3⟩; have hb4 := Below.tr hb2 hb3; have d1 := (hb4.cell (p := ⟨cb, 1, none⟩) hcb2).trans hci2; have d0 := (hb4.cell (p := ⟨cb, 0, none⟩) hcb2).trans hcbv2; have hcv2 := HCV.out w3 (Kp.of hb4)))
            go_quiet (fail)
            go_wp2_with fail
            go_ret2
            have e := HOK.out _ HS4.out
            refine ⟨by rw [e, HI.out]; rfl, c2, ?_, HC2.out.below (Below.drewN hb4 _), HK2.out.on (Below.drewN hb4 _)⟩
            rw [e]
            show _ = _
            rw [HC2E.out, HI.out, show i + (j - i) = j by omega]
          | true =>
            rw [if_pos rfl] at hs3
            have hs4 : (nameGo f (l.drop (j + 1))).up (j + 1 - i) = S0 := by
              rw [← hs3, ← ht]
              show _ = ((nameGo f t).up 1).up (j - i)
              rw [Sc.up_up, show j - i + 1 = j + 1 - i by omega]
            have HS4 := Lib.hid hs4
            clear hh hC2 hK2 hE2 hs2 hs3 hs4 hx hc2 hj2 ht hRw hq hf2
            go_wp2_with (first | (go_at_call 28; (with_reducible refine HB.out.mono ?_); rintro e w2 ⟨rfl, hb2⟩) | (go_at_call 74; (with_reducible refine (HIS.out _ hb2).mono ?_); rintro e w3 ⟨rfl, hb3⟩; have hb4 := Below.tr hb2 hb3; have d1 := (hb4.cell (p := ⟨cb, 1, none⟩) hcb2).trans hci2; have f1 := (hb4.frozen (p := ⟨cb, 1, none⟩) hcb2).trans hfz2; have hcb4 := Nat.lt_of_lt_of_le hcb2 hb4.size))
            go_roundw
            case rel =>
              have hC3 := HC2.out.below hb4
              exact ⟨j + 1, f, { c2 with i := j + 1 }, by rw [HC2E.out], by omega, by omega, hC3.set_iz _ _ (by simp), (HK2.out.on hb4).set (.inl rfl) _ _, by have := HF2.out; omega, HS4.out⟩
            case measure =>
              have hC3 := (HC2.out.below hb4).set_iz ((j : Int) + 1) (j + 1) (by simp)
              rw [hC3.c_i, HC2.out.c_i, HJ2.out]
              simp [intOf]; omega
        · have hxai : ¬ (x.toNat : Int) < 128 := by omega
          rw [if_neg hxa, ← hx] at hs3
          have HCH3 := Lib.hid (fun W (hb : Below wr.heap.size wr W) => char3 HL.out (hE2.below hb) (hC2.below hb) (by rw [hj2]; omega))
          rw [hj2] at HCH3
          cases hch : charL 3 (l.drop j) with
          | wait =>
            rw [hch] at HCH3 hs3
            have hs4 : S0 = .wait := hs3.symm
            have HS4 := Lib.hid hs4
            clear hh hC2 hK2 hE2 hs2 hs3 hs4 hx hc2 hj2 ht hch hf2
            go_wp2_with (first | (go_at_call 28; (with_reducible refine HB.out.mono ?_); rintro e w2 ⟨rfl, hb2⟩) | (go_at_call 35; (with_reducible refine (HCH3.out _ hb2).mono ?_); rintro e w3 ⟨rfl, c3, ha3, h3, h4⟩))
            go_ret2
            have e := HW.out HS4.out
            refine ⟨by rw [e]; rfl, c3, ?_, h3, (HK2.out.on hb2).trans h4 fun k e => .inl e⟩
            rw [e]
            obtain ⟨i', rfl⟩ := ha3
            exact ⟨i', by rw [HC2E.out]⟩
          | bad k =>
            rw [hch] at HCH3 hs3
            have hs4 : S0 = .bad (j - i + k) := hs3.symm
            have HS4 := Lib.hid hs4
            clear hh hC2 hK2 hE2 hs2 hs3 hs4 hx hc2 hj2 ht hch hf2
            go_wp2_with (first | (go_at_call 28; (with_reducible refine HB.out.mono ?_); rintro e w2 ⟨rfl, hb2⟩) | (go_at_call 35; (with_reducible refine (HCH3.out _ hb2).mono ?_); rintro e w3 ⟨rfl, c3, ha3, h3, h4⟩))
            go_ret2
            have e := HBD.out _ HS4.out
            refine ⟨by rw [e]; rfl, c3, ?_, h3, (HK2.out.on hb2).trans h4 fun k e => .inl e⟩
            rw [e]
            show _ = _
            rw [show c3 = { c2 with i := c2.i + k, how := 2 } from ha3, HC2E.out, HI.out]
            simp only [Cu.mk.injEq, and_true]
            omega
          | ok r k =>
            obtain ⟨hk1', hk2', _⟩ := charL_ok (.inr (.inr rfl)) hch
            rw [List.length_drop, ← HLEN.out] at hk2'
            rw [hch] at HCH3 hs3
            have hs4 : (nameGo f (l.drop (j + k))).up (j + k - i) = S0 := by
              rw [← hs3]
              show _ = ((nameGo f ((l.drop j).drop k)).up k).up (j - i)
              rw [Sc.up_up, List.drop_drop, show j - i + k = j + k - i by omega]
            have HS4 := Lib.hid hs4
            clear hh hC2 hK2 hE2 hs2 hs3 hs4 hx hc2 hj2 ht hch hf2
            go_wp2_with (first | (go_at_call 28; (with_reducible refine HB.out.mono ?_); rintro e w2 ⟨rfl, hb2⟩) | (go_at_call 35; (with_reducible refine (HCH3.out _ hb2).mono ?_); rintro e w3 ⟨he, c3, ha3, h3, h4⟩; obtain rfl : e = .returned (.tuple #[.int .i32 (r : Int), .bool true]) := he; have HA3 := Lib.hid ha3; have H3 := Lib.hid h3; have H4 := Lib.hid h4; clear ha3 h3 h4))
            have hA : c3 = { c2 with i := c2.i + k } := HA3.out
            have hc3 : c3 = { c with i := j + k } := by rw [hA, HC2E.out]
            have HC3E := Lib.hid hc3
            clear hA hc3
            go_roundw
            case rel =>
              exact ⟨j + k, f, c3, HC3E.out, by omega, by omega, H3.out, (HK2.out.on hb2).trans H4.out fun k e => .inl e, by have := HF2.out; omega, HS4.out⟩
            case measure =>
              rw [H3.out.c_i, HC2.out.c_i, HJ2.out, show c3.i = j + k by rw [HC3E.out]]
              simp [intOf]; omega
end
end Go.Proofs.YtjdmndpadejegaaDoor

namespace Go.Proofs.YtjdmndpadejegaaDoor
open Go.RowKit

theorem wp_scope_from {P : Program} {a : Act} {w : World} {Q : Exit → Act → World → Prop} {c body : Code} (l : Nat) (J : Act → World → Prop) (μ : Act → World → Nat) (hf : findLabel c l = some (Code.skip.seq body))
    (start : ∀ Q2 : Exit → Act → World → Prop, (∀ a w, J a w → body.wp P Q2 a w) → c.wp P Q2 a w)
    (pass : ∀ a w, J a w → body.wp P (Exit.jump l (fun a' w' => J a' w' ∧ μ a' w' < μ a w) Q) a w) : (Code.scope c).wp P Q a w :=
  wp_scope_jumps l J μ hf (start _ fun a w hJ => Code.wp_mono (fun e a' w' h => by
    cases e with
    | goto l' => exact ⟨h.1, h.2.1⟩
    | _ => exact h) (pass a w hJ)) fun a w hJ => wp_seq (wp_skip (pass a w hJ))
def slotOf (t : Array Value) (k : Nat) : Value := t.getD k undef
def frCom (cb d : Nat) (t : Array Value) : Array Value := #[.pointer (some ⟨cb, 0, none⟩), slotOf t 1, slotOf t 2, .int .i64 d, slotOf t 4, slotOf t 5, slotOf t 6, slotOf t 7, slotOf t 8, slotOf t 9, slotOf t 10, slotOf t 11, slotOf t 12, slotOf t 13, slotOf t 14, slotOf t 15, slotOf t 16, slotOf t 17, slotOf t 18, slotOf t 19, slotOf t 20, slotOf t 21, slotOf t 22, slotOf t 23, slotOf t 24, slotOf t 25, slotOf t 26, slotOf t 27, slotOf t 28, slotOf t 29, slotOf t 30, slotOf t 31, slotOf t 32, slotOf t 33, slotOf t 34, slotOf t 35, slotOf t 36, slotOf t 37, slotOf t 38, slotOf t 39, slotOf t 40, slotOf t 41, slotOf t 42, slotOf t 43, slotOf t 44, slotOf t 45]
section
variable {w0 w : World} {cb : Nat} {a : Option Addr} {n cap : Nat} {l : List UInt8} {inn : Nat} {nm : List UInt8} {c : Cu}
def JCom (n : Nat) (w : World) (cb : Nat) (bv : Value) (inn : Nat) (nm : List UInt8) (c : Cu) (l : List UInt8) (S : Sc Unit) (a' : Act) (wr : World) : Prop :=
  ∃ (d j f : Nat) (c2 : Cu), a' = { tmps := frCom cb d a'.tmps, defers := [] } ∧ d ≤ 2 ∧ c2 = { c with i := j } ∧ c.i ≤ j ∧ j ≤ n ∧ CuAt wr cb bv inn nm c2 ∧ Kp (· = cb) w wr ∧ n - j < f ∧ (comGo f d (l.drop j)).up (j - c.i) = S
def muI (n cb : Nat) (wr : World) : Nat := n - (match wr.cell? ⟨cb, 1, none⟩ with | some v => (intOf v).toNat | none => 0)
theorem muI_eq {n : Nat} {bv : Value} {wr : World} (h : CuAt wr cb bv inn nm c) : muI n cb wr = n - c.i := by unfold muI; rw [h.c_i]; simp [intOf]
set_option maxRecDepth 100000 in
set_option maxHeartbeats 4000000 in
theorem comment_any (hL : Laid w0) (hE : CE w0 w cb a n cap l) (hC : CuAt w cb (.slice a n cap) inn nm c) (hi : c.i ≤ n) (F : Nat) (hF : (l.drop c.i).length < F) :
    Calls Tryd.prog 58 #[.pointer (some ⟨cb, 0, none⟩)] w fun e w' => BR w cb (.slice a n cap) inn nm c (comGo F 0 (l.drop c.i)) e w' := by
  have HE := Lib.hid hE
  have HC := Lib.hid hC
  have HL := Lib.hid hL
  obtain ⟨S, hS⟩ : ∃ S, comGo F 0 (l.drop c.i) = S := ⟨_, rfl⟩
  rw [hS]
  have HLEN := Lib.hid hE.len
  have hsm := hE.small
  have hl0 : (l.drop c.i).length = n - c.i := by rw [List.length_drop, HLEN.out]
  rw [hl0] at hF
  go_enter Tryd.func58, Tryd.ntmps58
  go_wp2_with fail
  refine wp_scope_from 0 (JCom n w cb (.slice a n cap) inn nm c l S) (fun _ wr => muI n cb wr) rfl (fun Q2 hp => ?_) ?_
  · go_wp2_with fail
    go_step3
    exact ‹∀ a w, _ → _› _ _ (hp _ _ ⟨0, c.i, F, c, rfl, by omega, rfl, Nat.le_refl _, hi, hC, Kp.refl _ _, hF, by rw [Nat.sub_self, Sc.up_zero]; exact hS⟩)
  · rintro ⟨t, dd⟩ wr ⟨d, j, f, c2, ha, hd, hc2, hij, hjn, hC2, hK2, hf2, hs2⟩
    obtain ⟨f, rfl⟩ : ∃ g, f = g + 1 := ⟨f - 1, by omega⟩
    obtain ⟨ha1, rfl⟩ := Act.mk.inj ha
    rw [ha1]
    clear ha ha1
    dsimp only [frCom]
    have hE2 := HE.out.keep1 hK2
    have HC2 := Lib.hid hC2
    have HK2 := Lib.hid hK2
    have HE2 := Lib.hid hE2
    have hcb2 := hC2.lt
    have hj2 : c2.i = j := by rw [hc2]
    have hci2 := hC2.c_i
    have hfz2 := hC2.fz 1
    rw [hj2] at hci2
    have HC2E := Lib.hid hc2
    have HJ2 := Lib.hid hj2
    obtain ⟨i, hii⟩ : ∃ i, c.i = i := ⟨_, rfl⟩
    have HI := Lib.hid hii
    rw [hii] at hs2 hij
    have hmu := muI_eq (n := n) hC2
    rw [hj2] at hmu
    rw [hmu]
    have HF2 := Lib.hid hf2
    cases hx : l.drop j with
    | nil =>
      have HB := Lib.hid (byte_none hE2 hC2 (by rw [hj2]; exact hx))
      rw [hx] at hs2
      have HS2 : Hid (S = .wait) := hs2.symm
      clear hE hC hS hC2 hK2 hE2 hs2 hx hc2 hj2 hf2 hmu hii hF hl0 hi
      go_wp2_with (go_at_call 28; (with_reducible refine HB.out.mono ?_); rintro e w2 ⟨rfl, h1, h2⟩)
      simp only [Exit.jump]
      go_ret
      refine ⟨by rw [HS2.out]; rfl, _, ?_, h1, HK2.out.trans h2 fun k e => .inl e⟩
      rw [HS2.out]
      exact ⟨j, by rw [HC2E.out]⟩
    | cons x u =>
      have hlt := hE2.lt_of hx
      have ht := drop_tail hx
      have hs3 : (if d = 2 then (if x.toNat = 62 then on1 (doneP ()) (x :: u) else badP (x :: u)) else (charL 0 (x :: u)).next (x :: u) fun _ l => comGo f (if x.toNat = 45 then d + 1 else 0) l).up (j - i) = S := by rw [← hs2, hx]; rfl
      have HB := Lib.hid (byte_some hE2 hC2 x u (by rw [hj2]; exact hx))
      have hx256 := x.toNat_lt
      by_cases hd2 : d = 2
      · subst hd2
        rw [if_pos rfl] at hs3
        by_cases hx62 : x.toNat = 62
        · have hxe : ((x.toNat : Int) != 62) = false := by simp; omega
          rw [if_pos hx62] at hs3
          have HS2 : Hid (S = .ok () (j - i + 1)) := hs3.symm
          clear hE hC hS hC2 hK2 hE2 hs2 hs3 hx hc2 hj2 hf2 hmu hii hF hl0 hi ht hx62
          go_wp2_with (go_at_call 28; (with_reducible refine HB.out.mono ?_); rintro e w2 ⟨rfl, hb2⟩; have d1 := (hb2.cell (p := ⟨cb, 1, none⟩) hcb2).trans hci2; have f1 := (hb2.frozen (p := ⟨cb, 1, none⟩) hcb2).trans hfz2; have hcb4 := Nat.lt_of_lt_of_le hcb2 hb2.size)
          simp only [Exit.jump]
          go_ret
          refine ⟨by rw [HS2.out]; rfl, { c2 with i := j + 1 }, ?_, (HC2.out.below hb2).set_iz _ _ (by simp), (HK2.out.on hb2).set (.inl rfl) _ _⟩
          rw [HS2.out]
          show _ = _
          rw [HC2E.out, HI.out, show i + (j - i + 1) = j + 1 by omega]
        · have hxe : ((x.toNat : Int) != 62) = true := by simp; omega
          rw [if_neg hx62] at hs3
          have HS2 : Hid (S = .bad (j - i)) := hs3.symm
          have HW := Lib.hid (fun W (hb : Below wr.heap.size wr W) => wrong_any (hC2.below hb))
          clear hE hC hS hC2 hK2 hE2 hs2 hs3 hx hc2 hj2 hf2 hmu hii hF hl0 hi ht hx62
          go_wp2_with (first | (go_at_call 28; (with_reducible refine HB.out.mono ?_); rintro e w2 ⟨rfl, hb2⟩) | (go_at_call 31; (with_reducible refine (HW.out _ hb2).mono ?_); rintro e w3 ⟨rfl, h1, h2⟩))
          simp only [Exit.jump]
          go_ret
          refine ⟨by rw [HS2.out]; rfl, _, ?_, h1, (HK2.out.on hb2).trans h2 fun k e => .inl e⟩
          rw [HS2.out]
          show _ = _
          rw [HC2E.out, HI.out, show i + (j - i) = j by omega]
      · have hde : ((d : Int) == 2) = false := by simp; omega
        rw [if_neg hd2, ← hx] at hs3
        have HCH3 := Lib.hid (fun W (hb : Below wr.heap.size wr W) => char0 HL.out (hE2.below hb) (hC2.below hb) (by rw [hj2]; omega))
        rw [hj2] at HCH3
        cases hch : charL 0 (l.drop j) with
        | wait =>
          rw [hch] at HCH3 hs3
          have HS2 : Hid (S = .wait) := hs3.symm
          clear hE hC hS hC2 hK2 hE2 hs2 hs3 hx hc2 hj2 hf2 hmu hii hF hl0 hi ht hch
          go_wp2_with (first | (go_at_call 28; (with_reducible refine HB.out.mono ?_); rintro e w2 ⟨rfl, hb2⟩) | (go_at_call 35; (with_reducible refine (HCH3.out _ hb2).mono ?_); rintro e w3 ⟨rfl, c3, ha3, h3, h4⟩))
          simp only [Exit.jump]
          go_ret
          refine ⟨by rw [HS2.out]; rfl, c3, ?_, h3, (HK2.out.on hb2).trans h4 fun k e => .inl e⟩
          rw [HS2.out]
          obtain ⟨i', rfl⟩ := ha3
          exact ⟨i', by rw [HC2E.out]⟩
        | bad k =>
          rw [hch] at HCH3 hs3
          have HS2 : Hid (S = .bad (j - i + k)) := hs3.symm
          clear hE hC hS hC2 hK2 hE2 hs2 hs3 hx hc2 hj2 hf2 hmu hii hF hl0 hi ht hch
          go_wp2_with (first | (go_at_call 28; (with_reducible refine HB.out.mono ?_); rintro e w2 ⟨rfl, hb2⟩) | (go_at_call 35; (with_reducible refine (HCH3.out _ hb2).mono ?_); rintro e w3 ⟨rfl, c3, ha3, h3, h4⟩))
          simp only [Exit.jump]
          go_ret
          refine ⟨by rw [HS2.out]; rfl, c3, ?_, h3, (HK2.out.on hb2).trans h4 fun k e => .inl e⟩
          rw [HS2.out]
          show _ = _
          rw [show c3 = { c2 with i := c2.i + k, how := 2 } from ha3, HC2E.out, HI.out]
          simp only [Cu.mk.injEq, and_true]
          omega
        | ok r k =>
          obtain ⟨hk1', hk2', _⟩ := charL_ok (.inl rfl) hch
          rw [List.length_drop, ← HLEN.out] at hk2'
          rw [hch] at HCH3 hs3
          have hs4 : ∀ d', (if x.toNat = 45 then d + 1 else 0) = d' → (comGo f d' (l.drop (j + k))).up (j + k - i) = S := by
            rintro d' rfl
            rw [← hs3]
            show _ = ((comGo f _ ((l.drop j).drop k)).up k).up (j - i)
            rw [Sc.up_up, List.drop_drop, show j - i + k = j + k - i by omega]
          have HS4 := Lib.hid hs4
          by_cases hx45 : x.toNat = 45
          · have hxe : ((x.toNat : Int) != 45) = false := by simp; omega
            have HD : Hid ((if x.toNat = 45 then d + 1 else 0) = d + 1) := if_pos hx45
            have hd1 : d ≤ 1 := by omega
            clear hE hC hS hC2 hK2 hE2 hs2 hs3 hs4 hx hc2 hj2 hf2 hmu hii hF hl0 hi ht hch hx45 hd2
            go_wp2_with (first | (go_at_call 28; (with_reducible refine HB.out.mono ?_); rintro e w2 ⟨rfl, hb2⟩) | (go_at_call 35; (with_reducible refine (HCH3.out _ hb2).mono ?_); rintro e w3 ⟨he, c3, ha3, h3, h4⟩; obtain rfl : e = .returned (.tuple #[.int .i32 (r : Int), .bool true]) := he; have HA3 := Lib.hid ha3; have H3 := Lib.hid h3; have H4 := Lib.hid h4; clear ha3 h3 h4))
            have hc3 : c3 = { c with i := j + k } := by rw [show c3 = { c2 with i := c2.i + k } from HA3.out, HC2E.out]
            have HC3E := Lib.hid hc3
            clear hc3
            go_step3
            refine ⟨rfl, ⟨d + 1, j + k, f, c3, by rfl, by omega, HC3E.out, by rw [HI.out]; omega, by omega, H3.out, (HK2.out.on hb2).trans H4.out fun k e => .inl e, by have := HF2.out; omega, ?_⟩, ?_⟩
            · rw [HI.out]; exact HS4.out _ HD.out
            · rw [muI_eq H3.out, HC3E.out]; show n - (j + k) < n - j; omega
          · have hxe : ((x.toNat : Int) != 45) = true := by simp; omega
            have HD : Hid ((if x.toNat = 45 then d + 1 else 0) = 0) := if_neg hx45
            clear hE hC hS hC2 hK2 hE2 hs2 hs3 hs4 hx hc2 hj2 hf2 hmu hii hF hl0 hi ht hch hx45 hd2
            go_wp2_with (first | (go_at_call 28; (with_reducible refine HB.out.mono ?_); rintro e w2 ⟨rfl, hb2⟩) | (go_at_call 35; (with_reducible refine (HCH3.out _ hb2).mono ?_); rintro e w3 ⟨he, c3, ha3, h3, h4⟩; obtain rfl : e = .returned (.tuple #[.int .i32 (r : Int), .bool true]) := he; have HA3 := Lib.hid ha3; have H3 := Lib.hid h3; have H4 := Lib.hid h4; clear ha3 h3 h4))
            have hc3 : c3 = { c with i := j + k } := by rw [show c3 = { c2 with i := c2.i + k } from HA3.out, HC2E.out]
            have HC3E := Lib.hid hc3
            clear hc3
            go_step3
            refine ⟨rfl, ⟨0, j + k, f, c3, by rfl, by omega, HC3E.out, by rw [HI.out]; omega, by omega, H3.out, (HK2.out.on hb2).trans H4.out fun k e => .inl e, by have := HF2.out; omega, ?_⟩, ?_⟩
            · rw [HI.out]; exact HS4.out _ HD.out
            · rw [muI_eq H3.out, HC3E.out]; show n - (j + k) < n - j; omega
end
end Go.Proofs.YtjdmndpadejegaaDoor

namespace Go.Proofs.YtjdmndpadejegaaDoor
open Go.RowKit

theorem own_slice {w : World} {base : Nat} {e : TypeId} {size : Nat} {v : Value} {n : Nat} {xs : List Value} (h : w.ownsRow base e size v n xs) :
    ∃ a c, v = .slice a n c ∧ n ≤ c ∧ (a = none → n = 0) ∧ ∀ ad, a = some ad → ∃ g, ad = ⟨g, 0, none⟩ ∧ base ≤ g ∧ g < w.heap.size ∧ w.frozen? ⟨g, 0, none⟩ = false ∧ ∀ j u, xs[j]? = some u → w.cell? ⟨g, j, none⟩ = some u := by
  have hc := fun g hg => h.cells (g := g) hg
  have hl := h.lt
  have h0 := h
  obtain ⟨h1, h2⟩ := h
  rcases h2 with ⟨rfl, rfl⟩ | ⟨g, cap, cur, rfl, hg, hh, h5, r⟩
  · exact ⟨none, 0, rfl, Nat.le_refl _, fun _ => rfl, fun ad h => by cases h⟩
  · refine ⟨_, cap, rfl, h5, fun h => (by cases h), fun ad he => ⟨g, (by cases he; rfl), hg, (hl g rfl).2, frozen_heap hh, fun j u hj => ?_⟩⟩
    have := hc g rfl j u hj
    unfold Addr.add at this
    split at this
    · rename_i h; subst h; exact this
    · simpa using this
theorem own_some {w : World} {base : Nat} {e : TypeId} {size : Nat} {v : Value} {n : Nat} {xs : List Value} (h : w.ownsRow base e size v (n + 1) xs) :
    ∃ g c, v = .slice (some ⟨g, 0, none⟩) (n + 1) c ∧ n + 1 ≤ c ∧ base ≤ g ∧ g < w.heap.size ∧ w.frozen? ⟨g, 0, none⟩ = false ∧ ∀ j u, xs[j]? = some u → w.cell? ⟨g, j, none⟩ = some u := by
  obtain ⟨a, c, rfl, h1, h2, h3⟩ := own_slice h
  cases a with
  | none => have := h2 rfl; omega
  | some ad =>
    obtain ⟨g, rfl, h4⟩ := h3 _ rfl
    exact ⟨g, c, rfl, h1, h4⟩
theorem own_pop {w : World} {base : Nat} {e : TypeId} {size : Nat} {g c n : Nat} {xs ys : List Value} (h : w.ownsRow base e size (.slice (some ⟨g, 0, none⟩) (n + 1) c) (n + 1) (xs ++ ys)) (hx : xs.length = n * size) :
    w.ownsRow base e size (.slice (some ⟨g, 0, none⟩) n c) n xs := by
  obtain ⟨h1, h2⟩ := h
  rcases h2 with ⟨h0, _⟩ | ⟨g', cap', cur, hv, hg, hh, hn, hcap, hsz, htake⟩
  · cases h0
  · cases hv
    refine ⟨hx, .inr ⟨g, c, cur, rfl, hg, hh, by omega, hcap, hsz, ?_⟩⟩
    have h3 : (cur.toList.take ((n + 1) * size)).take (n * size) = (xs ++ ys).take (n * size) := by rw [htake]
    rw [List.take_take, Nat.min_eq_left (Nat.mul_le_mul_right _ (by omega))] at h3
    rw [h3, ← hx, List.take_left']
    rfl
theorem wpList_app_row {P : Program} (w : World) {ops : Array Oper} {rest : List Oper} {o : Oper} {a : Act} {Q : Exit → Act → World → Prop} (hgd : o.guard = none) (s x : Operand) (t : TypeId)
    (ho : o.op = .call { callee := .builtin .append, args := #[s, x], argTypes := #[t, t] })
    (base : Nat) (e : TypeId) (i : TypeInfo) (z : Value) (size bytes : Nat) (ht : P.underlying t = some (.slice e)) (hi : P.info? e = some i) (hz : i.zero = some z)
    (hsize : i.size = size) (hby : i.bytes = bytes) (hzs : z.cells.size = size) (hsz : 0 < size)
    (v : Value) (n : Nat) (xs : List Value) (hs : a.eval s = v) (hown : w.ownsRow base e size v n xs)
    (A : Option Addr) (m c : Nat) (news : List Value) (hx : a.eval x = .slice A m c) (hl : news.length = m * size) (hc : ∀ ad, A = some ad → ∀ j u, news[j]? = some u → w.cell? (ad.add j) = some u) (hA : A = none → m = 0) (h1 : ∀ u ∈ news, u.oneCell' = true)
    (hn : n + m ≤ 4294967296) (hbb : bytes ≤ 16384) (hbase : base ≤ w.heap.size)
    (h : ∀ v' w', w'.ownsRow base e size v' (n + m) (xs ++ news) → App w w' v v' → wpList P ops Q rest (a.put o.dst v') w') :
    wpList P ops Q (o :: rest) a w := by
  have hb : (n + m) * bytes ≤ 140737488355328 := Nat.le_trans (Nat.mul_le_mul hn hbb) (by decide)
  rcases A with _ | ad
  · have hm := hA rfl
    subst hm
    have hnews : news = [] := List.eq_nil_of_length_eq_zero (by omega)
    subst hnews
    obtain ⟨av, cv, rfl, hle, _, _⟩ := own_slice hown
    refine wpList_plain hgd fun K hK' => ?_
    have hrun := run_append_nothing (P := P) w t t o.type e i ht hi av n cv hle _ (Src.ofNil (P := P) (size := i.size) w ht c)
    unfold Oper.wp
    simp [execOp, ho, resolve, invoke, builtin, hs, hx, hrun, Result.andThen]
    exact hK' _ _ (h _ _ (by simpa using hown) ⟨⟨rfl, rfl, rfl, Nat.le_refl _, fun _ _ _ => rfl⟩, .inl rfl⟩)
  · refine wpList_append_own_at (P := P) w hgd s x t ho base e i z size bytes ht hi hz hsize hby hzs hsz v n xs hs hown ad m c news hx hl (hc ad rfl) h1 (by unfold maxLen; omega) hb hbase fun v' w' h2 h3 _ h5 => h v' w' h2 ⟨h3, ?_⟩
    rcases h5 with h5 | h5
    · exact .inl h5
    · exact .inr ⟨_, h5, Nat.le_refl _⟩
end Go.Proofs.YtjdmndpadejegaaDoor
