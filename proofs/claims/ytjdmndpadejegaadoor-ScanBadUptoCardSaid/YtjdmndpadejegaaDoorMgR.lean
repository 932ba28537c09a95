/-
  The scanner's cursor: open.
-/
import Derived.Test.YtjdmndpadejegaaDoorMgQ
namespace Go.Proofs.YtjdmndpadejegaaDoor
open Go.RowKit

def frOpen (cb tb : Nat) (gap : Bool) (t : Array Value) : Array Value := #[.pointer (some ⟨cb, 0, none⟩), slotOf t 1, slotOf t 2, slotOf t 3, .pointer (some ⟨tb, 0, none⟩), .bool gap, slotOf t 6, slotOf t 7, slotOf t 8, slotOf t 9, slotOf t 10, slotOf t 11, slotOf t 12, slotOf t 13, slotOf t 14, slotOf t 15, slotOf t 16, slotOf t 17, slotOf t 18, slotOf t 19, slotOf t 20, slotOf t 21, slotOf t 22, slotOf t 23, slotOf t 24, slotOf t 25, slotOf t 26, slotOf t 27, slotOf t 28, slotOf t 29, slotOf t 30, slotOf t 31, slotOf t 32, slotOf t 33, slotOf t 34, slotOf t 35, slotOf t 36, slotOf t 37, slotOf t 38, slotOf t 39, slotOf t 40, slotOf t 41, slotOf t 42, slotOf t 43, slotOf t 44, slotOf t 45, slotOf t 46, slotOf t 47, slotOf t 48, slotOf t 49, slotOf t 50, slotOf t 51, slotOf t 52, slotOf t 53, slotOf t 54, slotOf t 55, slotOf t 56, slotOf t 57, slotOf t 58, slotOf t 59, slotOf t 60, slotOf t 61, slotOf t 62, slotOf t 63, slotOf t 64, slotOf t 65, slotOf t 66, slotOf t 67, slotOf t 68, slotOf t 69, slotOf t 70, slotOf t 71]
theorem next_upk {α β : Type} (s : Sc α) (m : List UInt8) (k : Nat) (H : α → List UInt8 → Sc β) : (s.up k).next m H = (s.next (m.drop k) H).up k := by
  cases s with
  | wait => rfl
  | bad n => rfl
  | ok a n =>
    show (H a (m.drop (k + n))).up (k + n) = ((H a ((m.drop k).drop n)).up n).up k
    rw [Sc.up_up, List.drop_drop]
theorem attr_pos {F : Nat} {sf : List (List UInt8)} {l : List UInt8} {p : List UInt8 × List Nat} {k : Nat} (h : attrF F sf l = .ok p k) : 1 ≤ k := by
  rcases Nat.eq_zero_or_pos k with e | e
  · subst e
    have := ((det_attr F sf).ok _ _ _ h).2.1 []
    rw [Nat.add_zero, List.take_zero, List.nil_append] at this
    cases this
  · exact e
section
variable {w0 w : World} {cb : Nat} {a : Option Addr} {n cap : Nat} {l : List UInt8} {inn : Nat} {nm : List UInt8} {c : Cu}
theorem lit62 (hE : CE w0 w cb a n cap l) (hC : CuAt w cb (.slice a n cap) inn nm c) : Calls Tryd.prog 56 #[.pointer (some ⟨cb, 0, none⟩), .string { data := #[62] }] w fun e w' => BR w cb (.slice a n cap) inn nm c (lit [62] (l.drop c.i)) e w' := literal_any hE hC [62] (by decide)
def OpR (w : World) (cb : Nat) (bv : Value) (inn : Nat) (nm : List UInt8) (c : Cu) (s : Sc Tok) (e : Ending) (w' : World) : Prop :=
  e = .returned (.tuple #[]) ∧ ∃ c' av, AftT c c' av s ∧ CuAt w' cb bv inn nm c' ∧ Kp (fun m => m = cb ∨ w.heap.size ≤ m) w w' ∧ match s with | .ok t _ => w'.ownsRow w.heap.size 85 2 av t.attrs.length (atsC t.attrs) | _ => True
def JOpen (F n : Nat) (w : World) (cb : Nat) (bv : Value) (inn : Nat) (nm : List UInt8) (c : Cu) (l : List UInt8) (q : List UInt8) (S : Sc Tok) (a' : Act) (wr : World) : Prop :=
  ∃ (tb j f : Nat) (gap : Bool) (ats : List (List UInt8 × List Nat)) (av : Value) (c2 : Cu), a' = { tmps := frOpen cb tb gap a'.tmps, defers := [] } ∧ c2 = { c with i := j } ∧ c.i ≤ j ∧ j ≤ n ∧ ats.length ≤ j ∧ CuAt wr cb bv inn nm c2 ∧ Kp (fun m => m = cb ∨ w.heap.size ≤ m) w wr ∧ TkB w.heap.size tb wr 1 q av ats ∧ n - j < f ∧ ((tagGo F f gap ats (l.drop j)).next (l.drop j) fun k l => doneP (⟨k.1, q, k.2⟩ : Tok) l).up (j - c.i) = S
theorem tok_cells {G tb k : Nat} {w : World} {q : List UInt8} {av : Value} {ats : List (List UInt8 × List Nat)} (h : TkB G tb w k q av ats) : w.cell? ⟨tb, 0, none⟩ = some (.int .i64 k) ∧ w.cell? ⟨tb, 1, none⟩ = some (.string (strL q)) ∧ w.cell? ⟨tb, 2, none⟩ = some av ∧ w.cell? ⟨tb, 3, none⟩ = some (.string (strL [])) ∧ w.cell? ⟨tb, 4, none⟩ = some (.int .i64 0) ∧ w.cell? ⟨tb, 5, none⟩ = some (.int .i64 0) ∧ w.cell? ⟨tb, 6, none⟩ = some (.int .i64 0) ∧ w.cell? ⟨tb, 7, none⟩ = some (.int .i64 0) ∧ w.cell? ⟨tb, 8, none⟩ = some (.int .i64 0) ∧ w.cell? ⟨tb, 9, none⟩ = some (.int .i64 0) ∧ w.cell? ⟨tb, 10, none⟩ = some (.int .i64 0) ∧ w.cell? ⟨tb, 11, none⟩ = some (.int .i64 0) := by
  refine ⟨?_, ?_, ?_, ?_, ?_, ?_, ?_, ?_, ?_, ?_, ?_, ?_⟩ <;> (rw [cell_heap h.cell]; rfl)
set_option maxRecDepth 100000 in
set_option maxHeartbeats 8000000 in
theorem open_any (hL : Laid w0) (hE : CE w0 w cb a n cap l) (hC : CuAt w cb (.slice a n cap) inn nm c) (hi : c.i ≤ n) (hn30 : n ≤ 1073741824) (F : Nat) (hF : (l.drop c.i).length < F) :
    Calls Tryd.prog 44 #[.pointer (some ⟨cb, 0, none⟩)] w fun e w' => OpR w cb (.slice a n cap) inn nm c (openF F (l.drop c.i)) e w' := by
  have HE := Lib.hid hE
  have HC := Lib.hid hC
  have HL := Lib.hid hL
  have hcb := hC.lt
  have hsm := hE.small
  have HLEN := Lib.hid hE.len
  obtain ⟨S, hS⟩ : ∃ S, openF F (l.drop c.i) = S := ⟨_, rfl⟩
  rw [hS]
  have HW := Lib.hid (word_any hL hE hC hi F hF)
  have hl0 : (l.drop c.i).length = n - c.i := by rw [List.length_drop, HLEN.out]
  rw [hl0] at hF
  cases hw : wordF F (l.drop c.i) with
  | wait =>
    rw [hw] at HW
    have HS : Hid (S = .wait) := by show _ = _; rw [← hS]; unfold openF; rw [hw]; rfl
    clear hS hw hE hC hL hl0
    go_enter Tryd.func44, Tryd.ntmps44
    go_wp2_with fail
    refine wp_scope_jumps 0 (fun _ _ => False) (fun _ _ => 0) rfl ?_ (fun _ _ h => h.elim)
    go_wp2_with (go_at_call 59; (with_reducible refine HW.out.mono ?_); rintro e w1 ⟨rfl, c1, ha1, h1, h2⟩)
    simp only [Exit.jump]
    refine bodyPost_ret (results_none rfl _ _ _) rfl ?_
    exact ⟨rfl, c1, .slice none 0 0, by rw [HS.out]; exact ha1, h1, h2.mono fun _ _ e => .inl e, by rw [HS.out]; trivial⟩
  | bad k1 =>
    rw [hw] at HW
    have HS : Hid (S = .bad k1) := by show _ = _; rw [← hS]; unfold openF; rw [hw]; rfl
    clear hS hw hE hC hL hl0
    go_enter Tryd.func44, Tryd.ntmps44
    go_wp2_with fail
    refine wp_scope_jumps 0 (fun _ _ => False) (fun _ _ => 0) rfl ?_ (fun _ _ h => h.elim)
    go_wp2_with (go_at_call 59; (with_reducible refine HW.out.mono ?_); rintro e w1 ⟨rfl, c1, ha1, h1, h2⟩)
    simp only [Exit.jump]
    refine bodyPost_ret (results_none rfl _ _ _) rfl ?_
    exact ⟨rfl, c1, .slice none 0 0, by rw [HS.out]; exact ha1, h1, h2.mono fun _ _ e => .inl e, by rw [HS.out]; trivial⟩
  | ok q k1 =>
    have hd := ((det_word F).ok _ _ _ hw).1
    rw [hl0] at hd
    rw [hw] at HW
    obtain ⟨i, hii⟩ : ∃ i, c.i = i := ⟨_, rfl⟩
    have HI := Lib.hid hii
    rw [hii] at hd hF
    have HS0 : Hid (((tagGo F F false [] (l.drop (i + k1))).next (l.drop (i + k1)) fun k l => doneP (⟨k.1, q, k.2⟩ : Tok) l).up k1 = S) := by
      show _ = _
      rw [← hS]; unfold openF; rw [hw, hii]
      show _ = ((tagGo F F false [] ((l.drop i).drop k1)).next ((l.drop i).drop k1) fun k l => doneP (⟨k.1, q, k.2⟩ : Tok) l).up k1
      rw [List.drop_drop]
    clear hS hw hE hC hL hl0 hii
    go_enter Tryd.func44, Tryd.ntmps44
    go_wp2_with fail
    refine wp_scope_from 0 (JOpen F n w cb (.slice a n cap) inn nm c l q S) (fun _ wr => muI n cb wr) rfl (fun Q2 hp => ?_) ?_
    · have HHP := Lib.hid hp
      clear hp
      go_wp2_with (go_at_call 59; (with_reducible refine HW.out.mono ?_); rintro e w1 ⟨he, c1, ha1, h1, h2⟩; obtain rfl : e = .returned (.tuple #[.string (strL q), .bool true]) := he; have HA1 : Hid (c1 = { c with i := c.i + k1 }) := ha1; have H1 := Lib.hid h1; have H2 := Lib.hid h2; clear ha1 h1 h2)
      go_step3
      exact ‹∀ a w, _ → _› _ _ (HHP.out _ _ ⟨w1.heap.size, i + k1, F, false, [], .slice none 0 0, c1, rfl, by rw [HA1.out, HI.out], by rw [HI.out]; omega, by omega, by simp, H1.out.below ((Below.refl _ w1).alloc (Nat.le_refl _) _), (H2.out.mono fun _ _ e => .inl e).alloc _, ⟨heap_alloc_new w1 _, ⟨rfl, .inl ⟨rfl, rfl⟩⟩, (fun e => by cases e), H2.out.size, by have := H2.out.size; simp; omega⟩, by omega, by rw [HI.out, show i + k1 - i = k1 by omega]; exact HS0.out⟩)
    · rintro ⟨t, dd⟩ wr ⟨tb, j, f, gap, ats, av, c2, ha, hc2, hij, hjn, hal, hC2, hK2, hT2, hf2, hs2⟩
      obtain ⟨f, rfl⟩ : ∃ g, f = g + 1 := ⟨f - 1, by omega⟩
      obtain ⟨ha1, rfl⟩ := Act.mk.inj ha
      rw [ha1]
      clear ha ha1
      dsimp only [frOpen]
      have hE2 := HE.out.keep hK2 (fun m e => by rcases e with e | e; rw [e]; exact HE.out.low; exact Nat.le_trans HE.out.glob.size e) (fun b' o' hb' e => by rcases e with e | e; exact HE.out.ne b' o' hb' e; have := HE.out.lt b' o' hb'; omega)
      have HE2 := Lib.hid hE2
      have HC2 := Lib.hid hC2
      have HK2 := Lib.hid hK2
      obtain ⟨va, vc, hvv, _⟩ := own_slice hT2.row
      subst hvv
      have HT2 := Lib.hid hT2
      have htb2 := heap_lt hT2.cell
      have htbg := hT2.gt
      have hcb2 := hC2.lt
      have hj2 : c2.i = j := by rw [hc2]
      have hci2 := hC2.c_i
      have hfz2 := hC2.fz 1
      rw [hj2] at hci2
      have HC2E := Lib.hid hc2
      have HJ2 := Lib.hid hj2
      rw [HI.out] at hs2 hij
      have hmu := muI_eq (n := n) hC2
      rw [hj2] at hmu
      rw [hmu]
      have HF2 := Lib.hid hf2
      have hctb : cb < tb := by omega
      have hcbtb : cb ≠ tb := by omega
      cases hx : l.drop j with
      | nil =>
        have HB := Lib.hid (byte_none hE2 hC2 (by rw [hj2]; exact hx))
        rw [hx] at hs2
        have HS2 : Hid (S = .wait) := hs2.symm
        clear hC2 hE2 hs2 hx hc2 hj2 hf2 hmu hT2
        go_wp2_with (go_at_call 28; (with_reducible refine HB.out.mono ?_); rintro e w2 ⟨rfl, h1, h2⟩)
        simp only [Exit.jump]
        refine bodyPost_ret (results_none rfl _ _ _) rfl ?_
        refine ⟨rfl, _, .slice none 0 0, ?_, h1, HK2.out.trans h2 fun k e => .inl (.inl e), by rw [HS2.out]; trivial⟩
        rw [HS2.out]
        exact ⟨j, by rw [HC2E.out]⟩
      | cons x u =>
        have hlt := hE2.lt_of hx
        have ht := drop_tail hx
        have hs3 : ((if blankB x = true then on1 (tagGo F f true ats) (x :: u) else if x.toNat = 47 then on1 (fun l => (lit [62] l).next l fun _ l => doneP (3, ats) l) (x :: u)
          else if x.toNat = 62 then on1 (doneP (1, ats)) (x :: u) else if gap = true then (attrF F (ats.map (·.1)) (x :: u)).next (x :: u) fun a l => tagGo F f false (ats ++ [a]) l else badP (x :: u)).next (x :: u) fun k l => doneP (⟨k.1, q, k.2⟩ : Tok) l).up (j - i) = S := by rw [← hs2, hx]; rfl
        have HB := Lib.hid (byte_some hE2 hC2 x u (by rw [hj2]; exact hx))
        have HBL := Lib.hid (fun W => blank_any x W)
        have hx256 := x.toNat_lt
        obtain ⟨bl, hbl⟩ : ∃ bl, blankB x = bl := ⟨_, rfl⟩
        rw [hbl] at hs3 HBL
        cases bl with
        | true =>
          have hs4 : ((tagGo F f true ats (l.drop (j + 1))).next (l.drop (j + 1)) fun k l => doneP (⟨k.1, q, k.2⟩ : Tok) l).up (j + 1 - i) = S := by
            rw [← hs3, ← ht]
            simp only [if_true]
            show _ = (((tagGo F f true ats u).up 1).next (x :: u) fun k l => doneP (⟨k.1, q, k.2⟩ : Tok) l).up (j - i)
            rw [next_cons, Sc.up_up, show j - i + 1 = j + 1 - i by omega]
          have HS4 := Lib.hid hs4
          clear hC2 hE2 hs2 hs3 hx hc2 hj2 hf2 hmu ht hT2 hs4 hbl
          go_wp2_with (first | (go_at_call 28; (with_reducible refine HB.out.mono ?_); rintro e w2 ⟨rfl, hb2⟩; have d1 := (hb2.cell (p := ⟨cb, 1, none⟩) hcb2).trans hci2; have f1 := (hb2.frozen (p := ⟨cb, 1, none⟩) hcb2).trans hfz2; have hcb4 := Nat.lt_of_lt_of_le hcb2 hb2.size) | (go_at_call 30; (with_reducible refine (HBL.out _).mono ?_); rintro e w4 ⟨rfl, rfl⟩))
          go_step3
          have hC4 := (HC2.out.below hb2).set_iz ((j : Int) + 1) (j + 1) (by simp)
          refine ⟨rfl, ⟨tb, j + 1, f, true, ats, _, { c2 with i := j + 1 }, by rfl, by rw [HC2E.out], by rw [HI.out]; omega, by omega, by omega, hC4, (HK2.out.on hb2).set (.inl (.inl rfl)) _ _, (HT2.out.below hb2).keep ((Kp.refl (· = cb) _).set (.inl rfl) 1 (.int .i64 ((j : Int) + 1))) (fun m e => by have e' : m = cb := e; exact .inl (by omega)), by have := HF2.out; omega, by rw [HI.out]; exact HS4.out⟩, ?_⟩
          rw [muI_eq hC4]
          show n - (j + 1) < n - j
          omega
        | false =>
          rw [if_neg (by simp)] at hs3
          by_cases hx47 : x.toNat = 47
          · have hxe : ((x.toNat : Int) == 47) = true := by simp; omega
            rw [if_pos hx47] at hs3
            have hs4 : ((lit [62] (l.drop (j + 1))).next (l.drop (j + 1)) fun _ l => doneP (⟨3, q, ats⟩ : Tok) l).up (j + 1 - i) = S := by
              rw [← hs3, ← ht]
              show _ = (((((lit [62] u).next u fun _ l => doneP (3, ats) l) : Sc (Nat × List (List UInt8 × List Nat))).up 1).next (x :: u) fun k l => doneP (⟨k.1, q, k.2⟩ : Tok) l).up (j - i)
              rw [next_cons, Sc.up_up, show j - i + 1 = j + 1 - i by omega]
              cases lit [62] u <;> rfl
            have HS4 := Lib.hid hs4
            have HLI := Lib.hid (fun W (h1 : CuAt W cb (.slice a n cap) inn nm { c2 with i := j + 1 }) (h2 : Kp (· = cb) wr W) => lit62 (HE2.out.keep1 h2) h1)
            cases hq2 : lit [62] (l.drop (j + 1)) with
            | wait =>
              rw [hq2] at HLI HS4
              clear hC2 hE2 hs2 hs3 hx hc2 hj2 hf2 hmu ht hT2 hs4 hbl hx47 hq2
              go_wp2_with (first | (go_at_call 28; (with_reducible refine HB.out.mono ?_); rintro e w2 ⟨rfl, hb2⟩; have d1 := (hb2.cell (p := ⟨cb, 1, none⟩) hcb2).trans hci2; have f1 := (hb2.frozen (p := ⟨cb, 1, none⟩) hcb2).trans hfz2; have hcb4 := Nat.lt_of_lt_of_le hcb2 hb2.size) | (go_at_call 30; (with_reducible refine (HBL.out _).mono ?_); rintro e w4 ⟨rfl, rfl⟩) | (go_at_call 56; (with_reducible refine (HLI.out _ ((HC2.out.below hb2).set_iz ((j : Int) + 1) (j + 1) (by simp)) (kp_set hb2 _ _)).mono ?_); rintro e w5 ⟨rfl, c5, ha5, h5, h6⟩))
              simp only [Exit.jump]
              refine bodyPost_ret (results_none rfl _ _ _) rfl ?_
              have HS : S = .wait := HS4.out.symm
              obtain ⟨i', rfl⟩ := ha5
              exact ⟨rfl, _, .slice none 0 0, by rw [HS]; exact ⟨i', by rw [HC2E.out]⟩, h5, (HK2.out.trans (kp_set hb2 _ _) fun _ e => .inl (.inl e)).trans h6 fun _ e => .inl (.inl e), by rw [HS]; trivial⟩
            | bad kl =>
              rw [hq2] at HLI HS4
              clear hC2 hE2 hs2 hs3 hx hc2 hj2 hf2 hmu ht hT2 hs4 hbl hx47 hq2
              go_wp2_with (first | (go_at_call 28; (with_reducible refine HB.out.mono ?_); rintro e w2 ⟨rfl, hb2⟩; have d1 := (hb2.cell (p := ⟨cb, 1, none⟩) hcb2).trans hci2; have f1 := (hb2.frozen (p := ⟨cb, 1, none⟩) hcb2).trans hfz2; have hcb4 := Nat.lt_of_lt_of_le hcb2 hb2.size) | (go_at_call 30; (with_reducible refine (HBL.out _).mono ?_); rintro e w4 ⟨rfl, rfl⟩) | (go_at_call 56; (with_reducible refine (HLI.out _ ((HC2.out.below hb2).set_iz ((j : Int) + 1) (j + 1) (by simp)) (kp_set hb2 _ _)).mono ?_); rintro e w5 ⟨rfl, c5, ha5, h5, h6⟩))
              simp only [Exit.jump]
              refine bodyPost_ret (results_none rfl _ _ _) rfl ?_
              have HS : S = .bad (j + 1 - i + kl) := HS4.out.symm
              refine ⟨rfl, c5, .slice none 0 0, ?_, h5, (HK2.out.trans (kp_set hb2 _ _) fun _ e => .inl (.inl e)).trans h6 fun _ e => .inl (.inl e), by rw [HS]; trivial⟩
              rw [HS]
              show _ = _
              rw [show c5 = { c2 with i := j + 1 + kl, how := 2 } from ha5, HC2E.out, HI.out, show i + (j + 1 - i + kl) = j + 1 + kl by omega]
            | ok ul kl =>
              rw [hq2] at HLI HS4
              clear hC2 hE2 hs2 hs3 hx hc2 hj2 hf2 hmu ht hT2 hs4 hbl hx47 hq2
              go_wp2_with (first | (go_at_call 28; (with_reducible refine HB.out.mono ?_); rintro e w2 ⟨rfl, hb2⟩; have d1 := (hb2.cell (p := ⟨cb, 1, none⟩) hcb2).trans hci2; have f1 := (hb2.frozen (p := ⟨cb, 1, none⟩) hcb2).trans hfz2; have hcb4 := Nat.lt_of_lt_of_le hcb2 hb2.size) | (go_at_call 30; (with_reducible refine (HBL.out _).mono ?_); rintro e w4 ⟨rfl, rfl⟩) | (go_at_call 56; (with_reducible refine (HLI.out _ ((HC2.out.below hb2).set_iz ((j : Int) + 1) (j + 1) (by simp)) (kp_set hb2 _ _)).mono ?_); rintro e w5 ⟨he, c5, ha5, h5, h6⟩; obtain rfl : e = .returned (.bool true) := he; have HA5 : Hid (c5 = { c2 with i := j + 1 + kl }) := ha5; have H5 := Lib.hid h5; have K5 : Hid (Kp (· = cb) wr w5) := (kp_set hb2 1 (.int .i64 ((j : Int) + 1))).trans h6 (fun _ e => .inl e); have HT5 : Hid (TkB w.heap.size tb w5 1 q (.slice va ats.length vc) ats) := HT2.out.keep K5.out (fun m e => by have e' : m = cb := e; exact .inl (by omega)); obtain ⟨t0, t1, t2, t3, t4, t5, t6, t7, t8, t9, t10, t11⟩ := tok_cells HT5.out; have htf : w5.frozen? ⟨tb, 0, none⟩ = false := frozen_heap HT5.out.cell; have htb5 := heap_lt HT5.out.cell; have hcb5 := h5.lt; clear ha5 h5 h6) | (refine wpList_store_tok rfl (.tmp 68) (.tmp 66) rfl 3 q (.slice va ats.length vc) rfl (by rfl) (by rfl) ((Below.heap_setCell w5 ⟨tb, 0, none⟩ (.int .i64 3) cb hcbtb).trans H5.out) ?_; intro w6 g1 g2; have e4 := g1.c_how; have f4 := g1.fz 4; have G1 := Lib.hid g1; have G2 := Lib.hid g2; clear g1 g2))
              simp only [Exit.jump]
              go_end0
              have HS : S = .ok ⟨3, q, ats⟩ (j + 1 - i + (kl + 0)) := HS4.out.symm
              have hrow := HT5.out.row
              have hne5 := HT5.out.ne
              refine ⟨rfl, _, .slice va ats.length vc, ?_, G1.out.set_how 0, ?_, ?_⟩
              · rw [HS]
                show _ = _
                rw [HA5.out, HC2E.out, HI.out, show i + (j + 1 - i + (kl + 0)) = j + 1 + kl by omega]
              · exact (((HK2.out.trans K5.out fun _ e => .inl (.inl e)).set (.inl (.inr htbg)) _ _).trans G2.out fun _ e => .inl (.inl e)).set (.inl (.inl rfl)) _ _
              · rw [HS]
                refine own_block hrow fun m hm => ?_
                have hm1 := hrow.lt m hm
                have hm2 : m ≠ tb := fun e => hne5 (by rw [hm, e])
                rw [Below.heap_setCell _ _ _ _ (show m ≠ cb by omega), G2.out.block m (by simp [World.setCell]; omega) (by omega), Below.heap_setCell _ _ _ _ hm2]
          · have hxe : ((x.toNat : Int) == 47) = false := by simp; omega
            rw [if_neg hx47] at hs3
            by_cases hx62 : x.toNat = 62
            · have hxe2 : ((x.toNat : Int) == 62) = true := by simp; omega
              rw [if_pos hx62] at hs3
              have HS : Hid (S = .ok ⟨1, q, ats⟩ (j - i + (1 + 0))) := hs3.symm
              clear hC2 hE2 hs2 hs3 hx hc2 hj2 hf2 hmu ht hT2 hbl hx47 hx62
              go_wp2_with (first | (go_at_call 28; (with_reducible refine HB.out.mono ?_); rintro e w2 ⟨rfl, hb2⟩; have d1 := (hb2.cell (p := ⟨cb, 1, none⟩) hcb2).trans hci2; have f1 := (hb2.frozen (p := ⟨cb, 1, none⟩) hcb2).trans hfz2; have hcb4 := Nat.lt_of_lt_of_le hcb2 hb2.size; obtain ⟨t0, t1, t2, t3, t4, t5, t6, t7, t8, t9, t10, t11⟩ := tok_cells (HT2.out.below hb2); have htb4 := Nat.lt_of_lt_of_le htb2 hb2.size) | (go_at_call 30; (with_reducible refine (HBL.out _).mono ?_); rintro e w4 ⟨rfl, rfl⟩) | (refine wpList_store_tok rfl (.tmp 68) (.tmp 66) rfl 1 q (.slice va ats.length vc) rfl (by rfl) (by rfl) ((HC2.out.below hb2).set_iz ((j : Int) + 1) (j + 1) (by simp)) ?_; intro w6 g1 g2; have e4 := g1.c_how; have f4 := g1.fz 4; have G1 := Lib.hid g1; have G2 := Lib.hid g2; clear g1 g2))
              simp only [Exit.jump]
              go_end0
              have hT5 := HT2.out.below hb2
              have hrow := hT5.row
              refine ⟨rfl, _, .slice va ats.length vc, ?_, G1.out.set_how 0, ?_, ?_⟩
              · rw [HS.out]
                show _ = _
                rw [HC2E.out, HI.out, show i + (j - i + (1 + 0)) = j + 1 by omega]
              · exact ((HK2.out.trans (kp_set hb2 _ _) fun _ e => .inl (.inl e)).trans G2.out fun _ e => .inl (.inl e)).set (.inl (.inl rfl)) _ _
              · rw [HS.out]
                refine own_block hrow fun m hm => ?_
                have hm1 := hrow.lt m hm
                rw [Below.heap_setCell _ _ _ _ (show m ≠ cb by omega), G2.out.block m (by simp [World.setCell]; omega) (by omega), Below.heap_setCell _ _ _ _ (show m ≠ cb by omega)]
            · have hxe2 : ((x.toNat : Int) == 62) = false := by simp; omega
              rw [if_neg hx62] at hs3
              cases gap with
              | false =>
                rw [if_neg (by simp)] at hs3
                have HS : Hid (S = .bad (j - i)) := hs3.symm
                have HWR := Lib.hid (fun W (hb : Below wr.heap.size wr W) => wrong_any (hC2.below hb))
                clear hC2 hE2 hs2 hs3 hx hc2 hj2 hf2 hmu ht hT2 hbl hx47 hx62
                go_wp2_with (first | (go_at_call 28; (with_reducible refine HB.out.mono ?_); rintro e w2 ⟨rfl, hb2⟩) | (go_at_call 30; (with_reducible refine (HBL.out _).mono ?_); rintro e w4 ⟨rfl, rfl⟩) | (go_at_call 31; (with_reducible refine (HWR.out _ hb2).mono ?_); rintro e w5 ⟨rfl, h1, h2⟩))
                simp only [Exit.jump]
                refine bodyPost_ret (results_none rfl _ _ _) rfl ?_
                refine ⟨rfl, _, .slice none 0 0, ?_, h1, (HK2.out.on hb2).trans h2 fun _ e => .inl (.inl e), by rw [HS.out]; trivial⟩
                rw [HS.out]
                show _ = _
                rw [HC2E.out, HI.out, show i + (j - i) = j by omega]
              | true =>
                rw [if_pos rfl, ← hx] at hs3
                have HAT := Lib.hid (fun W (hb : Below wr.heap.size wr W) => attribute_any HL.out (hE2.below hb) (hC2.below hb) (by rw [hj2]; omega) (hT2.below hb) hcb (by omega) hn30 F (by rw [hj2, List.length_drop, ← HLEN.out]; omega))
                rw [hj2] at HAT
                cases hat : attrF F (ats.map (·.1)) (l.drop j) with
                | wait =>
                  rw [hat] at HAT hs3
                  have HS : Hid (S = .wait) := hs3.symm
                  clear hC2 hE2 hs2 hs3 hx hc2 hj2 hf2 hmu ht hT2 hbl hx47 hx62 hat
                  go_wp2_with (first | (go_at_call 28; (with_reducible refine HB.out.mono ?_); rintro e w2 ⟨rfl, hb2⟩) | (go_at_call 30; (with_reducible refine (HBL.out _).mono ?_); rintro e w4 ⟨rfl, rfl⟩) | (go_at_call 60; (with_reducible refine (HAT.out _ hb2).mono ?_); rintro e w5 ⟨rfl, ⟨c5, ha5, h5⟩, h6, _⟩))
                  simp only [Exit.jump]
                  refine bodyPost_ret (results_none rfl _ _ _) rfl ?_
                  obtain ⟨i', rfl⟩ := ha5
                  exact ⟨rfl, _, .slice none 0 0, by rw [HS.out]; exact ⟨i', by rw [HC2E.out]⟩, h5, (HK2.out.on hb2).trans h6 fun _ e => .inl e, by rw [HS.out]; trivial⟩
                | bad ka =>
                  rw [hat] at HAT hs3
                  have HS : Hid (S = .bad (j - i + ka)) := hs3.symm
                  clear hC2 hE2 hs2 hs3 hx hc2 hj2 hf2 hmu ht hT2 hbl hx47 hx62 hat
                  go_wp2_with (first | (go_at_call 28; (with_reducible refine HB.out.mono ?_); rintro e w2 ⟨rfl, hb2⟩) | (go_at_call 30; (with_reducible refine (HBL.out _).mono ?_); rintro e w4 ⟨rfl, rfl⟩) | (go_at_call 60; (with_reducible refine (HAT.out _ hb2).mono ?_); rintro e w5 ⟨rfl, ⟨c5, ha5, h5⟩, h6, _⟩))
                  simp only [Exit.jump]
                  refine bodyPost_ret (results_none rfl _ _ _) rfl ?_
                  refine ⟨rfl, c5, .slice none 0 0, ?_, h5, (HK2.out.on hb2).trans h6 fun _ e => .inl e, by rw [HS.out]; trivial⟩
                  rw [HS.out]
                  show _ = _
                  rw [show c5 = { c2 with i := c2.i + ka, how := 2 } from ha5, HC2E.out, HI.out]
                  simp only [Cu.mk.injEq, and_true]
                  omega
                | ok p ka =>
                  have hda := ((det_attr F (ats.map (·.1))).ok _ _ _ hat).1
                  have hka : 1 ≤ ka := attr_pos hat
                  rw [List.length_drop, ← HLEN.out] at hda
                  rw [hat] at HAT
                  have hs4 : ((tagGo F f false (ats ++ [p]) (l.drop (j + ka))).next (l.drop (j + ka)) fun k l => doneP (⟨k.1, q, k.2⟩ : Tok) l).up (j + ka - i) = S := by
                    rw [← hs3, hat]
                    show _ = (((tagGo F f false (ats ++ [p]) ((l.drop j).drop ka)).up ka).next (l.drop j) fun k l => doneP (⟨k.1, q, k.2⟩ : Tok) l).up (j - i)
                    rw [next_upk, Sc.up_up, List.drop_drop, show j - i + ka = j + ka - i by omega]
                  have HS4 := Lib.hid hs4
                  clear hC2 hE2 hs2 hs3 hx hc2 hj2 hf2 hmu ht hT2 hs4 hbl hx47 hx62 hat
                  go_wp2_with (first | (go_at_call 28; (with_reducible refine HB.out.mono ?_); rintro e w2 ⟨rfl, hb2⟩) | (go_at_call 30; (with_reducible refine (HBL.out _).mono ?_); rintro e w4 ⟨rfl, rfl⟩) | (go_at_call 60; (with_reducible refine (HAT.out _ hb2).mono ?_); rintro e w5 ⟨he, ⟨c5, ha5, h5⟩, h6, av', h7⟩; obtain rfl : e = .returned (.bool true) := he; have HA5 : Hid (c5 = { c2 with i := c2.i + ka }) := ha5; have H5 := Lib.hid h5; have H6 := Lib.hid h6; have H7 := Lib.hid h7; clear ha5 h5 h6 h7))
                  go_step3
                  have hA5 : c5 = { c with i := j + ka } := by rw [HA5.out, HC2E.out]
                  refine ⟨rfl, ⟨tb, j + ka, f, false, ats ++ [p], av', c5, by rfl, hA5, by rw [HI.out]; omega, by omega, by rw [List.length_append, List.length_singleton]; omega, H5.out, (HK2.out.on hb2).trans H6.out fun _ e => .inl e, H7.out, by have := HF2.out; omega, by rw [HI.out]; exact HS4.out⟩, ?_⟩
                  rw [muI_eq H5.out, hA5]
                  show n - (j + ka) < n - j
                  omega
end
end Go.Proofs.YtjdmndpadejegaaDoor
