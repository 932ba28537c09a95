/-
  gimletref09.attrs.
-/
import Derived.Test.YtklpihaelaagpaaDoorLgU
import Derived.Test.YtklpihaelaagpaaDoorLgW
import Derived.Test.YtklpihaelaagpaaDoorLgF
import Derived.Deep.RegionHeld3
import Derived.Test.YtklpihaelaagpaaDoorLgE
import Derived.Test.YtklpihaelaagpaaDoorLgN
import Derived.RowKit
namespace Go.Proofs.YtklpihaelaagpaaDoor
open Go.RowKit

theorem attrsB_cons (q : Option (List UInt8)) (p : List UInt8 × List UInt8) (r : List (List UInt8 × List UInt8)) :
    attrsB q (p :: r) = (nameB p.1 && textsB p.2 && (match q with | none => true | some q => Op.bytesLess q p.1) && attrsB (some p.1) r) := rfl
def prevN (ats : List (List UInt8 × List UInt8)) (k : Nat) : Option (List UInt8) := if k = 0 then none else (ats[k - 1]?).map (·.1)

set_option maxRecDepth 1000000 in
set_option maxHeartbeats 4000000 in
theorem attrs9_any (a : Option Addr) (n c : Nat) (ats : List (List UInt8 × List UInt8)) (w : World) (hA : AttrsAt w a n ats) (hl : ∀ p ∈ ats, p.1.length ≤ 1048576 ∧ p.2.length ≤ 1048576) (hn : n ≤ 1048576) :
    Calls Tryd.prog 20 #[.slice a n c] w fun e w' => e = .returned (.bool (attrsB none ats)) ∧ Below w.heap.size w w' := by
  have HNM : Hid (∀ (l : List UInt8) (W : World), l.length ≤ 1048576 → Calls Tryd.prog 19 #[.string (strL l)] W fun e w' => e = .returned (.bool (nameB l)) ∧ Below W.heap.size W w') := Lib.hid fun l W h => Name2_any l (by omega) W
  have HTX : Hid (∀ (l : List UInt8) (W : World), l.length ≤ 1048576 → Calls Tryd.prog 21 #[.string (strL l)] W fun e w' => e = .returned (.bool (textsB l)) ∧ Below W.heap.size W w') := Lib.hid fun l W h => Texts2_any l (by omega) W
  have HCM : Hid (∀ (l m : List UInt8) (W : World), l.length ≤ 1048576 → m.length ≤ 1048576 → nameB l = true → nameB m = true → Calls Tryd.prog 38 #[.string (strL l), .string (strL m)] W fun e w' => e = .returned (.int .i64 (if Op.bytesLess l m = true then -1 else if Op.bytesLess m l = true then 1 else 0)) ∧ Below W.heap.size W w') := Lib.hid fun l m W h1 h2 h3 h4 => by
    have h := Cmp3_any (strU l) (strU m) W (by rw [strU_size]; exact h1) (by rw [strU_size]; exact h2)
    rw [name_cmp l m h3 h4] at h
    exact h
  have HN : Hid (n = ats.length) := Lib.hid hA.1
  have HA := Lib.hid hA.2
  have HL := Lib.hid hl
  clear hA hl
  obtain ⟨T, hT⟩ : ∃ T, attrsB none ats = T := ⟨_, rfl⟩
  rw [hT]
  have HT := Lib.hid hT
  clear hT
  go_enter Tryd.func20, Tryd.ntmps20
  go_wp2_with fail
  go_loopw [3] (fun iv wr => ∃ k : Nat, iv = .int .i64 k ∧ k ≤ n ∧ Below w.heap.size w wr ∧ Hid (attrsB (prevN ats k) (ats.drop k) = T) ∧ Hid (k = 0 ∨ ∃ h : k - 1 < ats.length, nameB (ats[k - 1]).1 = true)) (fun iv _ => n - (intOf iv).toNat)
  case atStart => exact ⟨0, rfl, Nat.zero_le _, Below.refl _ _, HT, Lib.hid (.inl rfl)⟩
  case round =>
    obtain ⟨k, rfl, hk, hbr, hr, hpv⟩ := hrel
    by_cases hkn : k < n
    · have hkl : k < ats.length := by rw [← HN.out]; exact hkn
      obtain ⟨b, o, rfl, hb, c0, c1⟩ := HA.out k hkl
      have hd := hr.out
      have hlk := HL.out _ (List.getElem_mem hkl)
      have e0 := (hbr.cell (p := ⟨b, o + k * 2, none⟩) hb).trans c0
      have HC1 := Lib.hid c1
      have HC0 := Lib.hid c0
      rw [List.drop_eq_getElem_cons hkl, attrsB_cons] at hd
      have hpk : prevN ats (k + 1) = some (ats[k]).1 := by
        unfold prevN
        rw [if_neg (by omega), Nat.add_sub_cancel, List.getElem?_eq_getElem hkl]
        rfl
      have HPK := Lib.hid hpk
      have HPV : Hid (k = 0 ∨ ∃ (q : List UInt8), prevN ats k = some q ∧ nameB q = true ∧ q.length ≤ 1048576 ∧ ∀ W, Below w.heap.size w W → W.cell? ⟨b, o + (k - 1) * 2, none⟩ = some (.string (strL q))) := Lib.hid (by
        rcases hpv.out with h | ⟨h, hq⟩
        · exact .inl h
        · by_cases h0 : k = 0
          · exact .inl h0
          · right
            refine ⟨(ats[k - 1]).1, ?_, hq, (HL.out _ (List.getElem_mem h)).1, fun W hW => ?_⟩
            · unfold prevN
              rw [if_neg h0, List.getElem?_eq_getElem h]
              rfl
            · obtain ⟨b', o', he, _, c0', _⟩ := HA.out (k - 1) h
              injection he with he
              injection he with he1 he2
              subst he1 he2
              exact (hW.cell (p := ⟨b, o + (k - 1) * 2, none⟩) hb).trans c0')
      clear hpk c0 c1 hr hpv
      have HB := Lib.hid hb
      generalize hp : ats[k] = p at *
      have HP0 := Lib.hid hp
      clear hp
      obtain ⟨nm, vl⟩ := p
      simp only at hd hlk e0 HC0 HC1 HPK
      obtain ⟨hnl, hvl⟩ := hlk
      have HNK := Lib.hid (HNM.out nm wr hnl)
      have HBR := Lib.hid hbr
      clear hbr
      cases h1 : nameB nm with
      | false =>
        rw [h1] at HNK
        have HE : Hid (T = false) := Lib.hid (by rw [← hd, h1]; rfl)
        clear hd h1
        go_wp2_with fail
        (with_reducible refine HNK.out.mono ?_)
        rintro e w1 ⟨rfl, hb1⟩
        go_wp2_with fail
        go_ret
        exact ⟨ret_bool (by rw [HE.out]), HBR.out.trans (hb1.mono HBR.out.size)⟩
      | true =>
        rw [h1] at HNK
        have HTK := Lib.hid (fun W => HTX.out vl W hvl)
        cases h2 : textsB vl with
        | false =>
          rw [h2] at HTK
          have HE : Hid (T = false) := Lib.hid (by rw [← hd, h1, h2]; rfl)
          clear hd h1 h2
          go_wp2_with fail
          (with_reducible refine HNK.out.mono ?_)
          rintro e w1 ⟨rfl, hb1⟩
          have hb1 := HBR.out.trans (hb1.mono HBR.out.size)
          have e1 := (hb1.cell (p := ⟨b, o + k * 2 + 1, none⟩) HB.out).trans HC1.out
          go_wp2_with fail
          (with_reducible refine (HTK.out _).mono ?_)
          rintro e w2 ⟨rfl, hb2⟩
          go_wp2_with fail
          go_ret
          exact ⟨ret_bool (by rw [HE.out]), hb1.trans (hb2.mono hb1.size)⟩
        | true =>
          rw [h2] at HTK
          rw [h1, h2, Bool.true_and, Bool.true_and] at hd
          have HNMK := Lib.hid h1
          have HD := Lib.hid hd
          clear hd h2 h1
          go_wp2_with fail
          (with_reducible refine HNK.out.mono ?_)
          rintro e w1 ⟨rfl, hb1⟩
          have hb1 := HBR.out.trans (hb1.mono HBR.out.size)
          have e1 := (hb1.cell (p := ⟨b, o + k * 2 + 1, none⟩) HB.out).trans HC1.out
          clear HBR HNK e0
          go_wp2_with fail
          (with_reducible refine (HTK.out _).mono ?_)
          rintro e w2 ⟨rfl, hb2⟩
          have hb2 := hb1.trans (hb2.mono hb1.size)
          have HB2 := Lib.hid hb2
          clear hb1 e1 hb2 HTK
          go_wp2_with fail
          rcases HPV.out with hk0 | ⟨q, hq, hqn, hql, hcell⟩
          · have hk9 : decide ((0 : Int) < (k : Int)) = false := by simp; omega
            have hk8 : decide (0 < k) = false := by simp; omega
            have HD2 : Hid (attrsB (some nm) (ats.drop (k + 1)) = T) := Lib.hid (by
              have := HD.out
              rw [show prevN ats k = none by unfold prevN; rw [if_pos hk0]] at this
              simpa using this)
            subst hk0
            clear HD HPV hk9 hk8
            rw [show ((0 : Nat) : Int) = 0 from rfl]
            go_quiet (fail)
            go_wp2_with fail
            go_roundw
            case rel => exact ⟨0 + 1, by go_num, by omega, Below.drewN HB2.out _, by rw [HPK.out]; exact HD2, Lib.hid (.inr ⟨by have := HN.out; omega, by simp only [Nat.add_sub_cancel]; rw [HP0.out]; exact HNMK.out⟩)⟩
            case measure => simp [intOf]; omega
          · obtain ⟨j, hj⟩ : ∃ j, k = j + 1 := ⟨k - 1, by
              rcases Nat.eq_zero_or_pos k with h | h
              · rw [h] at hq; simp [prevN] at hq
              · omega⟩
            have HJ := Lib.hid hj
            rw [show k - 1 = j by omega] at hcell
            have hjk : j < k := by omega
            have hk1 : 0 < k := by omega
            have ew : IntKind.i64.wrap ((k : Int) - 1) = (j : Int) := by rw [IntWalk.i64_in _ (by omega)]; omega
            have i1 : (0 : Int) ≤ (j : Int) := by omega
            have i2 : (j : Int) < (n : Int) := by omega
            have i3 : (k : Int) < (n : Int) := by omega
            have i4 : (0 : Int) ≤ (k : Int) := by omega
            have HCK := Lib.hid (fun W => HCM.out q nm W hql hnl hqn HNMK.out)
            have hd := HD.out
            rw [hq] at hd
            simp only at hd
            clear HPV hj HD
            cases hbl : Op.bytesLess q nm with
            | true =>
              rw [hbl] at HCK hd
              rw [if_pos rfl] at HCK
              rw [Bool.true_and] at hd
              have HD2 : Hid (attrsB (some nm) (ats.drop (k + 1)) = T) := Lib.hid hd
              clear hd hbl
              have hS : ∀ W, Below w.heap.size w W → W.cell? ⟨b, o + j * 2, none⟩ = some (.string (strL q)) ∧ W.cell? ⟨b, o + k * 2, none⟩ = some (.string (strL nm)) ∧ Below w.heap.size w W := fun W hW => ⟨hcell W hW, (hW.cell (p := ⟨b, o + k * 2, none⟩) HB.out).trans HC0.out, hW⟩
              have HS := Lib.hid hS
              have hB2d := HB2.out.drew
              clear hS hcell
              go_region_held3 (fun w' => w'.cell? ⟨b, o + j * 2, none⟩ = some (.string (strL q)) ∧ w'.cell? ⟨b, o + k * 2, none⟩ = some (.string (strL nm)) ∧ Below w.heap.size w w') (first | exact HS.out _ ‹_› | go_keep) (first | (go_at_call 38; (with_reducible refine (HCK.out _).mono ?_); rintro e w3 ⟨rfl, hb3⟩; have hb4 := (‹Below w.heap.size w _›).trans (hb3.mono (‹Below w.heap.size w _›).size)))
              go_wp2_with fail
              go_roundw
              case rel => exact ⟨k + 1, by go_num, by omega, hb4, by rw [HPK.out]; exact HD2, Lib.hid (.inr ⟨by have := HN.out; omega, by simp only [Nat.add_sub_cancel]; rw [HP0.out]; exact HNMK.out⟩)⟩
              case measure => simp [intOf]; omega
            | false =>
              rw [hbl] at HCK hd
              rw [if_neg (by simp)] at HCK
              have HE : Hid (T = false) := Lib.hid (by rw [← hd, Bool.false_and])
              obtain ⟨cv, hcv⟩ : ∃ cv : Int, cv = if Op.bytesLess nm q = true then 1 else 0 := ⟨_, rfl⟩
              rw [← hcv] at HCK
              have hcv0 : 0 ≤ cv := by rw [hcv]; split <;> decide
              clear hd hbl hcv
              have hS : ∀ W, Below w.heap.size w W → W.cell? ⟨b, o + j * 2, none⟩ = some (.string (strL q)) ∧ W.cell? ⟨b, o + k * 2, none⟩ = some (.string (strL nm)) ∧ Below w.heap.size w W := fun W hW => ⟨hcell W hW, (hW.cell (p := ⟨b, o + k * 2, none⟩) HB.out).trans HC0.out, hW⟩
              have HS := Lib.hid hS
              have hB2d := HB2.out.drew
              clear hS hcell
              go_region_held3 (fun w' => w'.cell? ⟨b, o + j * 2, none⟩ = some (.string (strL q)) ∧ w'.cell? ⟨b, o + k * 2, none⟩ = some (.string (strL nm)) ∧ Below w.heap.size w w') (first | exact HS.out _ ‹_› | go_keep) (first | (go_at_call 38; (with_reducible refine (HCK.out _).mono ?_); rintro e w3 ⟨rfl, hb3⟩; have hb4 := (‹Below w.heap.size w _›).trans (hb3.mono (‹Below w.heap.size w _›).size)))
              go_wp2_with fail
              go_ret
              exact ⟨ret_bool (by rw [HE.out]), hb4⟩
    · have hd := hr.out
      have HE : Hid (T = true) := Lib.hid (by rw [← hd, List.drop_of_length_le (by rw [← HN.out]; omega)]; rfl)
      have hkn2 : n ≤ k := by omega
      clear hd hr hkn
      go_wp2_with fail
      go_ret
      exact ⟨ret_bool (by rw [HE.out]), hbr⟩
end Go.Proofs.YtklpihaelaagpaaDoor

namespace Go.Proofs.YtklpihaelaagpaaDoor
open Go.RowKit

set_option maxRecDepth 100000 in
set_option maxHeartbeats 1000000 in
theorem Texts_any (l : List UInt8) (w : World) (hl : l.length ≤ 1073741824) (hR : RangesAt w 2) (hT : Lib.Utf8Tabs 0 1 w) :
    Calls Tryd.prog 47 #[.string (strU l)] w fun e w' => e = .returned (.bool (textsB l)) ∧ Below w.heap.size w w' := by
  have HR := Lib.hid hR
  have HT := Lib.hid hT
  have HV : Hid (∀ W, Below w.heap.size w W → Calls Tryd.prog 58 #[.string (strU l)] W fun e w' => e = .returned (.bool (Lib.validD l)) ∧ Below W.heap.size W w') := Lib.hid fun W hW => by
    have := Valid_any (strU l) W (by rw [strU_size]; omega) (Utf8Tabs_below HT.out hW)
    rw [strU_data] at this
    exact this
  have HI : Hid (∀ (r : Nat) W, Below w.heap.size w W → Calls Tryd.prog 57 #[.int .i64 0, .int .i32 r] W fun e w' => e = .returned (.bool (isR (rng 0) r)) ∧ Below W.heap.size W w') := Lib.hid fun r W hW => Is_any 0 (by decide) r W (HR.out.below hW)
  have HD : Hid (∀ pos, decL (l.drop pos) = Utf8.decode (strU l) pos) := Lib.hid (decL_str l)
  have HE : Hid (textsB l = (okL l && Lib.validD l)) := Lib.hid rfl
  have HZ : Hid ((strU l).size = l.length) := Lib.hid (strU_size l)
  clear hR hT HR HT
  generalize Lib.validD l = V at *
  generalize textsB l = T at *
  generalize hS : strU l = S at *
  have HS := Lib.hid hS
  clear hS
  go_enter Tryd.func47, Tryd.ntmps47
  go_wp2_with fail
  go_loopw [] (fun wr => ∃ pos, wr.heap[w.heap.size]? = some (.stringIter S pos) ∧ Below w.heap.size w wr ∧ Hid (okL (l.drop pos) = okL l)) (fun wr => S.size - wr.iterPos w.heap.size)
  case atStart => exact ⟨0, World.iter_heap _ _ _, (Below.refl _ _).alloc (Nat.le_refl _) _, rfl⟩
  case round =>
    obtain ⟨pos, hit, hbw, hr⟩ := hrel
    have hsz : w.heap.size < wr.heap.size := (Array.getElem?_eq_some_iff.1 hit).1
    by_cases hp : pos < S.size
    · have hnx : ∀ ty, (Instr.next (.pointer (some ⟨w.heap.size, 0, none⟩)) true ty).run Tryd.prog wr = _ := fun ty => Lib.run_next_any_at wr w.heap.size S pos ty hit hp
      have hwd := width_pos S pos hp
      have hst := hr.out
      have hne : l.drop pos ≠ [] := by
        intro h
        have := congrArg List.length h
        rw [List.length_drop] at this
        have := HZ.out
        simp at *; omega
      rw [okL_step _ hne, List.drop_drop, HD.out pos] at hst
      have HST := Lib.hid hst
      have HIT := Lib.hid hit
      generalize hw2 : wr.iterAt w.heap.size S (pos + (Utf8.decode S pos).2) = w2 at hnx
      have hit2 : w2.heap[w.heap.size]? = some (.stringIter S (pos + (Utf8.decode S pos).2)) := by rw [← hw2]; exact Lib.iterAt_heap wr w.heap.size S pos _ hit
      have hbw2 : Below w.heap.size w w2 := by rw [← hw2]; exact Lib.below_iterAt hbw (by omega) S _
      have hsz2 : w2.heap.size = wr.heap.size := by rw [← hw2, Lib.iterAt_size]
      clear hw2 hit hbw hst hne hr
      have HC := Lib.hid (HI.out (Utf8.decode S pos).1 w2 hbw2)
      generalize (Utf8.decode S pos).1 = r at *
      generalize (Utf8.decode S pos).2 = wd at *
      cases hb : isR (rng 0) r with
      | false =>
        rw [hb] at HC HST
        go_wp2_with fail
        (with_reducible refine HC.out.mono ?_)
        rintro e w3 ⟨rfl, hb3⟩
        go_wp2_with fail
        go_ret
        exact ⟨ret_bool (by rw [HE.out, ← HST.out]; rfl), hbw2.trans (hb3.mono hbw2.size)⟩
      | true =>
        rw [hb] at HC HST
        go_wp2_with fail
        (with_reducible refine HC.out.mono ?_)
        rintro e w3 ⟨rfl, hb3⟩
        have hit3 := (hb3.block w.heap.size (by omega)).trans hit2
        go_wp2_with fail
        go_roundw
        case rel => exact ⟨pos + wd, hit3, hbw2.trans (hb3.mono hbw2.size), by have := HST.out; rw [Bool.true_and] at this; exact this⟩
        case measure =>
          have e1 : w3.iterPos w.heap.size = pos + wd := by unfold World.iterPos; rw [hit3]
          have e2 : wr.iterPos w.heap.size = pos := by unfold World.iterPos; rw [HIT.out]
          rw [e1, e2]
          omega
    · have hnx : ∀ ty, (Instr.next (.pointer (some ⟨w.heap.size, 0, none⟩)) true ty).run Tryd.prog wr = _ := fun ty => Lib.run_next_end_at wr w.heap.size S pos ty hit hp
      have hst := hr.out
      rw [List.drop_of_length_le (by have := HZ.out; omega)] at hst
      have HST := Lib.hid hst
      clear hst hr
      go_wp2_with fail
      (with_reducible refine (HV.out _ hbw).mono ?_)
      rintro e w3 ⟨rfl, hb3⟩
      go_wp2_with fail
      go_ret
      exact ⟨ret_bool (by rw [HE.out, ← HST.out]; rfl), hbw.trans (hb3.mono hbw.size)⟩
end Go.Proofs.YtklpihaelaagpaaDoor

namespace Go.Proofs.YtklpihaelaagpaaDoor
open Go.RowKit

def listedAfter : List Nat → Array Bool → Array Bool
  | [], l => l
  | i :: is, l => listedAfter is (l.setIfInBounds i true)
def putU : List (Option Tmp) → Act → Act
  | [], a => a
  | d :: ds, a => putU ds (a.put d undef)
def skipOk (md : Region.Mode) (ops : Array Oper) : List Nat → List (Option Tmp) → Array Bool → Act → Bool
  | [], [], _, _ => true
  | i :: is, d :: ds, l, a => (match ops[i]? with
      | some o => o.dst == d && !(Region.wanted o (yielded ops a.tmps))
      | none => false) && Region.free md ops l i && (Region.ready md ops l).contains i && skipOk md ops is ds (l.setIfInBounds i true) (a.put d undef)
  | _, _, _, _ => false
theorem wpAnyH_skips {P : Program} {md : Region.Mode} {ops : Array Oper} {Q : Exit → Act → World → Prop} {S : World → Prop} {fuel : Nat} {w : World} (hs : Region.noSelect ops = true)
    (hQ : ∀ d c a w, Q (.panic c) (Act.put a d undef) w → Q (.panic c) a w) (hS : S w) :
    ∀ (is : List Nat) (ds : List (Option Tmp)) (n : Nat) (listed : Array Bool) (a : Act), is.length = n → skipOk md ops is ds listed a = true →
      wpAnyH P md ops Q S fuel (listedAfter is listed) (putU ds a) w → wpAnyH P md ops Q S (fuel + n) listed a w
  | [], [], n, listed, a, hn, _, h => by
    subst hn
    exact h
  | [], _ :: _, _, _, _, _, hk, _ => by simp [skipOk] at hk
  | _ :: _, [], _, _, _, _, hk, _ => by simp [skipOk] at hk
  | i :: is, d :: ds, n, listed, a, hn, hk, h => by
    subst hn
    unfold skipOk at hk
    simp only [Bool.and_eq_true] at hk
    obtain ⟨⟨⟨hk0, hk1⟩, hk2⟩, hk3⟩ := hk
    cases ho : ops[i]? with
    | none => rw [ho] at hk0; simp at hk0
    | some o =>
      rw [ho] at hk0
      simp only [Bool.and_eq_true, Bool.not_eq_true', beq_iff_eq] at hk0
      obtain ⟨rfl, hw⟩ := hk0
      exact wpAnyH_take (v := undef) (fuel := fuel + is.length) ho hs hk1 hk2 (hQ o.dst) (Or.inr ⟨hw, rfl⟩) hS (wpAnyH_skips hs hQ hS is ds is.length _ _ rfl hk3 h)
end Go.Proofs.YtklpihaelaagpaaDoor
