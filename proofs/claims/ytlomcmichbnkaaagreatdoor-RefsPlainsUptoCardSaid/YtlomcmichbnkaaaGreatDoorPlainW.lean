/-
  refs.Plain.
-/
import Derived.Test.YtlomcmichbnkaaaGreatDoorPlainP
import Derived.Test.YtlomcmichbnkaaaGreatDoorCutW
import Derived.Test.YtlomcmichbnkaaaGreatDoorTexts
import Derived.Test.YtlomcmichbnkaaaGreatDoorBuildR
import Derived.Test.YtlomcmichbnkaaaGreatDoorLawFix
import Derived.Lib.ConvBytes
namespace Go.Proofs.YtlomcmichbnkaaaGreatDoor
open Go.RowKit

theorem strU_add (l m : List UInt8) : strU l ++ strU m = strU (l ++ m) := by
  apply ByteArray.ext
  simp [strU]
theorem bytesV_strU (l : List UInt8) : bytesV (strU l) = u8s l := rfl
theorem strU_nil : strU [] = ⟨#[]⟩ := rfl
theorem ownsRowF_below {w w' : World} {B : Nat} {e : TypeId} {v : Value} {n : Nat} {xs : List Value} (h : w.ownsRowF B e 1 v n xs) (hb : Below w.heap.size w w') : w'.ownsRowF B e 1 v n xs := by
  obtain ⟨h1, h2⟩ := h
  refine ⟨h1, ?_⟩
  rcases h2 with h2 | ⟨g, cap, cur, fz, hv, hg, hh, r⟩
  · exact .inl h2
  · exact .inr ⟨g, cap, cur, fz, hv, hg, (hb.block g (heap_lt hh)).trans hh, r⟩
theorem IsB_below {B b : Nat} {bs : List Value} {w w' : World} (h : IsB B b bs w) (hb : Below w.heap.size w w') : IsB B b bs w' := by
  rcases h with ⟨hB, v, h1, h2, h3⟩ | ⟨hB, v, h1, h2, h3⟩
  · exact .inl ⟨hB, v, (hb.block b (heap_lt h1)).trans h1, ownsRowF_below h2 hb, h3⟩
  · exact .inr ⟨hB, v, (hb.block b (heap_lt h1)).trans h1, ownsRowF_below h2 hb, h3⟩
theorem run_catU {P : Program} (a b : List UInt8) (ha : a.length ≤ 8388608) (hb : b.length ≤ 8388608) (w : World) : (Op.stringOp .add (strU a) (strU b)).run P w = .ok (.string (strU (a ++ b))) w := by
  rw [run_string_add (P := P) w _ _ (by rw [strU_size]; omega) (by rw [strU_size]; omega), strU_add]
def RetP (e : Ending) (t : List UInt8 × Int) : Prop := e = .returned (.tuple #[.string (strU t.1), .int .i64 t.2])

set_option maxRecDepth 100000 in
set_option maxHeartbeats 4000000 in
theorem Plain_any (l : List UInt8) (hl : l.length ≤ 8388608) (w : World) (hR : RangesAt w 2) (hT : Lib.Utf8Tabs 0 1 w) :
    Calls Tryz.prog 4 #[.string (strU l)] w fun e w' => RetP e (plainA l) ∧ Below w.heap.size w w' := by
  have HT1 := Lib.hid (Texts_any l w (by omega) hR hT)
  have HR := Lib.hid hR
  clear hR hT
  by_cases hA : textsB l = true
  · rw [hA] at HT1
    by_cases hB : hasLt l = true
    · have e : plainA l = ([], 6) := by unfold plainA; rw [if_neg (by rw [hB]; simp)]
      rw [e]
      have HC := Lib.hid (contains_lt l)
      rw [hB] at HC
      clear e hA hB
      generalize strU l = S at *
      go_enter Tryz.func4, Tryz.ntmps4
      go_wp2_with fail
      (with_reducible refine HT1.out.mono ?_)
      rintro e w1 ⟨rfl, hb1⟩
      go_wp2_with fail
      (with_reducible refine (HC.out _).mono ?_)
      rintro e w2 ⟨rfl, rfl⟩
      go_wp2_with fail
      go_ret2
      exact ⟨rfl, hb1⟩
    · have hB : hasLt l = false := by simpa using hB
      have HC := Lib.hid (contains_lt l)
      rw [hB] at HC
      have e : plainA l = (match plainL (l.length + 1) l with | some x => (x, 0) | none => ([], 6)) := by
        unfold plainA; rw [if_pos ⟨hA, hB⟩]
        cases plainL (l.length + 1) l <;> rfl
      have HE := Lib.hid e
      clear e hA hB
      obtain ⟨N, hN⟩ : ∃ N, N = l.length := ⟨_, rfl⟩
      rw [← hN] at hl HE
      obtain ⟨PL, hPL⟩ : ∃ PL, PL = plainL (N + 1) l := ⟨_, rfl⟩
      rw [← hPL] at HE
      have HPL := Lib.hid hPL
      have HNL := Lib.hid hN
      clear hPL hN
      generalize hS : strU l = S at *
      have HS := Lib.hid hS
      clear hS
      go_enter Tryz.func4, Tryz.ntmps4
      go_wp2_with fail
      (with_reducible refine HT1.out.mono ?_)
      rintro e w1 ⟨rfl, hb1⟩
      go_wp2_with fail
      (with_reducible refine (HC.out _).mono ?_)
      rintro e w2 ⟨rfl, rfl⟩
      have hws := hb1.size
      have HB1 := Lib.hid hb1
      clear hb1 HC HT1
      go_wp2_with fail
      have HI := Lib.hid (isB_new w2 w.heap.size hws)
      obtain ⟨b, hb⟩ : ∃ b, b = w2.heap.size := ⟨_, rfl⟩
      rw [← hb] at HI ⊢
      have HB2 : Hid (Below w.heap.size w (w2.alloc (.cells #[.pointer none, .slice none 0 0] 33))) := Lib.hid (HB1.out.alloc hws _)
      generalize w2.alloc (.cells #[.pointer none, .slice none 0 0] 33) = w3 at *
      clear HB1 hws hb
      go_loopw [0] (fun sv wr => ∃ (p o : List UInt8) (f : Nat), sv = .string (strU p) ∧ IsB w.heap.size b (u8s o) wr ∧ Below w.heap.size w wr ∧ Hid ((plainL f p).map (o ++ ·) = PL) ∧ p.length < f ∧ o.length + 4 * p.length ≤ 4 * N) (fun sv _ => match sv with | .string s => s.size | _ => 0)
      case atStart => exact ⟨l, [], N + 1, by rw [HS.out], HI.out, HB2.out, Lib.hid (by rw [HPL.out]; simp), by have := HNL.out; omega, by have := HNL.out; simp; omega⟩
      case round =>
        obtain ⟨p, o, f, rfl, hI, hbr, hr, hpf, hop⟩ := hrel
        have hpl : p.length ≤ 8388608 := by omega
        have HCUT := Lib.hid (cut_amp p (by omega))
        have hcl := cutB_len p
        obtain ⟨f, rfl⟩ : ∃ g, f = g + 1 := ⟨f - 1, by omega⟩
        have hst := hr.out
        simp only [plainL] at hst
        have hp0 := strU_size p
        generalize cutB p = c at *
        obtain ⟨x, y, fd⟩ := c
        simp only at hst hcl HCUT
        have HI2 := Lib.hid hI
        have HBR := Lib.hid hbr
        have hws := hbr.size
        have HX : Hid (x.length + y.length + (if fd = true then 1 else 0) = p.length) := Lib.hid hcl
        have hxl : x.length ≤ p.length := by omega
        have hyl : y.length ≤ p.length := by omega
        clear hr hI hbr hcl
        cases fd with
        | false =>
          rw [if_pos rfl] at hst
          have HST := Lib.hid hst
          clear hst
          generalize strU p = P0 at *
          go_wp2_with fail
          (with_reducible refine (HCUT.out _).mono ?_)
          rintro e w4 ⟨rfl, n, rfl⟩
          have hd := Below.drewN (Below.refl wr.heap.size wr) n
          have HB4 := Lib.hid (HBR.out.trans (hd.mono hws))
          have HI4 := Lib.hid (IsB_below HI2.out hd)
          have hsz4 : wr.heap.size ≤ (wr.drewN n).heap.size := hd.size
          clear hd HI2 HBR HCUT
          generalize wr.drewN n = w4 at *
          have HW := Lib.hid (bwrite_any w.heap.size b o (strU x) w4 HI4.out (by rw [strU_size]; omega) (by omega))
          rw [strU_data] at HW
          generalize hXX : strU x = X at *
          go_wp2_with fail
          (with_reducible refine HW.out.mono ?_)
          rintro e w5 ⟨rfl, hI5, hb5⟩
          have HB5 := Lib.hid (HB4.out.trans hb5)
          have HSTR := Lib.hid (bstring_any w.heap.size b (o ++ x) w5 hI5 (by have := hb5.size; have := HB4.out.size; omega))
          clear hI5 hb5
          go_wp2_with fail
          (with_reducible refine HSTR.out.mono ?_)
          rintro e w6 ⟨rfl, _, hb6⟩
          have hb7 := HB5.out.trans hb6
          clear hb6
          go_wp2_with fail
          go_ret2
          exact ⟨by rw [HE.out, ← HST.out]; rfl, hb7⟩
        | true =>
          simp only [Bool.true_eq_false, if_false] at hst
          have HCAT := Lib.hid (fun W => run_catU (P := Tryz.prog) [38] y (by simp) (by omega) W)
          have HRI := Lib.hid (read_inv y)
          have HCV := Lib.hid (fun W => Lib.run_convert_string_bytes (P := Tryz.prog) W 9 31 5 (strU (38 :: y)) Tryz.underlying9 Tryz.underlying31 Tryz.underlying5)
          have HZ : Hid ((strU (38 :: y)).size = y.length + 1) := Lib.hid (by rw [strU_size]; rfl)
          have HRD : Hid (∀ W, Below w.heap.size w W → Calls Tryz.prog 12 #[.slice (some ⟨W.heap.size, 0, none⟩) (strU (38 :: y)).size (grownCap W (strU (38 :: y)).size 0 5)] (Lib.bytesWorld W 5 (strU (38 :: y))) fun e w' => Ret3 e (readF (38 :: y)) ∧ Below (Lib.bytesWorld W 5 (strU (38 :: y))).heap.size (Lib.bytesWorld W 5 (strU (38 :: y))) w') :=
            Lib.hid fun W hW => Read_any _ _ _ (38 :: y) _ (bytesW_sl W 5 (strU (38 :: y))) (grownCap_ge W _ 0 5) (by rw [strU_size]; simp; omega) (HR.out.below (hW.trans ((bytesW_below W 5 (strU (38 :: y))).mono hW.size)))
          have HST := Lib.hid hst
          clear hst
          generalize strU p = P0 at *
          go_wp2_with fail
          (with_reducible refine (HCUT.out _).mono ?_)
          rintro e w4 ⟨rfl, n, rfl⟩
          have hd := Below.drewN (Below.refl wr.heap.size wr) n
          have HB4 := Lib.hid (HBR.out.trans (hd.mono hws))
          have HI4 := Lib.hid (IsB_below HI2.out hd)
          clear hd HI2 HBR HCUT
          generalize wr.drewN n = w4 at *
          have hws4 := HB4.out.size
          have HW := Lib.hid (bwrite_any w.heap.size b o (strU x) w4 HI4.out (by rw [strU_size]; omega) (by omega))
          rw [strU_data] at HW
          generalize hXX : strU x = X at *
          go_wp2_with fail
          (with_reducible refine HW.out.mono ?_)
          rintro e w5 ⟨rfl, hI5, hb5⟩
          have HB5 := Lib.hid (HB4.out.trans hb5)
          have HI5 := Lib.hid hI5
          have hws5 := HB5.out.size
          clear hI5 hb5 HW HB4 HI4
          have hcat : ∀ W, (Op.stringOp .add ⟨#[38]⟩ (strU y)).run Tryz.prog W = .ok (.string (strU (38 :: y))) W := HCAT.out
          have hcv := HCV.out
          have hWb := bytesW_below w5 5 (strU (38 :: y))
          have HI6 := Lib.hid (IsB_below HI5.out hWb)
          have HB6 := Lib.hid (HB5.out.trans (hWb.mono hws5))
          have hws6 := HB6.out.size
          have HR5 := Lib.hid (HRD.out w5 HB5.out)
          clear hWb HRD HCV HCAT HB5 HI5
          by_cases h3 : (readF (38 :: y)).2.2 = 0
          · obtain ⟨k, hk, ek, _, q, hq, eq⟩ := HRI.out h3
            have hst := HST.out
            rw [if_pos h3, ek, eq, show ((k : Int) + 1).toNat - 1 = k by omega, show encI (q : Int) = encU q from enc_model q hq, Option.map_map] at hst
            have hst2 : (plainL f (y.drop k)).map ((o ++ (x ++ encU q)) ++ ·) = PL := by
              rw [← hst]
              congr 1
              funext z
              simp
            have HST2 := Lib.hid hst2
            rw [show readF (38 :: y) = ((q : Int), (k : Int) + 1, 0) from Prod.ext eq (Prod.ext ek h3)] at HR5
            have HQ := Lib.hid (encN_ne q).2
            have HCH := Lib.hid hq
            have eys : (strU y).extract k (strU y).size = strU (y.drop k) := by
              rw [extU, List.take_of_length_le (by rw [List.length_drop, strU_size]; exact Nat.le_refl _)]
            have hysz : (strU y).size = y.length := strU_size y
            have EYS := Lib.hid eys
            rw [hysz] at EYS
            have ew : IntKind.i64.wrap ((k : Int)) = (k : Int) := IntWalk.i64_in _ (by omega)
            have hYk : k ≤ (strU y).size := by omega
            have HYS := Lib.hid hysz
            have HK := Lib.hid hk
            clear HST hst hst2 eys hysz h3 ek eq hq HRI hk
            generalize strU (38 :: y) = Z at *
            generalize hYY : strU y = Y at *
            go_wp2_with fail
            (with_reducible refine HR5.out.mono ?_)
            rintro e w6 ⟨rfl, hb6⟩
            have HI7 := Lib.hid (IsB_below HI6.out hb6)
            have HB7 := Lib.hid (HB6.out.trans (hb6.mono hws6))
            have hws7 := HB7.out.size
            clear hb6 HR5 HI6 HB6 hcv hcat
            have HWR := Lib.hid (brune_any w.heap.size b (o ++ x) q HCH.out w6 HI7.out (by rw [List.length_append]; omega) hws7)
            go_wp2_with fail
            (with_reducible refine HWR.out.mono ?_)
            rintro e w7 ⟨⟨nn, rfl⟩, hI8, hb8⟩
            have HB8 := Lib.hid (HB7.out.trans hb8)
            have HI8 := Lib.hid hI8
            clear hI8 hb8 HWR HI7
            go_wp2_with fail
            go_roundw
            case rel =>
              refine ⟨y.drop k, o ++ (x ++ encU q), f, ?_, ?_, HB8.out, HST2, ?_, ?_⟩
              · rw [HYS.out, EYS.out]
              · have := HI8.out; rw [List.append_assoc] at this; exact this
              · have := HX.out; rw [List.length_drop]; simp at this; omega
              · have := HX.out
                have h4 := HQ.out
                have h5 : (encU q).length = (encN q).length := by simp [encU]
                simp only [List.length_append, List.length_drop, h5]
                simp at this
                omega
            case measure =>
              show (Y.extract k Y.size).size < P0.size
              have := HX.out
              rw [HYS.out, EYS.out, strU_size, List.length_drop, hp0]
              simp at this
              omega
          · have hst := HST.out
            rw [if_neg h3] at hst
            have HST2 : Hid (none = PL) := Lib.hid hst
            have t3 : ((readF (38 :: y)).2.2 != 0) = true := by simpa using h3
            clear HST hst h3 HRI
            generalize readF (38 :: y) = t at *
            obtain ⟨t1, t2, t4⟩ := t
            simp only at t3
            generalize strU (38 :: y) = Z at *
            generalize hYY : strU y = Y at *
            go_wp2_with fail
            (with_reducible refine HR5.out.mono ?_)
            rintro e w6 ⟨rfl, hb6⟩
            have hb7 := HB6.out.trans (hb6.mono hws6)
            go_wp2_with fail
            go_ret2
            exact ⟨by rw [HE.out, ← HST2.out]; rfl, hb7⟩
  · have hA : textsB l = false := by simpa using hA
    rw [hA] at HT1
    have e : plainA l = ([], 6) := by unfold plainA; rw [if_neg (by rw [hA]; simp)]
    rw [e]
    clear e hA
    generalize strU l = S at *
    go_enter Tryz.func4, Tryz.ntmps4
    go_wp2_with fail
    (with_reducible refine HT1.out.mono ?_)
    rintro e w1 ⟨rfl, hb1⟩
    go_wp2_with fail
    go_ret2
    exact ⟨rfl, hb1⟩
end Go.Proofs.YtlomcmichbnkaaaGreatDoor
