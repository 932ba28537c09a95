/-
  gimletref05.Plain.
-/
import Derived.Test.YtlomcmichbnkaaaGreatDoorRef02T
import Derived.Test.YtlomcmichbnkaaaGreatDoorPlainW
namespace Go.Proofs.YtlomcmichbnkaaaGreatDoor
open Go.RowKit

theorem plainR_fuel (f g : Nat) (l : List UInt8) (hf : l.length ≤ f) (hg : l.length ≤ g) : plainR f l = plainR g l := by rw [plain_ref f l hf, plain_ref g l hg]
theorem plainR_nil (f : Nat) : plainR f [] = some [] := by cases f <;> rfl
theorem plainR_cons (f : Nat) (x : UInt8) (t : List UInt8) : plainR (f + 1) (x :: t) = if x = 60 then none
    else if x ≠ 38 then (plainR f t).map (x :: ·)
    else if (readF (x :: t)).2.2 ≠ 0 then none
    else (plainR f ((x :: t).drop (readF (x :: t)).2.1.toNat)).map (encU (readF (x :: t)).1.toNat ++ ·) := rfl

set_option maxRecDepth 100000 in
set_option maxHeartbeats 4000000 in
theorem Plain5_any (l : List UInt8) (hl : l.length ≤ 1048576) (w : World) :
    Calls Tryz.prog 5 #[.string (strU l)] w fun e w' => RetP e (plainB l) ∧ Below w.heap.size w w' := by
  have HT := Lib.hid (Texts2_any l (by omega) w)
  cases hB : textsB l with
  | false =>
    rw [hB] at HT
    have e : plainB l = ([], 6) := by unfold plainB; rw [hB]; rfl
    rw [e]
    clear e hB
    generalize strU l = S at *
    go_enter Tryz.func5, Tryz.ntmps5
    go_wp2_with fail
    (with_reducible refine HT.out.mono ?_)
    rintro e w1 ⟨rfl, hb1⟩
    go_wp2_with fail
    go_ret2
    exact ⟨rfl, hb1⟩
  | true =>
    rw [hB] at HT
    obtain ⟨N, hN⟩ : ∃ N, N = l.length := ⟨_, rfl⟩
    have hsz : (strU l).size = N := by rw [strU_size, hN]
    have HE : Hid (plainB l = (match plainR N l with | some x => (x, 0) | none => ([], 6))) := Lib.hid (by unfold plainB; rw [hB, hN]; rfl)
    obtain ⟨PL, hPL⟩ : ∃ PL, PL = plainR N l := ⟨_, rfl⟩
    rw [← hPL] at HE
    have HPL := Lib.hid hPL
    have HN := Lib.hid hN
    have HIX : Hid (∀ (k : Nat) (h : k < l.length) (W : World), (Instr.index 9 (.string (strU l)) (.int .i64 k)).run Tryz.prog W = .ok (.int .u8 (l[k]).toNat) W) := Lib.hid fun k h W => run_index_str (P := Tryz.prog) 9 Tryz.underlying9 (strU l) k l[k] (by rw [strU_data]; exact List.getElem?_eq_getElem h) W
    have HX1 : Hid (∀ (k : Nat) (h : k < l.length), (strU l).extract k (k + 1) = strU [l[k]]) := Lib.hid fun k h => by rw [extU, Nat.add_sub_cancel_left, List.drop_eq_getElem_cons h]; rfl
    have HX2 : Hid (∀ (k : Nat), (strU l).extract k N = strU (l.drop k)) := Lib.hid fun k => by rw [extU, List.take_of_length_le (by rw [List.length_drop]; omega)]
    rw [← hN] at hl
    clear hPL hB hN
    generalize hS : strU l = S at *
    clear hS
    go_enter Tryz.func5, Tryz.ntmps5
    go_wp2_with fail
    (with_reducible refine HT.out.mono ?_)
    rintro e w1 ⟨rfl, hb1⟩
    go_wp2_with fail
    go_loopw [4, 5] (fun ov av wr => ∃ (o : List UInt8) (k : Nat), ov = .string (strU o) ∧ av = .int .i64 k ∧ k ≤ N ∧ o.length ≤ 4 * k ∧ Below w.heap.size w wr ∧ Hid ((plainR (N - k) (l.drop k)).map (o ++ ·) = PL)) (fun _ av _ => N - (intOf av).toNat)
    case atStart => exact ⟨[], 0, rfl, rfl, Nat.zero_le _, Nat.zero_le _, hb1, Lib.hid (by rw [HPL.out]; simp)⟩
    case round =>
      obtain ⟨o, k, rfl, rfl, hk, hok, hbr, hr⟩ := hrel
      by_cases hkN : k < N
      · have hkl : k < l.length := by rw [← HN.out]; exact hkN
        have hd := hr.out
        rw [show N - k = (N - (k + 1)) + 1 by omega, List.drop_eq_getElem_cons hkl, plainR_cons] at hd
        have hix := HIX.out k hkl
        have hx1 := HX1.out k hkl
        have hx2 := HX2.out k
        rw [List.drop_eq_getElem_cons hkl] at hx2
        have HTL : Hid ((l.drop (k + 1)).length = N - (k + 1)) := Lib.hid (by rw [List.length_drop, HN.out])
        have HDR : Hid (∀ j, (l.drop (k + 1)).drop j = l.drop (k + 1 + j)) := Lib.hid fun j => by rw [List.drop_drop]
        have hx256 : (l[k]).toNat < 256 := (l[k]).toNat_lt
        generalize l[k] = x at *
        generalize hT : l.drop (k + 1) = T at *
        have HT0 := Lib.hid hT
        clear hT
        by_cases h60 : x = 60
        · subst h60
          rw [if_pos rfl] at hd
          have HD : Hid (none = PL) := Lib.hid hd
          clear hd hr
          go_wp2_with fail
          go_ret2
          exact ⟨by rw [HE.out, ← HD.out]; rfl, hbr⟩
        · rw [if_neg h60] at hd
          have t60 : ((x.toNat : Int) == 60) = false := by
            simp only [beq_eq_false_iff_ne, ne_eq]; intro h; exact h60 (UInt8.toNat_inj.1 (by have : (60 : UInt8).toNat = 60 := rfl; omega))
          by_cases h38 : x = 38
          · subst h38
            rw [if_neg (by simp)] at hd
            have e38 : (38 : UInt8).toNat = 38 := rfl
            rw [e38] at hix t60
            have hcv := fun W => Lib.run_convert_string_bytes (P := Tryz.prog) W 9 31 5 (strU (38 :: T)) Tryz.underlying9 Tryz.underlying31 Tryz.underlying5
            have hWb := bytesW_below wr 5 (strU (38 :: T))
            have HB2 := Lib.hid (hbr.trans (hWb.mono hbr.size))
            have HRD := Lib.hid (Read5_any _ _ _ (38 :: T) _ (bytesW_sl wr 5 (strU (38 :: T))) (grownCap_ge wr _ 0 5) (by rw [strU_size]; have := HTL.out; simp; omega))
            rw [ref_read] at HRD
            have HRI := Lib.hid (read_inv T)
            clear hWb hbr hr h60
            by_cases h3 : (readF (38 :: T)).2.2 = 0
            · obtain ⟨j, hj, ej, _, q, hq, eq⟩ := HRI.out h3
              rw [if_neg (by simpa using h3), ej, eq, show ((j : Int) + 1).toNat = j + 1 by omega, show ((q : Int)).toNat = q by omega, List.drop_succ_cons, HDR.out] at hd
              rw [show readF (38 :: T) = ((q : Int), (j : Int) + 1, 0) from Prod.ext eq (Prod.ext ej h3)] at HRD
              have hjN : k + (j + 1) ≤ N := by have := HTL.out; omega
              have hd2 : (plainR (N - (k + (j + 1))) (l.drop (k + (j + 1)))).map ((o ++ encU q) ++ ·) = PL := by
                rw [← hd, Option.map_map, show k + 1 + j = k + (j + 1) by omega]
                rw [plainR_fuel (N - (k + 1)) (N - (k + (j + 1))) (l.drop (k + (j + 1))) (by rw [List.length_drop]; have := HN.out; omega) (by rw [List.length_drop]; have := HN.out; omega)]
                congr 1
                funext z
                simp
              have HD := Lib.hid hd2
              have HQ := Lib.hid (encN_ne q).2
              have hql : (encU q).length ≤ 4 := by have := (encN_ne q).2; simp [encU]; omega
              have hcat : ∀ W, (Op.stringOp .add (strU o) (strU (encU q))).run Tryz.prog W = .ok (.string (strU (o ++ encU q))) W := fun W => run_catU o (encU q) (by omega) (by omega) W
              have HBY := Lib.hid (Bytes_any q (chr_le hq))
              have ew : IntKind.i64.wrap ((k : Int) + ((j : Int) + 1)) = ((k + (j + 1) : Nat) : Int) := by rw [IntWalk.i64_in _ (by omega)]; omega
              clear hd hd2 h3 ej eq hq HRI hj
              generalize strU (38 :: T) = X at *
              generalize hSO : strU o = SO at *
              clear hSO
              go_wp2_with fail
              (with_reducible refine HRD.out.mono ?_)
              rintro e w2 ⟨rfl, hb2⟩
              have hb3 := HB2.out.trans (hb2.mono HB2.out.size)
              clear hb2 HRD HB2
              go_wp2_with fail
              (with_reducible refine (HBY.out _).mono ?_)
              rintro e w3 ⟨⟨a5, n5, c5, rfl, hsl⟩, hb4⟩
              have hb5 := hb3.trans (hb4.mono hb3.size)
              have hcb := run_bytes_str (P := Tryz.prog) (s := strU (encU q)) hsl 31 9 5 Tryz.underlying31 Tryz.underlying5 Tryz.underlying9 c5
              clear hb4 hsl hb3
              go_wp2_with fail
              go_roundw
              case rel => exact ⟨o ++ encU q, k + (j + 1), rfl, by go_num, hjN, by simp only [List.length_append]; omega, hb5, HD⟩
              case measure => simp [intOf]; omega
            · rw [if_pos (by simpa using h3)] at hd
              have HD : Hid (none = PL) := Lib.hid hd
              have t3 : ((readF (38 :: T)).2.2 != 0) = true := by simpa using h3
              clear hd h3 HRI
              generalize readF (38 :: T) = t at *
              obtain ⟨t1, t2, t4⟩ := t
              simp only at t3
              generalize strU (38 :: T) = X at *
              go_wp2_with fail
              (with_reducible refine HRD.out.mono ?_)
              rintro e w2 ⟨rfl, hb2⟩
              have hb3 := HB2.out.trans (hb2.mono HB2.out.size)
              clear hb2
              go_wp2_with fail
              go_ret2
              exact ⟨by rw [HE.out, ← HD.out]; rfl, hb3⟩
          · rw [if_pos h38] at hd
            have t38 : ((x.toNat : Int) != 38) = true := by
              simp only [bne_iff_ne, ne_eq]; intro h; exact h38 (UInt8.toNat_inj.1 (by have : (38 : UInt8).toNat = 38 := rfl; omega))
            have hcat : ∀ W, (Op.stringOp .add (strU o) (strU [x])).run Tryz.prog W = .ok (.string (strU (o ++ [x]))) W := fun W => run_catU o [x] (by omega) (by simp) W
            have hd2 : (plainR (N - (k + 1)) T).map ((o ++ [x]) ++ ·) = PL := by
              rw [← hd, Option.map_map]
              congr 1
              funext z
              simp
            have HD := Lib.hid hd2
            clear hd hd2 hr h60 h38 hx2
            generalize x.toNat = X at *
            generalize hSX : strU [x] = SX at *
            generalize hSO : strU o = SO at *
            clear hSX hSO
            go_wp2_with fail
            go_roundw
            case rel => exact ⟨o ++ [x], k + 1, rfl, by go_num, by omega, by simp; omega, hbr, Lib.hid (by rw [HT0.out]; exact HD.out)⟩
            case measure => simp [intOf]; omega
      · have hkN2 : N ≤ k := by omega
        have hd := hr.out
        rw [List.drop_of_length_le (by rw [← HN.out]; exact hkN2), plainR_nil] at hd
        have HD : Hid (some (o ++ []) = PL) := Lib.hid hd
        rw [List.append_nil] at HD
        clear hd hr hkN
        go_wp2_with fail
        go_ret2
        exact ⟨by rw [HE.out, ← HD.out]; rfl, hbr⟩
#print axioms Plain5_any
end Go.Proofs.YtlomcmichbnkaaaGreatDoor
