/-
  gimletref05.Read.
-/
import Derived.Test.YtlomcmichbnkaaaGreatDoorRef05D
import Derived.Test.YtlomcmichbnkaaaGreatDoorCopyG
namespace Go.Proofs.YtlomcmichbnkaaaGreatDoor
open Go.RowKit

def Ret3i (e : Ending) (t : Int × Int × Int) : Prop := e = .returned (.tuple #[.int .i64 t.1, .int .i64 t.2.1, .int .i64 t.2.2])
theorem Sl.str {w : World} {a : Option Addr} {n : Nat} {l : List UInt8} (h : Sl w a n (u8s l)) (k : Nat) (hk : k ≤ n) (c : Nat) :
    (convert 31 9 (.slice a k c)).run Tryz.prog w = .ok (.string (digS (l.take k))) w :=
  run_bytes_str (s := digS (l.take k)) (h.take k hk) 31 9 5 Tryz.underlying31 Tryz.underlying5 Tryz.underlying9 c

set_option maxRecDepth 100000 in
set_option maxHeartbeats 4000000 in
theorem Read5_any (a : Option Addr) (n c : Nat) (l : List UInt8) (w : World) (hs : Sl w a n (u8s l)) (hnc : n ≤ c) (hn : n ≤ 1073741824) :
    Calls Tryz.prog 15 #[.slice a n c] w fun e w' => Ret3i e (refR l l.length 0) ∧ Below w.heap.size w w' := by
  have HL : Hid (l.length = n) := Lib.hid (by have := hs.len; rw [u8s_length] at this; omega)
  have HS := Lib.hid hs
  clear hs
  go_enter Tryz.func15, Tryz.ntmps15
  go_wp2_with fail
  go_loopw [5] (fun ix wr => ∃ k : Nat, ix = .int .i64 k ∧ k ≤ n ∧ Below w.heap.size w wr ∧ Hid (refR l (n - k) k = refR l l.length 0)) (fun ix _ => n - (intOf ix).toNat)
  case atStart => exact ⟨0, rfl, Nat.zero_le _, Below.refl _ _, Lib.hid (by rw [HL.out]; rfl)⟩
  case round =>
    obtain ⟨k, rfl, hk, hbr, hr⟩ := hrel
    by_cases hkn : k < n
    · have hkl : k < l.length := by rw [HL.out]; exact hkn
      obtain ⟨b, o, rfl, hb, e0⟩ := (HS.out.below hbr).cell k (by rw [u8s_length]; exact hkl)
      have hd := hr.out
      rw [show n - k = (n - (k + 1)) + 1 by omega, refR_succ, dif_pos hkl] at hd
      simp only [u8s, List.getElem_map] at e0
      have hcs := (HS.out.below hbr).str (k + 1) (by omega) c
      have hpl : (l.take (k + 1)).length ≤ 1125899906842624 := by rw [List.length_take]; omega
      have hkc : k + 1 ≤ c := by omega
      have HB := Lib.hid (Begins_any (l.take (k + 1)) hpl)
      have HI := Lib.hid (Is5_any (l.take (k + 1)) hpl)
      have HCS := fun (w2 : World) (h : Below w.heap.size w w2) => (HS.out.below h).str (k + 1) (by omega) c
      have HCS := Lib.hid HCS
      generalize l.take (k + 1) = p at *
      have hx : l[k].toNat < 256 := l[k].toNat_lt
      have h59 : l[k].toNat = 59 ↔ l[k] = 59 := ⟨fun h => UInt8.toNat_inj.1 h, fun h => by rw [h]; rfl⟩
      rw [show (if l[k] = 59 then ((isS p).1, (k : Int) + 1, (0 : Int)) else refR l (n - (k + 1)) (k + 1)) = (if l[k].toNat = 59 then ((isS p).1, (k : Int) + 1, (0 : Int)) else refR l (n - (k + 1)) (k + 1)) by simp only [h59]] at hd
      clear h59
      generalize l[k].toNat = x at *
      have HD := Lib.hid hd
      clear hd hr hpl
      cases hB : begS p with
      | false =>
        rw [hB] at HB
        have HE : Hid (refR l l.length 0 = (0, (k : Int), 2)) := Lib.hid (by rw [← HD.out, if_pos hB])
        clear HD hB
        go_wp2_with fail
        (with_reducible refine (HB.out _).mono ?_)
        rintro e w1 ⟨rfl, hb1⟩
        have hb2 := hbr.trans (hb1.mono hbr.size)
        clear hb1 hbr
        go_wp2_with fail
        refine bodyPost_ret (results_tmp3 rfl _ _ _) rfl ?_
        exact ⟨by rw [HE.out]; rfl, hb2⟩
      | true =>
        rw [hB] at HB
        by_cases h59 : x = 59
        · have HE : Hid (refR l l.length 0 = ((isS p).1, (k : Int) + 1, 0)) := Lib.hid (by rw [← HD.out, if_neg (by rw [hB]; simp), if_pos h59])
          clear HD hB
          subst h59
          generalize isS p = q at *
          obtain ⟨q1, q2⟩ := q
          go_wp2_with fail
          (with_reducible refine (HB.out _).mono ?_)
          rintro e w1 ⟨rfl, hb1⟩
          have hb2 := hbr.trans (hb1.mono hbr.size)
          have e1 := (hb1.cell (p := ⟨b, o + k, none⟩) hb).trans e0
          have hcs1 := HCS.out w1 hb2
          clear hb1 hbr e0 hcs
          go_wp2_with fail
          (with_reducible refine (HI.out _).mono ?_)
          rintro e w2 ⟨rfl, hb3⟩
          have hb4 := hb2.trans (hb3.mono hb2.size)
          clear hb2 hb3 e1 hcs1
          go_wp2_with fail
          refine bodyPost_ret (results_tmp3 rfl _ _ _) rfl ?_
          exact ⟨by rw [HE.out]; rfl, hb4⟩
        · have HE : Hid (refR l (n - (k + 1)) (k + 1) = refR l l.length 0) := Lib.hid (by rw [← HD.out, if_neg (by rw [hB]; simp), if_neg h59])
          clear HD hB
          have hx59 : ((x : Int) == 59) = false := by simp; omega
          go_wp2_with fail
          (with_reducible refine (HB.out _).mono ?_)
          rintro e w1 ⟨rfl, hb1⟩
          have hb2 := hbr.trans (hb1.mono hbr.size)
          have e1 := (hb1.cell (p := ⟨b, o + k, none⟩) hb).trans e0
          clear hb1 hbr e0 hcs
          go_wp2_with fail
          go_roundw
          case rel => exact ⟨k + 1, by go_num, by omega, hb2, HE⟩
          case measure => simp [intOf]; omega
    · have HE : Hid (refR l l.length 0 = (0, 0, 1)) := Lib.hid (by rw [← hr.out, refR_end _ _ _ (by rw [HL.out]; omega)])
      clear hr
      go_wp2_with fail
      refine bodyPost_ret (results_tmp3 rfl _ _ _) rfl ?_
      exact ⟨by rw [HE.out]; rfl, hbr⟩
end Go.Proofs.YtlomcmichbnkaaaGreatDoor
