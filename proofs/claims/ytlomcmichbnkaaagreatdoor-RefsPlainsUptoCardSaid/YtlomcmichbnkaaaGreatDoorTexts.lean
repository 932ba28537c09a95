/-
  chars.Texts: are all characters allowed, and the bytes characters?
-/
import Derived.Test.YtlomcmichbnkaaaGreatDoorBackP
import Derived.Test.YtlomcmichbnkaaaGreatDoorValid
namespace Go.Proofs.YtlomcmichbnkaaaGreatDoor
open Go.RowKit

set_option maxRecDepth 100000 in
set_option maxHeartbeats 1000000 in
theorem Texts_any (l : List UInt8) (w : World) (hl : l.length ≤ 1073741824) (hR : RangesAt w 2) (hT : Lib.Utf8Tabs 0 1 w) :
    Calls Tryz.prog 7 #[.string (strU l)] w fun e w' => e = .returned (.bool (textsB l)) ∧ Below w.heap.size w w' := by
  have HR := Lib.hid hR
  have HT := Lib.hid hT
  have HV : Hid (∀ W, Below w.heap.size w W → Calls Tryz.prog 19 #[.string (strU l)] W fun e w' => e = .returned (.bool (Lib.validD l)) ∧ Below W.heap.size W w') := Lib.hid fun W hW => by
    have := Valid_any (strU l) W (by rw [strU_size]; omega) (Utf8Tabs_below HT.out hW)
    rw [strU_data] at this
    exact this
  have HI : Hid (∀ (r : Nat) W, Below w.heap.size w W → Calls Tryz.prog 18 #[.int .i64 0, .int .i32 r] W fun e w' => e = .returned (.bool (isR (rng 0) r)) ∧ Below W.heap.size W w') := Lib.hid fun r W hW => Is_any 0 (by decide) r W (HR.out.below hW)
  have HD : Hid (∀ pos, decL (l.drop pos) = Utf8.decode (strU l) pos) := Lib.hid (decL_str l)
  have HE : Hid (textsB l = (okL l && Lib.validD l)) := Lib.hid rfl
  have HZ : Hid ((strU l).size = l.length) := Lib.hid (strU_size l)
  clear hR hT HR HT
  generalize Lib.validD l = V at *
  generalize textsB l = T at *
  generalize hS : strU l = S at *
  have HS := Lib.hid hS
  clear hS
  go_enter Tryz.func7, Tryz.ntmps7
  go_wp2_with fail
  go_loopw [] (fun wr => ∃ pos, wr.heap[w.heap.size]? = some (.stringIter S pos) ∧ Below w.heap.size w wr ∧ Hid (okL (l.drop pos) = okL l)) (fun wr => S.size - wr.iterPos w.heap.size)
  case atStart => exact ⟨0, World.iter_heap _ _ _, (Below.refl _ _).alloc (Nat.le_refl _) _, rfl⟩
  case round =>
    obtain ⟨pos, hit, hbw, hr⟩ := hrel
    have hsz : w.heap.size < wr.heap.size := (Array.getElem?_eq_some_iff.1 hit).1
    by_cases hp : pos < S.size
    · have hnx : ∀ ty, (Instr.next (.pointer (some ⟨w.heap.size, 0, none⟩)) true ty).run Tryz.prog wr = _ := fun ty => Lib.run_next_any_at wr w.heap.size S pos ty hit hp
      have hwd := width_pos S pos hp
      have hst := hr.out
      have hne : l.drop pos ≠ [] := by
        intro h
        have := congrArg List.length h
        rw [List.length_drop] at this
        have := HZ.out
        simp at *; omega
      rw [okL_step _ hne, List.drop_drop, HD.out pos] at hst
      have HST := Lib.hid hst
      have HIT := Lib.hid hit
      generalize hw2 : wr.iterAt w.heap.size S (pos + (Utf8.decode S pos).2) = w2 at hnx
      have hit2 : w2.heap[w.heap.size]? = some (.stringIter S (pos + (Utf8.decode S pos).2)) := by rw [← hw2]; exact Lib.iterAt_heap wr w.heap.size S pos _ hit
      have hbw2 : Below w.heap.size w w2 := by rw [← hw2]; exact Lib.below_iterAt hbw (by omega) S _
      have hsz2 : w2.heap.size = wr.heap.size := by rw [← hw2, Lib.iterAt_size]
      clear hw2 hit hbw hst hne hr
      have HC := Lib.hid (HI.out (Utf8.decode S pos).1 w2 hbw2)
      generalize (Utf8.decode S pos).1 = r at *
      generalize (Utf8.decode S pos).2 = wd at *
      cases hb : isR (rng 0) r with
      | false =>
        rw [hb] at HC HST
        go_wp2_with fail
        (with_reducible refine HC.out.mono ?_)
        rintro e w3 ⟨rfl, hb3⟩
        go_wp2_with fail
        go_ret
        exact ⟨ret_bool (by rw [HE.out, ← HST.out]; rfl), hbw2.trans (hb3.mono hbw2.size)⟩
      | true =>
        rw [hb] at HC HST
        go_wp2_with fail
        (with_reducible refine HC.out.mono ?_)
        rintro e w3 ⟨rfl, hb3⟩
        have hit3 := (hb3.block w.heap.size (by omega)).trans hit2
        go_wp2_with fail
        go_roundw
        case rel => exact ⟨pos + wd, hit3, hbw2.trans (hb3.mono hbw2.size), by have := HST.out; rw [Bool.true_and] at this; exact this⟩
        case measure =>
          have e1 : w3.iterPos w.heap.size = pos + wd := by unfold World.iterPos; rw [hit3]
          have e2 : wr.iterPos w.heap.size = pos := by unfold World.iterPos; rw [HIT.out]
          rw [e1, e2]
          omega
    · have hnx : ∀ ty, (Instr.next (.pointer (some ⟨w.heap.size, 0, none⟩)) true ty).run Tryz.prog wr = _ := fun ty => Lib.run_next_end_at wr w.heap.size S pos ty hit hp
      have hst := hr.out
      rw [List.drop_of_length_le (by have := HZ.out; omega)] at hst
      have HST := Lib.hid hst
      clear hst hr
      go_wp2_with fail
      (with_reducible refine (HV.out _ hbw).mono ?_)
      rintro e w3 ⟨rfl, hb3⟩
      go_wp2_with fail
      go_ret
      exact ⟨ret_bool (by rw [HE.out, ← HST.out]; rfl), hbw.trans (hb3.mono hbw.size)⟩
#print axioms Texts_any
end Go.Proofs.YtlomcmichbnkaaaGreatDoor
