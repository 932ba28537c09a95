/-
  gimletlaw05.RefsReads: the walk.
-/
import Derived.Test.YthmngbbhbjkgkaaDoorRef05E
namespace Go.Proofs.YthmngbbhbjkgkaaDoor
open Go.RowKit

theorem readF_i32 (l : List UInt8) : 0 ≤ (readF l).1 ∧ (readF l).1 ≤ 1114111 := by
  have num : ∀ (base : Int) (_ : 0 ≤ base) (at' : Nat) (l : List UInt8) (i : Nat) (r : Int), 0 ≤ r → r ≤ 1114111 → 0 ≤ (numF base at' i r l).1 ∧ (numF base at' i r l).1 ≤ 1114111 := by
    intro base hb at' l
    induction l with
    | nil => intro i r _ _; simp [numF]
    | cons b l ih =>
      intro i r h0 h1
      simp only [numF]
      split
      · exact ⟨h0, h1⟩
      · split
        · simp
        · rename_i h2
          have := Int.mul_nonneg h0 hb
          have := (valD_bd b.toNat).1
          exact ih _ _ (by omega) (by omega)
  have nam : ∀ (l : List UInt8) (f m : Nat), 0 ≤ (namF l f m).1 ∧ (namF l f m).1 ≤ 1114111 := by
    intro l f
    induction f with
    | zero => intro m; simp [namF]
    | succ f ih =>
      intro m
      rw [namF_succ]
      split
      · split
        · rename_i h
          obtain ⟨v, hv⟩ := Option.isSome_iff_exists.1 h.1
          rw [hv]
          have hm : ∀ p ∈ nameL, 0 ≤ p.2 ∧ p.2 ≤ 1114111 := by decide
          unfold lookN at hv
          rw [Option.map_eq_some_iff] at hv
          obtain ⟨p, hp, rfl⟩ := hv
          exact hm p (List.mem_of_find?_eq_some hp)
        · split
          · simp
          · exact ih _
      · simp
  rcases l with _ | ⟨a, l⟩
  · simp [readF]
  · simp only [readF]
    split
    · rcases l with _ | ⟨b, u⟩
      · simp
      · simp only
        split
        · rcases u with _ | ⟨c, v⟩
          · simp
          · simp only
            split
            · exact num 16 (by decide) 3 v 3 0 (by decide) (by decide)
            · exact num 10 (by decide) 2 (c :: v) 2 0 (by decide) (by decide)
        · exact nam _ _ _
    · simp
theorem readF_how (l : List UInt8) : 0 ≤ (readF l).2.2 ∧ (readF l).2.2 ≤ 2 := by
  rcases readF_cut l with h | ⟨k, _, _, h, _⟩
  · have := h l.length (Nat.le_refl _)
    rw [List.take_length] at this
    rw [this]; simp
  · rcases h with ⟨r, h⟩ | h
    · rw [h]; simp
    · rw [h]; simp

set_option maxRecDepth 100000 in
set_option maxHeartbeats 4000000 in
theorem reads_any (a : Option Addr) (n c : Nat) (lb : List UInt8) (w : World) (hs : Sl w a n (u8s lb)) (hnc : n ≤ c) (hn : n ≤ 1073741824) (hR : RangesAt w 0) :
    Calls Tryd.prog 3 #[.slice a n c] w fun e w' => e = .returned (.bool true) ∧ Below w.heap.size w w' := by
  have HS := Lib.hid hs
  have HR := Lib.hid hR
  have HL : Hid (lb.length = n) := Lib.hid (by have := hs.len; rw [u8s_length] at this; omega)
  have HE := Lib.hid (ref_read lb)
  have hr1 := readF_i32 lb
  have hr2 := readF_how lb
  clear hs hR
  generalize ht : readF lb = t at *
  obtain ⟨t1, t2, t3⟩ := t
  have HT := Lib.hid ht
  clear ht
  obtain ⟨hr1, hr1'⟩ := hr1
  obtain ⟨hr2, hr2'⟩ := hr2
  simp only at hr1 hr1' hr2 hr2'
  go_enter Tryd.func3, Tryd.ntmps3
  go_wp2_with (at_builtin; go_must (refine wpList_copy (base := w.heap.size) (by rfl) _ _ (by rfl) _ _ [] (by rfl) (own_empty w w.heap.size (Nat.le_refl _) 5) a n c lb (by rfl) (HS.out.below ((Below.refl _ _).alloc (Nat.le_refl _) _)) (by omega) (by simp) (fun A1 C1 w2 ho1 hc1 hl1 hb2 => ?_)))
  rw [Nat.zero_add] at hc1 hl1
  have hbw2 := ((Below.refl w.heap.size w).alloc (Nat.le_refl _) (.cells #[] 5)).trans hb2
  have HL1 := Lib.hid hl1
  have HB2 := Lib.hid hbw2
  clear ho1 hb2
  refine (Read_any A1 n C1 lb w2 hl1 hc1 (by omega) (HR.out.below hbw2)).mono ?_
  rw [HT.out]
  rintro e w3 ⟨rfl, hb3⟩
  have b3 := hbw2.trans (hb3.mono hbw2.size)
  clear hl1 hbw2
  go_wp2_with fail
  refine (Read5_any a n c lb w3 (HS.out.below b3) hnc hn).mono ?_
  rw [HE.out]
  rintro e w4 ⟨rfl, hb4⟩
  have b4 := b3.trans (hb4.mono b3.size)
  have m4 := Below.tr hb3 hb4
  clear b3 hb3 hb4
  go_wp2_with fail
  refine (fixed_any w4 (HR.out.below b4)).mono ?_
  rintro e w5 ⟨rfl, hb5⟩
  have b5 := b4.trans (hb5.mono b4.size)
  have m5 := Below.tr m4 hb5
  have k1 := (HL1.out.below m5).str n (Nat.le_refl _) C1
  have k2 := (HS.out.below b5).str n (Nat.le_refl _) c
  clear b4 m4 hb5 m5
  go_wp2_with fail
  go_ret
  exact ⟨rfl, b5⟩
end Go.Proofs.YthmngbbhbjkgkaaDoor
