/-
  gimletlaw05.RefsGoOn: the walk.
-/
import Derived.Test.YthmngbbhbjkgkaaDoorLawCuts
import Derived.Test.YthmngbbhbjkgkaaDoorGoOnP
import Derived.Lib.AppendStr
namespace Go.Proofs.YthmngbbhbjkgkaaDoor
open Go.RowKit

theorem strCells_u8s (s : ByteArray) : Lib.strCells s = u8s s.data.toList := by
  simp [Lib.strCells, u8s]
/-- of an append of a string: what the walk goes on with -/
theorem wpList_copy_str {w : World} {ops : Array Oper} {rest : List Oper} {o : Oper} {a : Act} {Q : Exit → Act → World → Prop} (hgd : o.guard = none) (s x : Operand)
    (ho : o.op = .call { callee := .builtin .append, args := #[s, x], argTypes := #[22, 9] })
    (base : Nat) (v : Value) (n : Nat) (l : List UInt8) (hs : a.eval s = v) (hown : w.ownsRow base 5 1 v n (u8s l))
    (t : ByteArray) (hx : a.eval x = .string t)
    (hn : n + t.size ≤ 4294967296) (hbase : base ≤ w.heap.size)
    (h : ∀ A' C' w', w'.ownsRow base 5 1 (.slice A' (n + t.size) C') (n + t.size) (u8s (l ++ t.data.toList)) → n + t.size ≤ C' → Sl w' A' (n + t.size) (u8s (l ++ t.data.toList)) → Below base w w' → wpList Tryd.prog ops Q rest (a.put o.dst (.slice A' (n + t.size) C')) w') :
    wpList Tryd.prog ops Q (o :: rest) a w := by
  obtain ⟨i, hi, hz0, hz1, hz2⟩ : ∃ i, Tryd.prog.info? 5 = some i ∧ i.zero = some (.int .u8 0) ∧ i.size = 1 ∧ i.bytes = 1 := by
    have h := info_u8c
    cases hi : Tryd.prog.info? 5 with
    | none => rw [hi] at h; cases h
    | some i => rw [hi] at h; simp at h; exact ⟨i, rfl, h⟩
  have hlt := hown.lt
  refine Lib.wpList_append_own_string w hgd s x 22 9 ho base 5 i Tryd.underlying22 Tryd.underlying9 hi hz0 hz1 hz2 v n (u8s l) hs hown t hx (by unfold maxLen; omega) (by omega) hbase fun v' w' h1 h2 _ => ?_
  rw [strCells_u8s, ← u8s_append] at h1
  obtain ⟨A', C', rfl, h3, h4⟩ := own_sl' h1
  exact h A' C' w' h1 h3 h4 ((Below.refl base w).grown h2 hbase fun k hk => (hlt k hk).1)

def tailS (k : Nat) : ByteArray := ⟨(tails.getD k []).toArray⟩
def tailsV : Array Value := ((List.range 22).map fun k => Value.string (tailS k)).toArray
theorem tailS_data (k : Nat) : (tailS k).data.toList = tails.getD k [] := rfl
theorem tailS_size (k : Nat) : (tailS k).size = (tails.getD k []).length := by simp [tailS, ByteArray.size]
theorem tails_len : ∀ k, k < 22 → (tails.getD k []).length ≤ 5 := by decide

set_option maxRecDepth 100000 in
set_option maxHeartbeats 4000000 in
theorem goOn_wait (a : Option Addr) (n c : Nat) (lb : List UInt8) (w : World) (hs : Sl w a n (u8s lb)) (hn : n ≤ 1073741824) (hR : RangesAt w 0) (h1 : readF lb = (0, 0, 1))
    (kk : Nat) (hkk : kk < 22) (hm : (readF (lb ++ tails.getD kk [])).2 = ((lb.length : Int) + (tails.getD kk []).length, 0)) :
    Calls Tryd.prog 6 #[.slice a n c] w fun e w' => e = .returned (.bool true) ∧ Below w.heap.size w w' := by
  have HS := Lib.hid hs
  have HR := Lib.hid hR
  have HL : Hid (lb.length = n) := Lib.hid (by have := hs.len; rw [u8s_length] at this; omega)
  have H1 := Lib.hid h1
  have HM := Lib.hid hm
  clear hs hR h1 hm
  go_enter Tryd.func6, Tryd.ntmps6
  go_wp2_with fail
  refine (fixed_any w HR.out).mono ?_
  rintro e w1 ⟨rfl, hb1⟩
  go_wp2_with (at_builtin; go_must (refine wpList_copy (base := w.heap.size) (by rfl) _ _ (by rfl) _ _ [] (by rfl) (own_empty w1 w.heap.size hb1.size 5) a n c lb (by rfl) (HS.out.below (hb1.alloc hb1.size _)) (by omega) (by simp; have := hb1.size; omega) (fun A1 C1 w2 ho1 hc1 hl1 hb2 => ?_)))
  rw [Nat.zero_add] at hc1 hl1
  have hbw2 := (hb1.alloc hb1.size (.cells #[] 5)).trans hb2
  refine (Read_any A1 n C1 lb w2 hl1 hc1 (by omega) (HR.out.below hbw2)).mono ?_
  rw [H1.out]
  rintro e w3 ⟨rfl, hb3'⟩
  have hb3 := hbw2.trans (hb3'.mono hbw2.size)
  clear hb1 hb2 hbw2 hb3' ho1 hl1 hc1
  go_wp2_with fail
  go_loopw [31] (fun ix wr => ∃ k : Nat, ix = .int .i64 k ∧ k ≤ kk ∧ Below w.heap.size w wr ∧ w3.heap.size < wr.heap.size ∧ Hid (∀ j, j < 22 → wr.cell? ⟨w3.heap.size, j, none⟩ = some (.string (tailS j)))) (fun ix _ => 22 - (intOf ix).toNat)
  case atStart =>
    refine ⟨0, rfl, Nat.zero_le _, hb3.alloc hb3.size _, by simp, Lib.hid fun j hj => ?_⟩
    rw [cell_heap (heap_alloc_new w3 _)]
    iterate 22 (rcases j with _ | j; · rfl)
    omega
  case round =>
    obtain ⟨k, rfl, hk, hbr, hlt, HT⟩ := hrel
    have e0 := HT.out k (by omega)
    have hsz : (tailS k).size ≤ 5 := by rw [tailS_size]; exact tails_len k (by omega)
    have hmk : Hid (k = kk → (readF (lb ++ (tailS k).data.toList)).2 = ((n : Int) + (tailS k).size, 0)) := Lib.hid fun h => by
      subst h; rw [tailS_data, HM.out, tailS_size, HL.out]
    generalize tailS k = s at *
    generalize hq : readF (lb ++ s.data.toList) = q at *
    obtain ⟨q1, q2, q3⟩ := q
    have HQ := Lib.hid hq
    clear hq
    go_wp2_with (at_builtin; first | (refine wpList_copy (base := wr.heap.size) (by rfl) _ _ (by rfl) _ _ [] (by rfl) (own_empty wr wr.heap.size (Nat.le_refl _) 5) a n c lb (by rfl) (HS.out.below (hbr.alloc hbr.size _)) (by omega) (by simp) (fun A4 C4 w4 ho4 hc4 hl4 hb4 => ?_); rw [Nat.zero_add] at ho4 hc4 hl4; have hb5 := ((Below.refl wr.heap.size wr).alloc (Nat.le_refl _) (.cells #[] 5)).trans hb4) | (go_must (refine wpList_copy_str (base := wr.heap.size) (by rfl) _ _ (by rfl) _ _ lb (by rfl) ho4 s (by rfl) (by omega) hb5.size (fun A5 C5 w5 ho5 hc5 hl5 hb6 => ?_))))
    have hb7 := hb5.trans hb6
    have hb8 := hbr.trans (hb7.mono hbr.size)
    clear hb4 hb5 hb6 ho4 hl4 hc4 ho5
    refine (Read_any A5 (n + s.size) C5 (lb ++ s.data.toList) w5 hl5 hc5 (by omega) (HR.out.below hb8)).mono ?_
    rw [HQ.out]
    rintro e w6 ⟨rfl, hb6'⟩
    have hb9 := hb8.trans (hb6'.mono hb8.size)
    have hb10 := Below.tr hb7 hb6'
    clear hb7 hb8 hb6' hl5
    by_cases h3 : q3 = 0
    · subst h3
      by_cases h2 : q2 = (n : Int) + s.size
      · subst h2
        clear hb10 HT e0
        go_wp2_with fail
        go_ret
        exact ⟨rfl, hb9⟩
      · have hne : k ≠ kk := fun h => h2 (by have := hmk.out h; simp at this; exact this)
        have hkk1 : k + 1 ≤ kk := by omega
        have hltt : w3.heap.size < w6.heap.size := by have := hb10.size; omega
        have HT6 : Hid (∀ j, j < 22 → w6.cell? ⟨w3.heap.size, j, none⟩ = some (.string (tailS j))) := Lib.hid fun j hj => (hb10.cell (p := ⟨w3.heap.size, j, none⟩) hlt).trans (HT.out j hj)
        clear hb10 HT e0
        go_wp2_with fail
        go_roundw
        case rel => exact ⟨k + 1, by go_num, hkk1, hb9, hltt, HT6⟩
        case measure => simp [intOf]; omega
    · have hne : k ≠ kk := fun h => h3 (by have := hmk.out h; simp at this; exact this.2)
      have hkk1 : k + 1 ≤ kk := by omega
      have hltt : w3.heap.size < w6.heap.size := by have := hb10.size; omega
      have HT6 : Hid (∀ j, j < 22 → w6.cell? ⟨w3.heap.size, j, none⟩ = some (.string (tailS j))) := Lib.hid fun j hj => (hb10.cell (p := ⟨w3.heap.size, j, none⟩) hlt).trans (HT.out j hj)
      clear hb10 HT e0
      go_wp2_with fail
      go_roundw
      case rel => exact ⟨k + 1, by go_num, hkk1, hb9, hltt, HT6⟩
      case measure => simp [intOf]; omega
set_option maxRecDepth 100000 in
set_option maxHeartbeats 4000000 in
theorem goOn_other (a : Option Addr) (n c : Nat) (lb : List UInt8) (w : World) (hs : Sl w a n (u8s lb)) (hn : n ≤ 1073741824) (hR : RangesAt w 0) (r q h : Int) (hh : h = 0 ∨ h = 2) (h1 : readF lb = (r, q, h)) :
    Calls Tryd.prog 6 #[.slice a n c] w fun e w' => e = .returned (.bool true) ∧ Below w.heap.size w w' := by
  have HS := Lib.hid hs
  have HR := Lib.hid hR
  have HL : Hid (lb.length = n) := Lib.hid (by have := hs.len; rw [u8s_length] at this; omega)
  have H1 := Lib.hid h1
  clear hs hR h1
  go_enter Tryd.func6, Tryd.ntmps6
  go_wp2_with fail
  refine (fixed_any w HR.out).mono ?_
  rintro e w1 ⟨rfl, hb1⟩
  go_wp2_with (at_builtin; go_must (refine wpList_copy (base := w.heap.size) (by rfl) _ _ (by rfl) _ _ [] (by rfl) (own_empty w1 w.heap.size hb1.size 5) a n c lb (by rfl) (HS.out.below (hb1.alloc hb1.size _)) (by omega) (by simp; have := hb1.size; omega) (fun A1 C1 w2 ho1 hc1 hl1 hb2 => ?_)))
  rw [Nat.zero_add] at hc1 hl1
  have hbw2 := (hb1.alloc hb1.size (.cells #[] 5)).trans hb2
  refine (Read_any A1 n C1 lb w2 hl1 hc1 (by omega) (HR.out.below hbw2)).mono ?_
  rw [H1.out]
  rintro e w3 ⟨rfl, hb3'⟩
  have hb3 := hbw2.trans (hb3'.mono hbw2.size)
  rcases hh with rfl | rfl
  · go_wp2_with fail
    go_ret
    exact ⟨rfl, hb3⟩
  · go_wp2_with fail
    go_ret
    exact ⟨rfl, hb3⟩

theorem goOn_any (a : Option Addr) (n c : Nat) (lb : List UInt8) (w : World) (hs : Sl w a n (u8s lb)) (hn : n ≤ 1073741824) (hR : RangesAt w 0) :
    Calls Tryd.prog 6 #[.slice a n c] w fun e w' => e = .returned (.bool true) ∧ Below w.heap.size w w' := by
  rcases readF_cut lb with hw | ⟨k, _, _, hr, _⟩
  · have h1 := hw lb.length (Nat.le_refl _)
    rw [List.take_length] at h1
    obtain ⟨t, ht, e⟩ := goOn lb h1
    obtain ⟨kk, hkk, rfl⟩ := List.getElem_of_mem ht
    have hg : tails.getD kk [] = tails[kk] := by rw [List.getD_eq_getElem?_getD, List.getElem?_eq_getElem hkk]; rfl
    exact goOn_wait a n c lb w hs hn hR h1 kk hkk (by rw [hg]; exact e)
  · rcases hr with ⟨r, e⟩ | e
    · exact goOn_other a n c lb w hs hn hR _ _ _ (.inl rfl) e
    · exact goOn_other a n c lb w hs hn hR _ _ _ (.inr rfl) e
end Go.Proofs.YthmngbbhbjkgkaaDoor
