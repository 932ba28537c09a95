/-
  gimletlaw05.RefsCuts: the walk.
-/
import Derived.Test.YthmngbbhbjkgkaaDoorLawFix
import Derived.Test.YthmngbbhbjkgkaaDoorCutsP
import Derived.Test.YthmngbbhbjkgkaaDoorGenC
namespace Go.Proofs.YthmngbbhbjkgkaaDoor
open Go.RowKit

theorem own_sl' {w : World} {base : Nat} {e : TypeId} {v : Value} {n : Nat} {xs : List Value} (h : w.ownsRow base e 1 v n xs) :
    ∃ a c, v = .slice a n c ∧ n ≤ c ∧ Sl w a n xs := by
  obtain ⟨a, c, rfl, hs⟩ := own_sl h
  refine ⟨a, c, rfl, ?_, hs⟩
  rcases h.2 with ⟨e1, e2⟩ | ⟨g, cap, cur, e1, _, _, h5, _⟩
  · omega
  · injection e1 with _ _ e4; omega
theorem own_empty (w : World) (base : Nat) (hb : base ≤ w.heap.size) (e : TypeId) : (w.alloc (.cells #[] e)).ownsRow base e 1 (.slice (some ⟨w.heap.size, 0, none⟩) 0 0) 0 [] :=
  ⟨rfl, .inr ⟨w.heap.size, 0, #[], rfl, hb, heap_alloc_new w _, Nat.le_refl _, by unfold maxLen; omega, rfl, rfl⟩⟩
theorem u8s_append (l m : List UInt8) : u8s (l ++ m) = u8s l ++ u8s m := by simp [u8s]
theorem u8s_one (l : List UInt8) : ∀ u ∈ u8s l, u.oneCell' = true := by
  intro u hu
  obtain ⟨b, _, rfl⟩ := List.mem_map.1 hu
  rfl

theorem info_u8c : (Tryd.prog.info? 5).map (fun i => (i.zero, i.size, i.bytes)) = some (some (.int .u8 0), 1, 1) := by kernel_rfl
theorem Sl.take {w : World} {a : Option Addr} {n : Nat} {l : List UInt8} (h : Sl w a n (u8s l)) (i : Nat) (hi : i ≤ n) : Sl w a i (u8s (l.take i)) := by
  have hn : n = l.length := by have := h.len; rw [u8s_length] at this; exact this
  have hl : (l.take i).length = i := by rw [List.length_take]; omega
  refine ⟨by rw [u8s_length, hl], fun j hj => ?_⟩
  rw [u8s_length, hl] at hj
  obtain ⟨b, o, e, hlt, hc⟩ := h.cell j (by rw [u8s_length]; omega)
  refine ⟨b, o, e, hlt, ?_⟩
  rw [hc]
  simp [u8s]
/-- of a copy's append: what the walk goes on with -/
theorem wpList_copy {w : World} {ops : Array Oper} {rest : List Oper} {o : Oper} {a : Act} {Q : Exit → Act → World → Prop} (hgd : o.guard = none) (s x : Operand)
    (ho : o.op = .call { callee := .builtin .append, args := #[s, x], argTypes := #[22, 22] })
    (base : Nat) (v : Value) (n : Nat) (l : List UInt8) (hs : a.eval s = v) (hown : w.ownsRow base 5 1 v n (u8s l))
    (A : Option Addr) (m c : Nat) (news : List UInt8) (hx : a.eval x = .slice A m c) (hl : Sl w A m (u8s news))
    (hn : n + m ≤ 4294967296) (hbase : base ≤ w.heap.size)
    (h : ∀ A' C' w', w'.ownsRow base 5 1 (.slice A' (n + m) C') (n + m) (u8s (l ++ news)) → n + m ≤ C' → Sl w' A' (n + m) (u8s (l ++ news)) → Below base w w' → wpList Tryd.prog ops Q rest (a.put o.dst (.slice A' (n + m) C')) w') :
    wpList Tryd.prog ops Q (o :: rest) a w := by
  obtain ⟨i, hi, hz0, hz1, hz2⟩ : ∃ i, Tryd.prog.info? 5 = some i ∧ i.zero = some (.int .u8 0) ∧ i.size = 1 ∧ i.bytes = 1 := by
    have h := info_u8c
    cases hi : Tryd.prog.info? 5 with
    | none => rw [hi] at h; cases h
    | some i => rw [hi] at h; simp at h; exact ⟨i, rfl, h⟩
  have hlt := hown.lt
  refine wpList_app_sl w hgd s x 22 ho base 5 i (.int .u8 0) 1 Tryd.underlying22 hi hz0 hz1 hz2 rfl v n (u8s l) hs hown A m c (u8s news) hx hl (u8s_one news) hn (by decide) hbase fun v' w' h1 h2 => ?_
  rw [← u8s_append] at h1
  obtain ⟨A', C', rfl, h3, h4⟩ := own_sl' h1
  exact h A' C' w' h1 h3 h4 ((Below.refl base w).grown h2 hbase fun k hk => (hlt k hk).1)

set_option maxRecDepth 100000 in
set_option maxHeartbeats 4000000 in
theorem cuts_wait (a : Option Addr) (n c : Nat) (lb : List UInt8) (a2 : Option Addr) (m c2 : Nat) (lm : List UInt8) (w : World) (hs : Sl w a n (u8s lb)) (hs2 : Sl w a2 m (u8s lm)) (hn : n ≤ 1073741824) (hm : m ≤ 1073741824) (hR : RangesAt w 0)
    (t : Int × Int × Int) (h1 : readF lb = (0, 0, 1)) (h2 : readF (lb ++ lm) = t) (hj : ∀ j, j ≤ n → readF ((lb ++ lm).take j) = (0, 0, 1)) :
    Calls Tryd.prog 5 #[.slice a n c, .slice a2 m c2] w fun e w' => e = .returned (.bool true) ∧ Below w.heap.size w w' := by
  have HS := Lib.hid hs
  have HS2 := Lib.hid hs2
  have HR := Lib.hid hR
  have HL : Hid (lb.length = n) := Lib.hid (by have := hs.len; rw [u8s_length] at this; omega)
  have HLM : Hid ((lb ++ lm).length = n + m) := Lib.hid (by have := hs.len; have := hs2.len; rw [u8s_length] at *; rw [List.length_append]; omega)
  have H1 := Lib.hid h1
  have H2 := Lib.hid h2
  have HJ := Lib.hid hj
  clear hs hs2 hR h1 h2 hj
  go_enter Tryd.func5, Tryd.ntmps5
  go_wp2_with fail
  refine (fixed_any w HR.out).mono ?_
  rintro e w1 ⟨rfl, hb1⟩
  go_wp2_with (at_builtin; go_must (refine wpList_copy (base := w.heap.size) (by rfl) _ _ (by rfl) _ _ [] (by rfl) (own_empty w1 w.heap.size hb1.size 5) a n c lb (by rfl) (HS.out.below (hb1.alloc hb1.size _)) (by omega) (by simp; have := hb1.size; omega) (fun A1 C1 w2 ho1 hc1 hl1 hb2 => ?_)))
  rw [Nat.zero_add] at hc1 hl1
  have hbw2 := (hb1.alloc hb1.size (.cells #[] 5)).trans hb2
  refine (Read_any A1 n C1 lb w2 hl1 hc1 (by omega) (HR.out.below hbw2)).mono ?_
  rw [H1.out]
  rintro e w3 ⟨rfl, hb3'⟩
  have hb3 := hbw2.trans (hb3'.mono hbw2.size)
  clear hb1 hb2 hbw2 hb3' ho1 hl1 hc1
  go_wp2_with (at_builtin; first | (refine wpList_copy (base := w.heap.size) (by rfl) _ _ (by rfl) _ _ [] (by rfl) (own_empty w3 w.heap.size hb3.size 5) a n c lb (by rfl) (HS.out.below (hb3.alloc hb3.size _)) (by omega) (by simp; have := hb3.size; omega) (fun A4 C4 w4 ho4 hc4 hl4 hb4 => ?_); rw [Nat.zero_add] at ho4 hc4 hl4; have hb5 := (hb3.alloc hb3.size (.cells #[] 5)).trans hb4) | (go_must (refine wpList_copy (base := w.heap.size) (by rfl) _ _ (by rfl) _ _ lb (by rfl) ho4 a2 m c2 lm (by rfl) (HS2.out.below hb5) (by omega) hb5.size (fun A5 C5 w5 ho5 hc5 hl5 hb6 => ?_))))
  have hb7 := hb5.trans hb6
  clear hb3 hb4 hb5 hb6 ho4 hl4 hc4 ho5
  refine (Read_any A5 (n + m) C5 (lb ++ lm) w5 hl5 hc5 (by omega) (HR.out.below hb7)).mono ?_
  rw [H2.out]
  rintro e w6 ⟨rfl, hb6'⟩
  have hb8 := hb7.trans (hb6'.mono hb7.size)
  have hl8 := Lib.hid (hl5.below hb6')
  clear hb7 hb6' hl5
  go_wp2_with fail
  go_loopw [13] (fun ix wr => ∃ i : Nat, ix = .int .i64 i ∧ i ≤ n ∧ Below w.heap.size w wr ∧ Below w6.heap.size w6 wr) (fun ix _ => n - (intOf ix).toNat)
  case atStart => exact ⟨0, rfl, Nat.zero_le _, hb8, Below.refl _ _⟩
  case round =>
    obtain ⟨i, rfl, hi, hbr, hbr6⟩ := hrel
    by_cases hin : i < n
    · by_cases h40 : i < 40
      · obtain ⟨b, o, rfl, _, _⟩ := hl8.out.cell 0 (by rw [u8s_length, HLM.out]; omega)
        have hnn : i ≤ C5 := by omega
        go_wp2_with fail
        refine (Read_any _ i i ((lb ++ lm).take i) _ ((hl8.out.below hbr6).take i (by omega)) (Nat.le_refl _) (by omega) (HR.out.below hbr)).mono ?_
        rw [HJ.out i (by omega)]
        rintro e wz ⟨rfl, hbz⟩
        have hbz1 := hbr.trans (hbz.mono hbr.size)
        have hbz2 := Below.tr hbr6 hbz
        clear hbr hbr6 hbz
        go_wp2
        go_roundw
        case rel => exact ⟨i + 1, by go_num, by omega, hbz1, hbz2⟩
        case measure => simp [intOf]; omega
      · go_wp2_with fail
        go_ret
        exact ⟨rfl, hbr⟩
    · go_wp2_with fail
      go_ret
      exact ⟨rfl, hbr⟩
set_option maxRecDepth 100000 in
set_option maxHeartbeats 4000000 in
theorem cuts_have (a : Option Addr) (n c : Nat) (lb : List UInt8) (a2 : Option Addr) (m c2 : Nat) (lm : List UInt8) (w : World) (hs : Sl w a n (u8s lb)) (hs2 : Sl w a2 m (u8s lm)) (hn : n ≤ 1073741824) (hm : m ≤ 1073741824) (hR : RangesAt w 0)
    (r : Int) (nn : Nat) (hnn : nn ≤ n) (h1 : readF lb = (r, (nn : Int), 0)) (h2 : readF (lb ++ lm) = (r, (nn : Int), 0)) (hj : ∀ j, j < nn → readF ((lb ++ lm).take j) = (0, 0, 1)) :
    Calls Tryd.prog 5 #[.slice a n c, .slice a2 m c2] w fun e w' => e = .returned (.bool true) ∧ Below w.heap.size w w' := by
  have HS := Lib.hid hs
  have HS2 := Lib.hid hs2
  have HR := Lib.hid hR
  have HL : Hid (lb.length = n) := Lib.hid (by have := hs.len; rw [u8s_length] at this; omega)
  have HLM : Hid ((lb ++ lm).length = n + m) := Lib.hid (by have := hs.len; have := hs2.len; rw [u8s_length] at *; rw [List.length_append]; omega)
  have H1 := Lib.hid h1
  have H2 := Lib.hid h2
  have HJ := Lib.hid hj
  clear hs hs2 hR h1 h2 hj
  have hneg : decide ((nn : Int) < 0) = false := by simp
  have hgt : decide (n < nn) = false := by simp; omega
  go_enter Tryd.func5, Tryd.ntmps5
  go_wp2_with fail
  refine (fixed_any w HR.out).mono ?_
  rintro e w1 ⟨rfl, hb1⟩
  go_wp2_with (at_builtin; go_must (refine wpList_copy (base := w.heap.size) (by rfl) _ _ (by rfl) _ _ [] (by rfl) (own_empty w1 w.heap.size hb1.size 5) a n c lb (by rfl) (HS.out.below (hb1.alloc hb1.size _)) (by omega) (by simp; have := hb1.size; omega) (fun A1 C1 w2 ho1 hc1 hl1 hb2 => ?_)))
  rw [Nat.zero_add] at hc1 hl1
  have hbw2 := (hb1.alloc hb1.size (.cells #[] 5)).trans hb2
  refine (Read_any A1 n C1 lb w2 hl1 hc1 (by omega) (HR.out.below hbw2)).mono ?_
  rw [H1.out]
  rintro e w3 ⟨rfl, hb3'⟩
  have hb3 := hbw2.trans (hb3'.mono hbw2.size)
  clear hb1 hb2 hbw2 hb3' ho1 hl1 hc1
  go_wp2_with (at_builtin; first | (refine wpList_copy (base := w.heap.size) (by rfl) _ _ (by rfl) _ _ [] (by rfl) (own_empty w3 w.heap.size hb3.size 5) a n c lb (by rfl) (HS.out.below (hb3.alloc hb3.size _)) (by omega) (by simp; have := hb3.size; omega) (fun A4 C4 w4 ho4 hc4 hl4 hb4 => ?_); rw [Nat.zero_add] at ho4 hc4 hl4; have hb5 := (hb3.alloc hb3.size (.cells #[] 5)).trans hb4) | (go_must (refine wpList_copy (base := w.heap.size) (by rfl) _ _ (by rfl) _ _ lb (by rfl) ho4 a2 m c2 lm (by rfl) (HS2.out.below hb5) (by omega) hb5.size (fun A5 C5 w5 ho5 hc5 hl5 hb6 => ?_))))
  have hb7 := hb5.trans hb6
  clear hb3 hb4 hb5 hb6 ho4 hl4 hc4 ho5
  refine (Read_any A5 (n + m) C5 (lb ++ lm) w5 hl5 hc5 (by omega) (HR.out.below hb7)).mono ?_
  rw [H2.out]
  rintro e w6 ⟨rfl, hb6'⟩
  have hb8 := hb7.trans (hb6'.mono hb7.size)
  have hl8 := Lib.hid (hl5.below hb6')
  clear hb7 hb6' hl5
  go_wp2_with fail
  go_loopw [13] (fun ix wr => ∃ i : Nat, ix = .int .i64 i ∧ i ≤ nn ∧ Below w.heap.size w wr ∧ Below w6.heap.size w6 wr) (fun ix _ => nn - (intOf ix).toNat)
  case atStart => exact ⟨0, rfl, Nat.zero_le _, hb8, Below.refl _ _⟩
  case round =>
    obtain ⟨i, rfl, hi, hbr, hbr6⟩ := hrel
    by_cases hin : i < nn
    · by_cases h40 : i < 40
      · obtain ⟨b, o, rfl, _, _⟩ := hl8.out.cell 0 (by rw [u8s_length, HLM.out]; omega)
        have hnn : i ≤ C5 := by omega
        go_wp2_with fail
        refine (Read_any _ i i ((lb ++ lm).take i) _ ((hl8.out.below hbr6).take i (by omega)) (Nat.le_refl _) (by omega) (HR.out.below hbr)).mono ?_
        rw [HJ.out i (by omega)]
        rintro e wz ⟨rfl, hbz⟩
        have hbz1 := hbr.trans (hbz.mono hbr.size)
        have hbz2 := Below.tr hbr6 hbz
        clear hbr hbr6 hbz
        go_wp2
        go_roundw
        case rel => exact ⟨i + 1, by go_num, by omega, hbz1, hbz2⟩
        case measure => simp [intOf]; omega
      · go_wp2_with fail
        go_ret
        exact ⟨rfl, hbr⟩
    · go_wp2_with fail
      go_ret
      exact ⟨rfl, hbr⟩
set_option maxRecDepth 100000 in
set_option maxHeartbeats 4000000 in
theorem cuts_bad (a : Option Addr) (n c : Nat) (lb : List UInt8) (a2 : Option Addr) (m c2 : Nat) (lm : List UInt8) (w : World) (hs : Sl w a n (u8s lb)) (hs2 : Sl w a2 m (u8s lm)) (hn : n ≤ 1073741824) (hm : m ≤ 1073741824) (hR : RangesAt w 0)
    (nn : Nat) (hnn : nn < n) (h1 : readF lb = (0, (nn : Int), 2)) (h2 : readF (lb ++ lm) = (0, (nn : Int), 2)) (hj : ∀ j, j ≤ nn → readF ((lb ++ lm).take j) = (0, 0, 1)) :
    Calls Tryd.prog 5 #[.slice a n c, .slice a2 m c2] w fun e w' => e = .returned (.bool true) ∧ Below w.heap.size w w' := by
  have HS := Lib.hid hs
  have HS2 := Lib.hid hs2
  have HR := Lib.hid hR
  have HL : Hid (lb.length = n) := Lib.hid (by have := hs.len; rw [u8s_length] at this; omega)
  have HLM : Hid ((lb ++ lm).length = n + m) := Lib.hid (by have := hs.len; have := hs2.len; rw [u8s_length] at *; rw [List.length_append]; omega)
  have H1 := Lib.hid h1
  have H2 := Lib.hid h2
  have HJ := Lib.hid hj
  clear hs hs2 hR h1 h2 hj
  have hneg : decide ((nn : Int) < 0) = false := by simp
  have hgt : decide (n < nn) = false := by simp; omega
  go_enter Tryd.func5, Tryd.ntmps5
  go_wp2_with fail
  refine (fixed_any w HR.out).mono ?_
  rintro e w1 ⟨rfl, hb1⟩
  go_wp2_with (at_builtin; go_must (refine wpList_copy (base := w.heap.size) (by rfl) _ _ (by rfl) _ _ [] (by rfl) (own_empty w1 w.heap.size hb1.size 5) a n c lb (by rfl) (HS.out.below (hb1.alloc hb1.size _)) (by omega) (by simp; have := hb1.size; omega) (fun A1 C1 w2 ho1 hc1 hl1 hb2 => ?_)))
  rw [Nat.zero_add] at hc1 hl1
  have hbw2 := (hb1.alloc hb1.size (.cells #[] 5)).trans hb2
  refine (Read_any A1 n C1 lb w2 hl1 hc1 (by omega) (HR.out.below hbw2)).mono ?_
  rw [H1.out]
  rintro e w3 ⟨rfl, hb3'⟩
  have hb3 := hbw2.trans (hb3'.mono hbw2.size)
  clear hb1 hb2 hbw2 hb3' ho1 hl1 hc1
  go_wp2_with (at_builtin; first | (refine wpList_copy (base := w.heap.size) (by rfl) _ _ (by rfl) _ _ [] (by rfl) (own_empty w3 w.heap.size hb3.size 5) a n c lb (by rfl) (HS.out.below (hb3.alloc hb3.size _)) (by omega) (by simp; have := hb3.size; omega) (fun A4 C4 w4 ho4 hc4 hl4 hb4 => ?_); rw [Nat.zero_add] at ho4 hc4 hl4; have hb5 := (hb3.alloc hb3.size (.cells #[] 5)).trans hb4) | (go_must (refine wpList_copy (base := w.heap.size) (by rfl) _ _ (by rfl) _ _ lb (by rfl) ho4 a2 m c2 lm (by rfl) (HS2.out.below hb5) (by omega) hb5.size (fun A5 C5 w5 ho5 hc5 hl5 hb6 => ?_))))
  have hb7 := hb5.trans hb6
  clear hb3 hb4 hb5 hb6 ho4 hl4 hc4 ho5
  refine (Read_any A5 (n + m) C5 (lb ++ lm) w5 hl5 hc5 (by omega) (HR.out.below hb7)).mono ?_
  rw [H2.out]
  rintro e w6 ⟨rfl, hb6'⟩
  have hb8 := hb7.trans (hb6'.mono hb7.size)
  have hl8 := Lib.hid (hl5.below hb6')
  clear hb7 hb6' hl5
  go_wp2_with fail
  go_loopw [13] (fun ix wr => ∃ i : Nat, ix = .int .i64 i ∧ i ≤ nn ∧ Below w.heap.size w wr ∧ Below w6.heap.size w6 wr) (fun ix _ => nn - (intOf ix).toNat)
  case atStart => exact ⟨0, rfl, Nat.zero_le _, hb8, Below.refl _ _⟩
  case round =>
    obtain ⟨i, rfl, hi, hbr, hbr6⟩ := hrel
    by_cases hin : i < nn
    · by_cases h40 : i < 40
      · obtain ⟨b, o, rfl, _, _⟩ := hl8.out.cell 0 (by rw [u8s_length, HLM.out]; omega)
        have hnn : i ≤ C5 := by omega
        go_wp2_with fail
        refine (Read_any _ i i ((lb ++ lm).take i) _ ((hl8.out.below hbr6).take i (by omega)) (Nat.le_refl _) (by omega) (HR.out.below hbr)).mono ?_
        rw [HJ.out i (by omega)]
        rintro e wz ⟨rfl, hbz⟩
        have hbz1 := hbr.trans (hbz.mono hbr.size)
        have hbz2 := Below.tr hbr6 hbz
        clear hbr hbr6 hbz
        go_wp2
        go_roundw
        case rel => exact ⟨i + 1, by go_num, by omega, hbz1, hbz2⟩
        case measure => simp [intOf]; omega
      · obtain ⟨b, o, rfl, _, _⟩ := hl8.out.cell 0 (by rw [u8s_length, HLM.out]; omega)
        have hcc : nn ≤ C5 := by omega
        go_wp2_with fail
        refine (Read_any _ nn nn ((lb ++ lm).take nn) _ ((hl8.out.below hbr6).take nn (by omega)) (Nat.le_refl _) (by omega) (HR.out.below hbr)).mono ?_
        rw [HJ.out nn (Nat.le_refl _)]
        rintro e wz ⟨rfl, hbz⟩
        have hbz1 := hbr.trans (hbz.mono hbr.size)
        clear hbr hbr6 hbz
        go_wp2_with fail
        go_ret
        exact ⟨rfl, hbz1⟩
    · obtain ⟨b, o, rfl, _, _⟩ := hl8.out.cell 0 (by rw [u8s_length, HLM.out]; omega)
      have hcc : nn ≤ C5 := by omega
      go_wp2_with fail
      refine (Read_any _ nn nn ((lb ++ lm).take nn) _ ((hl8.out.below hbr6).take nn (by omega)) (Nat.le_refl _) (by omega) (HR.out.below hbr)).mono ?_
      rw [HJ.out nn (Nat.le_refl _)]
      rintro e wz ⟨rfl, hbz⟩
      have hbz1 := hbr.trans (hbz.mono hbr.size)
      clear hbr hbr6 hbz
      go_wp2_with fail
      go_ret
      exact ⟨rfl, hbz1⟩
theorem cuts_any (a : Option Addr) (n c : Nat) (lb : List UInt8) (a2 : Option Addr) (m c2 : Nat) (lm : List UInt8) (w : World) (hs : Sl w a n (u8s lb)) (hs2 : Sl w a2 m (u8s lm)) (hn : n ≤ 1073741824) (hm : m ≤ 1073741824) (hR : RangesAt w 0) :
    Calls Tryd.prog 5 #[.slice a n c, .slice a2 m c2] w fun e w' => e = .returned (.bool true) ∧ Below w.heap.size w w' := by
  have hl : lb.length = n := by have := hs.len; rw [u8s_length] at this; omega
  rcases readF_cut lb with hw | ⟨k, hk, hj, hr, hmm⟩
  · refine cuts_wait a n c lb a2 m c2 lm w hs hs2 hn hm hR _ ?_ rfl fun j hj => ?_
    · have := hw lb.length (Nat.le_refl _)
      rwa [List.take_length] at this
    · rw [List.take_append_of_le_length (by omega)]
      exact hw j (by omega)
  · rcases hr with ⟨r, e⟩ | e
    · have e' : readF lb = (r, ((k + 1 : Nat) : Int), 0) := by rw [e]; simp
      refine cuts_have a n c lb a2 m c2 lm w hs hs2 hn hm hR r (k + 1) (by omega) e' (by rw [hmm, e']) fun j hjk => ?_
      rw [List.take_append_of_le_length (by omega)]
      exact hj j (by omega)
    · have e' : readF lb = (0, (k : Int), 2) := by rw [e]; simp
      refine cuts_bad a n c lb a2 m c2 lm w hs hs2 hn hm hR k (by omega) e' (by rw [hmm, e']) fun j hjk => ?_
      rw [List.take_append_of_le_length (by omega)]
      exact hj j (by omega)
end Go.Proofs.YthmngbbhbjkgkaaDoor
