/-
  Package words: runes, ordered, Compare, Length.
-/
import Derived.Test.YtklpihaelaagpaaDoorProg
import Derived.Test.YtklpihaelaagpaaDoorLgA
import Derived.Test.YtklpihaelaagpaaDoorLgH
import Derived.Test.YtklpihaelaagpaaDoorLgC
namespace Go.Proofs.YtklpihaelaagpaaDoor
open Go.RowKit

set_option maxHeartbeats 400000 in
theorem ordered_any (a0 a1 : Option Addr) (n0 c0 n1 c1 : Nat) (xs ys : List Int) (w : World)
    (h0 : Sl w a0 n0 (xs.map (Value.int .i32))) (h1 : Sl w a1 n1 (ys.map (Value.int .i32))) (hm0 : n0 ≤ 1048576) :
    Calls Tryd.prog 75 #[.slice a0 n0 c0, .slice a1 n1 c1] w fun e w' => e = .returned (.int .i64 (cmpL xs ys)) ∧ ∃ n, w' = w.drewN n := by
  have HX : Hid (n0 = xs.length) := Lib.hid (by have := h0.len; simpa using this)
  have HY : Hid (n1 = ys.length) := Lib.hid (by have := h1.len; simpa using this)
  have H0 := Lib.hid h0
  have H1 := Lib.hid h1
  clear h0 h1
  go_enter Tryd.func75, Tryd.ntmps75
  go_wp2
  go_loopw [5] (fun i w' => ∃ k : Nat, k ≤ n0 ∧ k ≤ n1 ∧ i = .int .i64 k ∧ (∃ n, w' = w.drewN n) ∧ Hid (cmpL (xs.drop k) (ys.drop k) = cmpL xs ys)) (fun i _ => n0 - (intOf i).toNat)
  case atStart => exact ⟨0, Nat.zero_le _, Nat.zero_le _, rfl, ⟨0, rfl⟩, rfl⟩
  case round =>
    obtain ⟨k, hk0, hk1, rfl, ⟨n, rfl⟩, hr⟩ := hrel
    by_cases hlt : k < n0 ∧ k < n1
    · obtain ⟨hl0, hl1⟩ := hlt
      have l0 : k < xs.length := by rw [← HX.out]; exact hl0
      have l1 : k < ys.length := by rw [← HY.out]; exact hl1
      obtain ⟨b0, o0, rfl, _, e0⟩ := H0.out.cell k (by simpa using l0)
      obtain ⟨b1, o1, rfl, _, e1⟩ := H1.out.cell k (by simpa using l1)
      simp only [List.getElem_map] at e0 e1
      have hd := cmpL_drop xs ys k l0 l1
      rw [hr.out] at hd
      generalize xs[k] = x at e0 hd
      generalize ys[k] = y at e1 hd
      have HD := Lib.hid hd
      clear hd l0 l1
      have hd0 : decide ((k : Int) < n0) = true := by simp; omega
      have hd1 : decide ((k : Int) < n1) = true := by simp; omega
      go_wp2_with (go_quiet (fail))
      · have hlt : x < y := by assumption
        go_ret
        exact ⟨ret_int (by rw [HD.out, if_pos hlt]), _, by simp only [World.drewN_drewN]; rfl⟩
      · have hlt : y < x := by assumption
        go_ret
        exact ⟨ret_int (by rw [HD.out, if_neg (by omega), if_pos hlt]), _, by simp only [World.drewN_drewN]; rfl⟩
      · go_roundw
        case rel => exact ⟨k + 1, by omega, by omega, by go_num, ⟨_, rfl⟩, by rw [HD.out, if_neg (by omega), if_neg (by omega)]; rfl⟩
        case measure => simp [intOf]; omega
    · have hd := cmpL_end xs ys k (by rw [← HX.out, ← HY.out]; exact hlt) (by rw [← HX.out]; exact hk0) (by rw [← HY.out]; exact hk1)
      rw [hr.out, ← HX.out, ← HY.out] at hd
      have HD := Lib.hid hd
      clear hd
      go_wp2
      all_goals (go_ret; refine ⟨ret_int ?_, _, rfl⟩; rw [HD.out]; (repeat (first | rw [if_pos (by omega)] | rw [if_neg (by omega)])))

set_option maxHeartbeats 400000 in
theorem Length_any (s : ByteArray) (w : World) (hs : s.size ≤ 1048576) :
    Calls Tryd.prog 66 #[.string s] w fun e w' => e = .returned (.int .i64 ((runesOf s).length : Int)) ∧ Below w.heap.size w w' := by
  go_enter Tryd.func66, Tryd.ntmps66
  go_wp2
  go_loopw [3] (fun n w' => ∃ (pos k : Nat), w' = w.iter s pos ∧ n = .int .i64 k ∧ Hid (k + (runesAt s pos).length = (runesOf s).length)) (fun _ w' => s.size - w'.iterPos w.heap.size)
  case atStart => exact ⟨0, 0, rfl, rfl, by rw [runesAt_zero]; exact Nat.zero_add _⟩
  case round =>
    obtain ⟨pos, k, rfl, rfl, hr⟩ := hrel
    by_cases hp : pos < s.size
    · have hnx : ∀ ty, (Instr.next (.pointer (some ⟨w.heap.size, 0, none⟩)) true ty).run Tryd.prog (w.iter s pos) = _ := fun ty => run_next_any w s pos ty hp
      have hwd := width_pos s pos hp
      have hst := hr.out
      rw [runesAt_step s pos hp, List.length_cons] at hst
      have hkb : k + 1 ≤ s.size := by have := runesOf_length s; omega
      have HST := Lib.hid hst
      clear hst
      go_wp2
      go_roundw
      case rel =>
        refine ⟨pos + (Utf8.decode s pos).2, k + 1, rfl, by go_num, ?_⟩
        have := HST.out
        show _ = _
        omega
      case measure =>
        simp
        omega
    · have hnx : ∀ ty, (Instr.next (.pointer (some ⟨w.heap.size, 0, none⟩)) true ty).run Tryd.prog (w.iter s pos) = _ := fun ty => run_next_end w s pos ty hp
      go_wp2
      go_ret
      refine ⟨ret_int ?_, ?_⟩
      · have := hr.out
        rw [runesAt_end s pos hp] at this
        rw [← this]; simp
      · exact (Below.refl _ _).alloc (Nat.le_refl _) _

def RetB (e : Ending) (w : World) (xs : List Value) : Prop := ∃ g n c, e = .returned (.slice (some ⟨g, 0, none⟩) n c) ∧ n ≤ c ∧ Sl w (some ⟨g, 0, none⟩) n xs
theorem info_rune : (Tryd.prog.info? 21).map (fun i => (i.zero, i.size, i.bytes)) = some (some (.int .i32 0), 1, 4) := by kernel_rfl

set_option maxHeartbeats 400000 in
set_option maxRecDepth 100000 in
theorem runes_box (s : ByteArray) (w : World) (hs : s.size ≤ 1048576) :
    Calls Tryd.prog 76 #[.string s] w fun e w' => RetB e w' ((runesOf s).map (Value.int .i32)) ∧ Below w.heap.size w w' := by
  obtain ⟨i0, hi, hz0, hz1, hz2⟩ := info_parts info_rune
  go_enter Tryd.func76, Tryd.ntmps76
  go_wp2_with (at_make; refine wpList_make_own _ rfl _ _ 101 rfl w.heap.size 21 i0 (.int .i32 0) 1 Tryd.underlying101 hi hz0 hz1 .i64 .i64 s.size s.size rfl rfl rfl (by rw [hz2]; omega) (by unfold maxLen; omega) (Nat.le_refl _) ?_; intro w1 hown1 hgrow1)
  have hb1 : Below w.heap.size w w1 := (Below.refl _ _).grown hgrow1 (Nat.le_refl _) (by intro k hk; cases hk)
  have hlt1 := hown1.lt _ rfl
  go_loopw [3] (fun v wr => ∃ (pos n : Nat) (l : List Int), wr.heap[w1.heap.size]? = some (.stringIter s pos) ∧ Below w.heap.size w wr ∧ wr.ownsRow w.heap.size 21 1 v n (l.map (Value.int .i32)) ∧ Hid (v.ownBlock ≠ some w1.heap.size) ∧ Hid (∃ g c, v = .slice (some ⟨g, 0, none⟩) n c ∧ n ≤ c) ∧ Hid (l ++ runesAt s pos = runesOf s) ∧ Hid (l.length = n)) (fun _ wr => s.size - wr.iterPos w1.heap.size)
  case atStart =>
    refine ⟨0, 0, [], World.iter_heap _ _ _, hb1.alloc hb1.size _, hown1.alloc _, ?_, Lib.hid ⟨_, _, rfl, Nat.zero_le _⟩, ?_, rfl⟩
    · intro hk; injection hk with hk; have := hlt1.2; simp at hk; omega
    · show _ = _; rw [runesAt_zero]; rfl
  case round =>
    obtain ⟨pos, n, l, hit, hbw, hown, hne, HVS, hr, hln⟩ := hrel
    have hsz : w1.heap.size < wr.heap.size := (Array.getElem?_eq_some_iff.1 hit).1
    by_cases hp : pos < s.size
    · have hnx : ∀ ty, (Instr.next (.pointer (some ⟨w1.heap.size, 0, none⟩)) true ty).run Tryd.prog wr = _ := fun ty => Lib.run_next_any_at wr w1.heap.size s pos ty hit hp
      have hwd := width_pos s pos hp
      have hst := hr.out
      have hll := hln.out
      rw [runesAt_step s pos hp] at hst
      have hnb : n + 1 ≤ s.size := by
        have h1 := runesOf_length s
        rw [← hst] at h1
        simp at h1
        omega
      have HST := Lib.hid hst
      have HIT := Lib.hid hit
      clear hst hll
      generalize hw2 : wr.iterAt w1.heap.size s (pos + (Utf8.decode s pos).2) = w2 at hnx
      have hit2 : w2.heap[w1.heap.size]? = some (.stringIter s (pos + (Utf8.decode s pos).2)) := by rw [← hw2]; exact Lib.iterAt_heap wr w1.heap.size s pos _ hit
      have hbw2 : Below w.heap.size w w2 := by rw [← hw2]; exact Lib.below_iterAt hbw (by omega) s _
      have hown2 := own_block (w' := w2) hown (fun k hk => by rw [← hw2]; exact Lib.iterAt_other wr w1.heap.size k s _ (fun e => hne.out (by rw [hk, e])))
      have hsz2 : w2.heap.size = wr.heap.size := by rw [← hw2, Lib.iterAt_size]
      clear hw2 hit hbw hown
      have hsz3 : w1.heap.size < w2.heap.size := by omega
      have hsz4 : w.heap.size ≤ w2.heap.size := by have := hb1.size; omega
      clear hsz2
      go_wp2_with (at_builtin; refine wpList_app w2 rfl _ _ 101 (by rfl) w.heap.size 21 i0 (.int .i32 0) 1 4 Tryd.underlying101 hi hz0 hz1 hz2 rfl (by decide) _ n _ (by rfl) hown2 _ rfl 1 [.int .i32 (Utf8.decode s pos).1] (by rfl) rfl (by simp [Value.oneCell']) (by omega) (by decide) hsz4 (fun v3 w3 hown3 happ3 => ?_))
      have hbl := hown2.lt
      have hk3 := happ3.keep (k := w1.heap.size) (by simp; omega) hne.out
      have hn3 := happ3.ne (k := w1.heap.size) (by simp; omega) hne.out
      have hb3 := (hbw2.alloc (Nat.le_trans hsz4 (Nat.le_refl _)) (.cells #[.int .i32 (Utf8.decode s pos).1] 21)).trans (happ3.below (by simp; omega) (fun k hk => (hbl k hk).1))
      go_roundw
      case rel =>
        refine ⟨pos + (Utf8.decode s pos).2, n + 1, l ++ [((Utf8.decode s pos).1 : Int)], ?_, hb3, by simpa using hown3, hn3, Lib.hid (by obtain ⟨g, c, e1, e2, _⟩ := own_some hown3; exact ⟨g, c, e1, e2⟩), ?_, ?_⟩
        · rw [hk3, Below.heap_alloc _ _ _ (by omega)]; exact hit2
        · show _ = _; rw [← HST.out]; simp
        · show _ = _; rw [← hln.out]; simp
      case measure =>
        have e1 : w3.iterPos w1.heap.size = pos + (Utf8.decode s pos).2 := by
          unfold World.iterPos; rw [hk3, Below.heap_alloc _ _ _ (by omega), hit2]
        have e2 : wr.iterPos w1.heap.size = pos := by unfold World.iterPos; rw [HIT.out]
        rw [e1, e2]
        omega
    · have hnx : ∀ ty, (Instr.next (.pointer (some ⟨w1.heap.size, 0, none⟩)) true ty).run Tryd.prog wr = _ := fun ty => Lib.run_next_end_at wr w1.heap.size s pos ty hit hp
      have hst := hr.out
      rw [runesAt_end s pos hp, List.append_nil] at hst
      subst hst
      go_wp2
      go_ret
      obtain ⟨a, c, e1, hsl⟩ := own_sl hown
      obtain ⟨g, c', e2, hnc⟩ := HVS.out
      rw [e2] at e1
      cases e1
      exact ⟨⟨g, n, _, e2 ▸ rfl, hnc, hsl⟩, hbw⟩

theorem runes_any (s : ByteArray) (w : World) (hs : s.size ≤ 1048576) :
    Calls Tryd.prog 76 #[.string s] w fun e w' => RetSl e w' ((runesOf s).map (Value.int .i32)) ∧ Below w.heap.size w w' :=
  (runes_box s w hs).mono fun _ _ ⟨⟨_, n, c, h1, _, h3⟩, hb⟩ => ⟨⟨_, n, c, h1, h3⟩, hb⟩

set_option maxHeartbeats 400000 in
theorem Compare_any (s t : ByteArray) (w : World) (hs : s.size ≤ 1048576) (ht : t.size ≤ 1048576) :
    Calls Tryd.prog 62 #[.string s, .string t] w fun e w' => e = .returned (.int .i64 (cmpL (runesOf s) (runesOf t))) ∧ Below w.heap.size w w' := by
  go_enter Tryd.func62, Tryd.ntmps62
  go_wp2_with fail
  refine (runes_any s _ hs).mono ?_
  rintro e w1 ⟨⟨a, n, c, rfl, h1⟩, b1⟩
  go_wp2_with fail
  refine (runes_any t _ ht).mono ?_
  rintro e w2 ⟨⟨a2, n2, c2, rfl, h2⟩, b2⟩
  have h1' := h1.below b2
  have hn : n ≤ 1048576 := by have := h1.len; have := runesOf_length s; simp at *; omega
  go_wp2_with fail
  refine (ordered_any a a2 n c n2 c2 _ _ _ h1' h2 hn).mono ?_
  rintro e w3 ⟨rfl, m, rfl⟩
  go_wp2_with fail
  go_ret
  exact ⟨rfl, Below.drewN (Below.tr b1 b2) m⟩
end Go.Proofs.YtklpihaelaagpaaDoor

namespace Go.Proofs.YtklpihaelaagpaaDoor
open Go.RowKit

def i32s (l : List Int) : List Value := l.map (Value.int .i32)
theorem i32s_len (l : List Int) : (i32s l).length = l.length := by simp [i32s]
theorem Sl.head {w : World} {a : Option Addr} {n : Nat} {xs : List Value} (h : Sl w a n xs) (k : Nat) (hk : k ≤ n) : Sl w a k (xs.take k) := by
  have hn := h.len
  refine ⟨by rw [List.length_take]; omega, fun i hi => ?_⟩
  rw [List.length_take] at hi
  obtain ⟨b, o, e, hlt, hc⟩ := h.cell i (by omega)
  exact ⟨b, o, e, hlt, by rw [List.getElem_take]; exact hc⟩
theorem Sl.tail {w : World} {b o n : Nat} {xs : List Value} (h : Sl w (some ⟨b, o, none⟩) n xs) (k : Nat) (hk : k ≤ n) : Sl w (some ⟨b, o + k, none⟩) (n - k) (xs.drop k) := by
  have hn := h.len
  refine ⟨by rw [List.length_drop]; omega, fun i hi => ?_⟩
  rw [List.length_drop] at hi
  obtain ⟨b', o', e, hlt, hc⟩ := h.cell (k + i) (by omega)
  cases e
  refine ⟨b, o + k, rfl, hlt, ?_⟩
  rw [List.getElem_drop, show o + k + i = o + (k + i) by omega]; exact hc
theorem i32s_take (l : List Int) (k : Nat) : (i32s l).take k = i32s (l.take k) := by simp [i32s, List.map_take]
theorem i32s_drop (l : List Int) (k : Nat) : (i32s l).drop k = i32s (l.drop k) := by simp [i32s, List.map_drop]

set_option maxHeartbeats 1000000 in
theorem alike_any (a0 a1 : Option Addr) (n0 c0 n1 c1 : Nat) (xs ys : List Int) (w : World)
    (h0 : Sl w a0 n0 (i32s xs)) (h1 : Sl w a1 n1 (i32s ys)) (hm0 : n0 ≤ 1048576) :
    Calls Tryd.prog 77 #[.slice a0 n0 c0, .slice a1 n1 c1] w fun e w' => e = .returned (.bool (decide (xs = ys))) ∧ ∃ n, w' = w.drewN n := by
  have HX : Hid (n0 = xs.length) := Lib.hid (by have := h0.len; rw [i32s_len] at this; exact this)
  have HY : Hid (n1 = ys.length) := Lib.hid (by have := h1.len; rw [i32s_len] at this; exact this)
  have H0 := Lib.hid h0
  have H1 := Lib.hid h1
  clear h0 h1
  by_cases hne : n0 = n1
  rotate_left
  · have hd : decide (xs = ys) = false := decide_eq_false fun e => hne (by rw [HX.out, HY.out, e])
    rw [hd]
    have q : ((n0 : Int) != n1) = true := by simp; omega
    have q2 : ((n0 : Int) == n1) = false := by simp; omega
    clear hd
    go_enter Tryd.func77, Tryd.ntmps77
    go_wp2_with fail
    go_ret
    exact ⟨rfl, 0, rfl⟩
  subst hne
  have q : ((n0 : Int) != n0) = false := by simp
  have q2 : ((n0 : Int) == n0) = true := by simp
  go_enter Tryd.func77, Tryd.ntmps77
  go_wp2_with fail
  go_loopw [13] (fun i w' => ∃ k : Nat, k ≤ n0 ∧ i = .int .i64 k ∧ (∃ n, w' = w.drewN n) ∧ Hid (∀ j, j < k → xs[j]? = ys[j]?)) (fun i _ => n0 - (intOf i).toNat)
  case atStart => exact ⟨0, Nat.zero_le _, rfl, ⟨0, rfl⟩, Lib.hid fun j h => absurd h (Nat.not_lt_zero _)⟩
  case round =>
    obtain ⟨k, hk0, rfl, ⟨n, rfl⟩, hr⟩ := hrel
    by_cases hlt : k < n0
    · have l0 : k < xs.length := by rw [← HX.out]; exact hlt
      have l1 : k < ys.length := by rw [← HY.out]; exact hlt
      obtain ⟨b0, o0, rfl, _, e0⟩ := H0.out.cell k (by rw [i32s_len]; exact l0)
      obtain ⟨b1, o1, rfl, _, e1⟩ := H1.out.cell k (by rw [i32s_len]; exact l1)
      simp only [i32s, List.getElem_map] at e0 e1
      have HXK : Hid (xs[k]? = some xs[k]) := Lib.hid (List.getElem?_eq_getElem l0)
      have HYK : Hid (ys[k]? = some ys[k]) := Lib.hid (List.getElem?_eq_getElem l1)
      generalize xs[k] = x at *
      generalize ys[k] = y at *
      by_cases hxy : x = y
      · subst hxy
        have t1 : ((x : Int) != x) = false := by simp
        clear l0 l1
        go_wp2_with (go_quiet (fail))
        go_roundw
        case rel => exact ⟨k + 1, by omega, by go_num, ⟨_, rfl⟩, Lib.hid fun j hj => by
          rcases Nat.lt_or_ge j k with h | h
          · exact hr.out j h
          · rw [show j = k by omega, HXK.out, HYK.out]⟩
        case measure => simp [intOf]; omega
      · have t1 : ((x : Int) != y) = true := by simpa using hxy
        have hd : decide (xs = ys) = false := decide_eq_false fun e => by
          have h1 := HXK.out
          rw [e, HYK.out] at h1
          exact hxy (Option.some.inj h1).symm
        have HD := Lib.hid hd
        clear l0 l1 hd hxy
        go_wp2_with (go_quiet (fail))
        go_ret
        exact ⟨ret_bool HD.out.symm, _, by simp only [World.drewN_drewN]; rfl⟩
    · have hkn : k = n0 := by omega
      subst hkn
      have hd : decide (xs = ys) = true := decide_eq_true (by
        refine List.ext_getElem? fun j => ?_
        rcases Nat.lt_or_ge j k with h | h
        · exact hr.out j h
        · rw [List.getElem?_eq_none (by have := HX.out; omega), List.getElem?_eq_none (by have := HY.out; omega)])
      have HD := Lib.hid hd
      clear hd
      go_wp2_with fail
      go_ret
      exact ⟨ret_bool HD.out.symm, _, rfl⟩

set_option maxHeartbeats 1000000 in
theorem Begins_any (s t : ByteArray) (w : World) (hs : s.size ≤ 1048576) (ht : t.size ≤ 1048576) :
    Calls Tryd.prog 63 #[.string s, .string t] w fun e w' => e = .returned (.bool (standsL (runesOf s) (runesOf t) 0)) ∧ Below w.heap.size w w' := by
  have HS := Lib.hid (fun W => runes_box s W hs)
  have HT := Lib.hid (fun W => runes_box t W ht)
  have hls := runesOf_length s
  have hlt := runesOf_length t
  generalize runesOf s = xs at *
  generalize runesOf t = ys at *
  obtain ⟨R, hR⟩ : ∃ R, standsL xs ys 0 = R := ⟨_, rfl⟩
  rw [hR]
  have HR := Lib.hid hR
  clear hR
  go_enter Tryd.func63, Tryd.ntmps63
  go_wp2_with fail
  (with_reducible refine (HS.out _).mono ?_)
  rintro e w1 ⟨⟨g0, n0, c0, rfl, hc0, h0⟩, b1⟩
  go_wp2_with fail
  (with_reducible refine (HT.out _).mono ?_)
  rintro e w2 ⟨⟨g1, n1, c1, rfl, hc1, h1⟩, b2⟩
  have hx : n0 = xs.length := by have := h0.len; simpa using this
  have hy : n1 = ys.length := by have := h1.len; simpa using this
  have h0' : Sl w2 (some ⟨g0, 0, none⟩) n0 (i32s xs) := h0.below b2
  have HB := Lib.hid (Below.tr b1 b2)
  by_cases hle : n1 ≤ n0
  · have HAL : Hid (Calls Tryd.prog 77 #[.slice (some ⟨g0, 0, none⟩) n1 c0, .slice (some ⟨g1, 0, none⟩) n1 c1] w2 fun e w' => e = .returned (.bool R) ∧ ∃ n, w' = w2.drewN n) := Lib.hid (by
      rw [← HR.out, standsL_seg xs ys 0 (by omega), List.drop_zero]
      have h2 := h0'.head n1 hle
      rw [i32s_take] at h2
      rw [← hy]
      exact alike_any _ _ n1 c0 n1 c1 _ _ w2 h2 h1 (by omega))
    have HLX := Lib.hid hx
    clear h0 h1 h0' hx hy hls hlt b1 b2
    have i1 : n1 ≤ c0 := by omega
    have i3 : (n1 : Int) ≤ (n0 : Int) := by omega
    have i2 : (n1 : Int) ≤ (c0 : Int) := by omega
    go_wp2_with fail
    (with_reducible refine HAL.out.mono ?_)
    rintro e w3 ⟨rfl, m, rfl⟩
    go_wp2_with fail
    go_ret
    exact ⟨rfl, Below.drewN HB.out m⟩
  · have HF : Hid (R = false) := Lib.hid (by rw [← HR.out]; exact standsL_short xs ys 0 (by omega))
    have i3 : (n0 : Int) < (n1 : Int) := by omega
    clear h0 h1 h0' hx hy hls hlt b1 b2 hle
    go_wp2_with fail
    go_ret
    exact ⟨ret_bool HF.out.symm, HB.out⟩

set_option maxHeartbeats 1000000 in
theorem Ends_any (s t : ByteArray) (w : World) (hs : s.size ≤ 1048576) (ht : t.size ≤ 1048576) :
    Calls Tryd.prog 64 #[.string s, .string t] w fun e w' => e = .returned (.bool (decide ((runesOf t).length ≤ (runesOf s).length) && standsL (runesOf s) (runesOf t) ((runesOf s).length - (runesOf t).length))) ∧ Below w.heap.size w w' := by
  have HS := Lib.hid (fun W => runes_box s W hs)
  have HT := Lib.hid (fun W => runes_box t W ht)
  have hls := runesOf_length s
  have hlt := runesOf_length t
  generalize runesOf s = xs at *
  generalize runesOf t = ys at *
  obtain ⟨R, hR⟩ : ∃ R, (decide (ys.length ≤ xs.length) && standsL xs ys (xs.length - ys.length)) = R := ⟨_, rfl⟩
  rw [hR]
  have HR := Lib.hid hR
  clear hR
  go_enter Tryd.func64, Tryd.ntmps64
  go_wp2_with fail
  (with_reducible refine (HS.out _).mono ?_)
  rintro e w1 ⟨⟨g0, n0, c0, rfl, hc0, h0⟩, b1⟩
  go_wp2_with fail
  (with_reducible refine (HT.out _).mono ?_)
  rintro e w2 ⟨⟨g1, n1, c1, rfl, hc1, h1⟩, b2⟩
  have hx : n0 = xs.length := by have := h0.len; simpa using this
  have hy : n1 = ys.length := by have := h1.len; simpa using this
  have h0' : Sl w2 (some ⟨g0, 0, none⟩) n0 (i32s xs) := h0.below b2
  have HB := Lib.hid (Below.tr b1 b2)
  by_cases hle : n1 ≤ n0
  · have hdl : standsL xs ys (xs.length - ys.length) = R := by rw [← HR.out, decide_eq_true (show ys.length ≤ xs.length by omega), Bool.true_and]
    have HAL : Hid (∀ (ad : Option Addr) (m c : Nat), m = n1 → (ad = some ⟨g0, n0 - n1, none⟩ ∨ n1 = 0) → Calls Tryd.prog 77 #[.slice ad m c, .slice (some ⟨g1, 0, none⟩) n1 c1] w2 fun e w' => e = .returned (.bool R) ∧ ∃ n, w' = w2.drewN n) := Lib.hid (by
      intro ad m c hm had
      subst hm
      have e1 : (xs.drop (xs.length - ys.length)).take ys.length = xs.drop (xs.length - ys.length) := List.take_of_length_le (by rw [List.length_drop]; omega)
      rw [← hdl, standsL_seg xs ys (xs.length - ys.length) (by omega), e1]
      rcases had with rfl | had
      · have h2 := h0'.tail (n0 - m) (by omega)
        rw [i32s_drop, show n0 - (n0 - m) = m by omega, Nat.zero_add] at h2
        rw [← hy, ← hx]
        exact alike_any _ _ m c m c1 _ _ w2 h2 h1 (by omega)
      · subst had
        have e2 : xs.drop (xs.length - ys.length) = [] := by rw [← hy, Nat.sub_zero, List.drop_length]
        rw [e2]
        exact alike_any ad _ 0 c 0 c1 [] _ w2 (Sl.nil w2 ad) h1 (by omega))
    have i4 : IntKind.i64.wrap ((n0 : Int) - (n1 : Int)) = ((n0 - n1 : Nat) : Int) := by rw [IntWalk.i64_in _ (by omega)]; omega
    have i6 : n0 - (n0 - n1) = n1 := by omega
    have I6 := Lib.hid i6
    clear h0 h1 h0' hx hy hls hlt b1 b2 hdl i6
    have i3 : (n1 : Int) ≤ (n0 : Int) := by omega
    go_wp2_with fail
    all_goals
      first
        | (with_reducible refine (HAL.out _ _ _ I6.out (.inl rfl)).mono ?_)
        | (with_reducible refine (HAL.out _ _ _ I6.out (.inr (by omega))).mono ?_)
      rintro e w3 ⟨rfl, m, rfl⟩
      go_wp2_with fail
      go_ret
      exact ⟨rfl, Below.drewN HB.out m⟩
  · have HF : Hid (R = false) := Lib.hid (by rw [← HR.out, decide_eq_false (show ¬ ys.length ≤ xs.length by omega), Bool.false_and])
    have i3 : (n0 : Int) < (n1 : Int) := by omega
    clear h0 h1 h0' hx hy hls hlt b1 b2 hle
    go_wp2_with fail
    go_ret
    exact ⟨ret_bool HF.out.symm, HB.out⟩
end Go.Proofs.YtklpihaelaagpaaDoor
