/-
  Package words: runes, ordered, Compare, Length.
-/
import Derived.Test.YthmngbbhbjkgkaaProg
import Derived.Test.YthmngbbhbjkgkaaGenA
namespace Go.Proofs.Ythmngbbhbjkgkaa
open Go.RowKit

set_option maxHeartbeats 400000 in
theorem ordered_any (a0 a1 : Option Addr) (n0 c0 n1 c1 : Nat) (xs ys : List Int) (w : World)
    (h0 : Sl w a0 n0 (xs.map (Value.int .i32))) (h1 : Sl w a1 n1 (ys.map (Value.int .i32))) (hm0 : n0 ≤ 1048576) :
    Calls Try.prog 24 #[.slice a0 n0 c0, .slice a1 n1 c1] w fun e w' => e = .returned (.int .i64 (cmpL xs ys)) ∧ ∃ n, w' = w.drewN n := by
  have HX : Hid (n0 = xs.length) := Lib.hid (by have := h0.len; simpa using this)
  have HY : Hid (n1 = ys.length) := Lib.hid (by have := h1.len; simpa using this)
  have H0 := Lib.hid h0
  have H1 := Lib.hid h1
  clear h0 h1
  go_enter Try.func24, Try.ntmps24
  go_wp2
  go_loopw [5] (fun i w' => ∃ k : Nat, k ≤ n0 ∧ k ≤ n1 ∧ i = .int .i64 k ∧ (∃ n, w' = w.drewN n) ∧ Hid (cmpL (xs.drop k) (ys.drop k) = cmpL xs ys)) (fun i _ => n0 - (intOf i).toNat)
  case atStart => exact ⟨0, Nat.zero_le _, Nat.zero_le _, rfl, ⟨0, rfl⟩, rfl⟩
  case round =>
    obtain ⟨k, hk0, hk1, rfl, ⟨n, rfl⟩, hr⟩ := hrel
    by_cases hlt : k < n0 ∧ k < n1
    · obtain ⟨hl0, hl1⟩ := hlt
      have l0 : k < xs.length := by rw [← HX.out]; exact hl0
      have l1 : k < ys.length := by rw [← HY.out]; exact hl1
      obtain ⟨b0, o0, rfl, _, e0⟩ := H0.out.cell k (by simpa using l0)
      obtain ⟨b1, o1, rfl, _, e1⟩ := H1.out.cell k (by simpa using l1)
      simp only [List.getElem_map] at e0 e1
      have hd := cmpL_drop xs ys k l0 l1
      rw [hr.out] at hd
      generalize xs[k] = x at e0 hd
      generalize ys[k] = y at e1 hd
      have HD := Lib.hid hd
      clear hd l0 l1
      have hd0 : decide ((k : Int) < n0) = true := by simp; omega
      have hd1 : decide ((k : Int) < n1) = true := by simp; omega
      go_wp2_with (go_quiet (fail))
      · have hlt : x < y := by assumption
        go_ret
        exact ⟨ret_int (by rw [HD.out, if_pos hlt]), _, by simp only [World.drewN_drewN]; rfl⟩
      · have hlt : y < x := by assumption
        go_ret
        exact ⟨ret_int (by rw [HD.out, if_neg (by omega), if_pos hlt]), _, by simp only [World.drewN_drewN]; rfl⟩
      · go_roundw
        case rel => exact ⟨k + 1, by omega, by omega, by go_num, ⟨_, rfl⟩, by rw [HD.out, if_neg (by omega), if_neg (by omega)]; rfl⟩
        case measure => simp [intOf]; omega
    · have hd := cmpL_end xs ys k (by rw [← HX.out, ← HY.out]; exact hlt) (by rw [← HX.out]; exact hk0) (by rw [← HY.out]; exact hk1)
      rw [hr.out, ← HX.out, ← HY.out] at hd
      have HD := Lib.hid hd
      clear hd
      go_wp2
      all_goals (go_ret; refine ⟨ret_int ?_, _, rfl⟩; rw [HD.out]; (repeat (first | rw [if_pos (by omega)] | rw [if_neg (by omega)])))

set_option maxHeartbeats 400000 in
theorem Length_any (s : ByteArray) (w : World) (hs : s.size ≤ 1048576) :
    Calls Try.prog 18 #[.string s] w fun e w' => e = .returned (.int .i64 ((runesOf s).length : Int)) ∧ Below w.heap.size w w' := by
  go_enter Try.func18, Try.ntmps18
  go_wp2
  go_loopw [3] (fun n w' => ∃ (pos k : Nat), w' = w.iter s pos ∧ n = .int .i64 k ∧ Hid (k + (runesAt s pos).length = (runesOf s).length)) (fun _ w' => s.size - w'.iterPos w.heap.size)
  case atStart => exact ⟨0, 0, rfl, rfl, by rw [runesAt_zero]; exact Nat.zero_add _⟩
  case round =>
    obtain ⟨pos, k, rfl, rfl, hr⟩ := hrel
    by_cases hp : pos < s.size
    · have hnx : ∀ ty, (Instr.next (.pointer (some ⟨w.heap.size, 0, none⟩)) true ty).run Try.prog (w.iter s pos) = _ := fun ty => run_next_any w s pos ty hp
      have hwd := width_pos s pos hp
      have hst := hr.out
      rw [runesAt_step s pos hp, List.length_cons] at hst
      have hkb : k + 1 ≤ s.size := by have := runesOf_length s; omega
      have HST := Lib.hid hst
      clear hst
      go_wp2
      go_roundw
      case rel =>
        refine ⟨pos + (Utf8.decode s pos).2, k + 1, rfl, by go_num, ?_⟩
        have := HST.out
        show _ = _
        omega
      case measure =>
        simp
        omega
    · have hnx : ∀ ty, (Instr.next (.pointer (some ⟨w.heap.size, 0, none⟩)) true ty).run Try.prog (w.iter s pos) = _ := fun ty => run_next_end w s pos ty hp
      go_wp2
      go_ret
      refine ⟨ret_int ?_, ?_⟩
      · have := hr.out
        rw [runesAt_end s pos hp] at this
        rw [← this]; simp
      · exact (Below.refl _ _).alloc (Nat.le_refl _) _

theorem info_rune : (Try.prog.info? 21).map (fun i => (i.zero, i.size, i.bytes)) = some (some (.int .i32 0), 1, 4) := by kernel_rfl

set_option maxHeartbeats 400000 in
set_option maxRecDepth 100000 in
theorem runes_any (s : ByteArray) (w : World) (hs : s.size ≤ 1048576) :
    Calls Try.prog 25 #[.string s] w fun e w' => RetSl e w' ((runesOf s).map (Value.int .i32)) ∧ Below w.heap.size w w' := by
  obtain ⟨i0, hi, hz0, hz1, hz2⟩ := info_parts info_rune
  go_enter Try.func25, Try.ntmps25
  go_wp2_with (at_make; refine wpList_make_own _ rfl _ _ 51 rfl w.heap.size 21 i0 (.int .i32 0) 1 Try.underlying51 hi hz0 hz1 .i64 .i64 s.size s.size rfl rfl rfl (by rw [hz2]; omega) (by unfold maxLen; omega) (Nat.le_refl _) ?_; intro w1 hown1 hgrow1)
  have hb1 : Below w.heap.size w w1 := (Below.refl _ _).grown hgrow1 (Nat.le_refl _) (by intro k hk; cases hk)
  have hlt1 := hown1.lt _ rfl
  go_loopw [3] (fun v wr => ∃ (pos n : Nat) (l : List Int), wr.heap[w1.heap.size]? = some (.stringIter s pos) ∧ Below w.heap.size w wr ∧ wr.ownsRow w.heap.size 21 1 v n (l.map (Value.int .i32)) ∧ Hid (v.ownBlock ≠ some w1.heap.size) ∧ Hid (l ++ runesAt s pos = runesOf s) ∧ Hid (l.length = n)) (fun _ wr => s.size - wr.iterPos w1.heap.size)
  case atStart =>
    refine ⟨0, 0, [], World.iter_heap _ _ _, hb1.alloc hb1.size _, hown1.alloc _, ?_, ?_, rfl⟩
    · intro hk; injection hk with hk; have := hlt1.2; simp at hk; omega
    · show _ = _; rw [runesAt_zero]; rfl
  case round =>
    obtain ⟨pos, n, l, hit, hbw, hown, hne, hr, hln⟩ := hrel
    have hsz : w1.heap.size < wr.heap.size := (Array.getElem?_eq_some_iff.1 hit).1
    by_cases hp : pos < s.size
    · have hnx : ∀ ty, (Instr.next (.pointer (some ⟨w1.heap.size, 0, none⟩)) true ty).run Try.prog wr = _ := fun ty => Lib.run_next_any_at wr w1.heap.size s pos ty hit hp
      have hwd := width_pos s pos hp
      have hst := hr.out
      have hll := hln.out
      rw [runesAt_step s pos hp] at hst
      have hnb : n + 1 ≤ s.size := by
        have h1 := runesOf_length s
        rw [← hst] at h1
        simp at h1
        omega
      have HST := Lib.hid hst
      have HIT := Lib.hid hit
      clear hst hll
      generalize hw2 : wr.iterAt w1.heap.size s (pos + (Utf8.decode s pos).2) = w2 at hnx
      have hit2 : w2.heap[w1.heap.size]? = some (.stringIter s (pos + (Utf8.decode s pos).2)) := by rw [← hw2]; exact Lib.iterAt_heap wr w1.heap.size s pos _ hit
      have hbw2 : Below w.heap.size w w2 := by rw [← hw2]; exact Lib.below_iterAt hbw (by omega) s _
      have hown2 := own_block (w' := w2) hown (fun k hk => by rw [← hw2]; exact Lib.iterAt_other wr w1.heap.size k s _ (fun e => hne.out (by rw [hk, e])))
      have hsz2 : w2.heap.size = wr.heap.size := by rw [← hw2, Lib.iterAt_size]
      clear hw2 hit hbw hown
      have hsz3 : w1.heap.size < w2.heap.size := by omega
      have hsz4 : w.heap.size ≤ w2.heap.size := by have := hb1.size; omega
      clear hsz2
      go_wp2_with (at_builtin; refine wpList_app w2 rfl _ _ 51 (by rfl) w.heap.size 21 i0 (.int .i32 0) 1 4 Try.underlying51 hi hz0 hz1 hz2 rfl (by decide) _ n _ (by rfl) hown2 1 [.int .i32 (Utf8.decode s pos).1] (by rfl) rfl (by simp [Value.oneCell']) (by omega) (by decide) hsz4 (fun v3 w3 hown3 happ3 => ?_))
      have hbl := hown2.lt
      have hk3 := happ3.keep (k := w1.heap.size) (by simp; omega) hne.out
      have hn3 := happ3.ne (k := w1.heap.size) (by simp; omega) hne.out
      have hb3 := (hbw2.alloc (Nat.le_trans hsz4 (Nat.le_refl _)) (.cells #[.int .i32 (Utf8.decode s pos).1] 21)).trans (happ3.below (by simp; omega) (fun k hk => (hbl k hk).1))
      go_roundw
      case rel =>
        refine ⟨pos + (Utf8.decode s pos).2, n + 1, l ++ [((Utf8.decode s pos).1 : Int)], ?_, hb3, by simpa using hown3, hn3, ?_, ?_⟩
        · rw [hk3, Below.heap_alloc _ _ _ (by omega)]; exact hit2
        · show _ = _; rw [← HST.out]; simp
        · show _ = _; rw [← hln.out]; simp
      case measure =>
        have e1 : w3.iterPos w1.heap.size = pos + (Utf8.decode s pos).2 := by
          unfold World.iterPos; rw [hk3, Below.heap_alloc _ _ _ (by omega), hit2]
        have e2 : wr.iterPos w1.heap.size = pos := by unfold World.iterPos; rw [HIT.out]
        rw [e1, e2]
        omega
    · have hnx : ∀ ty, (Instr.next (.pointer (some ⟨w1.heap.size, 0, none⟩)) true ty).run Try.prog wr = _ := fun ty => Lib.run_next_end_at wr w1.heap.size s pos ty hit hp
      have hst := hr.out
      rw [runesAt_end s pos hp, List.append_nil] at hst
      subst hst
      go_wp2
      go_ret
      obtain ⟨a, c, rfl, hsl⟩ := own_sl hown
      exact ⟨⟨a, n, c, rfl, hsl⟩, hbw⟩

set_option maxHeartbeats 400000 in
theorem Compare_any (s t : ByteArray) (w : World) (hs : s.size ≤ 1048576) (ht : t.size ≤ 1048576) :
    Calls Try.prog 16 #[.string s, .string t] w fun e w' => e = .returned (.int .i64 (cmpL (runesOf s) (runesOf t))) ∧ Below w.heap.size w w' := by
  go_enter Try.func16, Try.ntmps16
  go_wp2_with fail
  refine (runes_any s _ hs).mono ?_
  rintro e w1 ⟨⟨a, n, c, rfl, h1⟩, b1⟩
  go_wp2_with fail
  refine (runes_any t _ ht).mono ?_
  rintro e w2 ⟨⟨a2, n2, c2, rfl, h2⟩, b2⟩
  have h1' := h1.below b2
  have hn : n ≤ 1048576 := by have := h1.len; have := runesOf_length s; simp at *; omega
  go_wp2_with fail
  refine (ordered_any a a2 n c n2 c2 _ _ _ h1' h2 hn).mono ?_
  rintro e w3 ⟨rfl, m, rfl⟩
  go_wp2_with fail
  go_ret
  exact ⟨rfl, Below.drewN (Below.tr b1 b2) m⟩
end Go.Proofs.Ythmngbbhbjkgkaa
