/-
  gimletref03: Runes, order, Compare.
-/
import Derived.Test.YtklpihaelaagpaaDoorLgF
import Derived.IntWalk
namespace Go.Proofs.YtklpihaelaagpaaDoor
open Go.RowKit

theorem info_rune3 : (Tryd.prog.info? 21).map (fun i => (i.zero, i.size, i.bytes)) = some (some (.int .i32 0), 1, 4) := by kernel_rfl
theorem order_any (a b : Int) (w : World) :
    Calls Tryd.prog 56 #[.int .i64 a, .int .i64 b] w fun e w' => e = .returned (.int .i64 (if a < b then -1 else if b < a then 1 else 0)) ∧ w' = w := by
  by_cases h1 : a < b
  · rw [if_pos h1]
    go_enter Tryd.func56, Tryd.ntmps56
    go_wp2
    go_ret
    exact ⟨rfl, rfl⟩
  · rw [if_neg h1]
    have h1' : b ≤ a := by omega
    by_cases h2 : b < a
    · rw [if_pos h2]
      go_enter Tryd.func56, Tryd.ntmps56
      go_wp2
      go_ret
      exact ⟨rfl, rfl⟩
    · rw [if_neg h2]
      have h2' : a ≤ b := by omega
      go_enter Tryd.func56, Tryd.ntmps56
      go_wp2
      go_ret
      exact ⟨rfl, rfl⟩

set_option maxHeartbeats 1000000 in
set_option maxRecDepth 100000 in
theorem Runes3_any (s : ByteArray) (w : World) (hs : s.size ≤ 1048576) :
    Calls Tryd.prog 55 #[.string s] w fun e w' => RetSl e w' ((runesOf s).map (Value.int .i32)) ∧ Below w.heap.size w w' := by
  obtain ⟨i0, hi, hz0, hz1, hz2⟩ := info_parts info_rune3
  go_enter Tryd.func55, Tryd.ntmps55
  go_wp2_with fail
  go_loopw [3] (fun v wr => ∃ (pos n : Nat) (l : List Int), wr.heap[w.heap.size]? = some (.stringIter s pos) ∧ Below w.heap.size w wr ∧ wr.ownsRow (w.heap.size + 1) 21 1 v n (l.map (Value.int .i32)) ∧ Hid (v.ownBlock ≠ some w.heap.size) ∧ Hid (l ++ runesAt s pos = runesOf s) ∧ Hid (l.length = n)) (fun _ wr => s.size - wr.iterPos w.heap.size)
  case atStart =>
    refine ⟨0, 0, [], World.iter_heap _ _ _, (Below.refl _ _).alloc (Nat.le_refl _) _, ⟨rfl, .inl ⟨rfl, rfl⟩⟩, Lib.hid (by simp [Value.ownBlock]), ?_, rfl⟩
    show _ = _; rw [runesAt_zero]; rfl
  case round =>
    obtain ⟨pos, n, l, hit, hbw, hown, HNE, hr, hln⟩ := hrel
    have hsz : w.heap.size < wr.heap.size := (Array.getElem?_eq_some_iff.1 hit).1
    by_cases hp : pos < s.size
    · have hnx : ∀ ty, (Instr.next (.pointer (some ⟨w.heap.size, 0, none⟩)) true ty).run Tryd.prog wr = _ := fun ty => Lib.run_next_any_at wr w.heap.size s pos ty hit hp
      have hwd := width_pos s pos hp
      have hst := hr.out
      have hll := hln.out
      rw [runesAt_step s pos hp] at hst
      have hnb : n + 1 ≤ s.size := by
        have h1 := runesOf_length s
        rw [← hst] at h1
        simp at h1
        omega
      have HST := Lib.hid hst
      have HIT := Lib.hid hit
      clear hst hll
      generalize hw2 : wr.iterAt w.heap.size s (pos + (Utf8.decode s pos).2) = w2 at hnx
      have hit2 : w2.heap[w.heap.size]? = some (.stringIter s (pos + (Utf8.decode s pos).2)) := by rw [← hw2]; exact Lib.iterAt_heap wr w.heap.size s pos _ hit
      have hbw2 : Below w.heap.size w w2 := by rw [← hw2]; exact Lib.below_iterAt hbw (by omega) s _
      have hown2 := own_block (w' := w2) hown (fun k hk => by rw [← hw2]; exact Lib.iterAt_other wr w.heap.size k s _ (fun e => HNE.out (by rw [hk, e])))
      have hsz2 : w2.heap.size = wr.heap.size := by rw [← hw2, Lib.iterAt_size]
      clear hw2 hit hbw hown
      have hsz3 : w.heap.size < w2.heap.size := by omega
      have hsz4 : w.heap.size + 1 ≤ w2.heap.size := by omega
      clear hsz2
      go_wp2_with (at_builtin; refine wpList_app w2 rfl _ _ 101 (by rfl) (w.heap.size + 1) 21 i0 (.int .i32 0) 1 4 Tryd.underlying101 hi hz0 hz1 hz2 rfl (by decide) _ n _ (by rfl) hown2 _ rfl 1 [.int .i32 (Utf8.decode s pos).1] (by rfl) rfl (by simp [Value.oneCell']) (by omega) (by decide) hsz4 (fun v3 w3 hown3 happ3 => ?_))
      have hbl := hown2.lt
      have hk3 := happ3.keep (k := w.heap.size) (by simp; omega) HNE.out
      have hn3 := happ3.ne (k := w.heap.size) (by simp; omega) HNE.out
      have hb3 := (hbw2.alloc (by omega) (.cells #[.int .i32 (Utf8.decode s pos).1] 21)).trans (happ3.below (by simp; omega) (fun k hk => by have := (hbl k hk).1; omega))
      go_roundw
      case rel =>
        refine ⟨pos + (Utf8.decode s pos).2, n + 1, l ++ [((Utf8.decode s pos).1 : Int)], ?_, hb3, by simpa using hown3, hn3, ?_, ?_⟩
        · rw [hk3, Below.heap_alloc _ _ _ (by omega)]; exact hit2
        · show _ = _; rw [← HST.out]; simp
        · show _ = _; rw [← hln.out]; simp
      case measure =>
        have e1 : w3.iterPos w.heap.size = pos + (Utf8.decode s pos).2 := by
          unfold World.iterPos; rw [hk3, Below.heap_alloc _ _ _ (by omega), hit2]
        have e2 : wr.iterPos w.heap.size = pos := by unfold World.iterPos; rw [HIT.out]
        rw [e1, e2]
        omega
    · have hnx : ∀ ty, (Instr.next (.pointer (some ⟨w.heap.size, 0, none⟩)) true ty).run Tryd.prog wr = _ := fun ty => Lib.run_next_end_at wr w.heap.size s pos ty hit hp
      have hst := hr.out
      rw [runesAt_end s pos hp, List.append_nil] at hst
      subst hst
      go_wp2
      go_ret
      obtain ⟨a, c, rfl, hsl⟩ := own_sl hown
      exact ⟨⟨a, n, c, rfl, hsl⟩, hbw⟩

set_option maxHeartbeats 1000000 in
set_option maxRecDepth 100000 in
theorem Cmp3_any (s t : ByteArray) (w : World) (hs : s.size ≤ 1048576) (ht : t.size ≤ 1048576) :
    Calls Tryd.prog 38 #[.string s, .string t] w fun e w' => e = .returned (.int .i64 (cmpL (runesOf s) (runesOf t))) ∧ Below w.heap.size w w' := by
  have HS := Lib.hid (fun W => Runes3_any s W hs)
  have HT := Lib.hid (fun W => Runes3_any t W ht)
  have hls := runesOf_length s
  generalize runesOf s = xs at *
  generalize runesOf t = ys at *
  go_enter Tryd.func38, Tryd.ntmps38
  go_wp2_with fail
  (with_reducible refine (HS.out _).mono ?_)
  rintro e w1 ⟨⟨a0, n0, c0, rfl, h0⟩, b1⟩
  go_wp2_with fail
  (with_reducible refine (HT.out _).mono ?_)
  rintro e w2 ⟨⟨a1, n1, c1, rfl, h1⟩, b2⟩
  have H0 := Lib.hid (h0.below b2)
  have H1 := Lib.hid h1
  have hb := Below.tr b1 b2
  have HX : Hid (n0 = xs.length) := Lib.hid (by have := h0.len; simpa using this)
  have HY : Hid (n1 = ys.length) := Lib.hid (by have := h1.len; simpa using this)
  have hm0 : n0 ≤ 1048576 := by have := HX.out; omega
  clear h0 h1 b1 b2 hls
  go_wp2_with fail
  go_loopw [7] (fun i w' => ∃ k : Nat, k ≤ n0 ∧ k ≤ n1 ∧ i = .int .i64 k ∧ (∃ n, w' = w2.drewN n) ∧ Hid (cmpL (xs.drop k) (ys.drop k) = cmpL xs ys)) (fun i _ => n0 - (intOf i).toNat)
  case atStart => exact ⟨0, Nat.zero_le _, Nat.zero_le _, rfl, ⟨0, rfl⟩, rfl⟩
  case round =>
    obtain ⟨k, hk0, hk1, rfl, ⟨n, rfl⟩, hr⟩ := hrel
    by_cases hlt : k < n0 ∧ k < n1
    · obtain ⟨hl0, hl1⟩ := hlt
      have l0 : k < xs.length := by rw [← HX.out]; exact hl0
      have l1 : k < ys.length := by rw [← HY.out]; exact hl1
      obtain ⟨b0, o0, rfl, _, e0⟩ := H0.out.cell k (by simpa using l0)
      obtain ⟨b1, o1, rfl, _, e1⟩ := H1.out.cell k (by simpa using l1)
      simp only [List.getElem_map] at e0 e1
      have hd := cmpL_drop xs ys k l0 l1
      rw [hr.out] at hd
      generalize xs[k] = x at e0 hd
      generalize ys[k] = y at e1 hd
      have HD := Lib.hid hd
      clear hd l0 l1
      have hd0 : decide ((k : Int) < n0) = true := by simp; omega
      have hd1 : decide ((k : Int) < n1) = true := by simp; omega
      go_wp2_with (go_quiet (fail))
      · have hlt : x < y := by assumption
        go_ret
        exact ⟨ret_int (by rw [HD.out, if_pos hlt]), by simp only [World.drewN_drewN]; exact Below.drewN hb _⟩
      · have hlt : y < x := by assumption
        go_ret
        exact ⟨ret_int (by rw [HD.out, if_neg (by omega), if_pos hlt]), by simp only [World.drewN_drewN]; exact Below.drewN hb _⟩
      · go_roundw
        case rel => exact ⟨k + 1, by omega, by omega, by go_num, ⟨_, rfl⟩, by rw [HD.out, if_neg (by omega), if_neg (by omega)]; rfl⟩
        case measure => simp [intOf]; omega
    · have hd := cmpL_end xs ys k (by rw [← HX.out, ← HY.out]; exact hlt) (by rw [← HX.out]; exact hk0) (by rw [← HY.out]; exact hk1)
      rw [hr.out, ← HX.out, ← HY.out] at hd
      have HD := Lib.hid hd
      have HOR := Lib.hid (order_any n0 n1)
      have hci : (if (n0 : Int) < (n1 : Int) then (-1 : Int) else if (n1 : Int) < (n0 : Int) then 1 else 0) = cmpL xs ys := by
        rw [HD.out]
        by_cases q1 : n0 < n1
        · rw [if_pos (show (n0 : Int) < (n1 : Int) by omega), if_pos q1]
        · rw [if_neg (show ¬ (n0 : Int) < (n1 : Int) by omega), if_neg q1]
          by_cases q2 : n1 < n0
          · rw [if_pos (show (n1 : Int) < (n0 : Int) by omega), if_pos q2]
          · rw [if_neg (show ¬ (n1 : Int) < (n0 : Int) by omega), if_neg q2]
      rw [hci] at HOR
      clear hd hci hr
      have hb2 := Below.drewN hb n
      by_cases q0 : k < n0
      · have q1 : n1 ≤ k := by omega
        go_wp2_with fail
        (with_reducible refine (HOR.out _).mono ?_)
        rintro e w3 ⟨rfl, rfl⟩
        go_wp2_with fail
        go_ret
        exact ⟨rfl, hb2⟩
      · have q1 : n0 ≤ k := by omega
        go_wp2_with fail
        (with_reducible refine (HOR.out _).mono ?_)
        rintro e w3 ⟨rfl, rfl⟩
        go_wp2_with fail
        go_ret
        exact ⟨rfl, hb2⟩
end Go.Proofs.YtklpihaelaagpaaDoor
