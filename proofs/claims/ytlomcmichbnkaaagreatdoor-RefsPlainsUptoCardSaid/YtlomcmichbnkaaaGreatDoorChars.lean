/-
  Package chars: of, Is.
-/
import Derived.Test.YtlomcmichbnkaaaGreatDoorRanges
namespace Go.Proofs.YtlomcmichbnkaaaGreatDoor
open Go.RowKit

/-- what chars.Is says of a rising list of ranges -/
def isR : List (Int × Int) → Int → Bool
  | [], _ => false
  | p :: l, r => if r ≤ p.2 then decide (p.1 ≤ r) else isR l r
theorem isR_drop (l : List (Int × Int)) (r : Int) (k : Nat) (h : k < l.length) : isR (l.drop k) r = if r ≤ l[k].2 then decide (l[k].1 ≤ r) else isR (l.drop (k + 1)) r := by
  rw [List.drop_eq_getElem_cons h]; rfl

/-- of a class's number the list's slice -/
def RetRng (w : World) (c : Nat) (e : Ending) : Prop :=
  ∃ b o cap, e = .returned (.slice (some ⟨b, o, none⟩) (rng c).length cap) ∧ b < w.heap.size ∧
    ∀ i, (h : i < (rng c).length) → w.cell? ⟨b, o + i * 2, none⟩ = some (.int .i32 ((rng c)[i]).1) ∧ w.cell? ⟨b, o + i * 2 + 1, none⟩ = some (.int .i32 ((rng c)[i]).2)
theorem of_any (c : Nat) (hc : c < 6) (w : World) (hR : RangesAt w 2) :
    Calls Tryz.prog 31 #[.int .i64 c] w fun e w' => RetRng w c e ∧ w' = w := by
  obtain ⟨b, o, cap, h1, h2, h3⟩ := hR.at' c hc
  have H3 := Lib.hid h3
  clear h3 hR
  go_enter Tryz.func31, Tryz.ntmps31
  go_wp2
  go_ret
  exact ⟨⟨b, o, cap, rfl, h2, H3.out⟩, rfl⟩
theorem of_none (c : Int) (hc : c < 0 ∨ 6 ≤ c) (w : World) :
    Calls Tryz.prog 31 #[.int .i64 c] w fun e w' => e = .returned (.slice none 0 0) ∧ w' = w := by
  by_cases h0 : c < 0
  · go_enter Tryz.func31, Tryz.ntmps31
    go_wp2
    go_ret
    exact ⟨rfl, rfl⟩
  · have h6 : 6 ≤ c := by omega
    go_enter Tryz.func31, Tryz.ntmps31
    go_wp2
    go_ret
    exact ⟨rfl, rfl⟩

set_option maxHeartbeats 1000000 in
theorem Is_any (c : Nat) (hc : c < 6) (r : Int) (w : World) (hR : RangesAt w 2) :
    Calls Tryz.prog 18 #[.int .i64 c, .int .i32 r] w fun e w' => e = .returned (.bool (isR (rng c) r)) ∧ Below w.heap.size w w' := by
  have hlen : (rng c).length ≤ 20 := by
    have : ∀ c, c < 6 → (rng c).length ≤ 20 := by decide
    exact this c hc
  have HO := Lib.hid (of_any c hc w hR)
  clear hR
  go_enter Tryz.func18, Tryz.ntmps18
  go_wp2_with fail
  refine HO.out.mono ?_
  rintro e w1 ⟨⟨b, o, cap, rfl, hb, hcs⟩, rfl⟩
  have HC := Lib.hid hcs
  clear hcs HO
  generalize hl : rng c = l at *
  have HL := Lib.hid hl
  clear hl
  obtain ⟨n, hn⟩ : ∃ n, l.length = n := ⟨_, rfl⟩
  rw [hn] at hlen
  simp only [hn]
  have HN := Lib.hid hn
  clear hn
  go_wp2_with fail
  go_loopw [10] (fun ix wr => ∃ k : Nat, ix = .int .i64 k ∧ k ≤ n ∧ Below w1.heap.size w1 wr ∧ Hid (isR (l.drop k) r = isR l r)) (fun ix _ => n - (intOf ix).toNat)
  case atStart => exact ⟨0, rfl, Nat.zero_le _, Below.refl _ _, rfl⟩
  case round =>
    obtain ⟨k, rfl, hk, hbw, hr⟩ := hrel
    by_cases hkn : k < n
    · have hkl : k < l.length := by rw [HN.out]; exact hkn
      obtain ⟨e0, e1⟩ := HC.out k hkl
      have hd := hr.out
      rw [isR_drop l r k hkl] at hd
      rw [← hbw.cell (p := ⟨b, o + k * 2, none⟩) hb] at e0
      rw [← hbw.cell (p := ⟨b, o + k * 2 + 1, none⟩) hb] at e1
      generalize l[k] = p at *
      obtain ⟨lo, hi⟩ := p
      simp only at e0 e1 hd
      have HD := Lib.hid hd
      have hws : w1.heap.size ≤ wr.heap.size := hbw.size
      have HBW := Lib.hid hbw
      clear hd hbw hr
      by_cases hle : r ≤ hi
      · go_wp2
        go_ret
        exact ⟨ret_bool (by rw [HL.out, ← HD.out, if_pos hle]), HBW.out.alloc hws _⟩
      · have hgt : hi < r := by omega
        go_wp2
        go_roundw
        case rel => exact ⟨k + 1, by go_num, by omega, HBW.out.alloc hws _, by rw [if_neg hle] at HD; exact HD⟩
        case measure => simp [intOf]; omega
    · have hd := hr.out
      rw [List.drop_of_length_le (by rw [HN.out]; omega)] at hd
      have HD := Lib.hid hd
      clear hd hr
      go_wp2
      go_ret
      exact ⟨ret_bool (by rw [HL.out, ← HD.out]; rfl), hbw⟩

theorem Is_none (c : Int) (hc : c < 0 ∨ 6 ≤ c) (r : Int) (w : World) :
    Calls Tryz.prog 18 #[.int .i64 c, .int .i32 r] w fun e w' => e = .returned (.bool false) ∧ Below w.heap.size w w' := by
  have HO := Lib.hid (of_none c hc w)
  go_enter Tryz.func18, Tryz.ntmps18
  go_wp2_with fail
  refine HO.out.mono ?_
  rintro e w1 ⟨rfl, rfl⟩
  go_wp2_with fail
  go_loop [10] (fun ix => ix = .int .i64 0) (fun _ => 0)
  case atStart => exact rfl
  case round =>
    subst hrel
    go_wp2
    go_ret
    exact ⟨rfl, Below.refl _ _⟩
end Go.Proofs.YtlomcmichbnkaaaGreatDoor
