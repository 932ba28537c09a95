/-
  gimletref02.Bytes.
-/
import Derived.Test.YtlomcmichbnkaaaGreatDoorPlainP
import Derived.Test.YtlomcmichbnkaaaGreatDoorLawFix
import Derived.IntWalk
namespace Go.Proofs.YtlomcmichbnkaaaGreatDoor
open Go.RowKit

theorem u8s_enc (r : Nat) (h : r ≤ 1114111) : (u8s (encU r)).toArray = ((encN r).map fun x : Nat => Value.int .u8 x).toArray := by
  congr 1
  unfold u8s encU
  rw [List.map_map]
  apply List.map_congr_left
  intro x hx
  simp only [Function.comp]
  rw [toNat_of x (encN_byte r h x hx)]
theorem ret_enc (r : Nat) (h : r ≤ 1114111) (w : World) (k : Nat) (hk : (encN r).length = k) (xs : Array Value) (hx : xs = ((encN r).map fun x : Nat => Value.int .u8 x).toArray) :
    RetSl (.returned (.slice (some ⟨w.heap.size, 0, none⟩) k k)) (w.alloc (.cells xs 5)) (u8s (encU r)) := by
  rw [← u8s_enc r h] at hx
  subst hx
  have hs := sl_new (l := encU r) (heap_alloc_new w (.cells (u8s (encU r)).toArray 5))
  rw [show (encU r).length = k by simp [encU, hk]] at hs
  exact ⟨_, _, _, rfl, hs⟩

set_option maxRecDepth 1000000 in
set_option maxHeartbeats 2000000 in
theorem Bytes_any (r : Nat) (h : r ≤ 1114111) (w : World) :
    Calls Tryz.prog 16 #[.int .i64 r] w fun e w' => RetSl e w' (u8s (encU r)) ∧ Below w.heap.size w w' := by
  by_cases h1 : r < 128
  · have HR := Lib.hid (ret_enc r h w 1 (by unfold encN; rw [if_pos h1]; rfl) #[.int .u8 (r : Int)] (by unfold encN; rw [if_pos h1]; rfl))
    go_enter Tryz.func16, Tryz.ntmps16
    go_wp2_with fail
    go_ret
    exact ⟨HR.out, (Below.refl _ _).alloc (Nat.le_refl _) _⟩
  · have h1' : 128 ≤ r := by omega
    by_cases h2 : r < 2048
    · have HR := Lib.hid (ret_enc r h w 2 (by unfold encN; rw [if_neg h1, if_pos h2]; rfl) #[.int .u8 ((192 + r / 64 : Nat) : Int), .int .u8 ((128 + r % 64 : Nat) : Int)] (by unfold encN; rw [if_neg h1, if_pos h2]; rfl))
      have q1 : (r : Int).tdiv 64 = ((r / 64 : Nat) : Int) := rfl
      have q2 : (r : Int).tmod 64 = ((r % 64 : Nat) : Int) := rfl
      clear h1
      go_enter Tryz.func16, Tryz.ntmps16
      go_wp2_with fail
      go_ret
      exact ⟨HR.out, (Below.refl _ _).alloc (Nat.le_refl _) _⟩
    · have h2' : 2048 ≤ r := by omega
      by_cases h3 : r < 65536
      · have HR := Lib.hid (ret_enc r h w 3 (by unfold encN; rw [if_neg h1, if_neg h2, if_pos h3]; rfl) #[.int .u8 ((224 + r / 4096 : Nat) : Int), .int .u8 ((128 + r / 64 % 64 : Nat) : Int), .int .u8 ((128 + r % 64 : Nat) : Int)] (by unfold encN; rw [if_neg h1, if_neg h2, if_pos h3]; rfl))
        have q1 : (r : Int).tdiv 64 = ((r / 64 : Nat) : Int) := rfl
        have q2 : (r : Int).tmod 64 = ((r % 64 : Nat) : Int) := rfl
        have q3 : (r : Int).tdiv 4096 = ((r / 4096 : Nat) : Int) := rfl
        have q4 : ((r / 64 : Nat) : Int).tmod 64 = ((r / 64 % 64 : Nat) : Int) := rfl
        clear h1 h2
        go_enter Tryz.func16, Tryz.ntmps16
        go_wp2_with fail
        go_ret
        exact ⟨HR.out, (Below.refl _ _).alloc (Nat.le_refl _) _⟩
      · have h3' : 65536 ≤ r := by omega
        have HR := Lib.hid (ret_enc r h w 4 (by unfold encN; rw [if_neg h1, if_neg h2, if_neg h3]; rfl) #[.int .u8 ((240 + r / 262144 : Nat) : Int), .int .u8 ((128 + r / 4096 % 64 : Nat) : Int), .int .u8 ((128 + r / 64 % 64 : Nat) : Int), .int .u8 ((128 + r % 64 : Nat) : Int)] (by unfold encN; rw [if_neg h1, if_neg h2, if_neg h3]; rfl))
        have q1 : (r : Int).tdiv 64 = ((r / 64 : Nat) : Int) := rfl
        have q2 : (r : Int).tmod 64 = ((r % 64 : Nat) : Int) := rfl
        have q3 : (r : Int).tdiv 4096 = ((r / 4096 : Nat) : Int) := rfl
        have q5 : (r : Int).tdiv 262144 = ((r / 262144 : Nat) : Int) := rfl
        have q4 : ((r / 64 : Nat) : Int).tmod 64 = ((r / 64 % 64 : Nat) : Int) := rfl
        have q6 : ((r / 4096 : Nat) : Int).tmod 64 = ((r / 4096 % 64 : Nat) : Int) := rfl
        clear h1 h2 h3
        go_enter Tryz.func16, Tryz.ntmps16
        go_wp2_with fail
        go_ret
        exact ⟨HR.out, (Below.refl _ _).alloc (Nat.le_refl _) _⟩
#print axioms Bytes_any
end Go.Proofs.YtlomcmichbnkaaaGreatDoor
