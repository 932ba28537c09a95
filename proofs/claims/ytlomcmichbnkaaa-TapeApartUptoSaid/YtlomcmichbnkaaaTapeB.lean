/-
  Package tape: Held, Cut.
-/
import Derived.Test.YtlomcmichbnkaaaTapeA
import Derived.IntWalk
namespace Go.Proofs.Ytlomcmichbnkaaa
open Go.RowKit

theorem TapeAt.drewN {w : World} {R tb : Nat} {all : List UInt8} {first front : Nat} (h : TapeAt w R tb all first front) (n : Nat) : TapeAt (w.drewN n) R tb all first front :=
  h.keep (Nat.le_refl _) rfl (fun _ _ _ => rfl)
theorem Only.drewN {R tb U : Nat} {w w' : World} (h : Only R tb U w w') (n : Nat) : Only R tb U w (w'.drewN n) := ⟨h.os, h.tape, h.output, h.size, h.block⟩

set_option maxHeartbeats 1000000 in
theorem tape_held (R tb : Nat) (all : List UInt8) (first front : Nat) (w : World) (h : TapeAt w R tb all first front) :
    Calls Try.prog 10 #[.pointer (some ⟨tb, 0, none⟩)] w fun e w' => e = .returned (.int .i64 ((all.length - front : Nat) : Int)) ∧ ∃ d, w' = w.drewN d := by
  obtain ⟨v, h1, _⟩ := h.at'
  have c2 : w.cell? ⟨tb, 2, none⟩ = some (.int .i64 front) := by rw [cell_heap h1]; rfl
  have hfa := h.fa
  have hsm := h.small
  have HT := Lib.hid h
  obtain ⟨m, hm⟩ : ∃ m, m = all.length - front := ⟨_, rfl⟩
  have e1 : IntKind.i64.wrap ((all.length : Int) - (front : Int)) = (m : Int) := by rw [IntWalk.i64_in _ (by omega)]; omega
  rw [← hm]
  have hme : (all.length : Int) - (front : Int) = (m : Int) := by omega
  have HME := Lib.hid hme
  clear h1 h hm hme
  go_enter Try.func10, Try.ntmps10
  go_wp2_with fail
  go_quiet ((go_at_call 7; exact Calls.quiet_of (tape_place R tb all first front _ (HT.out.drewN _))))
  go_wp2_with fail
  go_ret
  exact ⟨rfl, _, rfl⟩
theorem tape_held_nil (w : World) :
    Calls Try.prog 10 #[.pointer none] w fun e w' => e = .returned (.int .i64 0) ∧ w = w' := by
  go_enter Try.func10, Try.ntmps10
  go_wp2_with fail
  go_ret
  exact ⟨rfl, rfl⟩

theorem elemBS : Try.prog.elem 39 = 5 := by kernel_rfl
theorem sizeU8 (w : World) : (sizeOf 5).run Try.prog w = .ok 1 w := by kernel_rfl
/-- a piece of bytes -/
theorem slice_bytes {w : World} {a : Option Addr} {m c : Nat} {l : List UInt8} (hs : Sl w a m (u8s l)) (hmc : m ≤ c) (x y : Nat) (hxy : x ≤ y) (hym : y ≤ m) :
    ∃ a', (∀ W, (Instr.slice 39 (.slice a m c) (some (.int .i64 (x : Int))) (some (.int .i64 (y : Int))) none).run Try.prog W = .ok (.slice a' (y - x) (c - x)) W) ∧ Sl w a' (y - x) (u8s ((l.drop x).take (y - x))) := by
  have hm : m = l.length := by have := hs.len; rw [u8s_length] at this; exact this
  refine ⟨if c = x then a else a.map (·.add (x * 1)), fun W => ?_, ?_⟩
  · rw [run_slice_lh (P := Try.prog) W 39 a m c (by rw [elemBS]; exact Try.underlying39) .i64 .i64 (x : Int) (y : Int) (by omega) (by omega) (by omega), elemBS, sizeU8]
    rfl
  · have hl : ((l.drop x).take (y - x)).length = y - x := by rw [List.length_take, List.length_drop]; omega
    refine ⟨by rw [u8s_length, hl], fun i hi => ?_⟩
    rw [u8s_length, hl] at hi
    rw [if_neg (by omega)]
    obtain ⟨b, o, rfl, hlt, hc⟩ := hs.cell (x + i) (by rw [u8s_length]; omega)
    refine ⟨b, o + x, ?_, hlt, ?_⟩
    · simp only [Option.map_some, Nat.mul_one, Addr.add_lit]
    · rw [show o + x + i = o + (x + i) by omega, hc]
      simp [u8s]

/-- what Cut answers: the bytes and the error's number -/
def cutW (all : List UInt8) (front : Nat) (from' to' : Int) : List UInt8 × Int :=
  if from' < front ∨ (all.length : Int) < to' ∨ to' < from' then ([], 2) else ((all.drop from'.toNat).take (to'.toNat - from'.toNat), 0)
def RetCut (e : Ending) (t : List UInt8 × Int) : Prop := e = .returned (.tuple #[.string (strL t.1), .int .i64 t.2])

set_option maxRecDepth 100000 in
set_option maxHeartbeats 4000000 in
theorem tape_cut (R tb : Nat) (all : List UInt8) (first front : Nat) (from' to' : Int) (w : World) (h : TapeAt w R tb all first front) :
    Calls Try.prog 11 #[.pointer (some ⟨tb, 0, none⟩), .int .i64 from', .int .i64 to'] w fun e w' => RetCut e (cutW all front from' to') ∧ ∃ d, w' = w.drewN d := by
  obtain ⟨v, h1, h2⟩ := h.at'
  have c2 : w.cell? ⟨tb, 2, none⟩ = some (.int .i64 front) := by rw [cell_heap h1]; rfl
  have hff := h.ff
  have hfa := h.fa
  have hsm := h.small
  have HP := Lib.hid (fun d => tape_place R tb all first front (w.drewN d) (h.drewN d))
  have HP0 := Lib.hid (tape_place R tb all first front w h)
  obtain ⟨N, hN⟩ : ∃ N, N = all.length := ⟨_, rfl⟩
  by_cases hA : from' < front
  · have e : cutW all front from' to' = ([], 2) := by unfold cutW; rw [if_pos (.inl hA)]
    rw [e]
    clear h1 h2 h e hN
    go_enter Try.func11, Try.ntmps11
    go_wp2_with fail
    go_ret2
    exact ⟨rfl, 0, rfl⟩
  · have hA' : (front : Int) ≤ from' := by omega
    rw [← hN] at HP HP0 hfa hsm
    by_cases hB : (N : Int) < to'
    · have e : cutW all front from' to' = ([], 2) := by unfold cutW; rw [if_pos (.inr (.inl (by omega)))]
      rw [e]
      clear h1 h2 h e hN hA
      go_enter Try.func11, Try.ntmps11
      go_wp2_with fail
      (with_reducible refine HP0.out.mono ?_)
      rintro e w1 ⟨rfl, d, rfl⟩
      go_wp2_with fail
      go_ret2
      exact ⟨rfl, _, rfl⟩
    · have hB' : to' ≤ (N : Int) := by omega
      by_cases hC : to' < from'
      · have e : cutW all front from' to' = ([], 2) := by unfold cutW; rw [if_pos (.inr (.inr hC))]
        rw [e]
        clear h1 h2 h e hN hA hB
        go_enter Try.func11, Try.ntmps11
        go_wp2_with fail
        (with_reducible refine HP0.out.mono ?_)
        rintro e w1 ⟨rfl, d, rfl⟩
        go_wp2_with fail
        go_ret2
        exact ⟨rfl, _, rfl⟩
      · have hC' : from' ≤ to' := by omega
        obtain ⟨i, rfl⟩ : ∃ i : Nat, from' = i := ⟨from'.toNat, by omega⟩
        obtain ⟨j, rfl⟩ : ∃ j : Nat, to' = j := ⟨to'.toNat, by omega⟩
        have e : cutW all front i j = ((all.drop i).take (j - i), 0) := by
          unfold cutW; rw [if_neg (by rintro (h | h | h) <;> omega)]; rfl
        rw [e]
        obtain ⟨a, c, rfl, hmc, hsl⟩ := town_sl h2
        have c0 : w.cell? ⟨tb, 0, none⟩ = some (.slice a (all.length - first) c) := by rw [cell_heap h1]; rfl
        have c1 : w.cell? ⟨tb, 1, none⟩ = some (.int .i64 first) := by rw [cell_heap h1]; rfl
        obtain ⟨a', hr, hs'⟩ := slice_bytes hsl hmc (i - first) (j - first) (by omega) (by omega)
        rw [List.drop_drop, show first + (i - first) = i by omega, show j - first - (i - first) = j - i by omega] at hs'
        rw [show j - first - (i - first) = j - i by omega] at hr
        have hcv : ∀ (c : Nat) (d : Nat), (convert 39 9 (.slice a' (j - i) c)).run Try.prog (w.drewN d) = .ok (.string (strL ((all.drop i).take (j - i)))) (w.drewN d) := by
          intro c d
          have hs2 : Sl (w.drewN d) a' (j - i) (bytesV (strL ((all.drop i).take (j - i)))) := by
            have := hs'.keep (w' := w.drewN d) (fun _ _ _ => rfl)
            exact this
          exact run_bytes_str hs2 39 9 5 Try.underlying39 Try.underlying5 Try.underlying9 c
        generalize hSe : strL ((all.drop i).take (j - i)) = S at *
        have HSE := Lib.hid hSe
        clear hSe
        obtain ⟨x, hx⟩ : ∃ x, x = i - first := ⟨_, rfl⟩
        obtain ⟨y, hy⟩ : ∃ y, y = j - first := ⟨_, rfl⟩
        have e1 : IntKind.i64.wrap ((i : Int) - (first : Int)) = (x : Int) := by rw [IntWalk.i64_in _ (by omega)]; omega
        have e2 : IntKind.i64.wrap ((j : Int) - (first : Int)) = (y : Int) := by rw [IntWalk.i64_in _ (by omega)]; omega
        obtain ⟨z, hz⟩ : ∃ z, z = j - i := ⟨_, rfl⟩
        obtain ⟨M, hM⟩ : ∃ M, M = all.length - first := ⟨_, rfl⟩
        rw [← hx, ← hy, ← hz, ← hM] at hr
        rw [← hz] at hcv
        rw [← hM] at c0
        have hji : decide ((j : Int) < (i : Int)) = false := by simp; omega
        have hjN : decide (N < j) = false := by simp; omega
        have hif : decide (i < front) = false := by simp; omega
        clear h1 h2 h e hN hA hB hC hx hy hz hM hsl hs'
        go_enter Try.func11, Try.ntmps11
        go_wp2_with fail
        (with_reducible refine HP0.out.mono ?_)
        rintro e w1 ⟨rfl, d, rfl⟩
        go_wp2_with fail
        go_quiet (fail)
        go_wp2_with fail
        go_ret2
        refine ⟨?_, d + nq, by rw [World.drewN_drewN]⟩
        show _ = Ending.returned (.tuple #[.string (strL ((all.drop i).take (j - i))), .int .i64 0])
        rw [HSE.out]
        rfl
theorem tape_cut_nil (from' to' : Int) (w : World) :
    Calls Try.prog 11 #[.pointer none, .int .i64 from', .int .i64 to'] w fun e w' => RetCut e ([], 1) ∧ w = w' := by
  go_enter Try.func11, Try.ntmps11
  go_wp2_with fail
  go_ret2
  exact ⟨rfl, rfl⟩
end Go.Proofs.Ytlomcmichbnkaaa
