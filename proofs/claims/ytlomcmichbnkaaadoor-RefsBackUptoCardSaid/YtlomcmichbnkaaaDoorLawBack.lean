/-
  gimletlaw05.RefsBack: the walk.
-/
import Derived.Test.YtlomcmichbnkaaaDoorPlainW
namespace Go.Proofs.YtlomcmichbnkaaaDoor
open Go.RowKit

theorem replL_le6 {ps : List (UInt8 × ByteArray)} (h : ∀ b, (form ps b).length ≤ 6) (l : List UInt8) : (replL ps l).length ≤ 6 * l.length := by
  induction l with
  | nil => simp [replL]
  | cons b l ih =>
    have e : replL ps (b :: l) = form ps b ++ replL ps l := by simp [replL]
    have := h b
    rw [e, List.length_append, List.length_cons]
    omega
theorem text_le (l : List UInt8) : (replL textPs l).length ≤ 6 * l.length :=
  replL_le6 (fun b => all_bytes (p := fun b => (form textPs b).length ≤ 6) (by decide +kernel) b) l
theorem value_le (l : List UInt8) : (replL valuePs l).length ≤ 6 * l.length :=
  replL_le6 (fun b => all_bytes (p := fun b => (form valuePs b).length ≤ 6) (by decide +kernel) b) l
theorem replS_strU (ps : List (UInt8 × ByteArray)) (l : List UInt8) : replS ps (strU l) = strU (replL ps l) := by
  unfold replS; rw [strU_data]; rfl

set_option maxRecDepth 100000 in
set_option maxHeartbeats 4000000 in
theorem back_any (l : List UInt8) (hl : l.length ≤ 1048576) (w : World) (hR : RangesAt w 2) (hT : Lib.Utf8Tabs 0 1 w) :
    Calls Tryd.prog 3 #[.string (strU l)] w fun e w' => e = .returned (.bool true) ∧ Below w.heap.size w w' := by
  have HTX : Hid (∀ W, Calls Tryd.prog 5 #[.string (strU l)] W fun e w' => e = .returned (.string (strU (replL textPs l))) ∧ Below W.heap.size W w') := Lib.hid fun W => by
    have := Text_any (strU l) W (by rw [strU_size]; omega)
    rw [replS_strU] at this
    exact this
  have HVL : Hid (∀ W, Calls Tryd.prog 6 #[.string (strU l)] W fun e w' => e = .returned (.string (strU (replL valuePs l))) ∧ Below W.heap.size W w') := Lib.hid fun W => by
    have := Value_any (strU l) W (by rw [strU_size]; omega)
    rw [replS_strU] at this
    exact this
  have HP1 : Hid (∀ W, Below w.heap.size w W → Calls Tryd.prog 4 #[.string (strU (replL textPs l))] W fun e w' => RetP e (if textsB l = true then (l, 0) else ([], 6)) ∧ Below W.heap.size W w') := Lib.hid fun W hW => by
    have := Plain_any (replL textPs l) (by have := text_le l; omega) W (hR.below hW) (Utf8Tabs_below hT hW)
    rw [plainA_text] at this
    exact this
  have HP2 : Hid (∀ W, Below w.heap.size w W → Calls Tryd.prog 4 #[.string (strU (replL valuePs l))] W fun e w' => RetP e (if textsB l = true then (l, 0) else ([], 6)) ∧ Below W.heap.size W w') := Lib.hid fun W hW => by
    have := Plain_any (replL valuePs l) (by have := value_le l; omega) W (hR.below hW) (Utf8Tabs_below hT hW)
    rw [plainA_value] at this
    exact this
  have HFX : Hid (∀ W, Below w.heap.size w W → Calls Tryd.prog 7 #[] W fun e w' => e = .returned (.bool true) ∧ Below W.heap.size W w') := Lib.hid fun W hW => fixed_any W (hR.below hW)
  have HTS : Hid (∀ W, Below w.heap.size w W → Calls Tryd.prog 8 #[.string (strU l)] W fun e w' => e = .returned (.bool (textsB l)) ∧ Below W.heap.size W w') := Lib.hid fun W hW => Texts_any l W (by omega) (hR.below hW) (Utf8Tabs_below hT hW)
  clear hR hT
  generalize strU (replL textPs l) = T at *
  generalize strU (replL valuePs l) = V at *
  cases hB : textsB l with
  | true =>
    rw [hB] at HP1 HP2 HTS
    rw [if_pos rfl] at HP1 HP2
    clear hB
    have HP1 : Hid (∀ W, Below w.heap.size w W → Calls Tryd.prog 4 #[.string T] W fun e w' => e = .returned (.tuple #[.string (strU l), .int .i64 0]) ∧ Below W.heap.size W w') := HP1
    have HP2 : Hid (∀ W, Below w.heap.size w W → Calls Tryd.prog 4 #[.string V] W fun e w' => e = .returned (.tuple #[.string (strU l), .int .i64 0]) ∧ Below W.heap.size W w') := HP2
    generalize strU l = S at *
    have hSS : (S.toList == S.toList) = true := by simp
    go_enter Tryd.func3, Tryd.ntmps3
    go_wp2_with fail
    (with_reducible refine (HTX.out _).mono ?_)
    rintro e w1 ⟨rfl, hb1⟩
    go_wp2_with fail
    (with_reducible refine (HP1.out _ hb1).mono ?_)
    rintro e w2 ⟨rfl, hb2⟩
    have hb2 := hb1.trans (hb2.mono hb1.size)
    clear hb1
    go_wp2_with fail
    (with_reducible refine (HVL.out _).mono ?_)
    rintro e w3 ⟨rfl, hb3⟩
    have hb3 := hb2.trans (hb3.mono hb2.size)
    clear hb2
    go_wp2_with fail
    (with_reducible refine (HP2.out _ hb3).mono ?_)
    rintro e w4 ⟨rfl, hb4⟩
    have hb4 := hb3.trans (hb4.mono hb3.size)
    clear hb3
    go_wp2_with fail
    (with_reducible refine (HFX.out _ hb4).mono ?_)
    rintro e w5 ⟨rfl, hb5⟩
    have hb5 := hb4.trans (hb5.mono hb4.size)
    clear hb4
    go_wp2_with fail
    (with_reducible refine (HTS.out _ hb5).mono ?_)
    rintro e w6 ⟨rfl, hb6⟩
    have hb6 := hb5.trans (hb6.mono hb5.size)
    clear hb5
    go_wp2_with fail
    go_ret
    exact ⟨rfl, hb6⟩
  | false =>
    rw [hB] at HP1 HP2 HTS
    rw [if_neg (by simp)] at HP1 HP2
    clear hB
    have HP1 : Hid (∀ W, Below w.heap.size w W → Calls Tryd.prog 4 #[.string T] W fun e w' => e = .returned (.tuple #[.string ⟨#[]⟩, .int .i64 6]) ∧ Below W.heap.size W w') := HP1
    have HP2 : Hid (∀ W, Below w.heap.size w W → Calls Tryd.prog 4 #[.string V] W fun e w' => e = .returned (.tuple #[.string ⟨#[]⟩, .int .i64 6]) ∧ Below W.heap.size W w') := HP2
    generalize strU l = S at *
    go_enter Tryd.func3, Tryd.ntmps3
    go_wp2_with fail
    (with_reducible refine (HTX.out _).mono ?_)
    rintro e w1 ⟨rfl, hb1⟩
    go_wp2_with fail
    (with_reducible refine (HP1.out _ hb1).mono ?_)
    rintro e w2 ⟨rfl, hb2⟩
    have hb2 := hb1.trans (hb2.mono hb1.size)
    clear hb1
    go_wp2_with fail
    (with_reducible refine (HVL.out _).mono ?_)
    rintro e w3 ⟨rfl, hb3⟩
    have hb3 := hb2.trans (hb3.mono hb2.size)
    clear hb2
    go_wp2_with fail
    (with_reducible refine (HP2.out _ hb3).mono ?_)
    rintro e w4 ⟨rfl, hb4⟩
    have hb4 := hb3.trans (hb4.mono hb3.size)
    clear hb3
    go_wp2_with fail
    (with_reducible refine (HFX.out _ hb4).mono ?_)
    rintro e w5 ⟨rfl, hb5⟩
    have hb5 := hb4.trans (hb5.mono hb4.size)
    clear hb4
    go_wp2_with fail
    (with_reducible refine (HTS.out _ hb5).mono ?_)
    rintro e w6 ⟨rfl, hb6⟩
    have hb6 := hb5.trans (hb6.mono hb5.size)
    clear hb5
    go_wp2_with fail
    go_ret
    exact ⟨rfl, hb6⟩
#print axioms back_any
end Go.Proofs.YtlomcmichbnkaaaDoor
