/-
  strings.Cut at one byte.
-/
import Derived.Test.YtlomcmichbnkaaaGreatDoorBackP
import Derived.Test.YtlomcmichbnkaaaGreatDoorShelf
import Derived.IntWalk
namespace Go.Proofs.YtlomcmichbnkaaaGreatDoor
open Go.RowKit

theorem indexByte_lt (c : UInt8) (l : List UInt8) (h : 0 ≤ Lib.indexByte l c) : (Lib.indexByte l c).toNat < l.length := by
  induction l with
  | nil => simp [Lib.indexByte] at h
  | cons b l ih =>
    have hg := Lib.indexByte_ge l c
    unfold Lib.indexByte at h ⊢
    split at h
    · rename_i h1; rw [if_pos h1]; simp
    · rename_i h1
      rw [if_neg h1]
      split at h
      · simp at h
      · rename_i h2
        rw [if_neg h2]
        have : Lib.indexByte l c ≠ -1 := by simpa using h2
        have := ih (by omega)
        simp only [List.length_cons]
        omega
theorem extU (l : List UInt8) (i j : Nat) : (strU l).extract i j = strU ((l.drop i).take (j - i)) := by rw [strU, ByteArray.extract_mk]; rfl

set_option maxRecDepth 100000 in
set_option maxHeartbeats 1000000 in
theorem scut_amp (l : List UInt8) (hl : l.length ≤ 1073741824) (w : World) :
    Calls Tryz.prog 21 #[.string (strU l), .string ⟨#[38]⟩] w fun e w' => e = .returned (.tuple #[.string (strU (cutB l).1), .string (strU (cutB l).2.1), .bool (cutB l).2.2]) ∧ ∃ n, w' = w.drewN n := by
  have HI := Lib.hid (Tryz.stringslite_Index_one (strU l) 38 w)
  rw [strU_data] at HI
  have hsz := strU_size l
  by_cases h : 0 ≤ Lib.indexByte l 38
  · have hlt := indexByte_lt 38 l h
    have e : cutB l = (l.take (Lib.indexByte l 38).toNat, l.drop ((Lib.indexByte l 38).toNat + 1), true) := by unfold cutB; rw [if_pos h]
    rw [e]
    clear e
    obtain ⟨k, hk⟩ : ∃ k : Nat, Lib.indexByte l 38 = k := ⟨(Lib.indexByte l 38).toNat, by omega⟩
    rw [hk] at HI hlt ⊢
    rw [show ((k : Int)).toNat = k by omega] at hlt ⊢
    have e1 : (strU l).extract 0 k = strU (l.take k) := extU l 0 k
    have e2 : (strU l).extract (k + 1) (strU l).size = strU (l.drop (k + 1)) := by
      rw [extU, List.take_of_length_le (by rw [List.length_drop, strU_size]; exact Nat.le_refl _)]
    have E1 := Lib.hid e1
    have E2 := Lib.hid e2
    rw [hsz] at E2
    have ew : IntKind.i64.wrap ((k : Int) + 1) = ((k + 1 : Nat) : Int) := by rw [IntWalk.i64_in _ (by omega)]; omega
    clear e1 e2 h hk
    generalize strU l = S at *
    generalize l.length = N at *
    have hN1 : k + 1 ≤ S.size := by omega
    have hN2 : k ≤ S.size := by omega
    go_enter Tryz.func21, Tryz.ntmps21
    go_wp2_with fail
    refine HI.out.mono ?_
    rintro e w1 ⟨rfl, rfl⟩
    go_wp2_with fail
    go_quiet (fail)
    go_wp2_with fail
    rw [E1.out, E2.out]
    go_ret3
    exact ⟨rfl, _, rfl⟩
  · have e : cutB l = (l, [], false) := by unfold cutB; rw [if_neg h]
    rw [e]
    clear e
    generalize hS : strU l = S at *
    generalize Lib.indexByte l 38 = z at *
    have hz : z < 0 := by omega
    go_enter Tryz.func21, Tryz.ntmps21
    go_wp2_with fail
    refine HI.out.mono ?_
    rintro e w1 ⟨rfl, rfl⟩
    go_wp2_with fail
    go_ret3
    exact ⟨rfl, 0, rfl⟩
set_option maxRecDepth 100000 in
theorem cut_amp (l : List UInt8) (hl : l.length ≤ 1073741824) (w : World) :
    Calls Tryz.prog 9 #[.string (strU l), .string ⟨#[38]⟩] w fun e w' => e = .returned (.tuple #[.string (strU (cutB l).1), .string (strU (cutB l).2.1), .bool (cutB l).2.2]) ∧ ∃ n, w' = w.drewN n := by
  have HS := Lib.hid (scut_amp l hl w)
  generalize strU l = S at *
  generalize strU (cutB l).1 = X at *
  generalize strU (cutB l).2.1 = Y at *
  generalize (cutB l).2.2 = Z at *
  go_enter Tryz.func9, Tryz.ntmps9
  go_wp2_with fail
  refine HS.out.mono ?_
  rintro e w1 ⟨rfl, n, rfl⟩
  go_wp2_with fail
  go_ret3
  exact ⟨rfl, n, rfl⟩
theorem contains_lt (l : List UInt8) (w : World) :
    Calls Tryz.prog 8 #[.string (strU l), .string ⟨#[60]⟩] w fun e w' => e = .returned (.bool (hasLt l)) ∧ w' = w := by
  have h := Tryz.strings_Contains_one (strU l) 60 w
  rw [strU_data] at h
  exact h
#print axioms cut_amp
end Go.Proofs.YtlomcmichbnkaaaGreatDoor
