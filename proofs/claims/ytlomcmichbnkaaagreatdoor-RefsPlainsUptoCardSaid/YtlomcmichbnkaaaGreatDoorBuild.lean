/-
  strings.Builder over a builder that the call has made: copyCheck, WriteString (whose panic is refused here), String.
-/
import Derived.Test.YtlomcmichbnkaaaGreatDoorProg
import Derived.Test.YtlomcmichbnkaaaGreatDoorShelf
import Derived.Test.YtlomcmichbnkaaaGreatDoorGenA
import Derived.Lib.FrozenHead
import Derived.Lib.UnsafeStr
namespace Go.Proofs.YtlomcmichbnkaaaGreatDoor
open Go.RowKit

abbrev IsB (B b : Nat) (bs : List Value) (w : World) : Prop := Lib.IsBuilderF 33 5 B b bs w
theorem infoBld : (Tryz.prog.info? 33).map (fun i => i.size) = some 2 := by kernel_rfl
theorem liesBld : liesAt Tryz.prog Tryz.prog.depth 33 (2 / Tryz.prog.cellsOf 33) 0 33 1 = true := by kernel_rfl
theorem underUP : Tryz.prog.underlying 70 = some .unsafePointer := by kernel_rfl
theorem infoU8b : (Tryz.prog.info? 5).map (fun i => (i.zero, i.size, i.bytes)) = some (some (.int .u8 0), 1, 1) := by kernel_rfl

set_option maxHeartbeats 1000000 in
set_option maxRecDepth 100000 in
theorem copy_used (b : Nat) (w : World) (h0 : w.cell? ⟨b, 0, none⟩ = some (.pointer (some ⟨b, 0, none⟩))) :
    Calls Tryz.prog 22 #[.pointer (some ⟨b, 0, none⟩)] w fun e w' => e = .returned (.tuple #[]) ∧ w' = w := by
  obtain ⟨j, hj, _⟩ := Option.map_eq_some_iff.1 infoBld
  go_enter Tryz.func22, Tryz.ntmps22
  go_wp2
  rw [Lib.run_neq_ptr_same w _ Tryz.underlying30 hj]
  go_wp2
  go_end0
  exact ⟨rfl, rfl⟩
set_option maxHeartbeats 1000000 in
set_option maxRecDepth 100000 in
theorem copy_fresh (b : Nat) (w : World) (h0 : w.cell? ⟨b, 0, none⟩ = some (.pointer none)) (hsh : w.shape? b = some (33, 2)) (hfz : w.frozen? ⟨b, 0, none⟩ = false) :
    Calls Tryz.prog 22 #[.pointer (some ⟨b, 0, none⟩)] w fun e w' => e = .returned (.tuple #[]) ∧ w' = w.setCell ⟨b, 0, none⟩ (.pointer (some ⟨b, 0, none⟩)) := by
  obtain ⟨j, hj, hjs⟩ := Option.map_eq_some_iff.1 infoBld
  go_enter Tryz.func22, Tryz.ntmps22
  go_wp2
  rw [Lib.run_to_unsafe w ⟨b, 0, none⟩ Tryz.underlying30 underUP hj (by rw [hjs]; decide) hsh (Nat.zero_lt_succ 1)]
  simp only [Result.andThen]
  rw [Oper.upon_value]
  go_wp2
  rw [run_callFunc_extern Tryz.func34 (by kernel_rfl) (by kernel_rfl) (by kernel_rfl) (e := Extern.AbiNoEscape.same) (by kernel_rfl)]
  rw [Lib.run_noEscape]
  simp only [Result.andThen]
  rw [Oper.upon_value]
  go_wp2
  rw [Lib.run_from_unsafe w ⟨b, 0, none⟩ underUP Tryz.underlying30 hj hsh liesBld]
  simp only [Result.andThen]
  rw [Oper.upon_value]
  go_wp2
  go_end0
  exact ⟨rfl, rfl⟩
theorem copy_any (B b : Nat) (bs : List Value) (w : World) (h : IsB B b bs w) :
    Calls Tryz.prog 22 #[.pointer (some ⟨b, 0, none⟩)] w fun e w' => e = .returned (.tuple #[]) ∧ Lib.BuilderAtF 33 5 B b (.pointer (some ⟨b, 0, none⟩)) bs w' ∧ Below B w w' := by
  rcases h with h | h
  · refine (copy_fresh b w h.cell0 h.shape h.frozen0).mono ?_
    rintro e w' ⟨rfl, rfl⟩
    exact ⟨rfl, h.used _, (Below.refl B w).setCell (p := ⟨b, 0, none⟩) h.1 _⟩
  · refine (copy_used b w h.cell0).mono ?_
    rintro e w' ⟨rfl, rfl⟩
    exact ⟨rfl, h, Below.refl B _⟩

set_option maxHeartbeats 2000000 in
set_option maxRecDepth 100000 in
theorem bwrite_any (B b : Nat) (l : List UInt8) (s : ByteArray) (w : World) (h : IsB B b (u8s l) w) (hlen : l.length + s.size ≤ 140737488355328) (hBw : B ≤ w.heap.size) :
    Calls Tryz.prog 10 #[.pointer (some ⟨b, 0, none⟩), .string s] w fun e w' => e = .returned (.tuple #[.int .i64 s.size, .nilIface]) ∧ IsB B b (u8s (l ++ s.data.toList)) w' ∧ Below B w w' := by
  obtain ⟨i0, hi, h3⟩ := Option.map_eq_some_iff.1 infoU8b
  simp only [Prod.mk.injEq] at h3
  obtain ⟨hz0, hz1, hz2⟩ := h3
  go_enter Tryz.func10, Tryz.ntmps10
  go_wp2_with fail
  refine (copy_any B b (u8s l) w h).mono ?_
  rintro e w1 ⟨rfl, h1, hb1⟩
  obtain ⟨hB, v, hbk, hown, hne⟩ := h1
  have c0 : w1.cell? ⟨b, 0, none⟩ = some (.pointer (some ⟨b, 0, none⟩)) := by rw [Lib.cell_of_heap hbk]; rfl
  have c1 : w1.cell? ⟨b, 1, none⟩ = some v := by rw [Lib.cell_of_heap hbk]; rfl
  have hul : (u8s l).length = l.length := u8s_length l
  have HUL := Lib.hid hul
  clear hul
  go_wp2_with (at_builtin; refine Lib.wpList_append_own_stringF _ rfl _ _ 31 9 rfl B 5 i0 Tryz.underlying31 Tryz.underlying9 hi hz0 hz1 hz2 _ _ _ rfl hown s rfl ?c3 ?c4 ?c5 ?_)
  case c3 => rw [HUL.out]; unfold maxLen; omega
  case c4 => rw [HUL.out]; omega
  case c5 => have := hb1.size; omega
  intro v' w2 hown' hgrow _
  have hlt : b < w1.heap.size := heap_lt hbk
  have hb2 : w2.heap[b]? = some (.cells #[.pointer (some ⟨b, 0, none⟩), v] 33 (0, 0)) := by
    rw [hgrow.block b hlt (fun e => hne e.symm)]
    exact hbk
  have d0 : w2.cell? ⟨b, 0, none⟩ = some (.pointer (some ⟨b, 0, none⟩)) := by rw [Lib.cell_of_heap hb2]; rfl
  have d1 : w2.cell? ⟨b, 1, none⟩ = some v := by rw [Lib.cell_of_heap hb2]; rfl
  have f1 : w2.frozen? ⟨b, 1, none⟩ = false := Lib.frozen_of_heap hb2 1
  obtain ⟨ao, n', cap, rfl⟩ : ∃ ao n' cap, v' = .slice ao n' cap := by
    rcases hown'.2 with ⟨hv, _⟩ | ⟨g, cap, cur, fz, hv, _⟩
    · exact ⟨_, _, _, hv⟩
    · exact ⟨_, _, _, hv⟩
  go_wp2
  go_ret2
  have hcells : u8s l ++ Lib.strCells s = u8s (l ++ s.data.toList) := by simp [Lib.strCells, u8s]
  refine ⟨rfl, .inr ?_, ?_⟩
  · rw [← hcells]
    exact Lib.BuilderAtF.put (T := 33) (e := 5) hB hb2 (bs' := u8s l ++ Lib.strCells s) (by simpa [Lib.strCells_length] using hown') (by decide)
  · exact (hb1.grown hgrow (by have := hb1.size; omega) (fun k hk => (hown.lt k hk).1)).setCell (p := ⟨b, 1, none⟩) hB _

theorem bstring_any (B b : Nat) (l : List UInt8) (w : World) (h : IsB B b (u8s l) w) (hBw : B ≤ w.heap.size) :
    Calls Tryz.prog 11 #[.pointer (some ⟨b, 0, none⟩)] w fun e w' => e = .returned (.string ⟨l.toArray⟩) ∧ IsB B b (u8s l) w' ∧ Below B w w' := by
  have e : u8s l = Lib.byteCells l := rfl
  rw [e] at h ⊢
  exact (Tryz.Builder_String_any_k B b l w h hBw).mono fun e w' ⟨h1, h2, h3, _⟩ => ⟨h1, h2, h3⟩
/-- a new builder -/
theorem isB_new (w : World) (B : Nat) (hB : B ≤ w.heap.size) : IsB B w.heap.size (u8s []) (w.alloc (.cells #[.pointer none, .slice none 0 0] 33)) := by
  refine .inl ⟨hB, .slice none 0 0, heap_alloc_new w _, ⟨rfl, .inl ⟨rfl, rfl⟩⟩, ?_⟩
  simp [Value.ownBlock]
end Go.Proofs.YtlomcmichbnkaaaGreatDoor
