/-
  strings.Builder over a builder that the call has made: copyCheck, WriteString (whose panic is refused here), String.
-/
import Derived.Test.YtmnloeolacmemaaGreatProg
import Derived.Test.YtmnloeolacmemaaGreatShelf
import Derived.Test.YtmnloeolacmemaaGreatWpA
import Derived.Lib.FrozenHead
import Derived.Lib.UnsafeStr
import Derived.Test.YtmnloeolacmemaaGreatWpD
import Derived.Deep.RegionHeld3
namespace Go.Proofs.YtmnloeolacmemaaGreat
open Go.RowKit

abbrev IsB (B b : Nat) (bs : List Value) (w : World) : Prop := Lib.IsBuilderF 88 5 B b bs w
theorem infoBld : (Tryz.prog.info? 88).map (fun i => i.size) = some 2 := by kernel_rfl
theorem liesBld : liesAt Tryz.prog Tryz.prog.depth 88 (2 / Tryz.prog.cellsOf 88) 0 88 1 = true := by kernel_rfl
theorem underUP : Tryz.prog.underlying 101 = some .unsafePointer := by kernel_rfl
theorem infoU8b : (Tryz.prog.info? 5).map (fun i => (i.zero, i.size, i.bytes)) = some (some (.int .u8 0), 1, 1) := by kernel_rfl

set_option maxHeartbeats 1000000 in
set_option maxRecDepth 100000 in
theorem copy_used (b : Nat) (w : World) (h0 : w.cell? ⟨b, 0, none⟩ = some (.pointer (some ⟨b, 0, none⟩))) :
    Calls Tryz.prog 38 #[.pointer (some ⟨b, 0, none⟩)] w fun e w' => e = .returned (.tuple #[]) ∧ w' = w := by
  obtain ⟨j, hj, _⟩ := Option.map_eq_some_iff.1 infoBld
  go_enter Tryz.func38, Tryz.ntmps38
  go_wp2
  rw [Lib.run_neq_ptr_same w _ Tryz.underlying86 hj]
  go_wp2
  go_end0
  exact ⟨rfl, rfl⟩
set_option maxHeartbeats 1000000 in
set_option maxRecDepth 100000 in
theorem copy_fresh (b : Nat) (w : World) (h0 : w.cell? ⟨b, 0, none⟩ = some (.pointer none)) (hsh : w.shape? b = some (88, 2)) (hfz : w.frozen? ⟨b, 0, none⟩ = false) :
    Calls Tryz.prog 38 #[.pointer (some ⟨b, 0, none⟩)] w fun e w' => e = .returned (.tuple #[]) ∧ w' = w.setCell ⟨b, 0, none⟩ (.pointer (some ⟨b, 0, none⟩)) := by
  obtain ⟨j, hj, hjs⟩ := Option.map_eq_some_iff.1 infoBld
  go_enter Tryz.func38, Tryz.ntmps38
  go_wp2
  rw [Lib.run_to_unsafe w ⟨b, 0, none⟩ Tryz.underlying86 underUP hj (by rw [hjs]; decide) hsh (Nat.zero_lt_succ 1)]
  simp only [Result.andThen]
  rw [Oper.upon_value]
  go_wp2
  rw [run_callFunc_extern Tryz.func42 (by kernel_rfl) (by kernel_rfl) (by kernel_rfl) (e := Extern.AbiNoEscape.same) (by kernel_rfl)]
  rw [Lib.run_noEscape]
  simp only [Result.andThen]
  rw [Oper.upon_value]
  go_wp2
  rw [Lib.run_from_unsafe w ⟨b, 0, none⟩ underUP Tryz.underlying86 hj hsh liesBld]
  simp only [Result.andThen]
  rw [Oper.upon_value]
  go_wp2
  go_end0
  exact ⟨rfl, rfl⟩
theorem copy_any (B b : Nat) (bs : List Value) (w : World) (h : IsB B b bs w) :
    Calls Tryz.prog 38 #[.pointer (some ⟨b, 0, none⟩)] w fun e w' => e = .returned (.tuple #[]) ∧ Lib.BuilderAtF 88 5 B b (.pointer (some ⟨b, 0, none⟩)) bs w' ∧ Below B w w' := by
  rcases h with h | h
  · refine (copy_fresh b w h.cell0 h.shape h.frozen0).mono ?_
    rintro e w' ⟨rfl, rfl⟩
    exact ⟨rfl, h.used _, (Below.refl B w).setCell (p := ⟨b, 0, none⟩) h.1 _⟩
  · refine (copy_used b w h.cell0).mono ?_
    rintro e w' ⟨rfl, rfl⟩
    exact ⟨rfl, h, Below.refl B _⟩

set_option maxHeartbeats 2000000 in
set_option maxRecDepth 100000 in
theorem bwrite_any (B b : Nat) (l : List UInt8) (s : ByteArray) (w : World) (h : IsB B b (u8s l) w) (hlen : l.length + s.size ≤ 140737488355328) (hBw : B ≤ w.heap.size) :
    Calls Tryz.prog 31 #[.pointer (some ⟨b, 0, none⟩), .string s] w fun e w' => e = .returned (.tuple #[.int .i64 s.size, .nilIface]) ∧ IsB B b (u8s (l ++ s.data.toList)) w' ∧ Below B w w' := by
  obtain ⟨i0, hi, h3⟩ := Option.map_eq_some_iff.1 infoU8b
  simp only [Prod.mk.injEq] at h3
  obtain ⟨hz0, hz1, hz2⟩ := h3
  go_enter Tryz.func31, Tryz.ntmps31
  go_wp2_with fail
  refine (copy_any B b (u8s l) w h).mono ?_
  rintro e w1 ⟨rfl, h1, hb1⟩
  obtain ⟨hB, v, hbk, hown, hne⟩ := h1
  have c0 : w1.cell? ⟨b, 0, none⟩ = some (.pointer (some ⟨b, 0, none⟩)) := by rw [Lib.cell_of_heap hbk]; rfl
  have c1 : w1.cell? ⟨b, 1, none⟩ = some v := by rw [Lib.cell_of_heap hbk]; rfl
  have hul : (u8s l).length = l.length := u8s_length l
  have HUL := Lib.hid hul
  clear hul
  go_wp2_with (at_builtin; refine Lib.wpList_append_own_stringF _ rfl _ _ 75 9 rfl B 5 i0 Tryz.underlying75 Tryz.underlying9 hi hz0 hz1 hz2 _ _ _ rfl hown s rfl ?c3 ?c4 ?c5 ?_)
  case c3 => rw [HUL.out]; unfold maxLen; omega
  case c4 => rw [HUL.out]; omega
  case c5 => have := hb1.size; omega
  intro v' w2 hown' hgrow _
  have hlt : b < w1.heap.size := heap_lt hbk
  have hb2 : w2.heap[b]? = some (.cells #[.pointer (some ⟨b, 0, none⟩), v] 88 (0, 0)) := by
    rw [hgrow.block b hlt (fun e => hne e.symm)]
    exact hbk
  have d0 : w2.cell? ⟨b, 0, none⟩ = some (.pointer (some ⟨b, 0, none⟩)) := by rw [Lib.cell_of_heap hb2]; rfl
  have d1 : w2.cell? ⟨b, 1, none⟩ = some v := by rw [Lib.cell_of_heap hb2]; rfl
  have f1 : w2.frozen? ⟨b, 1, none⟩ = false := Lib.frozen_of_heap hb2 1
  obtain ⟨ao, n', cap, rfl⟩ : ∃ ao n' cap, v' = .slice ao n' cap := by
    rcases hown'.2 with ⟨hv, _⟩ | ⟨g, cap, cur, fz, hv, _⟩
    · exact ⟨_, _, _, hv⟩
    · exact ⟨_, _, _, hv⟩
  go_wp2
  go_ret2
  have hcells : u8s l ++ Lib.strCells s = u8s (l ++ s.data.toList) := by simp [Lib.strCells, u8s]
  refine ⟨rfl, .inr ?_, ?_⟩
  · rw [← hcells]
    exact Lib.BuilderAtF.put (T := 88) (e := 5) hB hb2 (bs' := u8s l ++ Lib.strCells s) (by simpa [Lib.strCells_length] using hown') (by decide)
  · exact (hb1.grown hgrow (by have := hb1.size; omega) (fun k hk => (hown.lt k hk).1)).setCell (p := ⟨b, 1, none⟩) hB _

theorem bstring_any (B b : Nat) (l : List UInt8) (w : World) (h : IsB B b (u8s l) w) (hBw : B ≤ w.heap.size) :
    Calls Tryz.prog 34 #[.pointer (some ⟨b, 0, none⟩)] w fun e w' => e = .returned (.string ⟨l.toArray⟩) ∧ IsB B b (u8s l) w' ∧ Below B w w' := by
  have e : u8s l = Lib.byteCells l := rfl
  rw [e] at h ⊢
  exact (Tryz.Builder_String_any_k B b l w h hBw).mono fun e w' ⟨h1, h2, h3, _⟩ => ⟨h1, h2, h3⟩
/-- a new builder -/
theorem isB_new (w : World) (B : Nat) (hB : B ≤ w.heap.size) : IsB B w.heap.size (u8s []) (w.alloc (.cells #[.pointer none, .slice none 0 0] 88)) := by
  refine .inl ⟨hB, .slice none 0 0, heap_alloc_new w _, ⟨rfl, .inl ⟨rfl, rfl⟩⟩, ?_⟩
  simp [Value.ownBlock]
end Go.Proofs.YtmnloeolacmemaaGreat

/-
  (*strings.Builder).WriteByte over a builder that the call has made.
-/
namespace Go.Proofs.YtmnloeolacmemaaGreat
open Go.RowKit

set_option maxHeartbeats 2000000 in
set_option maxRecDepth 100000 in
theorem bbyte_any (B b : Nat) (l : List UInt8) (c : UInt8) (w : World) (h : IsB B b (u8s l) w) (hlen : l.length + 1 ≤ 140737488355328) (hBw : B ≤ w.heap.size) :
    Calls Tryz.prog 33 #[.pointer (some ⟨b, 0, none⟩), .int .u8 c.toNat] w fun e w' => e = .returned .nilIface ∧ IsB B b (u8s (l ++ [c])) w' ∧ Below B w w' := by
  obtain ⟨i0, hi, h3⟩ := Option.map_eq_some_iff.1 infoU8b
  simp only [Prod.mk.injEq] at h3
  obtain ⟨hz0, hz1, hz2⟩ := h3
  obtain ⟨x, hx⟩ : ∃ x : Int, x = (c.toNat : Int) := ⟨_, rfl⟩
  rw [← hx]
  have HX := Lib.hid hx
  clear hx
  go_enter Tryz.func33, Tryz.ntmps33
  go_wp2_with fail
  refine (copy_any B b (u8s l) w h).mono ?_
  rintro e w1 ⟨rfl, h1, hb1⟩
  obtain ⟨hB, v, hbk, hown, hne⟩ := h1
  have c0 : w1.cell? ⟨b, 0, none⟩ = some (.pointer (some ⟨b, 0, none⟩)) := by rw [Lib.cell_of_heap hbk]; rfl
  have c1 : w1.cell? ⟨b, 1, none⟩ = some v := by rw [Lib.cell_of_heap hbk]; rfl
  have hul : (u8s l).length = l.length := u8s_length l
  have HUL := Lib.hid hul
  clear hul
  go_wp2_with (at_builtin; refine wpList_append_ownF _ rfl _ _ 75 rfl B 5 i0 (.int .u8 0) 1 1 Tryz.underlying75 hi hz0 hz1 hz2 rfl (by decide) _ _ _ rfl (hown.alloc _) ⟨w1.heap.size, 0, none⟩ 1 1 [.int .u8 x] rfl rfl ?c1 ?c2 ?c3 ?c4 ?c5 ?_)
  case c1 =>
    intro j u hj
    match j, hj with
    | 0, hj => simp at hj; subst hj; simp [Addr.add]
  case c2 => intro u hu; simp at hu; subst hu; rfl
  case c3 => rw [HUL.out]; unfold maxLen; omega
  case c4 => rw [HUL.out]; omega
  case c5 => have := hb1.size; simp; omega
  intro v' w2 hown' hgrow _
  have hlt : b < w1.heap.size := heap_lt hbk
  have hb2 : w2.heap[b]? = some (.cells #[.pointer (some ⟨b, 0, none⟩), v] 88 (0, 0)) := by
    rw [hgrow.block b (by simp; omega) (fun e => hne e.symm), Lib.alloc_old w1 _ b hlt]
    exact hbk
  have d0 : w2.cell? ⟨b, 0, none⟩ = some (.pointer (some ⟨b, 0, none⟩)) := by rw [Lib.cell_of_heap hb2]; rfl
  have d1 : w2.cell? ⟨b, 1, none⟩ = some v := by rw [Lib.cell_of_heap hb2]; rfl
  have f1 : w2.frozen? ⟨b, 1, none⟩ = false := Lib.frozen_of_heap hb2 1
  obtain ⟨g, cap, rfl⟩ : ∃ g cap, v' = .slice (some ⟨g, 0, none⟩) ((u8s l).length + 1) cap := by
    rcases hown'.2 with ⟨_, h0⟩ | ⟨g, cap, cur, fz, hv, _⟩
    · omega
    · exact ⟨g, cap, hv⟩
  go_wp2
  go_ret
  have hcells : u8s l ++ [.int .u8 x] = u8s (l ++ [c]) := by rw [HX.out]; simp [u8s]
  refine ⟨rfl, .inr ?_, ?_⟩
  · rw [← hcells]
    exact Lib.BuilderAtF.put (T := 88) (e := 5) hB hb2 (bs' := u8s l ++ [.int .u8 x]) (by simpa using hown') (by decide)
  · exact ((hb1.alloc (by have := hb1.size; omega) _).grown hgrow (by have := hb1.size; simp; omega) (fun k hk => (hown.lt k hk).1)).setCell (p := ⟨b, 1, none⟩) hB _
end Go.Proofs.YtmnloeolacmemaaGreat

/-
  canon.Event: what an event adds to a canonical form.
-/
namespace Go.Proofs.YtmnloeolacmemaaGreat
open Go.RowKit

def strL (l : List UInt8) : ByteArray := ⟨l.toArray⟩
theorem strL_size (l : List UInt8) : (strL l).size = l.length := by simp [strL, ByteArray.size]
theorem strL_data (l : List UInt8) : (strL l).data.toList = l := by simp [strL]
theorem strL_of (s : ByteArray) : strL s.data.toList = s := by
  apply ByteArray.ext
  simp [strL]
theorem strL_add (l m : List UInt8) : strL l ++ strL m = strL (l ++ m) := by
  apply ByteArray.ext
  simp [strL]
theorem run_catL {P : Program} (a b : List UInt8) (h : a.length + b.length ≤ 9223372036854775807) (w : World) : (Op.stringOp .add (strL a) (strL b)).run P w = .ok (.string (strL (a ++ b))) w := by
  rw [run_string_add_sum (P := P) w _ _ (by rw [strL_size, strL_size]; omega), strL_add]

/-- the attributes in memory: pairs of strings -/
def AttrsAt (w : World) (a : Option Addr) (n : Nat) (ats : List (List UInt8 × List UInt8)) : Prop :=
  n = ats.length ∧ ∀ i, (h : i < ats.length) → ∃ b o, a = some ⟨b, o, none⟩ ∧ b < w.heap.size ∧ w.cell? ⟨b, o + i * 2, none⟩ = some (.string (strL ats[i].1)) ∧ w.cell? ⟨b, o + i * 2 + 1, none⟩ = some (.string (strL ats[i].2))
theorem AttrsAt.below {w w' : World} {a : Option Addr} {n : Nat} {ats : List (List UInt8 × List UInt8)} (h : AttrsAt w a n ats) (hb : Below w.heap.size w w') : AttrsAt w' a n ats :=
  ⟨h.1, fun i hi => by
    obtain ⟨b, o, e, hlt, h1, h2⟩ := h.2 i hi
    exact ⟨b, o, e, Nat.lt_of_lt_of_le hlt hb.size, (hb.cell (p := ⟨b, o + i * 2, none⟩) hlt).trans h1, (hb.cell (p := ⟨b, o + i * 2 + 1, none⟩) hlt).trans h2⟩⟩
/-- an attribute as it is written -/
def attrW (a : List UInt8 × List UInt8) : List UInt8 := [32] ++ a.1 ++ [61, 34] ++ replL valuePs a.2 ++ [34]
/-- what an event adds -/
def eventW (kind : Int) (name : List UInt8) (ats : List (List UInt8 × List UInt8)) (text : List UInt8) : List UInt8 :=
  if kind = 0 then [60] ++ name ++ ats.flatMap attrW ++ [62]
  else if kind = 1 then replL textPs text
  else if kind = 2 then [60, 47] ++ name ++ [62]
  else []
theorem flat_drop {α β : Type} (f : α → List β) (l : List α) (k : Nat) (h : k < l.length) : (l.take (k + 1)).flatMap f = (l.take k).flatMap f ++ f l[k] := by
  rw [List.take_succ_eq_append_getElem h, List.flatMap_append]; simp

theorem ownsRowF_below {w w' : World} {B : Nat} {e : TypeId} {v : Value} {n : Nat} {xs : List Value} (h : w.ownsRowF B e 1 v n xs) (hb : Below w.heap.size w w') : w'.ownsRowF B e 1 v n xs := by
  obtain ⟨h1, h2⟩ := h
  refine ⟨h1, ?_⟩
  rcases h2 with h2 | ⟨g, cap, cur, fz, hv, hg, hh, r⟩
  · exact .inl h2
  · exact .inr ⟨g, cap, cur, fz, hv, hg, (hb.block g (heap_lt hh)).trans hh, r⟩
theorem IsB_below {B b : Nat} {bs : List Value} {w w' : World} (h : IsB B b bs w) (hb : Below w.heap.size w w') : IsB B b bs w' := by
  rcases h with ⟨hB, v, h1, h2, h3⟩ | ⟨hB, v, h1, h2, h3⟩
  · exact .inl ⟨hB, v, (hb.block b (heap_lt h1)).trans h1, ownsRowF_below h2 hb, h3⟩
  · exact .inr ⟨hB, v, (hb.block b (heap_lt h1)).trans h1, ownsRowF_below h2 hb, h3⟩
theorem ValueC_any (l : List UInt8) (w : World) (h : l.length ≤ 1048576) :
    Calls Tryz.prog 32 #[.string (strL l)] w fun e w' => e = .returned (.string (strL (replL valuePs l))) ∧ Below w.heap.size w w' :=
  Value_any (strL l) w (by rw [strL_size]; omega)
theorem TextC_any (l : List UInt8) (w : World) (h : l.length ≤ 1048576) :
    Calls Tryz.prog 35 #[.string (strL l)] w fun e w' => e = .returned (.string (strL (replL textPs l))) ∧ Below w.heap.size w w' :=
  Text_any (strL l) w (by rw [strL_size]; omega)
theorem bwriteL_any (B b : Nat) (l s : List UInt8) (w : World) (h : IsB B b (u8s l) w) (hlen : l.length + s.length ≤ 140737488355328) (hBw : B ≤ w.heap.size) :
    Calls Tryz.prog 31 #[.pointer (some ⟨b, 0, none⟩), .string (strL s)] w fun e w' => e = .returned (.tuple #[.int .i64 s.length, .nilIface]) ∧ IsB B b (u8s (l ++ s)) w' ∧ Below B w w' := by
  have := bwrite_any B b l (strL s) w h (by rw [strL_size]; exact hlen) hBw
  rw [strL_size, strL_data] at this
  exact this
theorem form_value_len (c : UInt8) : (form valuePs c).length ≤ 6 := by
  have h : ∀ n : Fin 256, (form valuePs (UInt8.ofNat n)).length ≤ 6 := by decide +kernel
  have := h ⟨c.toNat, c.toNat_lt⟩
  simpa using this
theorem replL_vlen (l : List UInt8) : (replL valuePs l).length ≤ 6 * l.length := by
  induction l with
  | nil => simp [replL]
  | cons b l ih =>
    have := form_value_len b
    simp only [replL, List.flatMap_cons, List.length_append, List.length_cons] at *
    omega
theorem attrW_len (p : List UInt8 × List UInt8) (h1 : p.1.length ≤ 1048576) (h2 : p.2.length ≤ 1048576) : (attrW p).length ≤ 8388608 := by
  have := replL_vlen p.2
  simp only [attrW, List.length_append, List.length_cons, List.length_nil]
  omega
theorem attrs_len (l : List (List UInt8 × List UInt8)) (h : ∀ p ∈ l, p.1.length ≤ 1048576 ∧ p.2.length ≤ 1048576) : (l.flatMap attrW).length ≤ 8388608 * l.length := by
  induction l with
  | nil => simp
  | cons p l ih =>
    have h1 := h p (by simp)
    have := attrW_len p h1.1 h1.2
    have := ih (fun q hq => h q (by simp [hq]))
    simp only [List.flatMap_cons, List.length_append, List.length_cons]
    omega

set_option maxRecDepth 100000 in
set_option maxHeartbeats 8000000 in
theorem event_open (num dep fr tt : Int) (name text : List UInt8) (a : Option Addr) (n c : Nat) (ats : List (List UInt8 × List UInt8)) (w : World) (hA : AttrsAt w a n ats) (hn : n ≤ 1048576)
    (hnm : name.length ≤ 1048576) (hlen : ∀ p ∈ ats, p.1.length ≤ 1048576 ∧ p.2.length ≤ 1048576) :
    Calls Tryz.prog 27 #[.agg #[.int .i64 0, .int .i64 num, .int .i64 dep, .string (strL name), .slice a n c, .string (strL text), .int .i64 fr, .int .i64 tt]] w fun e w' => e = .returned (.string (strL (eventW 0 name ats text))) ∧ Below w.heap.size w w' := by
  have hE : eventW 0 name ats text = 60 :: (name ++ (ats.flatMap attrW ++ [62])) := by unfold eventW; rw [if_pos rfl]; simp
  rw [hE]
  clear hE
  have HA := Lib.hid hA
  have HN : Hid (ats.length = n) := Lib.hid hA.1.symm
  have HL := Lib.hid hlen
  have HAL : Hid (∀ k, ((ats.take k).flatMap attrW).length ≤ 8388608 * n) := Lib.hid (fun k => by
    have h1 := attrs_len (ats.take k) (fun p hp => hlen p (List.mem_of_mem_take hp))
    have h2 : (ats.take k).length ≤ n := by rw [List.length_take, ← hA.1]; omega
    exact Nat.le_trans h1 (Nat.mul_le_mul_left _ h2))
  have c1 : ∀ W, (Op.stringOp .add ⟨#[60]⟩ (strL name)).run Tryz.prog W = .ok (.string (strL (60 :: name))) W := run_catL [60] name (by simp; omega)
  clear hA hlen
  go_enter Tryz.func27, Tryz.ntmps27
  go_wp2_with fail
  clear c1
  refine (bwriteL_any (w.heap.size + 1) (w.heap.size + 1) [] (60 :: name) _ ?_ ?_ ?_).mono ?_
  · have h := isB_new (w.alloc (.cells #[.int .i64 0, .int .i64 num, .int .i64 dep, .string (strL name), .slice a n c, .string (strL text), .int .i64 fr, .int .i64 tt] 36)) (w.heap.size + 1) (by simp)
    simpa using h
  · simp; omega
  · simp
  rintro e w1 ⟨rfl, hB1, hb1⟩
  have e4 : w1.cell? ⟨w.heap.size, 4, none⟩ = some (.slice a n c) := by
    rw [hb1.cell (p := ⟨w.heap.size, 4, none⟩) (by simp), cell_heap ((heap_alloc_old _ _ (by simp)).trans (heap_alloc_new w _))]
    rfl
  have HB1 := Lib.hid hB1
  have hb1' : Below w.heap.size w w1 := (((Below.refl w.heap.size w).alloc (Nat.le_refl _) _).alloc (by simp) _).trans (hb1.mono (by omega))
  have hs1 : w.heap.size + 1 ≤ w1.heap.size := by have := hb1.size; simp at this; omega
  clear hB1 hb1
  go_wp2_with fail
  go_loopw [17] (fun kx wr => ∃ k : Nat, kx = .int .i64 k ∧ k ≤ n ∧ Below (w.heap.size + 1) w1 wr ∧ Hid (IsB (w.heap.size + 1) (w.heap.size + 1) (u8s ((60 :: name) ++ (ats.take k).flatMap attrW)) wr)) (fun kx _ => n - (intOf kx).toNat)
  case atStart => exact ⟨0, rfl, Nat.zero_le _, Below.refl _ _, by simpa using HB1⟩
  case round =>
    obtain ⟨k, rfl, hk, hbr, hB⟩ := hrel
    by_cases hkn : k < n
    · have hkl : k < ats.length := by rw [HN.out]; exact hkn
      have hfl := flat_drop attrW ats k hkl
      have hln := HL.out ats[k] (List.getElem_mem hkl)
      have hwr : Below w.heap.size w wr := hb1'.trans (hbr.mono (by omega))
      obtain ⟨ab, ao, rfl, hab, k0, k1⟩ := (HA.out.below hwr).2 k hkl
      generalize ats[k] = at1 at *
      obtain ⟨an, av⟩ := at1
      simp only at k0 k1 hln
      have HFL := Lib.hid hfl
      have hcl := HAL.out k
      obtain ⟨cur, hcur⟩ : ∃ cur, cur = (60 :: name) ++ (ats.take k).flatMap attrW := ⟨_, rfl⟩
      rw [← hcur] at hB
      have hcurl : cur.length ≤ 1 + 1048576 + 8388608 * n := by rw [hcur, List.length_append, List.length_cons]; omega
      have HCUR := Lib.hid hcur
      clear hfl hcur hcl
      have hv6 := replL_vlen av
      obtain ⟨x1, hx1⟩ : ∃ x, x = 32 :: an := ⟨_, rfl⟩
      obtain ⟨x2, hx2⟩ : ∃ x, x = x1 ++ [61, 34] := ⟨_, rfl⟩
      obtain ⟨x3, hx3⟩ : ∃ x, x = replL valuePs av := ⟨_, rfl⟩
      obtain ⟨x4, hx4⟩ : ∃ x, x = x2 ++ x3 := ⟨_, rfl⟩
      obtain ⟨x5, hx5⟩ : ∃ x, x = x4 ++ [34] := ⟨_, rfl⟩
      have hx6 : x5 = attrW (an, av) := by rw [hx5, hx4, hx3, hx2, hx1]; rfl
      have s1 : ∀ W, (Op.stringOp .add ⟨#[32]⟩ (strL an)).run Tryz.prog W = .ok (.string (strL x1)) W := by rw [hx1]; exact run_catL [32] an (by simp; omega)
      have s2 : ∀ W, (Op.stringOp .add (strL x1) ⟨#[61, 34]⟩).run Tryz.prog W = .ok (.string (strL x2)) W := by rw [hx2, hx1]; exact run_catL (32 :: an) [61, 34] (by simp; omega)
      have s3 : ∀ W, (Op.stringOp .add (strL x2) (strL x3)).run Tryz.prog W = .ok (.string (strL x4)) W := by rw [hx4, hx2, hx1, hx3]; exact run_catL _ _ (by simp; omega)
      have s4 : ∀ W, (Op.stringOp .add (strL x4) ⟨#[34]⟩).run Tryz.prog W = .ok (.string (strL x5)) W := by rw [hx5, hx4, hx2, hx1, hx3]; exact run_catL _ [34] (by simp; omega)
      have HV := Lib.hid (fun W => ValueC_any av W hln.2)
      rw [← hx3] at HV
      have hal := attrW_len (an, av) hln.1 hln.2
      rw [← hx6] at hal
      have HX6 := Lib.hid hx6
      clear hx1 hx2 hx3 hx4 hx5 hx6
      have hwz : w.heap.size + 1 ≤ wr.heap.size := Nat.le_trans hs1 hbr.size
      have hbW := hbr.alloc hwz (.cells #[.string (strL an), .string (strL av)] 63)
      have HB2 : Hid (IsB (w.heap.size + 1) (w.heap.size + 1) (u8s cur) (wr.alloc (.cells #[.string (strL an), .string (strL av)] 63))) := Lib.hid (IsB_below hB.out ((Below.refl _ _).alloc (Nat.le_refl _) _))
      have HW2 := Lib.hid hbW
      have q0 : (wr.alloc (.cells #[.string (strL an), .string (strL av)] 63)).cell? ⟨wr.heap.size, 0, none⟩ = some (.string (strL an)) := by rw [cell_heap (heap_alloc_new wr _)]; rfl
      have q1 : (wr.alloc (.cells #[.string (strL an), .string (strL av)] 63)).cell? ⟨wr.heap.size, 1, none⟩ = some (.string (strL av)) := by rw [cell_heap (heap_alloc_new wr _)]; rfl
      have hlt2 : wr.heap.size < (wr.alloc (.cells #[.string (strL an), .string (strL av)] 63)).heap.size := by simp
      have HWS : Hid (w.heap.size + 1 ≤ (wr.alloc (.cells #[.string (strL an), .string (strL av)] 63)).heap.size) := Lib.hid (by simp; omega)
      clear hB hbr hln hbW
      generalize hp : wr.heap.size = p at *
      go_wp2_with fail
      generalize wr.alloc (.cells #[.string (strL an), .string (strL av)] 63) = W2 at *
      go_region_with (first | (go_at_call 32; refine (HV.out _).mono ?_; rintro e w5 ⟨rfl, hb5⟩; have z0 := (hb5.cell (p := ⟨p, 0, none⟩) hlt2).trans q0) | (go_at_call 31; refine (bwriteL_any (w.heap.size + 1) (w.heap.size + 1) cur x5 _ (IsB_below (IsB_below HB2.out (Below.refl _ _).drew) hb5) (by omega) (Nat.le_trans HWS.out hb5.size)).mono ?_; rintro e w6 ⟨rfl, h6, hb6⟩))
      all_goals
        go_wp2_with fail
        go_roundw
        case rel => exact ⟨k + 1, by go_num, by omega, HW2.out.trans (((Below.refl _ _).drew.trans (hb5.mono (Nat.le_trans HWS.out (Nat.le_refl _)))).trans hb6), Lib.hid (by rw [HFL.out, ← HX6.out, ← List.append_assoc, ← HCUR.out]; exact h6)⟩
        case measure => simp [intOf]; omega
    · have hkn' : k = n := by omega
      have htk : ats.take k = ats := List.take_of_length_le (by rw [HN.out]; omega)
      rw [htk] at hB
      have hcl := HAL.out k
      rw [htk] at hcl
      have hwr : w.heap.size + 1 ≤ wr.heap.size := Nat.le_trans hs1 hbr.size
      have hfin : Below w.heap.size w wr := hb1'.trans (hbr.mono (by omega))
      have HB9 : Hid (∀ W, Below (w.heap.size + 1) wr W → Below w.heap.size w W) := Lib.hid (fun W h => hfin.trans (h.mono (by omega)))
      have HCL := Lib.hid hcl
      clear hkn' htk hcl hfin hbr
      go_wp2_with fail
      refine (bbyte_any (w.heap.size + 1) (w.heap.size + 1) _ 62 wr hB.out (by have := HCL.out; rw [List.length_append, List.length_cons]; omega) hwr).mono ?_
      rintro e w6 ⟨rfl, h6, hb6⟩
      have h6s : w.heap.size + 1 ≤ w6.heap.size := Nat.le_trans hwr hb6.size
      go_wp2_with fail
      refine (bstring_any (w.heap.size + 1) (w.heap.size + 1) _ w6 h6 h6s).mono ?_
      rintro e w7 ⟨rfl, _, hb7⟩
      have hb8 := HB9.out _ (hb6.trans hb7)
      clear h6 hb6 hb7 hB
      go_wp2_with fail
      go_ret
      exact ⟨rfl, hb8⟩

set_option maxRecDepth 100000 in
set_option maxHeartbeats 4000000 in
theorem event_text (num dep fr tt : Int) (name text : List UInt8) (a : Option Addr) (n c : Nat) (ats : List (List UInt8 × List UInt8)) (w : World) (ht : text.length ≤ 1048576) :
    Calls Tryz.prog 27 #[.agg #[.int .i64 1, .int .i64 num, .int .i64 dep, .string (strL name), .slice a n c, .string (strL text), .int .i64 fr, .int .i64 tt]] w fun e w' => e = .returned (.string (strL (eventW 1 name ats text))) ∧ Below w.heap.size w w' := by
  have HT := Lib.hid (fun W => TextC_any text W ht)
  clear ht
  go_enter Tryz.func27, Tryz.ntmps27
  go_wp2_with fail
  (with_reducible refine (HT.out _).mono ?_)
  rintro e w1 ⟨rfl, hb1⟩
  have hb2 := ((Below.refl w.heap.size w).alloc (Nat.le_refl _) (.cells #[.int .i64 1, .int .i64 num, .int .i64 dep, .string (strL name), .slice a n c, .string (strL text), .int .i64 fr, .int .i64 tt] 36)).trans (hb1.mono (by simp))
  clear hb1
  go_wp2_with fail
  go_ret
  exact ⟨rfl, hb2⟩

set_option maxRecDepth 100000 in
set_option maxHeartbeats 4000000 in
theorem event_close (num dep fr tt : Int) (name text : List UInt8) (a : Option Addr) (n c : Nat) (ats : List (List UInt8 × List UInt8)) (w : World) (hnm : name.length ≤ 1048576) :
    Calls Tryz.prog 27 #[.agg #[.int .i64 2, .int .i64 num, .int .i64 dep, .string (strL name), .slice a n c, .string (strL text), .int .i64 fr, .int .i64 tt]] w fun e w' => e = .returned (.string (strL (eventW 2 name ats text))) ∧ Below w.heap.size w w' := by
  obtain ⟨x1, hx1⟩ : ∃ x, x = [60, 47] ++ name := ⟨_, rfl⟩
  obtain ⟨x2, hx2⟩ : ∃ x, x = x1 ++ [62] := ⟨_, rfl⟩
  have s1 : ∀ W, (Op.stringOp .add ⟨#[60, 47]⟩ (strL name)).run Tryz.prog W = .ok (.string (strL x1)) W := by rw [hx1]; exact run_catL [60, 47] name (by simp; omega)
  have s2 : ∀ W, (Op.stringOp .add (strL x1) ⟨#[62]⟩).run Tryz.prog W = .ok (.string (strL x2)) W := by rw [hx2, hx1]; exact run_catL _ [62] (by simp; omega)
  have he : eventW 2 name ats text = x2 := by rw [hx2, hx1]; rfl
  rw [he]
  clear hx1 hx2 he hnm
  go_enter Tryz.func27, Tryz.ntmps27
  go_wp2_with fail
  go_ret
  exact ⟨rfl, (Below.refl _ _).alloc (Nat.le_refl _) _⟩

set_option maxRecDepth 100000 in
set_option maxHeartbeats 4000000 in
theorem event_none (kind num dep fr tt : Int) (name text : List UInt8) (a : Option Addr) (n c : Nat) (ats : List (List UInt8 × List UInt8)) (w : World) (h0 : kind ≠ 0) (h1 : kind ≠ 1) (h2 : kind ≠ 2) :
    Calls Tryz.prog 27 #[.agg #[.int .i64 kind, .int .i64 num, .int .i64 dep, .string (strL name), .slice a n c, .string (strL text), .int .i64 fr, .int .i64 tt]] w fun e w' => e = .returned (.string (strL (eventW kind name ats text))) ∧ Below w.heap.size w w' := by
  have he : eventW kind name ats text = [] := by unfold eventW; rw [if_neg h0, if_neg h1, if_neg h2]
  rw [he]
  have t0 : (kind == 0) = false := by simpa using h0
  have t1 : (kind == 1) = false := by simpa using h1
  have t2 : (kind == 2) = false := by simpa using h2
  clear h0 h1 h2 he
  go_enter Tryz.func27, Tryz.ntmps27
  go_wp2_with fail
  go_ret
  exact ⟨rfl, (Below.refl _ _).alloc (Nat.le_refl _) _⟩

/-- an event's cells -/
def evC (kind num dep : Int) (name : List UInt8) (a : Option Addr) (n c : Nat) (text : List UInt8) (fr tt : Int) : Array Value :=
  #[.int .i64 kind, .int .i64 num, .int .i64 dep, .string (strL name), .slice a n c, .string (strL text), .int .i64 fr, .int .i64 tt]
theorem Event_any (kind num dep fr tt : Int) (name text : List UInt8) (a : Option Addr) (n c : Nat) (ats : List (List UInt8 × List UInt8)) (w : World) (hA : AttrsAt w a n ats) (hn : n ≤ 1048576)
    (hnm : name.length ≤ 1048576) (ht : text.length ≤ 1048576) (hlen : ∀ p ∈ ats, p.1.length ≤ 1048576 ∧ p.2.length ≤ 1048576) :
    Calls Tryz.prog 27 #[.agg (evC kind num dep name a n c text fr tt)] w fun e w' => e = .returned (.string (strL (eventW kind name ats text))) ∧ Below w.heap.size w w' := by
  by_cases h0 : kind = 0
  · subst h0; exact event_open num dep fr tt name text a n c ats w hA hn hnm hlen
  by_cases h1 : kind = 1
  · subst h1; exact event_text num dep fr tt name text a n c ats w ht
  by_cases h2 : kind = 2
  · subst h2; exact event_close num dep fr tt name text a n c ats w hnm
  exact event_none kind num dep fr tt name text a n c ats w h0 h1 h2
end Go.Proofs.YtmnloeolacmemaaGreat
