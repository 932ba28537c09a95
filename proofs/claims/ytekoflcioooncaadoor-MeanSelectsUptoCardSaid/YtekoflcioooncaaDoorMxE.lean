/-
  strings.Builder over a builder that the call has made: copyCheck, WriteString (whose panic is refused here), String.
-/
import Derived.Test.YtekoflcioooncaaDoorProg
import Derived.Test.YtekoflcioooncaaDoorShelf
import Derived.Test.YtekoflcioooncaaDoorMxA
import Derived.Lib.FrozenHead
import Derived.Lib.UnsafeStr
import Derived.Test.YtekoflcioooncaaDoorMxD
import Derived.Test.YtekoflcioooncaaDoorMxB
import Derived.Deep.RegionHeld3
import Derived.Test.YtekoflcioooncaaDoorRows
import Derived.ChangeArms
import Derived.DataReads
import Derived.Deep.MidRow
namespace Go.Proofs.YtekoflcioooncaaDoor
open Go.RowKit

abbrev IsB (B b : Nat) (bs : List Value) (w : World) : Prop := Lib.IsBuilderF 150 5 B b bs w
theorem infoBld : (Tryd.prog.info? 150).map (fun i => i.size) = some 2 := by kernel_rfl
theorem liesBld : liesAt Tryd.prog Tryd.prog.depth 150 (2 / Tryd.prog.cellsOf 150) 0 150 1 = true := by kernel_rfl
theorem underUP : Tryd.prog.underlying 159 = some .unsafePointer := by kernel_rfl
theorem infoU8b : (Tryd.prog.info? 5).map (fun i => (i.zero, i.size, i.bytes)) = some (some (.int .u8 0), 1, 1) := by kernel_rfl

set_option maxHeartbeats 1000000 in
set_option maxRecDepth 100000 in
theorem copy_used (b : Nat) (w : World) (h0 : w.cell? ⟨b, 0, none⟩ = some (.pointer (some ⟨b, 0, none⟩))) :
    Calls Tryd.prog 97 #[.pointer (some ⟨b, 0, none⟩)] w fun e w' => e = .returned (.tuple #[]) ∧ w' = w := by
  obtain ⟨j, hj, _⟩ := Option.map_eq_some_iff.1 infoBld
  go_enter Tryd.func97, Tryd.ntmps97
  go_wp2
  rw [Lib.run_neq_ptr_same w _ Tryd.underlying147 hj]
  go_wp2
  go_end0
  exact ⟨rfl, rfl⟩
set_option maxHeartbeats 1000000 in
set_option maxRecDepth 100000 in
theorem copy_fresh (b : Nat) (w : World) (h0 : w.cell? ⟨b, 0, none⟩ = some (.pointer none)) (hsh : w.shape? b = some (150, 2)) (hfz : w.frozen? ⟨b, 0, none⟩ = false) :
    Calls Tryd.prog 97 #[.pointer (some ⟨b, 0, none⟩)] w fun e w' => e = .returned (.tuple #[]) ∧ w' = w.setCell ⟨b, 0, none⟩ (.pointer (some ⟨b, 0, none⟩)) := by
  obtain ⟨j, hj, hjs⟩ := Option.map_eq_some_iff.1 infoBld
  go_enter Tryd.func97, Tryd.ntmps97
  go_wp2
  rw [Lib.run_to_unsafe w ⟨b, 0, none⟩ Tryd.underlying147 underUP hj (by rw [hjs]; decide) hsh (Nat.zero_lt_succ 1)]
  simp only [Result.andThen]
  rw [Oper.upon_value]
  go_wp2
  rw [run_callFunc_extern Tryd.func99 (by kernel_rfl) (by kernel_rfl) (by kernel_rfl) (e := Extern.AbiNoEscape.same) (by kernel_rfl)]
  rw [Lib.run_noEscape]
  simp only [Result.andThen]
  rw [Oper.upon_value]
  go_wp2
  rw [Lib.run_from_unsafe w ⟨b, 0, none⟩ underUP Tryd.underlying147 hj hsh liesBld]
  simp only [Result.andThen]
  rw [Oper.upon_value]
  go_wp2
  go_end0
  exact ⟨rfl, rfl⟩
theorem copy_any (B b : Nat) (bs : List Value) (w : World) (h : IsB B b bs w) :
    Calls Tryd.prog 97 #[.pointer (some ⟨b, 0, none⟩)] w fun e w' => e = .returned (.tuple #[]) ∧ Lib.BuilderAtF 150 5 B b (.pointer (some ⟨b, 0, none⟩)) bs w' ∧ Below B w w' := by
  rcases h with h | h
  · refine (copy_fresh b w h.cell0 h.shape h.frozen0).mono ?_
    rintro e w' ⟨rfl, rfl⟩
    exact ⟨rfl, h.used _, (Below.refl B w).setCell (p := ⟨b, 0, none⟩) h.1 _⟩
  · refine (copy_used b w h.cell0).mono ?_
    rintro e w' ⟨rfl, rfl⟩
    exact ⟨rfl, h, Below.refl B _⟩

set_option maxHeartbeats 2000000 in
set_option maxRecDepth 100000 in
theorem bwrite_any (B b : Nat) (l : List UInt8) (s : ByteArray) (w : World) (h : IsB B b (u8s l) w) (hlen : l.length + s.size ≤ 140737488355328) (hBw : B ≤ w.heap.size) :
    Calls Tryd.prog 94 #[.pointer (some ⟨b, 0, none⟩), .string s] w fun e w' => e = .returned (.tuple #[.int .i64 s.size, .nilIface]) ∧ IsB B b (u8s (l ++ s.data.toList)) w' ∧ Below B w w' := by
  obtain ⟨i0, hi, h3⟩ := Option.map_eq_some_iff.1 infoU8b
  simp only [Prod.mk.injEq] at h3
  obtain ⟨hz0, hz1, hz2⟩ := h3
  go_enter Tryd.func94, Tryd.ntmps94
  go_wp2_with fail
  refine (copy_any B b (u8s l) w h).mono ?_
  rintro e w1 ⟨rfl, h1, hb1⟩
  obtain ⟨hB, v, hbk, hown, hne⟩ := h1
  have c0 : w1.cell? ⟨b, 0, none⟩ = some (.pointer (some ⟨b, 0, none⟩)) := by rw [Lib.cell_of_heap hbk]; rfl
  have c1 : w1.cell? ⟨b, 1, none⟩ = some v := by rw [Lib.cell_of_heap hbk]; rfl
  have hul : (u8s l).length = l.length := u8s_length l
  have HUL := Lib.hid hul
  clear hul
  go_wp2_with (at_builtin; refine Lib.wpList_append_own_stringF _ rfl _ _ 148 9 rfl B 5 i0 Tryd.underlying148 Tryd.underlying9 hi hz0 hz1 hz2 _ _ _ rfl hown s rfl ?c3 ?c4 ?c5 ?_)
  case c3 => rw [HUL.out]; unfold maxLen; omega
  case c4 => rw [HUL.out]; omega
  case c5 => have := hb1.size; omega
  intro v' w2 hown' hgrow _
  have hlt : b < w1.heap.size := heap_lt hbk
  have hb2 : w2.heap[b]? = some (.cells #[.pointer (some ⟨b, 0, none⟩), v] 150 (0, 0)) := by
    rw [hgrow.block b hlt (fun e => hne e.symm)]
    exact hbk
  have d0 : w2.cell? ⟨b, 0, none⟩ = some (.pointer (some ⟨b, 0, none⟩)) := by rw [Lib.cell_of_heap hb2]; rfl
  have d1 : w2.cell? ⟨b, 1, none⟩ = some v := by rw [Lib.cell_of_heap hb2]; rfl
  have f1 : w2.frozen? ⟨b, 1, none⟩ = false := Lib.frozen_of_heap hb2 1
  obtain ⟨ao, n', cap, rfl⟩ : ∃ ao n' cap, v' = .slice ao n' cap := by
    rcases hown'.2 with ⟨hv, _⟩ | ⟨g, cap, cur, fz, hv, _⟩
    · exact ⟨_, _, _, hv⟩
    · exact ⟨_, _, _, hv⟩
  go_wp2
  go_ret2
  have hcells : u8s l ++ Lib.strCells s = u8s (l ++ s.data.toList) := by simp [Lib.strCells, u8s]
  refine ⟨rfl, .inr ?_, ?_⟩
  · rw [← hcells]
    exact Lib.BuilderAtF.put (T := 150) (e := 5) hB hb2 (bs' := u8s l ++ Lib.strCells s) (by simpa [Lib.strCells_length] using hown') (by decide)
  · exact (hb1.grown hgrow (by have := hb1.size; omega) (fun k hk => (hown.lt k hk).1)).setCell (p := ⟨b, 1, none⟩) hB _

theorem bstring_any (B b : Nat) (l : List UInt8) (w : World) (h : IsB B b (u8s l) w) (hBw : B ≤ w.heap.size) :
    Calls Tryd.prog 95 #[.pointer (some ⟨b, 0, none⟩)] w fun e w' => e = .returned (.string ⟨l.toArray⟩) ∧ IsB B b (u8s l) w' ∧ Below B w w' := by
  have e : u8s l = Lib.byteCells l := rfl
  rw [e] at h ⊢
  exact (Tryd.Builder_String_any_k B b l w h hBw).mono fun e w' ⟨h1, h2, h3, _⟩ => ⟨h1, h2, h3⟩
theorem isB_new (w : World) (B : Nat) (hB : B ≤ w.heap.size) : IsB B w.heap.size (u8s []) (w.alloc (.cells #[.pointer none, .slice none 0 0] 150)) := by
  refine .inl ⟨hB, .slice none 0 0, heap_alloc_new w _, ⟨rfl, .inl ⟨rfl, rfl⟩⟩, ?_⟩
  simp [Value.ownBlock]
end Go.Proofs.YtekoflcioooncaaDoor

namespace Go.Proofs.YtekoflcioooncaaDoor
open Go.RowKit
end Go.Proofs.YtekoflcioooncaaDoor

namespace Go.Proofs.YtekoflcioooncaaDoor
open Go.RowKit

def strL (l : List UInt8) : ByteArray := ⟨l.toArray⟩
theorem strL_size (l : List UInt8) : (strL l).size = l.length := by simp [strL, ByteArray.size]
theorem strL_data (l : List UInt8) : (strL l).data.toList = l := by simp [strL]
theorem strL_of (s : ByteArray) : strL s.data.toList = s := by
  apply ByteArray.ext
  simp [strL]
theorem strL_add (l m : List UInt8) : strL l ++ strL m = strL (l ++ m) := by
  apply ByteArray.ext
  simp [strL]
theorem run_catL {P : Program} (a b : List UInt8) (h : a.length + b.length ≤ 9223372036854775807) (w : World) : (Op.stringOp .add (strL a) (strL b)).run P w = .ok (.string (strL (a ++ b))) w := by
  rw [run_string_add_sum (P := P) w _ _ (by rw [strL_size, strL_size]; omega), strL_add]

def AttrsAt (w : World) (a : Option Addr) (n : Nat) (ats : List (List UInt8 × List UInt8)) : Prop :=
  n = ats.length ∧ ∀ i, (h : i < ats.length) → ∃ b o, a = some ⟨b, o, none⟩ ∧ b < w.heap.size ∧ w.cell? ⟨b, o + i * 2, none⟩ = some (.string (strL ats[i].1)) ∧ w.cell? ⟨b, o + i * 2 + 1, none⟩ = some (.string (strL ats[i].2))
theorem AttrsAt.below {w w' : World} {a : Option Addr} {n : Nat} {ats : List (List UInt8 × List UInt8)} (h : AttrsAt w a n ats) (hb : Below w.heap.size w w') : AttrsAt w' a n ats :=
  ⟨h.1, fun i hi => by
    obtain ⟨b, o, e, hlt, h1, h2⟩ := h.2 i hi
    exact ⟨b, o, e, Nat.lt_of_lt_of_le hlt hb.size, (hb.cell (p := ⟨b, o + i * 2, none⟩) hlt).trans h1, (hb.cell (p := ⟨b, o + i * 2 + 1, none⟩) hlt).trans h2⟩⟩
def attrW (a : List UInt8 × List UInt8) : List UInt8 := [32] ++ a.1 ++ [61, 34] ++ replL valuePs a.2 ++ [34]
def eventW (kind : Int) (name : List UInt8) (ats : List (List UInt8 × List UInt8)) (text : List UInt8) : List UInt8 :=
  if kind = 0 then [60] ++ name ++ ats.flatMap attrW ++ [62]
  else if kind = 1 then replL textPs text
  else if kind = 2 then [60, 47] ++ name ++ [62]
  else []
theorem flat_drop {α β : Type} (f : α → List β) (l : List α) (k : Nat) (h : k < l.length) : (l.take (k + 1)).flatMap f = (l.take k).flatMap f ++ f l[k] := by
  rw [List.take_succ_eq_append_getElem h, List.flatMap_append]; simp

theorem ownsRowF_below {w w' : World} {B : Nat} {e : TypeId} {v : Value} {n : Nat} {xs : List Value} (h : w.ownsRowF B e 1 v n xs) (hb : Below w.heap.size w w') : w'.ownsRowF B e 1 v n xs := by
  obtain ⟨h1, h2⟩ := h
  refine ⟨h1, ?_⟩
  rcases h2 with h2 | ⟨g, cap, cur, fz, hv, hg, hh, r⟩
  · exact .inl h2
  · exact .inr ⟨g, cap, cur, fz, hv, hg, (hb.block g (heap_lt hh)).trans hh, r⟩
theorem IsB_below {B b : Nat} {bs : List Value} {w w' : World} (h : IsB B b bs w) (hb : Below w.heap.size w w') : IsB B b bs w' := by
  rcases h with ⟨hB, v, h1, h2, h3⟩ | ⟨hB, v, h1, h2, h3⟩
  · exact .inl ⟨hB, v, (hb.block b (heap_lt h1)).trans h1, ownsRowF_below h2 hb, h3⟩
  · exact .inr ⟨hB, v, (hb.block b (heap_lt h1)).trans h1, ownsRowF_below h2 hb, h3⟩
theorem bwriteL_any (B b : Nat) (l s : List UInt8) (w : World) (h : IsB B b (u8s l) w) (hlen : l.length + s.length ≤ 140737488355328) (hBw : B ≤ w.heap.size) :
    Calls Tryd.prog 94 #[.pointer (some ⟨b, 0, none⟩), .string (strL s)] w fun e w' => e = .returned (.tuple #[.int .i64 s.length, .nilIface]) ∧ IsB B b (u8s (l ++ s)) w' ∧ Below B w w' := by
  have := bwrite_any B b l (strL s) w h (by rw [strL_size]; exact hlen) hBw
  rw [strL_size, strL_data] at this
  exact this
theorem form_value_len (c : UInt8) : (form valuePs c).length ≤ 6 := by
  have h : ∀ n : Fin 256, (form valuePs (UInt8.ofNat n)).length ≤ 6 := by decide +kernel
  have := h ⟨c.toNat, c.toNat_lt⟩
  simpa using this
theorem replL_vlen (l : List UInt8) : (replL valuePs l).length ≤ 6 * l.length := by
  induction l with
  | nil => simp [replL]
  | cons b l ih =>
    have := form_value_len b
    simp only [replL, List.flatMap_cons, List.length_append, List.length_cons] at *
    omega
theorem attrW_len (p : List UInt8 × List UInt8) (h1 : p.1.length ≤ 1048576) (h2 : p.2.length ≤ 1048576) : (attrW p).length ≤ 8388608 := by
  have := replL_vlen p.2
  simp only [attrW, List.length_append, List.length_cons, List.length_nil]
  omega
theorem attrs_len (l : List (List UInt8 × List UInt8)) (h : ∀ p ∈ l, p.1.length ≤ 1048576 ∧ p.2.length ≤ 1048576) : (l.flatMap attrW).length ≤ 8388608 * l.length := by
  induction l with
  | nil => simp
  | cons p l ih =>
    have h1 := h p (by simp)
    have := attrW_len p h1.1 h1.2
    have := ih (fun q hq => h q (by simp [hq]))
    simp only [List.flatMap_cons, List.length_append, List.length_cons]
    omega

def evC (kind num dep : Int) (name : List UInt8) (a : Option Addr) (n c : Nat) (text : List UInt8) (fr tt : Int) : Array Value :=
  #[.int .i64 kind, .int .i64 num, .int .i64 dep, .string (strL name), .slice a n c, .string (strL text), .int .i64 fr, .int .i64 tt]
end Go.Proofs.YtekoflcioooncaaDoor

namespace Go.Proofs.YtekoflcioooncaaDoor
open Go.RowKit

section
variable {H : Type} {enc : TypeId × Value → H} {w : World} {base : Nat} {sp : Nat → Bool} {held : Bool} {fuel : Nat}

theorem bulk_le {l : List (DataW H)} {i : Nat} {d : DataW H} (h : l[i]? = some d) : Rows.uptoBulk d ≤ Rows.uptoBulkAll l := by
  induction l generalizing i with
  | nil => simp at h
  | cons x r ih =>
    simp only [Rows.uptoBulkAll]
    cases i with
    | zero => simp only [List.getElem?_cons_zero, Option.some.injEq] at h; subst h; omega
    | succ i => have := ih (i := i) (by simpa using h); omega

theorem slice_read {S E : TypeId} {k : Nat} (hS : Tryd.prog.underlying S = some (.slice E)) (hE : Tryd.prog.cellsOf E = k) (hk : 0 < k) {cs : List Value} {x : DataW H × List MemPlace}
    (h : DataW.trod enc Tryd.prog w base sp held fuel S cs = some x) :
    ∃ a n c, ∃ (elems : List (DataW H × List MemPlace)), cs = [.slice a n c] ∧ n ≤ c ∧ elems.length = n ∧ (elems = [] ∨ ∃ rest, x.1 = .slice (elems.map (·.1)) rest) ∧
      ∀ i, (hi : i < elems.length) → ∃ b o m ecs, a = some ⟨b, o, none⟩ ∧ b < w.heap.size ∧ ecs.length = k ∧ (∀ j, j < k → w.cell? ⟨b, o + i * k + j, none⟩ = ecs[j]?) ∧ DataW.trod enc Tryd.prog w base sp held m E ecs = some elems[i] := by
  rcases DataW.trod_slice hS h with ⟨rfl, _⟩ | ⟨a, len, cap, elems, rest, m, _, rfl, hx, _, hlc, _, hel, hat, _, _⟩
  · exact ⟨none, 0, 0, [], rfl, Nat.le_refl _, rfl, .inl rfl, fun i hi => by simp at hi⟩
  · refine ⟨some a, len, cap, elems, rfl, hlc, hel, .inr ⟨_, by rw [hx]⟩, fun i hi => ?_⟩
    have h1 := hat i (by omega)
    rw [hE, List.getElem?_eq_getElem hi, Option.bind_eq_some_iff] at h1
    obtain ⟨ecs, hcs, hr⟩ := h1
    obtain ⟨_, hl, hc⟩ := World.cells?_some hcs
    obtain ⟨b, o, spt⟩ := a
    have hspt : spt = none := by
      have h0 := hat 0 (by omega)
      rw [hE, List.getElem?_eq_getElem (show 0 < elems.length by omega), Option.bind_eq_some_iff] at h0
      obtain ⟨ecs0, hcs0, _⟩ := h0
      obtain ⟨_, hl0, hc0⟩ := World.cells?_some hcs0
      have hc00 := hc0 0 hk
      rw [List.getElem?_eq_getElem (by omega)] at hc00
      have := World.cell?_spot hc00
      simpa [Addr.add] using this
    subst hspt
    refine ⟨b, o, m, ecs, rfl, ?_, hl, fun j hj => ?_, hr⟩
    · have := World.cells?_block hcs hk
      simp only [Addr.add] at this
      split at this <;> simpa using this
    · have := hc j hj
      rw [Addr.add_lit, Addr.add_lit] at this
      exact this

def attrOf : DataW H → List UInt8 × List UInt8
  | .agg [.lit (.string a), .lit (.string b)] => (a, b)
  | _ => ([], [])
def wtA (l : List (List UInt8 × List UInt8)) : Nat := (l.map fun p => p.1.length + p.2.length + 1).sum
theorem attr_desc : ∃ f0 f1, Tryd.prog.underlying 122 = some (.struct #[f0, f1]) ∧ f0.type = 9 ∧ f1.type = 9 ∧ f0.offset = 0 ∧ f1.offset = 1 := by
  refine ⟨_, _, Tryd.underlying122, rfl, rfl, rfl, rfl⟩
theorem cellsAttr : Tryd.prog.cellsOf 122 = 2 := by kernel_rfl
theorem cellsStr1 : Tryd.prog.cellsOf 9 = 1 := by kernel_rfl
theorem cellsInt1 : Tryd.prog.cellsOf 3 = 1 := by kernel_rfl
theorem cellsKind1 : Tryd.prog.cellsOf 68 = 1 := by kernel_rfl
theorem cellsAttrs1 : Tryd.prog.cellsOf 69 = 1 := by kernel_rfl
theorem cellsEv : Tryd.prog.cellsOf 71 = 8 := by kernel_rfl
theorem getL {α : Type} {l : List α} {i : Nat} (hl : i < l.length) : l[i]? = some l[i] := List.getElem?_eq_getElem hl

set_option maxRecDepth 100000 in
theorem attr_read {cs : List Value} {x : DataW H × List MemPlace} (h : DataW.trod enc Tryd.prog w base sp held fuel 122 cs = some x) :
    cs = [.string (strL (attrOf x.1).1), .string (strL (attrOf x.1).2)] ∧ (attrOf x.1).1.length + (attrOf x.1).2.length + 1 ≤ Rows.uptoBulk x.1 := by
  obtain ⟨f0, f1, hu, t0, t1, o0, o1⟩ := attr_desc
  obtain ⟨xs, m, _, hx, hl, hxl, hat⟩ := DataW.trod_struct hu h
  have h0 := hat 0 f0 rfl
  have h1 := hat 1 f1 rfl
  rw [t0, o0, cellsStr1] at h0
  rw [t1, o1, cellsStr1] at h1
  rw [cellsAttr] at hl
  have hxl2 : xs.length = 2 := hxl
  rw [getL (show 0 < xs.length by omega)] at h0
  rw [getL (show 1 < xs.length by omega)] at h1
  obtain ⟨s0, e0, y0, _⟩ := DataW.trod_string Tryd.underlying9 h0
  obtain ⟨s1, e1, y1, _⟩ := DataW.trod_string Tryd.underlying9 h1
  match xs, hxl2 with
  | [p0, p1], _ =>
    match cs, hl with
    | [c0, c1], _ =>
      simp at e0 e1 y0 y1
      subst e0 e1 y0 y1
      rw [hx]
      simp only [List.map_cons, List.map_nil, attrOf, strL_of, Rows.uptoBulk, Rows.uptoBulkAll]
      exact ⟨trivial, by omega⟩

theorem wtA_le (l : List (DataW H)) (h : ∀ i, (hi : i < l.length) → (attrOf l[i]).1.length + (attrOf l[i]).2.length + 1 ≤ Rows.uptoBulk l[i]) : wtA (l.map attrOf) ≤ Rows.uptoBulkAll l := by
  induction l with
  | nil => simp [wtA, Rows.uptoBulkAll]
  | cons x r ih =>
    have h0 := h 0 (by simp)
    have := ih (fun i hi => by have := h (i + 1) (by simpa using hi); simpa using this)
    simp only [wtA, List.map_cons, List.sum_cons, Rows.uptoBulkAll, List.getElem_cons_zero] at *
    omega
def attrsOf : DataW H → List (List UInt8 × List UInt8)
  | .slice l _ => l.map attrOf
  | _ => []
theorem attrs_read {cs : List Value} {x : DataW H × List MemPlace} (h : DataW.trod enc Tryd.prog w base sp held fuel 69 cs = some x) :
    ∃ a n c, cs = [.slice a n c] ∧ n ≤ c ∧ AttrsAt w a n (attrsOf x.1) ∧ wtA (attrsOf x.1) ≤ Rows.uptoBulk x.1 := by
  obtain ⟨a, n, c, elems, rfl, hnc, hel, hx, hat⟩ := slice_read Tryd.underlying69 cellsAttr (by decide) h
  have hw := wtA_le (elems.map (·.1)) (fun i hi => by
    rw [List.length_map] at hi
    obtain ⟨_, _, m, ecs, _, _, _, _, hr⟩ := hat i hi
    rw [List.getElem_map]
    exact (attr_read hr).2)
  have key : AttrsAt w a n (elems.map fun e => attrOf e.1) := by
    refine ⟨by rw [List.length_map, hel], fun i hi => ?_⟩
    rw [List.length_map] at hi
    obtain ⟨b, o, m, ecs, e, hb, _, hc, hr⟩ := hat i hi
    obtain ⟨hcs, _⟩ := attr_read hr
    have c0 := hc 0 (by decide)
    have c1 := hc 1 (by decide)
    rw [hcs] at c0 c1
    rw [List.getElem_map]
    exact ⟨b, o, e, hb, c0, c1⟩
  refine ⟨a, n, c, rfl, hnc, ?_⟩
  rcases hx with rfl | ⟨rest, hx⟩
  · have : attrsOf x.1 = [] ∨ True := .inr trivial
    obtain rfl : n = 0 := by simpa using hel.symm
    rcases DataW.trod_slice Tryd.underlying69 h with ⟨_, hx⟩ | ⟨a2, len, cap, elems, rest, m, _, e, hx, _, _, _, hel2, _, _, _⟩
    · rw [hx]; exact ⟨⟨rfl, fun i hi => by simp [attrsOf] at hi⟩, by simp [attrsOf, wtA]⟩
    · simp at e
      have : elems = [] := List.eq_nil_of_length_eq_zero (by omega)
      subst this
      rw [hx]; exact ⟨⟨rfl, fun i hi => by simp [attrsOf] at hi⟩, by simp [attrsOf, wtA]⟩
  · rw [hx]
    simp only [attrsOf, List.map_map] at hw ⊢
    refine ⟨key, ?_⟩
    simp only [Rows.uptoBulk]
    have e : (List.map (attrOf ∘ fun x => x.1) elems) = elems.map fun e => attrOf e.1 := rfl
    omega

structure Ev where
  kind : Int
  num : Int
  dep : Int
  name : List UInt8
  ats : List (List UInt8 × List UInt8)
  text : List UInt8
  fr : Int
  tt : Int
def evOf : DataW H → Ev
  | .agg [.lit (.int _ kind), .lit (.int _ num), .lit (.int _ dep), .lit (.string name), d, .lit (.string text), .lit (.int _ fr), .lit (.int _ tt)] => ⟨kind, num, dep, name, attrsOf d, text, fr, tt⟩
  | _ => ⟨0, 0, 0, [], [], [], 0, 0⟩
def wtE (e : Ev) : Nat := e.name.length + e.text.length + wtA e.ats + 1
def EvCells (w : World) (cs : List Value) (e : Ev) : Prop := ∃ a n c, cs = (evC e.kind e.num e.dep e.name a n c e.text e.fr e.tt).toList ∧ n ≤ c ∧ AttrsAt w a n e.ats
theorem ev_desc : ∃ f0 f1 f2 f3 f4 f5 f6 f7, Tryd.prog.underlying 71 = some (.struct #[f0, f1, f2, f3, f4, f5, f6, f7]) ∧
    (f0.type = 68 ∧ f1.type = 3 ∧ f2.type = 3 ∧ f3.type = 9 ∧ f4.type = 69 ∧ f5.type = 9 ∧ f6.type = 3 ∧ f7.type = 3) ∧
    (f0.offset = 0 ∧ f1.offset = 1 ∧ f2.offset = 2 ∧ f3.offset = 3 ∧ f4.offset = 4 ∧ f5.offset = 5 ∧ f6.offset = 6 ∧ f7.offset = 7) := by
  refine ⟨_, _, _, _, _, _, _, _, Tryd.underlying71, ⟨rfl, rfl, rfl, rfl, rfl, rfl, rfl, rfl⟩, ⟨rfl, rfl, rfl, rfl, rfl, rfl, rfl, rfl⟩⟩

set_option maxRecDepth 100000 in
set_option maxHeartbeats 1000000 in
theorem event_read {cs : List Value} {x : DataW H × List MemPlace} (h : DataW.trod enc Tryd.prog w base sp held fuel 71 cs = some x) :
    EvCells w cs (evOf x.1) ∧ wtE (evOf x.1) ≤ Rows.uptoBulk x.1 ∧ (Lit.int .i64 (evOf x.1).kind).wf = true := by
  obtain ⟨f0, f1, f2, f3, f4, f5, f6, f7, hu, ⟨t0, t1, t2, t3, t4, t5, t6, t7⟩, ⟨o0, o1, o2, o3, o4, o5, o6, o7⟩⟩ := ev_desc
  obtain ⟨xs, m, _, hx, hl, hxl, hat⟩ := DataW.trod_struct hu h
  have h0 := hat 0 f0 rfl
  have h1 := hat 1 f1 rfl
  have h2 := hat 2 f2 rfl
  have h3 := hat 3 f3 rfl
  have h4 := hat 4 f4 rfl
  have h5 := hat 5 f5 rfl
  have h6 := hat 6 f6 rfl
  have h7 := hat 7 f7 rfl
  clear hat
  rw [t0, o0, cellsKind1] at h0
  rw [t1, o1, cellsInt1] at h1
  rw [t2, o2, cellsInt1] at h2
  rw [t3, o3, cellsStr1] at h3
  rw [t4, o4, cellsAttrs1] at h4
  rw [t5, o5, cellsStr1] at h5
  rw [t6, o6, cellsInt1] at h6
  rw [t7, o7, cellsInt1] at h7
  rw [cellsEv] at hl
  have hxl8 : xs.length = 8 := hxl
  match xs, hxl8 with
  | [p0, p1, p2, p3, p4, p5, p6, p7], _ =>
    match cs, hl with
    | [c0, c1, c2, c3, c4, c5, c6, c7], _ =>
      obtain ⟨n0, e0, y0, w0⟩ := DataW.trod_int Tryd.underlying68 h0
      obtain ⟨n1, e1, y1, _⟩ := DataW.trod_int Tryd.underlying3 h1
      obtain ⟨n2, e2, y2, _⟩ := DataW.trod_int Tryd.underlying3 h2
      obtain ⟨s3, e3, y3, _⟩ := DataW.trod_string Tryd.underlying9 h3
      obtain ⟨a, n, c, e4, hnc, hA, hw⟩ := attrs_read h4
      obtain ⟨s5, e5, y5, _⟩ := DataW.trod_string Tryd.underlying9 h5
      obtain ⟨n6, e6, y6, _⟩ := DataW.trod_int Tryd.underlying3 h6
      obtain ⟨n7, e7, y7, _⟩ := DataW.trod_int Tryd.underlying3 h7
      simp at e0 e1 e2 e3 e4 e5 e6 e7
      subst e0 e1 e2 e3 e4 e5 e6 e7
      subst y0 y1 y2 y3 y5 y6 y7
      rw [hx]
      simp only [List.map_cons, List.map_nil, evOf, wtE, Rows.uptoBulk, Rows.uptoBulkAll]
      refine ⟨⟨a, n, c, by simp [evC, strL_of], hnc, hA⟩, by omega, w0⟩
end
theorem EvCells.below {w w' : World} {cs : List Value} {e : Ev} (h : EvCells w cs e) (hb : Below w.heap.size w w') : EvCells w' cs e := by
  obtain ⟨a, n, c, h1, h2, h3⟩ := h
  exact ⟨a, n, c, h1, h2, h3.below hb⟩
theorem wtA_mem (l : List (List UInt8 × List UInt8)) : ∀ p ∈ l, p.1.length + p.2.length + 1 ≤ wtA l := by
  induction l with
  | nil => intro p hp; cases hp
  | cons q l ih =>
    intro p hp
    simp only [wtA, List.map_cons, List.sum_cons]
    rcases List.mem_cons.1 hp with rfl | hp
    · omega
    · have := ih p hp; simp only [wtA] at this; omega
theorem wtA_length (l : List (List UInt8 × List UInt8)) : l.length ≤ wtA l := by
  induction l with
  | nil => simp [wtA]
  | cons q l ih => simp only [wtA, List.map_cons, List.sum_cons, List.length_cons] at *; omega
def evOut (e : Ev) : List UInt8 := eventW e.kind e.name e.ats e.text
theorem textL_len (l : List UInt8) : (replL textPs l).length ≤ 6 * l.length := by
  induction l with
  | nil => simp [replL]
  | cons b l ih =>
    have h : ∀ n : Fin 256, (form textPs (UInt8.ofNat n)).length ≤ 6 := by decide +kernel
    have hb := h ⟨b.toNat, b.toNat_lt⟩
    simp only [UInt8.ofNat_toNat] at hb
    simp only [replL, List.flatMap_cons, List.length_append, List.length_cons] at *
    omega
theorem evOut_len (e : Ev) : (evOut e).length ≤ 8 * wtE e := by
  have ha : ∀ l : List (List UInt8 × List UInt8), (l.flatMap attrW).length ≤ 8 * wtA l := by
    intro l
    induction l with
    | nil => simp [wtA]
    | cons p l ih =>
      have := replL_vlen p.2
      simp only [wtA, List.flatMap_cons, List.length_append, List.map_cons, List.sum_cons, attrW, List.length_cons, List.length_nil] at *
      omega
  have h1 := ha e.ats
  have h2 := textL_len e.text
  unfold evOut eventW wtE
  split
  · simp only [List.length_append, List.length_cons, List.length_nil]; omega
  · split
    · omega
    · split
      · simp only [List.length_append, List.length_cons, List.length_nil]; omega
      · simp
end Go.Proofs.YtekoflcioooncaaDoor

namespace Go.Proofs.YtekoflcioooncaaDoor
open Go.RowKit

def attrsB : Option (List UInt8) → List (List UInt8 × List UInt8) → Bool
  | _, [] => true
  | q, p :: r => nameB p.1 && textsB p.2 && (match q with | none => true | some q => Op.bytesLess q p.1) && attrsB (some p.1) r
structure BegS where
  opn : List (Int × Int × List UInt8)
  next : Int
  text : Bool
  cnt : Nat
def beg0 : BegS := ⟨[], 0, false, 0⟩
def begOk (s : BegS) (e : Ev) : Bool :=
  if e.kind = 0 then decide ((s.cnt = 0 ∨ s.opn ≠ []) ∧ e.num = s.next ∧ e.dep = (s.opn.length : Int) + 1 ∧ e.text = []) && nameB e.name && attrsB none e.ats
  else if e.kind = 1 then decide (s.opn ≠ [] ∧ e.num = s.next ∧ e.dep = (s.opn.length : Int) + 1 ∧ e.name = [] ∧ e.ats = [] ∧ e.text ≠ []) && textsB e.text && !s.text
  else if e.kind = 2 then decide (e.text = [] ∧ e.ats = [] ∧ s.opn.head? = some (e.num, e.dep, e.name))
  else false
def begNext (s : BegS) (e : Ev) : BegS :=
  ⟨if e.kind = 0 then (e.num, e.dep, e.name) :: s.opn else if e.kind = 2 then s.opn.tail else s.opn, if e.kind = 2 then s.next else s.next + 1, e.kind == 1, s.cnt + 1⟩
def begAll : BegS → List Ev → Option BegS
  | s, [] => some s
  | s, e :: l => if begOk s e = true then begAll (begNext s e) l else none
def wholeB (l : List Ev) : Bool := match begAll beg0 l with
  | some s => decide (l ≠ [] ∧ s.opn = [])
  | none => false
theorem begAll_snoc (s : BegS) (l : List Ev) (e : Ev) : begAll s (l ++ [e]) = (begAll s l).bind fun t => if begOk t e = true then some (begNext t e) else none := by
  induction l generalizing s with
  | nil => simp only [List.nil_append, begAll, Option.bind_some]
  | cons x l ih =>
    simp only [List.cons_append, begAll]
    split
    · exact ih _
    · rfl
theorem begAll_app (s : BegS) (l m : List Ev) : begAll s (l ++ m) = (begAll s l).bind fun t => begAll t m := by
  induction l generalizing s with
  | nil => rfl
  | cons x l ih =>
    simp only [List.cons_append, begAll]
    split
    · exact ih _
    · rfl
end Go.Proofs.YtekoflcioooncaaDoor
