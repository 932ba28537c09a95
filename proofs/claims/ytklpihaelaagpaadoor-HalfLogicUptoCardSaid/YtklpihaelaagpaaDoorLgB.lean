/-
  Plain laws of strings.Replacer over pairs of one byte and a text: what is written, its length both ways.
-/
import Derived.Test.YtklpihaelaagpaaDoorLgA
import Derived.Lib.Bytealg
import Derived.Laws.CopyOwn
import Derived.Test.YtklpihaelaagpaaDoorShelf
import Derived.Deep.CutBlock
import Derived.Deep.DeepCutAuto
import Derived.Deep.RegionLaw
import Derived.Deep.MidRow
import Derived.Test.YtklpihaelaagpaaDoorProg
import Derived.Lib.FrozenHead
import Derived.Lib.UnsafeStr
import Derived.Deep.RegionHeld3
import Derived.Test.YtklpihaelaagpaaDoorRows
import Derived.ChangeArms
import Derived.DataReads
namespace Go.Proofs.YtklpihaelaagpaaDoor
open Go.RowKit

def form (ps : List (UInt8 × ByteArray)) (b : UInt8) : List UInt8 := match look ps b with | none => [b] | some n => n.data.toList
def replL (ps : List (UInt8 × ByteArray)) (l : List UInt8) : List UInt8 := l.flatMap (form ps)
def replS (ps : List (UInt8 × ByteArray)) (s : ByteArray) : ByteArray := ⟨(replL ps s.data.toList).toArray⟩
def gain (ps : List (UInt8 × ByteArray)) (b : UInt8) : Int := ((form ps b).length : Int) - 1
def gains (ps : List (UInt8 × ByteArray)) (l : List UInt8) : Int := (l.map (gain ps)).sum
def hit (ps : List (UInt8 × ByteArray)) (l : List UInt8) : Bool := l.any fun b => (look ps b).isSome

theorem replL_length (ps : List (UInt8 × ByteArray)) (l : List UInt8) : ((replL ps l).length : Int) = l.length + gains ps l := by
  induction l with
  | nil => rfl
  | cons b l ih =>
    have e : replL ps (b :: l) = form ps b ++ replL ps l := rfl
    have e2 : gains ps (b :: l) = gain ps b + gains ps l := by simp [gains]
    rw [e, List.length_append, e2, List.length_cons]
    unfold gain
    omega
theorem replL_snoc (ps : List (UInt8 × ByteArray)) (l : List UInt8) (b : UInt8) : replL ps (l ++ [b]) = replL ps l ++ form ps b := by simp [replL]
theorem gains_snoc (ps : List (UInt8 × ByteArray)) (l : List UInt8) (b : UInt8) : gains ps (l ++ [b]) = gains ps l + gain ps b := by simp [gains]
theorem hit_snoc (ps : List (UInt8 × ByteArray)) (l : List UInt8) (b : UInt8) : hit ps (l ++ [b]) = (hit ps l || (look ps b).isSome) := by simp [hit]
theorem no_hit (ps : List (UInt8 × ByteArray)) (l : List UInt8) (h : hit ps l = false) : replL ps l = l := by
  induction l with
  | nil => rfl
  | cons b l ih =>
    have e : hit ps (b :: l) = ((look ps b).isSome || hit ps l) := rfl
    rw [e, Bool.or_eq_false_iff] at h
    have e2 : replL ps (b :: l) = form ps b ++ replL ps l := rfl
    rw [e2, ih h.2]
    have e3 : look ps b = none := by simpa using h.1
    simp [form, e3]

def cgain (l : List UInt8) (p : UInt8 × ByteArray) : Int := (Lib.countByte l p.1 : Int) * ((p.2.size : Int) - 1)
def cgains (qs : List (UInt8 × ByteArray)) (l : List UInt8) : Int := (qs.map (cgain l)).sum
def cany (qs : List (UInt8 × ByteArray)) (l : List UInt8) : Bool := qs.any fun p => Lib.countByte l p.1 != 0
theorem cgains_snoc (qs : List (UInt8 × ByteArray)) (p : UInt8 × ByteArray) (l : List UInt8) : cgains (qs ++ [p]) l = cgains qs l + cgain l p := by simp [cgains]
theorem cany_snoc (qs : List (UInt8 × ByteArray)) (p : UInt8 × ByteArray) (l : List UInt8) : cany (qs ++ [p]) l = (cany qs l || Lib.countByte l p.1 != 0) := by simp [cany]

theorem gain_none (ps : List (UInt8 × ByteArray)) (b : UInt8) (h : look ps b = none) : gain ps b = 0 := by simp [gain, form, h]
theorem size_data (n : ByteArray) : n.data.toList.length = n.size := by rw [Array.length_toList]; rfl
theorem one_byte (ps : List (UInt8 × ByteArray)) (b : UInt8) (hnd : (ps.map (·.1)).Nodup) :
    (ps.map fun p => (if p.1 = b then ((p.2.size : Int) - 1) else 0)).sum = gain ps b := by
  induction ps with
  | nil => simp [gain, form, look]
  | cons p ps ih =>
    simp only [List.map_cons, List.nodup_cons] at hnd
    have ih := ih hnd.2
    rw [List.map_cons, List.sum_cons, ih]
    by_cases h : p.1 = b
    · have hn : look ps b = none := look_none ps b (by rw [← h]; exact hnd.1)
      rw [if_pos h, gain_none ps b hn]
      have e : look (p :: ps) b = some p.2 := by rw [look_cons, if_pos h]
      simp only [gain, form, e, size_data]
      omega
    · rw [if_neg h]
      have e : look (p :: ps) b = look ps b := by rw [look_cons, if_neg h]
      simp only [gain, form, e]
      omega
theorem cgains_cons (ps : List (UInt8 × ByteArray)) (b : UInt8) (l : List UInt8) :
    cgains ps (b :: l) = (ps.map fun p => (if p.1 = b then ((p.2.size : Int) - 1) else 0)).sum + cgains ps l := by
  induction ps with
  | nil => rfl
  | cons p ps ih =>
    have e : ∀ m, cgains (p :: ps) m = cgain m p + cgains ps m := fun m => by simp [cgains]
    rw [e, e, ih, List.map_cons, List.sum_cons]
    have e2 : cgain (b :: l) p = (if p.1 = b then ((p.2.size : Int) - 1) else 0) + cgain l p := by
      unfold cgain Lib.countByte
      rw [List.count_cons]
      by_cases h : p.1 = b
      · rw [if_pos h, if_pos (by simp [h])]
        rw [Int.natCast_add, Int.add_mul]
        simp
        omega
      · rw [if_neg h, if_neg (by simpa using fun e => h e.symm)]
        simp
    rw [e2]
    omega
theorem cgains_eq (ps : List (UInt8 × ByteArray)) (hnd : (ps.map (·.1)).Nodup) (l : List UInt8) : cgains ps l = gains ps l := by
  induction l with
  | nil =>
    have : ∀ qs : List (UInt8 × ByteArray), cgains qs [] = 0 := by
      intro qs
      induction qs with
      | nil => rfl
      | cons p qs ih =>
        have e : cgains (p :: qs) [] = cgain [] p + cgains qs [] := by simp [cgains]
        rw [e, ih]
        simp [cgain, Lib.countByte]
    rw [this]
    rfl
  | cons b l ih =>
    rw [cgains_cons, one_byte ps b hnd, ih]
    simp [gains]
theorem cgains_rev (ps : List (UInt8 × ByteArray)) (l : List UInt8) : cgains ps.reverse l = cgains ps l := by
  unfold cgains
  induction ps with
  | nil => rfl
  | cons p ps ih =>
    rw [List.reverse_cons, List.map_append, List.sum_append, ih, List.map_cons, List.map_cons, List.sum_cons, List.map_nil, List.sum_cons, List.sum_nil]
    omega
theorem cany_eq (ps : List (UInt8 × ByteArray)) (l : List UInt8) : cany ps l = hit ps l := by
  rw [Bool.eq_iff_iff]
  simp only [cany, hit, List.any_eq_true, bne_iff_ne, ne_eq]
  constructor
  · rintro ⟨p, hp, hc⟩
    have hm : p.1 ∈ l := List.count_pos_iff.1 (Nat.pos_of_ne_zero hc)
    refine ⟨p.1, hm, ?_⟩
    unfold look
    cases hf : ps.find? (fun q => q.1 == p.1) with
    | none => have := List.find?_eq_none.1 hf p hp; simp at this
    | some q => rfl
  · rintro ⟨b, hb, hs⟩
    unfold look at hs
    cases hf : ps.find? (fun q => q.1 == b) with
    | none => rw [hf] at hs; cases hs
    | some q =>
      have h1 := List.mem_of_find?_eq_some hf
      have h2 := List.find?_some hf
      simp at h2
      refine ⟨q, h1, ?_⟩
      have : 0 < Lib.countByte l q.1 := List.count_pos_iff.2 (by rw [h2]; exact hb)
      omega
theorem cany_rev (ps : List (UInt8 × ByteArray)) (l : List UInt8) : cany ps.reverse l = cany ps l := by simp [cany]

theorem Ent.below {w w' : World} {v : Value} {x : Option ByteArray} (h : Ent w v x) (hb : Below w.heap.size w w') : Ent w' v x := by
  cases x with
  | none => exact h
  | some n =>
    obtain ⟨k, c, rfl, hs⟩ := h
    exact ⟨k, c, rfl, hs.below hb⟩
theorem look_mem (ps : List (UInt8 × ByteArray)) (hnd : (ps.map (·.1)).Nodup) (p : UInt8 × ByteArray) (hp : p ∈ ps) : look ps p.1 = some p.2 := by
  induction ps with
  | nil => cases hp
  | cons q ps ih =>
    simp only [List.map_cons, List.nodup_cons] at hnd
    rw [look_cons]
    rcases List.mem_cons.1 hp with rfl | h
    · rw [if_pos rfl]
    · rw [if_neg ?_, ih hnd.2 h]
      intro e
      exact hnd.1 (e ▸ List.mem_map_of_mem h)
theorem look_some (ps : List (UInt8 × ByteArray)) (b : UInt8) (n : ByteArray) (h : look ps b = some n) : ∃ p ∈ ps, p.1 = b ∧ p.2 = n := by
  unfold look at h
  cases hf : ps.find? (fun q => q.1 == b) with
  | none => rw [hf] at h; cases h
  | some q =>
    rw [hf] at h
    injection h with h
    have h2 := List.find?_some hf
    simp at h2
    exact ⟨q, List.mem_of_find?_eq_some hf, h2, h⟩

theorem count_le (l : List UInt8) (c : UInt8) : Lib.countByte l c ≤ l.length := List.count_le_length
theorem cgain_bd (l : List UInt8) (p : UInt8 × ByteArray) (h1 : 1 ≤ p.2.size) : 0 ≤ cgain l p := by
  unfold cgain
  exact Int.mul_nonneg (by omega) (by omega)
theorem cgains_nonneg (qs : List (UInt8 × ByteArray)) (l : List UInt8) (h1 : ∀ p ∈ qs, 1 ≤ p.2.size) : 0 ≤ cgains qs l := by
  induction qs with
  | nil => exact Int.le_refl _
  | cons p qs ih =>
    have e : cgains (p :: qs) l = cgain l p + cgains qs l := by simp [cgains]
    have := cgain_bd l p (h1 p (by simp))
    have := ih fun q hq => h1 q (by simp [hq])
    omega
theorem cgains_take (qs : List (UInt8 × ByteArray)) (l : List UInt8) (h1 : ∀ p ∈ qs, 1 ≤ p.2.size) (k : Nat) : cgains (qs.take k) l ≤ cgains qs l := by
  have e : cgains qs l = cgains (qs.take k) l + cgains (qs.drop k) l := by
    unfold cgains
    rw [← List.sum_append, ← List.map_append, List.take_append_drop]
  have := cgains_nonneg (qs.drop k) l fun p hp => h1 p (List.mem_of_mem_drop hp)
  omega
theorem gain_bd (ps : List (UInt8 × ByteArray)) (h1 : ∀ p ∈ ps, 1 ≤ p.2.size ∧ p.2.size ≤ 8) (b : UInt8) : 0 ≤ gain ps b ∧ gain ps b ≤ 7 := by
  cases h : look ps b with
  | none => rw [gain_none ps b h]; omega
  | some n =>
    obtain ⟨p, hp, _, rfl⟩ := look_some ps b n h
    have := h1 p hp
    simp only [gain, form, h, size_data]
    omega
theorem gains_bd (ps : List (UInt8 × ByteArray)) (h1 : ∀ p ∈ ps, 1 ≤ p.2.size ∧ p.2.size ≤ 8) (l : List UInt8) : 0 ≤ gains ps l ∧ gains ps l ≤ 7 * l.length := by
  induction l with
  | nil => simp [gains]
  | cons b l ih =>
    have e : gains ps (b :: l) = gain ps b + gains ps l := by simp [gains]
    have := gain_bd ps h1 b
    rw [e, List.length_cons]
    omega
theorem gains_take (ps : List (UInt8 × ByteArray)) (h1 : ∀ p ∈ ps, 1 ≤ p.2.size ∧ p.2.size ≤ 8) (l : List UInt8) (k : Nat) : gains ps (l.take k) ≤ gains ps l := by
  have e : gains ps l = gains ps (l.take k) + gains ps (l.drop k) := by
    unfold gains
    rw [← List.sum_append, ← List.map_append, List.take_append_drop]
  have := (gains_bd ps h1 (l.drop k)).1
  omega
def bufL (N : Nat) (l : List UInt8) : List Value := u8s l ++ List.replicate (N - l.length) (.int .u8 0)
theorem bufL_length (N : Nat) (l : List UInt8) (h : l.length ≤ N) : (bufL N l).length = N := by simp [bufL, u8s]; omega
theorem bufL_set (N : Nat) (l : List UInt8) (o : UInt8) (h : l.length < N) : (bufL N l).toArray.setIfInBounds l.length (.int .u8 o.toNat) = (bufL N (l ++ [o])).toArray := by
  obtain ⟨m, hm⟩ : ∃ m, N - l.length = m + 1 := ⟨N - l.length - 1, by omega⟩
  have hl : l.length = (u8s l).length := by simp [u8s]
  have hm2 : N - (l ++ [o]).length = m := by rw [List.length_append, List.length_singleton]; omega
  unfold bufL
  rw [hm, hm2, List.replicate_succ, hl, setIfInBounds_pre]
  simp [u8s]
theorem bufL_splice (N : Nat) (l m : List UInt8) (h : l.length + m.length ≤ N) : splice (bufL N l) l.length (u8s m) = bufL N (l ++ m) := by
  have hl : l.length = (u8s l).length := by simp [u8s]
  have hm : (u8s m).length = m.length := by simp [u8s]
  unfold splice bufL
  rw [hm, List.take_left' hl.symm, List.drop_append, List.drop_of_length_le (by omega), List.nil_append, List.drop_replicate, hl, ← List.append_assoc]
  have e : (N - (u8s l).length - ((u8s l).length + m.length - (u8s l).length)) = N - (l ++ m).length := by rw [List.length_append]; omega
  rw [e]
  simp [u8s]
theorem bufL_full (l : List UInt8) : bufL l.length l = u8s l := by simp [bufL]
theorem u8s_bytesV (l : List UInt8) : u8s l = bytesV ⟨l.toArray⟩ := by simp [u8s, bytesV]
theorem bytesV_u8s (n : ByteArray) : bytesV n = u8s n.data.toList := rfl
theorem made_zero (z : Value) (n : Nat) : (madeCells #[z] n).toList = List.replicate n z := by
  apply List.ext_getElem
  · simp [madeCells]
  · intro i h1 h2
    simp [madeCells, Nat.mod_one]
theorem own_full {w : World} {base : Nat} {e : TypeId} {g n : Nat} {xs : List Value} (h : w.ownsRow base e 1 (.slice (some ⟨g, 0, none⟩) n n) n xs) : w.heap[g]? = some (.cells xs.toArray e (0, 0)) := by
  obtain ⟨h1, h2⟩ := h
  rcases h2 with ⟨h3, _⟩ | ⟨g', cap, cur, hv, _, hh, _, _, hsz, ht⟩
  · cases h3
  · injection hv with e1 e2 e3
    injection e1 with e1
    injection e1 with e1
    subst e1
    subst e3
    rw [hh, ← ht, List.take_of_length_le (by rw [Array.length_toList, hsz]; exact Nat.le_refl _)]
theorem heap_sl {w : World} {g : Nat} {xs : List Value} {e : TypeId} {fz : Nat × Nat} (h : w.heap[g]? = some (.cells xs.toArray e fz)) : Sl w (some ⟨g, 0, none⟩) xs.length xs :=
  ⟨rfl, fun i hi => ⟨g, 0, rfl, heap_lt h, by rw [cell_heap h, Nat.zero_add]; simp [hi]⟩⟩
end Go.Proofs.YtklpihaelaagpaaDoor

namespace Go.Proofs.YtklpihaelaagpaaDoor
open Go.RowKit
end Go.Proofs.YtklpihaelaagpaaDoor

namespace Go.Proofs.YtklpihaelaagpaaDoor
open Go.RowKit
end Go.Proofs.YtklpihaelaagpaaDoor

namespace Go.Proofs.YtklpihaelaagpaaDoor
open Go.RowKit

def textPs : List (UInt8 × ByteArray) :=
  [(38, ⟨#[38, 97, 109, 112, 59]⟩), (60, ⟨#[38, 108, 116, 59]⟩), (62, ⟨#[38, 103, 116, 59]⟩), (13, ⟨#[38, 35, 120, 68, 59]⟩)]
def valuePs : List (UInt8 × ByteArray) :=
  [(38, ⟨#[38, 97, 109, 112, 59]⟩), (60, ⟨#[38, 108, 116, 59]⟩), (34, ⟨#[38, 113, 117, 111, 116, 59]⟩), (9, ⟨#[38, 35, 120, 57, 59]⟩), (10, ⟨#[38, 35, 120, 65, 59]⟩), (13, ⟨#[38, 35, 120, 68, 59]⟩)]

theorem sl_of_block {w : World} {g : Nat} {ps : List (UInt8 × ByteArray)} {e : TypeId} (h : w.heap[g]? = some (.cells (strsOf ps).toArray e (0, 0))) : Sl w (some ⟨g, 0, none⟩) (strsOf ps).length (strsOf ps) :=
  ⟨rfl, fun i hi => ⟨g, 0, rfl, heap_lt h, by rw [cell_heap h, Nat.zero_add]; simp [hi]⟩⟩

end Go.Proofs.YtklpihaelaagpaaDoor

namespace Go.Proofs.YtklpihaelaagpaaDoor
open Go.RowKit
end Go.Proofs.YtklpihaelaagpaaDoor

namespace Go.Proofs.YtklpihaelaagpaaDoor
open Go.RowKit

end Go.Proofs.YtklpihaelaagpaaDoor

namespace Go.Proofs.YtklpihaelaagpaaDoor
open Go.RowKit
end Go.Proofs.YtklpihaelaagpaaDoor

namespace Go.Proofs.YtklpihaelaagpaaDoor
open Go.RowKit

def strL (l : List UInt8) : ByteArray := ⟨l.toArray⟩
theorem strL_size (l : List UInt8) : (strL l).size = l.length := by simp [strL, ByteArray.size]
theorem strL_data (l : List UInt8) : (strL l).data.toList = l := by simp [strL]
theorem strL_of (s : ByteArray) : strL s.data.toList = s := by
  apply ByteArray.ext
  simp [strL]
theorem strL_add (l m : List UInt8) : strL l ++ strL m = strL (l ++ m) := by
  apply ByteArray.ext
  simp [strL]
theorem run_catL {P : Program} (a b : List UInt8) (h : a.length + b.length ≤ 9223372036854775807) (w : World) : (Op.stringOp .add (strL a) (strL b)).run P w = .ok (.string (strL (a ++ b))) w := by
  rw [run_string_add_sum (P := P) w _ _ (by rw [strL_size, strL_size]; omega), strL_add]

def AttrsAt (w : World) (a : Option Addr) (n : Nat) (ats : List (List UInt8 × List UInt8)) : Prop :=
  n = ats.length ∧ ∀ i, (h : i < ats.length) → ∃ b o, a = some ⟨b, o, none⟩ ∧ b < w.heap.size ∧ w.cell? ⟨b, o + i * 2, none⟩ = some (.string (strL ats[i].1)) ∧ w.cell? ⟨b, o + i * 2 + 1, none⟩ = some (.string (strL ats[i].2))
theorem AttrsAt.below {w w' : World} {a : Option Addr} {n : Nat} {ats : List (List UInt8 × List UInt8)} (h : AttrsAt w a n ats) (hb : Below w.heap.size w w') : AttrsAt w' a n ats :=
  ⟨h.1, fun i hi => by
    obtain ⟨b, o, e, hlt, h1, h2⟩ := h.2 i hi
    exact ⟨b, o, e, Nat.lt_of_lt_of_le hlt hb.size, (hb.cell (p := ⟨b, o + i * 2, none⟩) hlt).trans h1, (hb.cell (p := ⟨b, o + i * 2 + 1, none⟩) hlt).trans h2⟩⟩
def attrW (a : List UInt8 × List UInt8) : List UInt8 := [32] ++ a.1 ++ [61, 34] ++ replL valuePs a.2 ++ [34]
def eventW (kind : Int) (name : List UInt8) (ats : List (List UInt8 × List UInt8)) (text : List UInt8) : List UInt8 :=
  if kind = 0 then [60] ++ name ++ ats.flatMap attrW ++ [62]
  else if kind = 1 then replL textPs text
  else if kind = 2 then [60, 47] ++ name ++ [62]
  else []
theorem flat_drop {α β : Type} (f : α → List β) (l : List α) (k : Nat) (h : k < l.length) : (l.take (k + 1)).flatMap f = (l.take k).flatMap f ++ f l[k] := by
  rw [List.take_succ_eq_append_getElem h, List.flatMap_append]; simp

theorem ownsRowF_below {w w' : World} {B : Nat} {e : TypeId} {v : Value} {n : Nat} {xs : List Value} (h : w.ownsRowF B e 1 v n xs) (hb : Below w.heap.size w w') : w'.ownsRowF B e 1 v n xs := by
  obtain ⟨h1, h2⟩ := h
  refine ⟨h1, ?_⟩
  rcases h2 with h2 | ⟨g, cap, cur, fz, hv, hg, hh, r⟩
  · exact .inl h2
  · exact .inr ⟨g, cap, cur, fz, hv, hg, (hb.block g (heap_lt hh)).trans hh, r⟩
theorem form_value_len (c : UInt8) : (form valuePs c).length ≤ 6 := by
  have h : ∀ n : Fin 256, (form valuePs (UInt8.ofNat n)).length ≤ 6 := by decide +kernel
  have := h ⟨c.toNat, c.toNat_lt⟩
  simpa using this
theorem replL_vlen (l : List UInt8) : (replL valuePs l).length ≤ 6 * l.length := by
  induction l with
  | nil => simp [replL]
  | cons b l ih =>
    have := form_value_len b
    simp only [replL, List.flatMap_cons, List.length_append, List.length_cons] at *
    omega
theorem attrW_len (p : List UInt8 × List UInt8) (h1 : p.1.length ≤ 1048576) (h2 : p.2.length ≤ 1048576) : (attrW p).length ≤ 8388608 := by
  have := replL_vlen p.2
  simp only [attrW, List.length_append, List.length_cons, List.length_nil]
  omega
theorem attrs_len (l : List (List UInt8 × List UInt8)) (h : ∀ p ∈ l, p.1.length ≤ 1048576 ∧ p.2.length ≤ 1048576) : (l.flatMap attrW).length ≤ 8388608 * l.length := by
  induction l with
  | nil => simp
  | cons p l ih =>
    have h1 := h p (by simp)
    have := attrW_len p h1.1 h1.2
    have := ih (fun q hq => h q (by simp [hq]))
    simp only [List.flatMap_cons, List.length_append, List.length_cons]
    omega

def evC (kind num dep : Int) (name : List UInt8) (a : Option Addr) (n c : Nat) (text : List UInt8) (fr tt : Int) : Array Value :=
  #[.int .i64 kind, .int .i64 num, .int .i64 dep, .string (strL name), .slice a n c, .string (strL text), .int .i64 fr, .int .i64 tt]
end Go.Proofs.YtklpihaelaagpaaDoor

namespace Go.Proofs.YtklpihaelaagpaaDoor
open Go.RowKit

section
variable {H : Type} {enc : TypeId × Value → H} {w : World} {base : Nat} {sp : Nat → Bool} {held : Bool} {fuel : Nat}

theorem bulk_le {l : List (DataW H)} {i : Nat} {d : DataW H} (h : l[i]? = some d) : Rows.uptoBulk d ≤ Rows.uptoBulkAll l := by
  induction l generalizing i with
  | nil => simp at h
  | cons x r ih =>
    simp only [Rows.uptoBulkAll]
    cases i with
    | zero => simp only [List.getElem?_cons_zero, Option.some.injEq] at h; subst h; omega
    | succ i => have := ih (i := i) (by simpa using h); omega

theorem slice_read {S E : TypeId} {k : Nat} (hS : Tryd.prog.underlying S = some (.slice E)) (hE : Tryd.prog.cellsOf E = k) (hk : 0 < k) {cs : List Value} {x : DataW H × List MemPlace}
    (h : DataW.trod enc Tryd.prog w base sp held fuel S cs = some x) :
    ∃ a n c, ∃ (elems : List (DataW H × List MemPlace)), cs = [.slice a n c] ∧ n ≤ c ∧ elems.length = n ∧ (elems = [] ∨ ∃ rest, x.1 = .slice (elems.map (·.1)) rest) ∧
      ∀ i, (hi : i < elems.length) → ∃ b o m ecs, a = some ⟨b, o, none⟩ ∧ b < w.heap.size ∧ ecs.length = k ∧ (∀ j, j < k → w.cell? ⟨b, o + i * k + j, none⟩ = ecs[j]?) ∧ DataW.trod enc Tryd.prog w base sp held m E ecs = some elems[i] := by
  rcases DataW.trod_slice hS h with ⟨rfl, _⟩ | ⟨a, len, cap, elems, rest, m, _, rfl, hx, _, hlc, _, hel, hat, _, _⟩
  · exact ⟨none, 0, 0, [], rfl, Nat.le_refl _, rfl, .inl rfl, fun i hi => by simp at hi⟩
  · refine ⟨some a, len, cap, elems, rfl, hlc, hel, .inr ⟨_, by rw [hx]⟩, fun i hi => ?_⟩
    have h1 := hat i (by omega)
    rw [hE, List.getElem?_eq_getElem hi, Option.bind_eq_some_iff] at h1
    obtain ⟨ecs, hcs, hr⟩ := h1
    obtain ⟨_, hl, hc⟩ := World.cells?_some hcs
    obtain ⟨b, o, spt⟩ := a
    have hspt : spt = none := by
      have h0 := hat 0 (by omega)
      rw [hE, List.getElem?_eq_getElem (show 0 < elems.length by omega), Option.bind_eq_some_iff] at h0
      obtain ⟨ecs0, hcs0, _⟩ := h0
      obtain ⟨_, hl0, hc0⟩ := World.cells?_some hcs0
      have hc00 := hc0 0 hk
      rw [List.getElem?_eq_getElem (by omega)] at hc00
      have := World.cell?_spot hc00
      simpa [Addr.add] using this
    subst hspt
    refine ⟨b, o, m, ecs, rfl, ?_, hl, fun j hj => ?_, hr⟩
    · have := World.cells?_block hcs hk
      simp only [Addr.add] at this
      split at this <;> simpa using this
    · have := hc j hj
      rw [Addr.add_lit, Addr.add_lit] at this
      exact this

def attrOf : DataW H → List UInt8 × List UInt8
  | .agg [.lit (.string a), .lit (.string b)] => (a, b)
  | _ => ([], [])
def wtA (l : List (List UInt8 × List UInt8)) : Nat := (l.map fun p => p.1.length + p.2.length + 1).sum
theorem attr_desc : ∃ f0 f1, Tryd.prog.underlying 89 = some (.struct #[f0, f1]) ∧ f0.type = 9 ∧ f1.type = 9 ∧ f0.offset = 0 ∧ f1.offset = 1 := by
  refine ⟨_, _, Tryd.underlying89, rfl, rfl, rfl, rfl⟩
theorem cellsAttr : Tryd.prog.cellsOf 89 = 2 := by kernel_rfl
theorem cellsStr1 : Tryd.prog.cellsOf 9 = 1 := by kernel_rfl
theorem cellsInt1 : Tryd.prog.cellsOf 3 = 1 := by kernel_rfl
theorem cellsKind1 : Tryd.prog.cellsOf 37 = 1 := by kernel_rfl
theorem cellsAttrs1 : Tryd.prog.cellsOf 38 = 1 := by kernel_rfl
theorem cellsEv : Tryd.prog.cellsOf 40 = 8 := by kernel_rfl
theorem getL {α : Type} {l : List α} {i : Nat} (hl : i < l.length) : l[i]? = some l[i] := List.getElem?_eq_getElem hl

set_option maxRecDepth 100000 in
theorem attr_read {cs : List Value} {x : DataW H × List MemPlace} (h : DataW.trod enc Tryd.prog w base sp held fuel 89 cs = some x) :
    cs = [.string (strL (attrOf x.1).1), .string (strL (attrOf x.1).2)] ∧ (attrOf x.1).1.length + (attrOf x.1).2.length + 1 ≤ Rows.uptoBulk x.1 := by
  obtain ⟨f0, f1, hu, t0, t1, o0, o1⟩ := attr_desc
  obtain ⟨xs, m, _, hx, hl, hxl, hat⟩ := DataW.trod_struct hu h
  have h0 := hat 0 f0 rfl
  have h1 := hat 1 f1 rfl
  rw [t0, o0, cellsStr1] at h0
  rw [t1, o1, cellsStr1] at h1
  rw [cellsAttr] at hl
  have hxl2 : xs.length = 2 := hxl
  rw [getL (show 0 < xs.length by omega)] at h0
  rw [getL (show 1 < xs.length by omega)] at h1
  obtain ⟨s0, e0, y0, _⟩ := DataW.trod_string Tryd.underlying9 h0
  obtain ⟨s1, e1, y1, _⟩ := DataW.trod_string Tryd.underlying9 h1
  match xs, hxl2 with
  | [p0, p1], _ =>
    match cs, hl with
    | [c0, c1], _ =>
      simp at e0 e1 y0 y1
      subst e0 e1 y0 y1
      rw [hx]
      simp only [List.map_cons, List.map_nil, attrOf, strL_of, Rows.uptoBulk, Rows.uptoBulkAll]
      exact ⟨trivial, by omega⟩

theorem wtA_le (l : List (DataW H)) (h : ∀ i, (hi : i < l.length) → (attrOf l[i]).1.length + (attrOf l[i]).2.length + 1 ≤ Rows.uptoBulk l[i]) : wtA (l.map attrOf) ≤ Rows.uptoBulkAll l := by
  induction l with
  | nil => simp [wtA, Rows.uptoBulkAll]
  | cons x r ih =>
    have h0 := h 0 (by simp)
    have := ih (fun i hi => by have := h (i + 1) (by simpa using hi); simpa using this)
    simp only [wtA, List.map_cons, List.sum_cons, Rows.uptoBulkAll, List.getElem_cons_zero] at *
    omega
def attrsOf : DataW H → List (List UInt8 × List UInt8)
  | .slice l _ => l.map attrOf
  | _ => []
theorem attrs_read {cs : List Value} {x : DataW H × List MemPlace} (h : DataW.trod enc Tryd.prog w base sp held fuel 38 cs = some x) :
    ∃ a n c, cs = [.slice a n c] ∧ n ≤ c ∧ AttrsAt w a n (attrsOf x.1) ∧ wtA (attrsOf x.1) ≤ Rows.uptoBulk x.1 := by
  obtain ⟨a, n, c, elems, rfl, hnc, hel, hx, hat⟩ := slice_read Tryd.underlying38 cellsAttr (by decide) h
  have hw := wtA_le (elems.map (·.1)) (fun i hi => by
    rw [List.length_map] at hi
    obtain ⟨_, _, m, ecs, _, _, _, _, hr⟩ := hat i hi
    rw [List.getElem_map]
    exact (attr_read hr).2)
  have key : AttrsAt w a n (elems.map fun e => attrOf e.1) := by
    refine ⟨by rw [List.length_map, hel], fun i hi => ?_⟩
    rw [List.length_map] at hi
    obtain ⟨b, o, m, ecs, e, hb, _, hc, hr⟩ := hat i hi
    obtain ⟨hcs, _⟩ := attr_read hr
    have c0 := hc 0 (by decide)
    have c1 := hc 1 (by decide)
    rw [hcs] at c0 c1
    rw [List.getElem_map]
    exact ⟨b, o, e, hb, c0, c1⟩
  refine ⟨a, n, c, rfl, hnc, ?_⟩
  rcases hx with rfl | ⟨rest, hx⟩
  · have : attrsOf x.1 = [] ∨ True := .inr trivial
    obtain rfl : n = 0 := by simpa using hel.symm
    rcases DataW.trod_slice Tryd.underlying38 h with ⟨_, hx⟩ | ⟨a2, len, cap, elems, rest, m, _, e, hx, _, _, _, hel2, _, _, _⟩
    · rw [hx]; exact ⟨⟨rfl, fun i hi => by simp [attrsOf] at hi⟩, by simp [attrsOf, wtA]⟩
    · simp at e
      have : elems = [] := List.eq_nil_of_length_eq_zero (by omega)
      subst this
      rw [hx]; exact ⟨⟨rfl, fun i hi => by simp [attrsOf] at hi⟩, by simp [attrsOf, wtA]⟩
  · rw [hx]
    simp only [attrsOf, List.map_map] at hw ⊢
    refine ⟨key, ?_⟩
    simp only [Rows.uptoBulk]
    have e : (List.map (attrOf ∘ fun x => x.1) elems) = elems.map fun e => attrOf e.1 := rfl
    omega

structure Ev where
  kind : Int
  num : Int
  dep : Int
  name : List UInt8
  ats : List (List UInt8 × List UInt8)
  text : List UInt8
  fr : Int
  tt : Int
def evOf : DataW H → Ev
  | .agg [.lit (.int _ kind), .lit (.int _ num), .lit (.int _ dep), .lit (.string name), d, .lit (.string text), .lit (.int _ fr), .lit (.int _ tt)] => ⟨kind, num, dep, name, attrsOf d, text, fr, tt⟩
  | _ => ⟨0, 0, 0, [], [], [], 0, 0⟩
def wtE (e : Ev) : Nat := e.name.length + e.text.length + wtA e.ats + 1
def EvCells (w : World) (cs : List Value) (e : Ev) : Prop := ∃ a n c, cs = (evC e.kind e.num e.dep e.name a n c e.text e.fr e.tt).toList ∧ n ≤ c ∧ AttrsAt w a n e.ats
theorem ev_desc : ∃ f0 f1 f2 f3 f4 f5 f6 f7, Tryd.prog.underlying 40 = some (.struct #[f0, f1, f2, f3, f4, f5, f6, f7]) ∧
    (f0.type = 37 ∧ f1.type = 3 ∧ f2.type = 3 ∧ f3.type = 9 ∧ f4.type = 38 ∧ f5.type = 9 ∧ f6.type = 3 ∧ f7.type = 3) ∧
    (f0.offset = 0 ∧ f1.offset = 1 ∧ f2.offset = 2 ∧ f3.offset = 3 ∧ f4.offset = 4 ∧ f5.offset = 5 ∧ f6.offset = 6 ∧ f7.offset = 7) := by
  refine ⟨_, _, _, _, _, _, _, _, Tryd.underlying40, ⟨rfl, rfl, rfl, rfl, rfl, rfl, rfl, rfl⟩, ⟨rfl, rfl, rfl, rfl, rfl, rfl, rfl, rfl⟩⟩

set_option maxRecDepth 100000 in
set_option maxHeartbeats 1000000 in
theorem event_read {cs : List Value} {x : DataW H × List MemPlace} (h : DataW.trod enc Tryd.prog w base sp held fuel 40 cs = some x) :
    EvCells w cs (evOf x.1) ∧ wtE (evOf x.1) ≤ Rows.uptoBulk x.1 ∧ (Lit.int .i64 (evOf x.1).kind).wf = true := by
  obtain ⟨f0, f1, f2, f3, f4, f5, f6, f7, hu, ⟨t0, t1, t2, t3, t4, t5, t6, t7⟩, ⟨o0, o1, o2, o3, o4, o5, o6, o7⟩⟩ := ev_desc
  obtain ⟨xs, m, _, hx, hl, hxl, hat⟩ := DataW.trod_struct hu h
  have h0 := hat 0 f0 rfl
  have h1 := hat 1 f1 rfl
  have h2 := hat 2 f2 rfl
  have h3 := hat 3 f3 rfl
  have h4 := hat 4 f4 rfl
  have h5 := hat 5 f5 rfl
  have h6 := hat 6 f6 rfl
  have h7 := hat 7 f7 rfl
  clear hat
  rw [t0, o0, cellsKind1] at h0
  rw [t1, o1, cellsInt1] at h1
  rw [t2, o2, cellsInt1] at h2
  rw [t3, o3, cellsStr1] at h3
  rw [t4, o4, cellsAttrs1] at h4
  rw [t5, o5, cellsStr1] at h5
  rw [t6, o6, cellsInt1] at h6
  rw [t7, o7, cellsInt1] at h7
  rw [cellsEv] at hl
  have hxl8 : xs.length = 8 := hxl
  match xs, hxl8 with
  | [p0, p1, p2, p3, p4, p5, p6, p7], _ =>
    match cs, hl with
    | [c0, c1, c2, c3, c4, c5, c6, c7], _ =>
      obtain ⟨n0, e0, y0, w0⟩ := DataW.trod_int Tryd.underlying37 h0
      obtain ⟨n1, e1, y1, _⟩ := DataW.trod_int Tryd.underlying3 h1
      obtain ⟨n2, e2, y2, _⟩ := DataW.trod_int Tryd.underlying3 h2
      obtain ⟨s3, e3, y3, _⟩ := DataW.trod_string Tryd.underlying9 h3
      obtain ⟨a, n, c, e4, hnc, hA, hw⟩ := attrs_read h4
      obtain ⟨s5, e5, y5, _⟩ := DataW.trod_string Tryd.underlying9 h5
      obtain ⟨n6, e6, y6, _⟩ := DataW.trod_int Tryd.underlying3 h6
      obtain ⟨n7, e7, y7, _⟩ := DataW.trod_int Tryd.underlying3 h7
      simp at e0 e1 e2 e3 e4 e5 e6 e7
      subst e0 e1 e2 e3 e4 e5 e6 e7
      subst y0 y1 y2 y3 y5 y6 y7
      rw [hx]
      simp only [List.map_cons, List.map_nil, evOf, wtE, Rows.uptoBulk, Rows.uptoBulkAll]
      refine ⟨⟨a, n, c, by simp [evC, strL_of], hnc, hA⟩, by omega, w0⟩
end
theorem EvCells.below {w w' : World} {cs : List Value} {e : Ev} (h : EvCells w cs e) (hb : Below w.heap.size w w') : EvCells w' cs e := by
  obtain ⟨a, n, c, h1, h2, h3⟩ := h
  exact ⟨a, n, c, h1, h2, h3.below hb⟩
theorem wtA_mem (l : List (List UInt8 × List UInt8)) : ∀ p ∈ l, p.1.length + p.2.length + 1 ≤ wtA l := by
  induction l with
  | nil => intro p hp; cases hp
  | cons q l ih =>
    intro p hp
    simp only [wtA, List.map_cons, List.sum_cons]
    rcases List.mem_cons.1 hp with rfl | hp
    · omega
    · have := ih p hp; simp only [wtA] at this; omega
theorem wtA_length (l : List (List UInt8 × List UInt8)) : l.length ≤ wtA l := by
  induction l with
  | nil => simp [wtA]
  | cons q l ih => simp only [wtA, List.map_cons, List.sum_cons, List.length_cons] at *; omega
def evOut (e : Ev) : List UInt8 := eventW e.kind e.name e.ats e.text
theorem textL_len (l : List UInt8) : (replL textPs l).length ≤ 6 * l.length := by
  induction l with
  | nil => simp [replL]
  | cons b l ih =>
    have h : ∀ n : Fin 256, (form textPs (UInt8.ofNat n)).length ≤ 6 := by decide +kernel
    have hb := h ⟨b.toNat, b.toNat_lt⟩
    simp only [UInt8.ofNat_toNat] at hb
    simp only [replL, List.flatMap_cons, List.length_append, List.length_cons] at *
    omega
theorem evOut_len (e : Ev) : (evOut e).length ≤ 8 * wtE e := by
  have ha : ∀ l : List (List UInt8 × List UInt8), (l.flatMap attrW).length ≤ 8 * wtA l := by
    intro l
    induction l with
    | nil => simp [wtA]
    | cons p l ih =>
      have := replL_vlen p.2
      simp only [wtA, List.flatMap_cons, List.length_append, List.map_cons, List.sum_cons, attrW, List.length_cons, List.length_nil] at *
      omega
  have h1 := ha e.ats
  have h2 := textL_len e.text
  unfold evOut eventW wtE
  split
  · simp only [List.length_append, List.length_cons, List.length_nil]; omega
  · split
    · omega
    · split
      · simp only [List.length_append, List.length_cons, List.length_nil]; omega
      · simp
end Go.Proofs.YtklpihaelaagpaaDoor
