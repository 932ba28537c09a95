/-
  strings.Replacer over pairs of one byte and a text: the table that its build makes.
-/
import Derived.Test.YtekoflcioooncaaDoorMxA
import Derived.Lib.ConvBytes
import Derived.Deep.CutBlock
import Derived.Lib.Bytealg
import Derived.Laws.CopyOwn
import Derived.Test.YtekoflcioooncaaDoorShelf
import Derived.Deep.DeepCutAuto
import Derived.Deep.RegionLaw
import Derived.Deep.MidRow
namespace Go.Proofs.YtekoflcioooncaaDoor
open Go.RowKit

def str1 (o : UInt8) : ByteArray := ⟨#[o]⟩
def strsOf (ps : List (UInt8 × ByteArray)) : List Value := ps.flatMap fun p => [.string (str1 p.1), .string p.2]
theorem strsOf_length (ps : List (UInt8 × ByteArray)) : (strsOf ps).length = 2 * ps.length := by
  induction ps with
  | nil => rfl
  | cons p ps ih => simp [strsOf] at ih ⊢; omega
theorem strsOf_at (ps : List (UInt8 × ByteArray)) : ∀ j, (h : j < ps.length) → (strsOf ps)[2 * j]? = some (.string (str1 ps[j].1)) ∧ (strsOf ps)[2 * j + 1]? = some (.string ps[j].2) := by
  induction ps with
  | nil => intro j h; simp at h
  | cons p ps ih =>
    intro j h
    cases j with
    | zero => simp [strsOf]
    | succ j =>
      have := ih j (by simpa using h)
      simpa [strsOf, Nat.mul_succ] using this
def look (ps : List (UInt8 × ByteArray)) (o : UInt8) : Option ByteArray := (ps.find? fun p => p.1 == o).map (·.2)

def Ent (w : World) (v : Value) : Option ByteArray → Prop
  | none => v = .slice none 0 0
  | some n => ∃ h c, v = .slice (some ⟨h, 0, none⟩) n.size c ∧ Sl w (some ⟨h, 0, none⟩) n.size (bytesV n)
theorem Ent.keep {w w' : World} {v : Value} {x : Option ByteArray} (h : Ent w v x) (hk : ∀ k, v.ownBlock = some k → w'.heap[k]? = w.heap[k]?) : Ent w' v x := by
  cases x with
  | none => exact h
  | some n =>
    obtain ⟨k, c, rfl, hs⟩ := h
    exact ⟨k, c, rfl, hs.keep fun b o e => by injection e with e; injection e with e1 e2; subst e1; exact hk _ rfl⟩

theorem strs_cells {w : World} {a : Option Addr} {n : Nat} {ps : List (UInt8 × ByteArray)} (hs : Sl w a n (strsOf ps)) (h0 : 0 < ps.length) :
    ∃ b o, a = some ⟨b, o, none⟩ ∧ b < w.heap.size ∧ ∀ j, (hj : j < ps.length) → w.cell? ⟨b, o + 2 * j, none⟩ = some (.string (str1 ps[j].1)) ∧ w.cell? ⟨b, o + (2 * j + 1), none⟩ = some (.string ps[j].2) := by
  obtain ⟨b, o, rfl, hb, _⟩ := hs.cell 0 (by rw [strsOf_length]; omega)
  refine ⟨b, o, rfl, hb, fun j hj => ?_⟩
  obtain ⟨e1, e2⟩ := strsOf_at ps j hj
  have key : ∀ i v, (strsOf ps)[i]? = some v → w.cell? ⟨b, o + i, none⟩ = some v := by
    intro i v hv
    obtain ⟨hi, hv2⟩ := List.getElem?_eq_some_iff.1 hv
    obtain ⟨b', o', e, _, hc⟩ := hs.cell i hi
    injection e with e
    injection e with e3 e4
    subst e3
    subst e4
    rw [hc, hv2]
  exact ⟨key _ _ e1, key _ _ e2⟩

def tab0 (v : Value) : Array Value := (Array.replicate 256 (.slice none 0 0)).push v
theorem tab0_size (v : Value) : (tab0 v).size = 257 := by simp [tab0]
theorem tab0_one (a : Option Addr) (n c : Nat) : (tab0 (.slice a n c)).all (·.oneCell') = true := by
  rw [Array.all_eq_true_iff_forall_mem]
  intro v hv
  simp only [tab0, Array.mem_push, Array.mem_replicate] at hv
  rcases hv with ⟨_, rfl⟩ | rfl <;> rfl
theorem info_str : (Tryd.prog.info? 9).map (fun i => (i.zero, i.size, i.bytes)) = some (some (.string ByteArray.empty), 1, 16) := by kernel_rfl
theorem info_parts2 {P : Program} {e : TypeId} {z : Value} {size : Nat} (h : (P.info? e).map (fun i => (i.zero, i.size)) = some (some z, size)) :
    ∃ i, P.info? e = some i ∧ i.zero = some z ∧ i.size = size := by
  cases hi : P.info? e with
  | none => rw [hi] at h; cases h
  | some i => rw [hi] at h; simp at h; exact ⟨i, rfl, h.1, h.2⟩

theorem look_cons (p : UInt8 × ByteArray) (ps : List (UInt8 × ByteArray)) (o : UInt8) : look (p :: ps) o = if p.1 = o then some p.2 else look ps o := by
  unfold look
  by_cases h : p.1 = o
  · rw [List.find?_cons_of_pos (by simp [h]), if_pos h]; rfl
  · rw [List.find?_cons_of_neg (by simp [h]), if_neg h]
theorem look_none (ps : List (UInt8 × ByteArray)) (o : UInt8) (h : o ∉ ps.map (·.1)) : look ps o = none := by
  induction ps with
  | nil => rfl
  | cons p ps ih =>
    simp only [List.map_cons, List.mem_cons, not_or] at h
    rw [look_cons, if_neg (fun e => h.1 e.symm), ih h.2]

end Go.Proofs.YtekoflcioooncaaDoor

namespace Go.Proofs.YtekoflcioooncaaDoor
open Go.RowKit
end Go.Proofs.YtekoflcioooncaaDoor

namespace Go.Proofs.YtekoflcioooncaaDoor
open Go.RowKit

def form (ps : List (UInt8 × ByteArray)) (b : UInt8) : List UInt8 := match look ps b with | none => [b] | some n => n.data.toList
def replL (ps : List (UInt8 × ByteArray)) (l : List UInt8) : List UInt8 := l.flatMap (form ps)
def replS (ps : List (UInt8 × ByteArray)) (s : ByteArray) : ByteArray := ⟨(replL ps s.data.toList).toArray⟩
def gain (ps : List (UInt8 × ByteArray)) (b : UInt8) : Int := ((form ps b).length : Int) - 1
def gains (ps : List (UInt8 × ByteArray)) (l : List UInt8) : Int := (l.map (gain ps)).sum
def hit (ps : List (UInt8 × ByteArray)) (l : List UInt8) : Bool := l.any fun b => (look ps b).isSome

theorem replL_length (ps : List (UInt8 × ByteArray)) (l : List UInt8) : ((replL ps l).length : Int) = l.length + gains ps l := by
  induction l with
  | nil => rfl
  | cons b l ih =>
    have e : replL ps (b :: l) = form ps b ++ replL ps l := rfl
    have e2 : gains ps (b :: l) = gain ps b + gains ps l := by simp [gains]
    rw [e, List.length_append, e2, List.length_cons]
    unfold gain
    omega
theorem replL_snoc (ps : List (UInt8 × ByteArray)) (l : List UInt8) (b : UInt8) : replL ps (l ++ [b]) = replL ps l ++ form ps b := by simp [replL]
theorem gains_snoc (ps : List (UInt8 × ByteArray)) (l : List UInt8) (b : UInt8) : gains ps (l ++ [b]) = gains ps l + gain ps b := by simp [gains]
theorem hit_snoc (ps : List (UInt8 × ByteArray)) (l : List UInt8) (b : UInt8) : hit ps (l ++ [b]) = (hit ps l || (look ps b).isSome) := by simp [hit]
theorem no_hit (ps : List (UInt8 × ByteArray)) (l : List UInt8) (h : hit ps l = false) : replL ps l = l := by
  induction l with
  | nil => rfl
  | cons b l ih =>
    have e : hit ps (b :: l) = ((look ps b).isSome || hit ps l) := rfl
    rw [e, Bool.or_eq_false_iff] at h
    have e2 : replL ps (b :: l) = form ps b ++ replL ps l := rfl
    rw [e2, ih h.2]
    have e3 : look ps b = none := by simpa using h.1
    simp [form, e3]

def cgain (l : List UInt8) (p : UInt8 × ByteArray) : Int := (Lib.countByte l p.1 : Int) * ((p.2.size : Int) - 1)
def cgains (qs : List (UInt8 × ByteArray)) (l : List UInt8) : Int := (qs.map (cgain l)).sum
def cany (qs : List (UInt8 × ByteArray)) (l : List UInt8) : Bool := qs.any fun p => Lib.countByte l p.1 != 0
theorem cgains_snoc (qs : List (UInt8 × ByteArray)) (p : UInt8 × ByteArray) (l : List UInt8) : cgains (qs ++ [p]) l = cgains qs l + cgain l p := by simp [cgains]
theorem cany_snoc (qs : List (UInt8 × ByteArray)) (p : UInt8 × ByteArray) (l : List UInt8) : cany (qs ++ [p]) l = (cany qs l || Lib.countByte l p.1 != 0) := by simp [cany]

theorem gain_none (ps : List (UInt8 × ByteArray)) (b : UInt8) (h : look ps b = none) : gain ps b = 0 := by simp [gain, form, h]
theorem size_data (n : ByteArray) : n.data.toList.length = n.size := by rw [Array.length_toList]; rfl
theorem one_byte (ps : List (UInt8 × ByteArray)) (b : UInt8) (hnd : (ps.map (·.1)).Nodup) :
    (ps.map fun p => (if p.1 = b then ((p.2.size : Int) - 1) else 0)).sum = gain ps b := by
  induction ps with
  | nil => simp [gain, form, look]
  | cons p ps ih =>
    simp only [List.map_cons, List.nodup_cons] at hnd
    have ih := ih hnd.2
    rw [List.map_cons, List.sum_cons, ih]
    by_cases h : p.1 = b
    · have hn : look ps b = none := look_none ps b (by rw [← h]; exact hnd.1)
      rw [if_pos h, gain_none ps b hn]
      have e : look (p :: ps) b = some p.2 := by rw [look_cons, if_pos h]
      simp only [gain, form, e, size_data]
      omega
    · rw [if_neg h]
      have e : look (p :: ps) b = look ps b := by rw [look_cons, if_neg h]
      simp only [gain, form, e]
      omega
theorem cgains_cons (ps : List (UInt8 × ByteArray)) (b : UInt8) (l : List UInt8) :
    cgains ps (b :: l) = (ps.map fun p => (if p.1 = b then ((p.2.size : Int) - 1) else 0)).sum + cgains ps l := by
  induction ps with
  | nil => rfl
  | cons p ps ih =>
    have e : ∀ m, cgains (p :: ps) m = cgain m p + cgains ps m := fun m => by simp [cgains]
    rw [e, e, ih, List.map_cons, List.sum_cons]
    have e2 : cgain (b :: l) p = (if p.1 = b then ((p.2.size : Int) - 1) else 0) + cgain l p := by
      unfold cgain Lib.countByte
      rw [List.count_cons]
      by_cases h : p.1 = b
      · rw [if_pos h, if_pos (by simp [h])]
        rw [Int.natCast_add, Int.add_mul]
        simp
        omega
      · rw [if_neg h, if_neg (by simpa using fun e => h e.symm)]
        simp
    rw [e2]
    omega
theorem cgains_eq (ps : List (UInt8 × ByteArray)) (hnd : (ps.map (·.1)).Nodup) (l : List UInt8) : cgains ps l = gains ps l := by
  induction l with
  | nil =>
    have : ∀ qs : List (UInt8 × ByteArray), cgains qs [] = 0 := by
      intro qs
      induction qs with
      | nil => rfl
      | cons p qs ih =>
        have e : cgains (p :: qs) [] = cgain [] p + cgains qs [] := by simp [cgains]
        rw [e, ih]
        simp [cgain, Lib.countByte]
    rw [this]
    rfl
  | cons b l ih =>
    rw [cgains_cons, one_byte ps b hnd, ih]
    simp [gains]
theorem cgains_rev (ps : List (UInt8 × ByteArray)) (l : List UInt8) : cgains ps.reverse l = cgains ps l := by
  unfold cgains
  induction ps with
  | nil => rfl
  | cons p ps ih =>
    rw [List.reverse_cons, List.map_append, List.sum_append, ih, List.map_cons, List.map_cons, List.sum_cons, List.map_nil, List.sum_cons, List.sum_nil]
    omega
theorem cany_eq (ps : List (UInt8 × ByteArray)) (l : List UInt8) : cany ps l = hit ps l := by
  rw [Bool.eq_iff_iff]
  simp only [cany, hit, List.any_eq_true, bne_iff_ne, ne_eq]
  constructor
  · rintro ⟨p, hp, hc⟩
    have hm : p.1 ∈ l := List.count_pos_iff.1 (Nat.pos_of_ne_zero hc)
    refine ⟨p.1, hm, ?_⟩
    unfold look
    cases hf : ps.find? (fun q => q.1 == p.1) with
    | none => have := List.find?_eq_none.1 hf p hp; simp at this
    | some q => rfl
  · rintro ⟨b, hb, hs⟩
    unfold look at hs
    cases hf : ps.find? (fun q => q.1 == b) with
    | none => rw [hf] at hs; cases hs
    | some q =>
      have h1 := List.mem_of_find?_eq_some hf
      have h2 := List.find?_some hf
      simp at h2
      refine ⟨q, h1, ?_⟩
      have : 0 < Lib.countByte l q.1 := List.count_pos_iff.2 (by rw [h2]; exact hb)
      omega
theorem cany_rev (ps : List (UInt8 × ByteArray)) (l : List UInt8) : cany ps.reverse l = cany ps l := by simp [cany]

theorem Ent.below {w w' : World} {v : Value} {x : Option ByteArray} (h : Ent w v x) (hb : Below w.heap.size w w') : Ent w' v x := by
  cases x with
  | none => exact h
  | some n =>
    obtain ⟨k, c, rfl, hs⟩ := h
    exact ⟨k, c, rfl, hs.below hb⟩
theorem look_mem (ps : List (UInt8 × ByteArray)) (hnd : (ps.map (·.1)).Nodup) (p : UInt8 × ByteArray) (hp : p ∈ ps) : look ps p.1 = some p.2 := by
  induction ps with
  | nil => cases hp
  | cons q ps ih =>
    simp only [List.map_cons, List.nodup_cons] at hnd
    rw [look_cons]
    rcases List.mem_cons.1 hp with rfl | h
    · rw [if_pos rfl]
    · rw [if_neg ?_, ih hnd.2 h]
      intro e
      exact hnd.1 (e ▸ List.mem_map_of_mem h)
theorem look_some (ps : List (UInt8 × ByteArray)) (b : UInt8) (n : ByteArray) (h : look ps b = some n) : ∃ p ∈ ps, p.1 = b ∧ p.2 = n := by
  unfold look at h
  cases hf : ps.find? (fun q => q.1 == b) with
  | none => rw [hf] at h; cases h
  | some q =>
    rw [hf] at h
    injection h with h
    have h2 := List.find?_some hf
    simp at h2
    exact ⟨q, List.mem_of_find?_eq_some hf, h2, h⟩

theorem count_le (l : List UInt8) (c : UInt8) : Lib.countByte l c ≤ l.length := List.count_le_length
theorem cgain_bd (l : List UInt8) (p : UInt8 × ByteArray) (h1 : 1 ≤ p.2.size) : 0 ≤ cgain l p := by
  unfold cgain
  exact Int.mul_nonneg (by omega) (by omega)
theorem cgains_nonneg (qs : List (UInt8 × ByteArray)) (l : List UInt8) (h1 : ∀ p ∈ qs, 1 ≤ p.2.size) : 0 ≤ cgains qs l := by
  induction qs with
  | nil => exact Int.le_refl _
  | cons p qs ih =>
    have e : cgains (p :: qs) l = cgain l p + cgains qs l := by simp [cgains]
    have := cgain_bd l p (h1 p (by simp))
    have := ih fun q hq => h1 q (by simp [hq])
    omega
theorem cgains_take (qs : List (UInt8 × ByteArray)) (l : List UInt8) (h1 : ∀ p ∈ qs, 1 ≤ p.2.size) (k : Nat) : cgains (qs.take k) l ≤ cgains qs l := by
  have e : cgains qs l = cgains (qs.take k) l + cgains (qs.drop k) l := by
    unfold cgains
    rw [← List.sum_append, ← List.map_append, List.take_append_drop]
  have := cgains_nonneg (qs.drop k) l fun p hp => h1 p (List.mem_of_mem_drop hp)
  omega
theorem gain_bd (ps : List (UInt8 × ByteArray)) (h1 : ∀ p ∈ ps, 1 ≤ p.2.size ∧ p.2.size ≤ 8) (b : UInt8) : 0 ≤ gain ps b ∧ gain ps b ≤ 7 := by
  cases h : look ps b with
  | none => rw [gain_none ps b h]; omega
  | some n =>
    obtain ⟨p, hp, _, rfl⟩ := look_some ps b n h
    have := h1 p hp
    simp only [gain, form, h, size_data]
    omega
theorem gains_bd (ps : List (UInt8 × ByteArray)) (h1 : ∀ p ∈ ps, 1 ≤ p.2.size ∧ p.2.size ≤ 8) (l : List UInt8) : 0 ≤ gains ps l ∧ gains ps l ≤ 7 * l.length := by
  induction l with
  | nil => simp [gains]
  | cons b l ih =>
    have e : gains ps (b :: l) = gain ps b + gains ps l := by simp [gains]
    have := gain_bd ps h1 b
    rw [e, List.length_cons]
    omega
theorem gains_take (ps : List (UInt8 × ByteArray)) (h1 : ∀ p ∈ ps, 1 ≤ p.2.size ∧ p.2.size ≤ 8) (l : List UInt8) (k : Nat) : gains ps (l.take k) ≤ gains ps l := by
  have e : gains ps l = gains ps (l.take k) + gains ps (l.drop k) := by
    unfold gains
    rw [← List.sum_append, ← List.map_append, List.take_append_drop]
  have := (gains_bd ps h1 (l.drop k)).1
  omega
def bufL (N : Nat) (l : List UInt8) : List Value := u8s l ++ List.replicate (N - l.length) (.int .u8 0)
theorem bufL_length (N : Nat) (l : List UInt8) (h : l.length ≤ N) : (bufL N l).length = N := by simp [bufL, u8s]; omega
theorem bufL_set (N : Nat) (l : List UInt8) (o : UInt8) (h : l.length < N) : (bufL N l).toArray.setIfInBounds l.length (.int .u8 o.toNat) = (bufL N (l ++ [o])).toArray := by
  obtain ⟨m, hm⟩ : ∃ m, N - l.length = m + 1 := ⟨N - l.length - 1, by omega⟩
  have hl : l.length = (u8s l).length := by simp [u8s]
  have hm2 : N - (l ++ [o]).length = m := by rw [List.length_append, List.length_singleton]; omega
  unfold bufL
  rw [hm, hm2, List.replicate_succ, hl, setIfInBounds_pre]
  simp [u8s]
theorem bufL_splice (N : Nat) (l m : List UInt8) (h : l.length + m.length ≤ N) : splice (bufL N l) l.length (u8s m) = bufL N (l ++ m) := by
  have hl : l.length = (u8s l).length := by simp [u8s]
  have hm : (u8s m).length = m.length := by simp [u8s]
  unfold splice bufL
  rw [hm, List.take_left' hl.symm, List.drop_append, List.drop_of_length_le (by omega), List.nil_append, List.drop_replicate, hl, ← List.append_assoc]
  have e : (N - (u8s l).length - ((u8s l).length + m.length - (u8s l).length)) = N - (l ++ m).length := by rw [List.length_append]; omega
  rw [e]
  simp [u8s]
theorem bufL_full (l : List UInt8) : bufL l.length l = u8s l := by simp [bufL]
theorem u8s_bytesV (l : List UInt8) : u8s l = bytesV ⟨l.toArray⟩ := by simp [u8s, bytesV]
theorem bytesV_u8s (n : ByteArray) : bytesV n = u8s n.data.toList := rfl
theorem made_zero (z : Value) (n : Nat) : (madeCells #[z] n).toList = List.replicate n z := by
  apply List.ext_getElem
  · simp [madeCells]
  · intro i h1 h2
    simp [madeCells, Nat.mod_one]
theorem own_full {w : World} {base : Nat} {e : TypeId} {g n : Nat} {xs : List Value} (h : w.ownsRow base e 1 (.slice (some ⟨g, 0, none⟩) n n) n xs) : w.heap[g]? = some (.cells xs.toArray e (0, 0)) := by
  obtain ⟨h1, h2⟩ := h
  rcases h2 with ⟨h3, _⟩ | ⟨g', cap, cur, hv, _, hh, _, _, hsz, ht⟩
  · cases h3
  · injection hv with e1 e2 e3
    injection e1 with e1
    injection e1 with e1
    subst e1
    subst e3
    rw [hh, ← ht, List.take_of_length_le (by rw [Array.length_toList, hsz]; exact Nat.le_refl _)]
theorem heap_sl {w : World} {g : Nat} {xs : List Value} {e : TypeId} {fz : Nat × Nat} (h : w.heap[g]? = some (.cells xs.toArray e fz)) : Sl w (some ⟨g, 0, none⟩) xs.length xs :=
  ⟨rfl, fun i hi => ⟨g, 0, rfl, heap_lt h, by rw [cell_heap h, Nat.zero_add]; simp [hi]⟩⟩
end Go.Proofs.YtekoflcioooncaaDoor

namespace Go.Proofs.YtekoflcioooncaaDoor
open Go.RowKit
end Go.Proofs.YtekoflcioooncaaDoor

namespace Go.Proofs.YtekoflcioooncaaDoor
open Go.RowKit
end Go.Proofs.YtekoflcioooncaaDoor

namespace Go.Proofs.YtekoflcioooncaaDoor
open Go.RowKit

def textPs : List (UInt8 × ByteArray) :=
  [(38, ⟨#[38, 97, 109, 112, 59]⟩), (60, ⟨#[38, 108, 116, 59]⟩), (62, ⟨#[38, 103, 116, 59]⟩), (13, ⟨#[38, 35, 120, 68, 59]⟩)]
def valuePs : List (UInt8 × ByteArray) :=
  [(38, ⟨#[38, 97, 109, 112, 59]⟩), (60, ⟨#[38, 108, 116, 59]⟩), (34, ⟨#[38, 113, 117, 111, 116, 59]⟩), (9, ⟨#[38, 35, 120, 57, 59]⟩), (10, ⟨#[38, 35, 120, 65, 59]⟩), (13, ⟨#[38, 35, 120, 68, 59]⟩)]

theorem sl_of_block {w : World} {g : Nat} {ps : List (UInt8 × ByteArray)} {e : TypeId} (h : w.heap[g]? = some (.cells (strsOf ps).toArray e (0, 0))) : Sl w (some ⟨g, 0, none⟩) (strsOf ps).length (strsOf ps) :=
  ⟨rfl, fun i hi => ⟨g, 0, rfl, heap_lt h, by rw [cell_heap h, Nat.zero_add]; simp [hi]⟩⟩

end Go.Proofs.YtekoflcioooncaaDoor
