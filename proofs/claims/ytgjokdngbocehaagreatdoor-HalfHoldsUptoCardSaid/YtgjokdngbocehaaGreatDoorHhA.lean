/-
 General words and lemmas for walks: slices of one-cell values, runes of a string. No program is named here.
-/
import Derived.WalkKit
import Derived.BigQuiet
import Derived.Deep.QuietTactic
import Derived.WalkSpells
import Derived.WalkLawsBesides
import Derived.Lib.Hide
import Derived.Lib.OthersKept
import Derived.Maps.AppendAt
import Derived.Laws.IdiomStrings
import Derived.Laws.BytesArg
import Derived.Lib.ConvBytes
import Derived.Test.YtgjokdngbocehaaGreatDoorProg
import Derived.RegionCalls
import Derived.Laws.LoneSync
import Derived.Laws.Pointers
import Derived.Defers
import Derived.Deep.MidRow
import Derived.Deep.CutBlock
import Derived.Lib.Bytealg
import Derived.Laws.CopyOwn
import Derived.Test.YtgjokdngbocehaaGreatDoorShelf
import Derived.Deep.DeepCutAuto
import Derived.Deep.RegionLaw
import Derived.Lib.FrozenHead
import Derived.Lib.UnsafeStr
import Derived.Deep.RegionHeld3
import Derived.Test.YtgjokdngbocehaaGreatDoorRows
import Derived.ChangeArms
import Derived.DataReads
namespace Go.Proofs.YtgjokdngbocehaaGreatDoor
open Go.RowKit
theorem ret_int {k : IntKind} {a b : Int} (h : a = b) : Ending.returned (.int k a) = .returned (.int k b) := by rw [h]
theorem ret_bool {a b : Bool} (h : a = b) : Ending.returned (.bool a) = .returned (.bool b) := by rw [h]
structure Sl (w : World) (a : Option Addr) (n : Nat) (xs : List Value) : Prop where
 len : n = xs.length
 cell : ∀ i, (h : i < xs.length) → ∃ b o, a = some ⟨b, o, none⟩ ∧ b < w.heap.size ∧ w.cell? ⟨b, o + i, none⟩ = some xs[i]
def RetSl (e : Ending) (w : World) (xs : List Value) : Prop := ∃ a n c, e = .returned (.slice a n c) ∧ Sl w a n xs
theorem Sl.below {w w' : World} {a : Option Addr} {n : Nat} {xs : List Value} (h : Sl w a n xs) (hb : Below w.heap.size w w') : Sl w' a n xs :=
 ⟨h.len, fun i hi => by
  obtain ⟨b, o, ha, hlt, hc⟩ := h.cell i hi
  exact ⟨b, o, ha, Nat.lt_of_lt_of_le hlt hb.size, by rw [hb.cell (p := ⟨b, o + i, none⟩) hlt]; exact hc⟩⟩
theorem Below.drewN {B : Nat} {a w : World} (h : Below B a w) (n : Nat) : Below B a (w.drewN n) := ⟨h.os, h.tape, h.output, h.size, h.block⟩
theorem Below.tr {a b c : World} (h : Below a.heap.size a b) (k : Below b.heap.size b c) : Below a.heap.size a c := h.trans (k.mono h.size)
theorem own_block {w w' : World} {base : Nat} {e : TypeId} {size : Nat} {v : Value} {n : Nat} {xs : List Value} (h : w.ownsRow base e size v n xs)
  (hk : ∀ k, v.ownBlock = some k → w'.heap[k]? = w.heap[k]?) : w'.ownsRow base e size v n xs := by
 obtain ⟨h1, h2⟩ := h
 refine ⟨h1, ?_⟩
 rcases h2 with h2 | ⟨g, cap, cur, hv, hg, hh, r⟩
 ·exact Or.inl h2
 ·exact Or.inr ⟨g, cap, cur, hv, hg, by rw [hk g (by rw [hv]; rfl)]; exact hh, r⟩
theorem own_sl {w : World} {base : Nat} {e : TypeId} {v : Value} {n : Nat} {xs : List Value} (h : w.ownsRow base e 1 v n xs) :
  ∃ a c, v = .slice a n c ∧ Sl w a n xs := by
 have hc := fun g hg => h.cells (g := g) hg
 have hl := h.lt
 obtain ⟨h1, h2⟩ := h
 rcases h2 with ⟨rfl, rfl⟩ | ⟨g, cap, cur, rfl, hg, hh, r⟩
 ·exact ⟨none, 0, rfl, by simpa using h1.symm, fun i hi => by omega⟩
 ·exact ⟨_, cap, rfl, by omega, fun i hi => ⟨g, 0, rfl, (hl g rfl).2, by
   have := hc g rfl i xs[i] (by simp)
   rw [Nat.zero_add]
   unfold Addr.add at this
   split at this
   ·subst i; exact this
   ·simpa using this⟩⟩
theorem setCell_heap {w : World} {b i : Nat} {c : Array Value} {e : TypeId} {fz : Nat × Nat} (h : w.heap[b]? = some (.cells c e fz)) (u : Value) :
  (w.setCell ⟨b, i, none⟩ u).heap[b]? = some (.cells (c.setIfInBounds i u) e fz) := by
 simp only [World.setCell, Array.getElem?_modify, if_true, h]
 rfl
theorem cell_heap {w : World} {b i : Nat} {c : Array Value} {e : TypeId} {fz : Nat × Nat} (h : w.heap[b]? = some (.cells c e fz)) : w.cell? ⟨b, i, none⟩ = c[i]? := by
 simp [World.cell?, h]
theorem frozen_heap {w : World} {b i : Nat} {c : Array Value} {e : TypeId} (h : w.heap[b]? = some (.cells c e (0, 0))) : w.frozen? ⟨b, i, none⟩ = false := by
 simp [World.frozen?, h]
theorem heap_lt {w : World} {b : Nat} {o : Obj} (h : w.heap[b]? = some o) : b < w.heap.size := (Array.getElem?_eq_some_iff.1 h).1
structure App (w w' : World) (v v' : Value) : Prop where
 grown : w.grownBy w' v.ownBlock
 own : v'.ownBlock = v.ownBlock ∨ ∃ g, v'.ownBlock = some g ∧ w.heap.size ≤ g
theorem App.below {w w' : World} {v v' : Value} (h : App w w' v v') {B : Nat} (hB : B ≤ w.heap.size) (hv : ∀ k, v.ownBlock = some k → B ≤ k) : Below B w w' :=
 (Below.refl B w).grown h.grown hB hv
theorem App.keep {w w' : World} {v v' : Value} (h : App w w' v v') {k : Nat} (hk : k < w.heap.size) (hne : v.ownBlock ≠ some k) : w'.heap[k]? = w.heap[k]? :=
 h.grown.block k hk (fun e => hne e.symm)
theorem App.ne {w w' : World} {v v' : Value} (h : App w w' v v') {k : Nat} (hk : k < w.heap.size) (hne : v.ownBlock ≠ some k) : v'.ownBlock ≠ some k := by
 rcases h.own with e | ⟨g, e, hg⟩
 ·rw [e]; exact hne
 ·rw [e]; intro e2; injection e2 with e2; omega
theorem wpList_app {P : Program} (w : World) {ops : Array Oper} {rest : List Oper} {o : Oper} {a : Act} {Q : Exit → Act → World → Prop} (hgd : o.guard = none) (s x : Operand) (t : TypeId)
  (ho : o.op = .call { callee := .builtin .append, args := #[s, x], argTypes := #[t, t] })
  (base : Nat) (e : TypeId) (i : TypeInfo) (z : Value) (size bytes : Nat) (ht : P.underlying t = some (.slice e)) (hi : P.info? e = some i) (hz : i.zero = some z)
  (hsize : i.size = size) (hby : i.bytes = bytes) (hzs : z.cells.size = size) (hsz : 0 < size)
  (v : Value) (n : Nat) (xs : List Value) (hs : a.eval s = v) (hown : w.ownsRow base e size v n xs)
  (H : Nat) (hH : w.heap.size = H) (c : Nat) (news : List Value) (hx : a.eval x = .slice (some ⟨H, 0, none⟩) 1 c) (hl : news.length = size) (h1 : ∀ u ∈ news, u.oneCell' = true)
  (hn : n + 1 ≤ 4294967296) (hbb : bytes ≤ 16384) (hbase : base ≤ w.heap.size)
  (h : ∀ v' w', w'.ownsRow base e size v' (n + 1) (xs ++ news) → App (w.alloc (.cells news.toArray e)) w' v v' → wpList P ops Q rest (a.put o.dst v') w') :
  wpList P ops Q (o :: rest) a (w.alloc (.cells news.toArray e)) := by
 subst hH
 have hb : (n + 1) * bytes ≤ 140737488355328 := Nat.le_trans (Nat.mul_le_mul hn hbb) (by decide)
 refine wpList_append_own_at _ hgd s x t ho base e i z size bytes ht hi hz hsize hby hzs hsz v n xs hs (hown.alloc _) ⟨w.heap.size, 0, none⟩ 1 c news hx (by omega) ?_ h1 (by unfold maxLen; omega) hb ?_ ?_
 ·intro j u hj
  have hc : (w.alloc (.cells news.toArray e)).cell? ⟨w.heap.size, j, none⟩ = some u := by
   simp only [World.cell?]
   rw [heap_alloc_new w _]
   simpa using hj
  unfold Addr.add
  split
  ·rename_i h0; subst h0; exact hc
  ·simpa using hc
 ·simp; omega
 ·intro v' w' h2 h3 _ h5
  refine h v' w' h2 ⟨h3, ?_⟩
  rcases h5 with h5 | h5
  ·exact .inl h5
  ·exact .inr ⟨_, h5, Nat.le_refl _⟩
theorem width_pos (s : ByteArray) (pos : Nat) (h : pos < s.size) : 1 ≤ (Utf8.decode s pos).2 := by
 by_cases ha : (s[pos]'h).toNat < 128
 ·rw [decode_ascii s pos h ha]
  exact Nat.le_refl _
 ·exact (decode_high s pos h (by omega)).2
theorem decode_within (s : ByteArray) (p : Nat) (h : p < s.size) : p + (Utf8.decode s p).2 ≤ s.size := by
 simp only [Utf8.decode]
 repeat' split
 all_goals simp_all
 all_goals omega
def runesF (s : ByteArray) : Nat → Nat → List Int
 | 0, _ => []
 | f + 1, p => if p < s.size then ((Utf8.decode s p).1 : Int) :: runesF s f (p + (Utf8.decode s p).2) else []
theorem runesF_fuel (s : ByteArray) (f : Nat) : ∀ (g p : Nat), s.size - p ≤ f → s.size - p ≤ g → runesF s f p = runesF s g p := by
 induction f with
 | zero =>
  intro g p hf _
  cases g with
  | zero => rfl
  | succ g => simp only [runesF]; rw [if_neg (by omega)]
 | succ f ih =>
  intro g p hf hg
  cases g with
  | zero => simp only [runesF]; rw [if_neg (by omega)]
  | succ g =>
   simp only [runesF]
   by_cases h : p < s.size
   ·have := width_pos s p h
    rw [if_pos h, if_pos h, ih g _ (by omega) (by omega)]
   ·rw [if_neg h, if_neg h]
def runesAt (s : ByteArray) (p : Nat) : List Int := runesF s (s.size - p) p
def runesOf (s : ByteArray) : List Int := runesF s s.size 0
theorem runesAt_zero (s : ByteArray) : runesAt s 0 = runesOf s := rfl
theorem runesAt_step (s : ByteArray) (p : Nat) (h : p < s.size) : runesAt s p = ((Utf8.decode s p).1 : Int) :: runesAt s (p + (Utf8.decode s p).2) := by
 have hw := width_pos s p h
 unfold runesAt
 obtain ⟨f, hf⟩ : ∃ f, s.size - p = f + 1 := ⟨s.size - p - 1, by omega⟩
 rw [hf]
 simp only [runesF]
 rw [if_pos h, runesF_fuel s f (s.size - (p + (Utf8.decode s p).2)) _ (by omega) (by omega)]
theorem runesAt_end (s : ByteArray) (p : Nat) (h : ¬ p < s.size) : runesAt s p = [] := by
 unfold runesAt
 rw [show s.size - p = 0 by omega]
 rfl
theorem runesF_length (s : ByteArray) (f : Nat) : ∀ p, (runesF s f p).length ≤ f := by
 induction f with
 | zero => intro p; exact Nat.le_refl _
 | succ f ih =>
  intro p
  simp only [runesF]
  split
  ·have := ih (p + (Utf8.decode s p).2); simp only [List.length_cons]; omega
  ·simp
theorem runesOf_length (s : ByteArray) : (runesOf s).length ≤ s.size := runesF_length s _ 0
theorem Sl.keep {w w' : World} {a : Option Addr} {n : Nat} {xs : List Value} (h : Sl w a n xs) (hk : ∀ b o, a = some ⟨b, o, none⟩ → w'.heap[b]? = w.heap[b]?) : Sl w' a n xs :=
 ⟨h.len, fun i hi => by
  obtain ⟨b, o, ha, hlt, hc⟩ := h.cell i hi
  have hb := hk b o ha
  refine ⟨b, o, ha, ?_, ?_⟩
  ·rw [Array.getElem?_eq_getElem hlt] at hb
   exact heap_lt hb
  ·rw [World.cell?_of_block (a := ⟨b, o + i, none⟩) hb]; exact hc⟩
theorem Sl.nil (w : World) (a : Option Addr) : Sl w a 0 [] := ⟨rfl, fun i hi => absurd hi (by simp)⟩
def u8s (l : List UInt8) : List Value := l.map fun b => .int .u8 b.toNat
theorem u8s_length (l : List UInt8) : (u8s l).length = l.length := by simp [u8s]
def bytesV (s : ByteArray) : List Value := s.data.toList.map fun b => .int .u8 b.toNat
theorem bytesV_length (s : ByteArray) : (bytesV s).length = s.size := by
 unfold bytesV; rw [List.length_map, Array.length_toList]; rfl
theorem ofNat_toNat_map (l : List UInt8) : (l.map fun b => (b.toNat : Int)).map (fun n => UInt8.ofNat n.toNat) = l := by
 induction l with
 | nil => rfl
 | cons b l ih => simp only [List.map_cons, ih, Int.toNat_natCast, UInt8.ofNat_toNat]
theorem run_bytes_str {P : Program} {w : World} {a : Option Addr} {n : Nat} {s : ByteArray} (h : Sl w a n (bytesV s)) (src dst e : TypeId) (hs : P.underlying src = some (.slice e)) (he : P.underlying e = some (.int .u8))
  (hd : P.underlying dst = some .string) (c : Nat) : (convert src dst (.slice a n c)).run P w = .ok (.string s) w := by
 have hlen : n = s.size := by rw [h.len, bytesV_length]
 have hl : s.data.toList.length = s.size := by rw [Array.length_toList]; rfl
 rcases a with _ | ⟨b, o, sp⟩
 ·have h0 : s.data.toList = [] := by
   rcases hb : s.data.toList with _ | ⟨x, l⟩
   ·rfl
   ·exfalso
    obtain ⟨b, o, e, _⟩ := h.cell 0 (by rw [bytesV_length, ← hl, hb]; simp)
    cases e
  rw [run_convert_bytes_nil (P := P) w src e hs he n c dst hd]
  congr 2
  have : s.data = #[] := Array.toList_eq_nil_iff.1 h0
  cases s
  simp_all
  rfl
 ·by_cases hn : n = 0
  ·subst hn
   have h0 : s.data.toList = [] := by apply List.eq_nil_of_length_eq_zero; omega
   have h1 : (loadCells ⟨b, o, sp⟩ 0).run P w = .ok (([] : List Int).map (Value.int .u8)).toArray w := rfl
   rw [run_convert_bytes_string w src dst e _ 0 c hs he hd, run_bytesToString w _ 0 c [] h1]
   congr 2
   have : s.data = #[] := Array.toList_eq_nil_iff.1 h0
   cases s
   simp_all
   rfl
  ·obtain ⟨b', o', e, _⟩ := h.cell 0 (by rw [bytesV_length]; omega)
   injection e with e
   injection e with e1 e2 e3
   subst e3
   rw [run_convert_bytes_arg (P := P) w src e hs he b o n c (s.data.toList.map fun b => (b.toNat : Int)) (by rw [List.length_map, hl, hlen]) (fun i hi => ?_) dst hd]
   ·congr 2
    unfold strOfNums
    rw [ofNat_toNat_map]
   ·obtain ⟨b', o', e, _, hc⟩ := h.cell i (by rw [bytesV_length]; omega)
    injection e with e
    injection e with e4 e5
    subst e4
    subst e5
    rw [hc]
    have hi' : i < s.data.size := by rw [← Array.length_toList]; omega
    simp only [bytesV, List.getD, List.getElem_map, List.getElem?_map, Array.getElem?_toList, Array.getElem_toList, Array.getElem?_eq_getElem hi', Option.map_some, Option.getD_some]
theorem bytesW_below (w : World) (e : TypeId) (s : ByteArray) : Below w.heap.size w (Lib.bytesWorld w e s) :=
 ⟨rfl, rfl, rfl, by rw [Lib.bytesWorld_size]; omega, fun k hk => Lib.bytesWorld_at_old w e s k hk⟩
theorem bytesW_sl (w : World) (e : TypeId) (s : ByteArray) : Sl (Lib.bytesWorld w e s) (some ⟨w.heap.size, 0, none⟩) s.size (bytesV s) :=
 ⟨(bytesV_length s).symm, fun i hi => ⟨w.heap.size, 0, rfl, by rw [Lib.bytesWorld_size]; omega, by
  have h1 : i < s.size := by rw [bytesV_length] at hi; exact hi
  have h2 : i < s.data.size := h1
  rw [Nat.zero_add, Lib.bytesWorld_cell w e s i h1]
  simp only [bytesV, List.getD, List.getElem_map, Array.getElem?_toList, Array.getElem_toList, Array.getElem?_eq_getElem h2, Option.getD_some]⟩⟩
def cmpL : List Int → List Int → Int
 | [], [] => 0
 | [], _ :: _ => -1
 | _ :: _, [] => 1
 | a :: s, b :: t => if a < b then -1 else if b < a then 1 else cmpL s t
theorem cmpL_drop (xs ys : List Int) (k : Nat) (h0 : k < xs.length) (h1 : k < ys.length) :
  cmpL (xs.drop k) (ys.drop k) = if xs[k] < ys[k] then -1 else if ys[k] < xs[k] then 1 else cmpL (xs.drop (k + 1)) (ys.drop (k + 1)) := by
 rw [List.drop_eq_getElem_cons h0, List.drop_eq_getElem_cons h1]; rfl
theorem cmpL_end (xs ys : List Int) (k : Nat) (h : ¬ (k < xs.length ∧ k < ys.length)) (hx : k ≤ xs.length) (hy : k ≤ ys.length) :
  cmpL (xs.drop k) (ys.drop k) = if xs.length < ys.length then -1 else if ys.length < xs.length then 1 else 0 := by
 by_cases h0 : k < xs.length
 ·rw [List.drop_eq_getElem_cons h0, List.drop_of_length_le (l := ys) (by omega), if_neg (by omega), if_pos (by omega)]; rfl
 ·rw [List.drop_of_length_le (by omega : xs.length ≤ k)]
  by_cases h1 : k < ys.length
  ·rw [List.drop_eq_getElem_cons h1, if_pos (by omega)]; rfl
  ·rw [List.drop_of_length_le (by omega), if_neg (by omega), if_neg (by omega)]; rfl
end Go.Proofs.YtgjokdngbocehaaGreatDoor
namespace Go.Proofs.YtgjokdngbocehaaGreatDoor
open Go.RowKit
def strL (l : List UInt8) : ByteArray := ⟨l.toArray⟩
theorem strL_size (l : List UInt8) : (strL l).size = l.length := by simp [strL, ByteArray.size]
theorem strL_data (l : List UInt8) : (strL l).data.toList = l := by simp [strL]
theorem strL_of (s : ByteArray) : strL s.data.toList = s := by
 apply ByteArray.ext
 simp [strL]
theorem strL_add (l m : List UInt8) : strL l ++ strL m = strL (l ++ m) := by
 apply ByteArray.ext
 simp [strL]
theorem run_catL {P : Program} (a b : List UInt8) (h : a.length + b.length ≤ 9223372036854775807) (w : World) : (Op.stringOp .add (strL a) (strL b)).run P w = .ok (.string (strL (a ++ b))) w := by
 rw [run_string_add_sum (P := P) w _ _ (by rw [strL_size, strL_size]; omega), strL_add]
def AttrsAt (w : World) (a : Option Addr) (n : Nat) (ats : List (List UInt8 × List UInt8)) : Prop :=
 n = ats.length ∧ ∀ i, (h : i < ats.length) → ∃ b o, a = some ⟨b, o, none⟩ ∧ b < w.heap.size ∧ w.cell? ⟨b, o + i * 2, none⟩ = some (.string (strL ats[i].1)) ∧ w.cell? ⟨b, o + i * 2 + 1, none⟩ = some (.string (strL ats[i].2))
theorem AttrsAt.below {w w' : World} {a : Option Addr} {n : Nat} {ats : List (List UInt8 × List UInt8)} (h : AttrsAt w a n ats) (hb : Below w.heap.size w w') : AttrsAt w' a n ats :=
 ⟨h.1, fun i hi => by
  obtain ⟨b, o, e, hlt, h1, h2⟩ := h.2 i hi
  exact ⟨b, o, e, Nat.lt_of_lt_of_le hlt hb.size, (hb.cell (p := ⟨b, o + i * 2, none⟩) hlt).trans h1, (hb.cell (p := ⟨b, o + i * 2 + 1, none⟩) hlt).trans h2⟩⟩
def evC (kind num dep : Int) (name : List UInt8) (a : Option Addr) (n c : Nat) (text : List UInt8) (fr tt : Int) : Array Value :=
 #[.int .i64 kind, .int .i64 num, .int .i64 dep, .string (strL name), .slice a n c, .string (strL text), .int .i64 fr, .int .i64 tt]
end Go.Proofs.YtgjokdngbocehaaGreatDoor
namespace Go.Proofs.YtgjokdngbocehaaGreatDoor
open Go.RowKit
section
variable {H : Type} {enc : TypeId × Value → H} {w : World} {base : Nat} {sp : Nat → Bool} {held : Bool} {fuel : Nat}
theorem bulk_le {l : List (DataW H)} {i : Nat} {d : DataW H} (h : l[i]? = some d) : Rows.uptoBulk d ≤ Rows.uptoBulkAll l := by
 induction l generalizing i with
 | nil => simp at h
 | cons x r ih =>
  simp only [Rows.uptoBulkAll]
  cases i with
  | zero => simp only [List.getElem?_cons_zero, Option.some.injEq] at h; subst h; omega
  | succ i => have := ih (i := i) (by simpa using h); omega
theorem slice_read {S E : TypeId} {k : Nat} (hS : Tryz.prog.underlying S = some (.slice E)) (hE : Tryz.prog.cellsOf E = k) (hk : 0 < k) {cs : List Value} {x : DataW H × List MemPlace}
  (h : DataW.trod enc Tryz.prog w base sp held fuel S cs = some x) :
  ∃ a n c, ∃ (elems : List (DataW H × List MemPlace)), cs = [.slice a n c] ∧ n ≤ c ∧ elems.length = n ∧ (elems = [] ∨ ∃ rest, x.1 = .slice (elems.map (·.1)) rest) ∧
   ∀ i, (hi : i < elems.length) → ∃ b o m ecs, a = some ⟨b, o, none⟩ ∧ b < w.heap.size ∧ ecs.length = k ∧ (∀ j, j < k → w.cell? ⟨b, o + i * k + j, none⟩ = ecs[j]?) ∧ DataW.trod enc Tryz.prog w base sp held m E ecs = some elems[i] := by
 rcases DataW.trod_slice hS h with ⟨rfl, _⟩ | ⟨a, len, cap, elems, rest, m, _, rfl, hx, _, hlc, _, hel, hat, _, _⟩
 ·exact ⟨none, 0, 0, [], rfl, Nat.le_refl _, rfl, .inl rfl, fun i hi => by simp at hi⟩
 ·refine ⟨some a, len, cap, elems, rfl, hlc, hel, .inr ⟨_, by rw [hx]⟩, fun i hi => ?_⟩
  have h1 := hat i (by omega)
  rw [hE, List.getElem?_eq_getElem hi, Option.bind_eq_some_iff] at h1
  obtain ⟨ecs, hcs, hr⟩ := h1
  obtain ⟨_, hl, hc⟩ := World.cells?_some hcs
  obtain ⟨b, o, spt⟩ := a
  have hspt : spt = none := by
   have h0 := hat 0 (by omega)
   rw [hE, List.getElem?_eq_getElem (show 0 < elems.length by omega), Option.bind_eq_some_iff] at h0
   obtain ⟨ecs0, hcs0, _⟩ := h0
   obtain ⟨_, hl0, hc0⟩ := World.cells?_some hcs0
   have hc00 := hc0 0 hk
   rw [List.getElem?_eq_getElem (by omega)] at hc00
   have := World.cell?_spot hc00
   simpa [Addr.add] using this
  subst hspt
  refine ⟨b, o, m, ecs, rfl, ?_, hl, fun j hj => ?_, hr⟩
  ·have := World.cells?_block hcs hk
   simp only [Addr.add] at this
   split at this <;> simpa using this
  ·have := hc j hj
   rw [Addr.add_lit, Addr.add_lit] at this
   exact this
def attrOf : DataW H → List UInt8 × List UInt8
 | .agg [.lit (.string a), .lit (.string b)] => (a, b)
 | _ => ([], [])
def wtA (l : List (List UInt8 × List UInt8)) : Nat := (l.map fun p => p.1.length + p.2.length + 1).sum
theorem attr_desc : ∃ f0 f1, Tryz.prog.underlying 158 = some (.struct #[f0, f1]) ∧ f0.type = 9 ∧ f1.type = 9 ∧ f0.offset = 0 ∧ f1.offset = 1 := by
 refine ⟨_, _, Tryz.underlying158, rfl, rfl, rfl, rfl⟩
theorem cellsAttr : Tryz.prog.cellsOf 158 = 2 := by kernel_rfl
theorem cellsStr1 : Tryz.prog.cellsOf 9 = 1 := by kernel_rfl
theorem cellsInt1 : Tryz.prog.cellsOf 3 = 1 := by kernel_rfl
theorem cellsKind1 : Tryz.prog.cellsOf 44 = 1 := by kernel_rfl
theorem cellsAttrs1 : Tryz.prog.cellsOf 45 = 1 := by kernel_rfl
theorem cellsEv : Tryz.prog.cellsOf 47 = 8 := by kernel_rfl
theorem getL {α : Type} {l : List α} {i : Nat} (hl : i < l.length) : l[i]? = some l[i] := List.getElem?_eq_getElem hl
set_option maxRecDepth 100000 in
theorem attr_read {cs : List Value} {x : DataW H × List MemPlace} (h : DataW.trod enc Tryz.prog w base sp held fuel 158 cs = some x) :
  cs = [.string (strL (attrOf x.1).1), .string (strL (attrOf x.1).2)] ∧ (attrOf x.1).1.length + (attrOf x.1).2.length + 1 ≤ Rows.uptoBulk x.1 := by
 obtain ⟨f0, f1, hu, t0, t1, o0, o1⟩ := attr_desc
 obtain ⟨xs, m, _, hx, hl, hxl, hat⟩ := DataW.trod_struct hu h
 have h0 := hat 0 f0 rfl
 have h1 := hat 1 f1 rfl
 rw [t0, o0, cellsStr1] at h0
 rw [t1, o1, cellsStr1] at h1
 rw [cellsAttr] at hl
 have hxl2 : xs.length = 2 := hxl
 rw [getL (show 0 < xs.length by omega)] at h0
 rw [getL (show 1 < xs.length by omega)] at h1
 obtain ⟨s0, e0, y0, _⟩ := DataW.trod_string Tryz.underlying9 h0
 obtain ⟨s1, e1, y1, _⟩ := DataW.trod_string Tryz.underlying9 h1
 match xs, hxl2 with
 | [p0, p1], _ =>
  match cs, hl with
  | [c0, c1], _ =>
   simp at e0 e1 y0 y1
   subst e0 e1 y0 y1
   rw [hx]
   simp only [List.map_cons, List.map_nil, attrOf, strL_of, Rows.uptoBulk, Rows.uptoBulkAll]
   exact ⟨trivial, by omega⟩
theorem wtA_le (l : List (DataW H)) (h : ∀ i, (hi : i < l.length) → (attrOf l[i]).1.length + (attrOf l[i]).2.length + 1 ≤ Rows.uptoBulk l[i]) : wtA (l.map attrOf) ≤ Rows.uptoBulkAll l := by
 induction l with
 | nil => simp [wtA, Rows.uptoBulkAll]
 | cons x r ih =>
  have h0 := h 0 (by simp)
  have := ih (fun i hi => by have := h (i + 1) (by simpa using hi); simpa using this)
  simp only [wtA, List.map_cons, List.sum_cons, Rows.uptoBulkAll, List.getElem_cons_zero] at *
  omega
def attrsOf : DataW H → List (List UInt8 × List UInt8)
 | .slice l _ => l.map attrOf
 | _ => []
theorem attrs_read {cs : List Value} {x : DataW H × List MemPlace} (h : DataW.trod enc Tryz.prog w base sp held fuel 45 cs = some x) :
  ∃ a n c, cs = [.slice a n c] ∧ n ≤ c ∧ AttrsAt w a n (attrsOf x.1) ∧ wtA (attrsOf x.1) ≤ Rows.uptoBulk x.1 := by
 obtain ⟨a, n, c, elems, rfl, hnc, hel, hx, hat⟩ := slice_read Tryz.underlying45 cellsAttr (by decide) h
 have hw := wtA_le (elems.map (·.1)) (fun i hi => by
  rw [List.length_map] at hi
  obtain ⟨_, _, m, ecs, _, _, _, _, hr⟩ := hat i hi
  rw [List.getElem_map]
  exact (attr_read hr).2)
 have key : AttrsAt w a n (elems.map fun e => attrOf e.1) := by
  refine ⟨by rw [List.length_map, hel], fun i hi => ?_⟩
  rw [List.length_map] at hi
  obtain ⟨b, o, m, ecs, e, hb, _, hc, hr⟩ := hat i hi
  obtain ⟨hcs, _⟩ := attr_read hr
  have c0 := hc 0 (by decide)
  have c1 := hc 1 (by decide)
  rw [hcs] at c0 c1
  rw [List.getElem_map]
  exact ⟨b, o, e, hb, c0, c1⟩
 refine ⟨a, n, c, rfl, hnc, ?_⟩
 rcases hx with rfl | ⟨rest, hx⟩
 ·have : attrsOf x.1 = [] ∨ True := .inr trivial
  obtain rfl : n = 0 := by simpa using hel.symm
  rcases DataW.trod_slice Tryz.underlying45 h with ⟨_, hx⟩ | ⟨a2, len, cap, elems, rest, m, _, e, hx, _, _, _, hel2, _, _, _⟩
  ·rw [hx]; exact ⟨⟨rfl, fun i hi => by simp [attrsOf] at hi⟩, by simp [attrsOf, wtA]⟩
  ·simp at e
   have : elems = [] := List.eq_nil_of_length_eq_zero (by omega)
   subst this
   rw [hx]; exact ⟨⟨rfl, fun i hi => by simp [attrsOf] at hi⟩, by simp [attrsOf, wtA]⟩
 ·rw [hx]
  simp only [attrsOf, List.map_map] at hw ⊢
  refine ⟨key, ?_⟩
  simp only [Rows.uptoBulk]
  have e : (List.map (attrOf ∘ fun x => x.1) elems) = elems.map fun e => attrOf e.1 := rfl
  omega
structure Ev where
 kind : Int
 num : Int
 dep : Int
 name : List UInt8
 ats : List (List UInt8 × List UInt8)
 text : List UInt8
 fr : Int
 tt : Int
def evOf : DataW H → Ev
 | .agg [.lit (.int _ kind), .lit (.int _ num), .lit (.int _ dep), .lit (.string name), d, .lit (.string text), .lit (.int _ fr), .lit (.int _ tt)] => ⟨kind, num, dep, name, attrsOf d, text, fr, tt⟩
 | _ => ⟨0, 0, 0, [], [], [], 0, 0⟩
def wtE (e : Ev) : Nat := e.name.length + e.text.length + wtA e.ats + 1
def EvCells (w : World) (cs : List Value) (e : Ev) : Prop := ∃ a n c, cs = (evC e.kind e.num e.dep e.name a n c e.text e.fr e.tt).toList ∧ n ≤ c ∧ AttrsAt w a n e.ats
theorem ev_desc : ∃ f0 f1 f2 f3 f4 f5 f6 f7, Tryz.prog.underlying 47 = some (.struct #[f0, f1, f2, f3, f4, f5, f6, f7]) ∧
  (f0.type = 44 ∧ f1.type = 3 ∧ f2.type = 3 ∧ f3.type = 9 ∧ f4.type = 45 ∧ f5.type = 9 ∧ f6.type = 3 ∧ f7.type = 3) ∧
  (f0.offset = 0 ∧ f1.offset = 1 ∧ f2.offset = 2 ∧ f3.offset = 3 ∧ f4.offset = 4 ∧ f5.offset = 5 ∧ f6.offset = 6 ∧ f7.offset = 7) := by
 refine ⟨_, _, _, _, _, _, _, _, Tryz.underlying47, ⟨rfl, rfl, rfl, rfl, rfl, rfl, rfl, rfl⟩, ⟨rfl, rfl, rfl, rfl, rfl, rfl, rfl, rfl⟩⟩
set_option maxRecDepth 100000 in
set_option maxHeartbeats 1000000 in
theorem event_read {cs : List Value} {x : DataW H × List MemPlace} (h : DataW.trod enc Tryz.prog w base sp held fuel 47 cs = some x) :
  EvCells w cs (evOf x.1) ∧ wtE (evOf x.1) ≤ Rows.uptoBulk x.1 ∧ (Lit.int .i64 (evOf x.1).kind).wf = true := by
 obtain ⟨f0, f1, f2, f3, f4, f5, f6, f7, hu, ⟨t0, t1, t2, t3, t4, t5, t6, t7⟩, ⟨o0, o1, o2, o3, o4, o5, o6, o7⟩⟩ := ev_desc
 obtain ⟨xs, m, _, hx, hl, hxl, hat⟩ := DataW.trod_struct hu h
 have h0 := hat 0 f0 rfl
 have h1 := hat 1 f1 rfl
 have h2 := hat 2 f2 rfl
 have h3 := hat 3 f3 rfl
 have h4 := hat 4 f4 rfl
 have h5 := hat 5 f5 rfl
 have h6 := hat 6 f6 rfl
 have h7 := hat 7 f7 rfl
 clear hat
 rw [t0, o0, cellsKind1] at h0
 rw [t1, o1, cellsInt1] at h1
 rw [t2, o2, cellsInt1] at h2
 rw [t3, o3, cellsStr1] at h3
 rw [t4, o4, cellsAttrs1] at h4
 rw [t5, o5, cellsStr1] at h5
 rw [t6, o6, cellsInt1] at h6
 rw [t7, o7, cellsInt1] at h7
 rw [cellsEv] at hl
 have hxl8 : xs.length = 8 := hxl
 match xs, hxl8 with
 | [p0, p1, p2, p3, p4, p5, p6, p7], _ =>
  match cs, hl with
  | [c0, c1, c2, c3, c4, c5, c6, c7], _ =>
   obtain ⟨n0, e0, y0, w0⟩ := DataW.trod_int Tryz.underlying44 h0
   obtain ⟨n1, e1, y1, _⟩ := DataW.trod_int Tryz.underlying3 h1
   obtain ⟨n2, e2, y2, _⟩ := DataW.trod_int Tryz.underlying3 h2
   obtain ⟨s3, e3, y3, _⟩ := DataW.trod_string Tryz.underlying9 h3
   obtain ⟨a, n, c, e4, hnc, hA, hw⟩ := attrs_read h4
   obtain ⟨s5, e5, y5, _⟩ := DataW.trod_string Tryz.underlying9 h5
   obtain ⟨n6, e6, y6, _⟩ := DataW.trod_int Tryz.underlying3 h6
   obtain ⟨n7, e7, y7, _⟩ := DataW.trod_int Tryz.underlying3 h7
   simp at e0 e1 e2 e3 e4 e5 e6 e7
   subst e0 e1 e2 e3 e4 e5 e6 e7
   subst y0 y1 y2 y3 y5 y6 y7
   rw [hx]
   simp only [List.map_cons, List.map_nil, evOf, wtE, Rows.uptoBulk, Rows.uptoBulkAll]
   refine ⟨⟨a, n, c, by simp [evC, strL_of], hnc, hA⟩, by omega, w0⟩
end
end Go.Proofs.YtgjokdngbocehaaGreatDoor
namespace Go.Proofs.YtgjokdngbocehaaGreatDoor
def KEnd (g f : Nat → Int) (n k : Nat) : Prop := k ≤ n ∧ ∀ i, i < k → g (n - k + i) = f i
def KLong (g f : Nat → Int) (L n k : Nat) : Prop := KEnd g f n k ∧ ∀ j, j ≤ L → KEnd g f n j → j ≤ k
def KBord (f : Nat → Int) (m b : Nat) : Prop := KLong (fun i => f (i + 1)) f m m b
def KTry (g f : Nat → Int) (L n k : Nat) (c : Int) : Prop := KEnd g f n k ∧ ∀ j, j < L → KEnd g f n j → f j = c → j ≤ k
theorem KEnd.zero (g f : Nat → Int) (n : Nat) : KEnd g f n 0 := ⟨Nat.zero_le _, fun _ h => absurd h (Nat.not_lt_zero _)⟩
theorem KLong.zero (g f : Nat → Int) (L : Nat) : KLong g f L 0 0 := ⟨KEnd.zero .., fun _ _ h => h.1⟩
theorem KLong.try' {g f : Nat → Int} {L n k : Nat} (c : Int) (h : KLong g f L n k) : KTry g f L n k c :=
 ⟨h.1, fun j hj hm _ => h.2 j (Nat.le_of_lt hj) hm⟩
theorem KEnd.border {g f : Nat → Int} {n k b : Nat} (hk : KEnd g f n (k + 1)) (hb : KEnd (fun i => f (i + 1)) f k b) : KEnd g f n b := by
 refine ⟨Nat.le_trans hb.1 (by have := hk.1; omega), fun i hi => ?_⟩
 have h1 := hb.2 i hi
 have h2 := hk.2 (k - b + i + 1) (by have := hb.1; omega)
 have e : n - (k + 1) + (k - b + i + 1) = n - b + i := by have := hk.1; have := hb.1; omega
 rw [e] at h2; exact h2.trans h1
theorem KEnd.inner {g f : Nat → Int} {n k j : Nat} (hk : KEnd g f n (k + 1)) (hj : KEnd g f n j) (hjk : j ≤ k) : KEnd (fun i => f (i + 1)) f k j := by
 refine ⟨hjk, fun i hi => ?_⟩
 have h1 := hj.2 i hi
 have h2 := hk.2 (k - j + i + 1) (by omega)
 have e : n - (k + 1) + (k - j + i + 1) = n - j + i := by have := hk.1; omega
 rw [e] at h2; exact h2.symm.trans h1
theorem KTry.back {g f : Nat → Int} {L n k b : Nat} {c : Int} (h : KTry g f L n (k + 1) c) (hne : f (k + 1) ≠ c) (hb : KBord f k b) : KTry g f L n b c := by
 refine ⟨h.1.border hb.1, fun j hj hm hc => ?_⟩
 have h1 := h.2 j hj hm hc
 have h2 : j ≠ k + 1 := fun e => hne (e ▸ hc)
 have h3 : j ≤ k := by omega
 exact hb.2 j h3 (h.1.inner hm h3)
theorem KEnd.pred {g f : Nat → Int} {n j : Nat} (h : KEnd g f (n + 1) (j + 1)) : KEnd g f n j ∧ f j = g n := by
 have h0 := h.1
 refine ⟨⟨by omega, fun i hi => ?_⟩, ?_⟩
 ·have := h.2 i (by omega)
  have e : n + 1 - (j + 1) + i = n - j + i := by omega
  rwa [e] at this
 ·have := h.2 j (by omega)
  have e : n + 1 - (j + 1) + j = n := by omega
  rw [e] at this; exact this.symm
theorem KEnd.succ {g f : Nat → Int} {n k : Nat} (h : KEnd g f n k) (hc : f k = g n) : KEnd g f (n + 1) (k + 1) := by
 have h0 := h.1
 refine ⟨by omega, fun i hi => ?_⟩
 have e : n + 1 - (k + 1) + i = n - k + i := by omega
 rw [e]
 rcases Nat.lt_or_ge i k with hi' | hi'
 ·exact h.2 i hi'
 ·have : i = k := by omega
  subst this
  have e2 : n - i + i = n := by omega
  rw [e2]; exact hc.symm
theorem KTry.goes {g f : Nat → Int} {L n k : Nat} (h : KTry g f L n k (g n)) (hc : f k = g n) : KLong g f L (n + 1) (k + 1) := by
 refine ⟨h.1.succ hc, fun j hj hm => ?_⟩
 cases j with
 | zero => omega
 | succ j => have := hm.pred; have := h.2 j (by omega) this.1 this.2; omega
theorem KTry.none' {g f : Nat → Int} {L n : Nat} (h : KTry g f L n 0 (g n)) (hc : f 0 ≠ g n) : KLong g f L (n + 1) 0 := by
 refine ⟨KEnd.zero .., fun j hj hm => ?_⟩
 cases j with
 | zero => omega
 | succ j =>
  have hp := hm.pred
  have := h.2 j (by omega) hp.1 hp.2
  have : j = 0 := by omega
  subst this; exact absurd hp.2 hc
theorem KBord.one (f : Nat → Int) : KBord f 0 0 := KLong.zero ..
theorem KBord.try' {f : Nat → Int} {m b : Nat} (c : Int) (h : KBord f m b) : KTry (fun i => f (i + 1)) f (m + 1) m b c :=
 ⟨h.1, fun j hj hm _ => h.2 j (by omega) hm⟩
theorem KBord.goes {f : Nat → Int} {m k : Nat} (h : KTry (fun i => f (i + 1)) f (m + 1) m k (f (m + 1))) (hc : f k = f (m + 1)) : KBord f (m + 1) (k + 1) :=
 KTry.goes h hc
theorem KBord.none' {f : Nat → Int} {m : Nat} (h : KTry (fun i => f (i + 1)) f (m + 1) m 0 (f (m + 1))) (hc : f 0 ≠ f (m + 1)) : KBord f (m + 1) 0 :=
 KTry.none' h hc
def KStands (g f : Nat → Int) (L n p : Nat) : Prop := p + L ≤ n ∧ ∀ i, i < L → g (p + i) = f i
theorem KStands.ends {g f : Nat → Int} {L n p : Nat} (h : KStands g f L n p) : KEnd g f (p + L) L :=
 ⟨by omega, fun i hi => by
  have e : p + L - L + i = p + i := by omega
  rw [e]; exact h.2 i hi⟩
theorem kstands_next {g f : Nat → Int} {L n k : Nat} (h : KLong g f L (n + 1) k) (hk : k < L) (hno : ∀ p, ¬ KStands g f L n p) : ∀ p, ¬ KStands g f L (n + 1) p := fun p hp => by
 rcases Nat.lt_or_ge (p + L) (n + 1) with hl | hl
 ·exact hno p ⟨by omega, hp.2⟩
 ·have e : p + L = n + 1 := by have := hp.1; omega
  have := h.2 L (Nat.le_refl _) (e ▸ hp.ends); omega
theorem kstands_found {g f : Nat → Int} {L n N : Nat} (h : KLong g f L (n + 1) L) (hN : n + 1 ≤ N) (hno : ∀ p, ¬ KStands g f L n p) : KStands g f L N (n + 1 - L) ∧ ∀ p, p < n + 1 - L → ¬ KStands g f L N p := by
 have h0 := h.1.1
 refine ⟨⟨by omega, h.1.2⟩, fun p hp hs => hno p ⟨by omega, hs.2⟩⟩
theorem kstands_start {g f : Nat → Int} {L : Nat} (hL : 0 < L) : ∀ p, ¬ KStands g f L 0 p := fun p hp => by have := hp.1; omega
def kfind (stands : Nat → Bool) (p : Nat) : Nat → Int
 | 0 => if stands p then (p : Int) else -1
 | n + 1 => if stands p then (p : Int) else kfind stands (p + 1) n
theorem kfind_found {stands : Nat → Bool} {a : Nat} (ha : stands a = true) : ∀ (n p : Nat), p ≤ a → a ≤ p + n → (∀ q, p ≤ q → q < a → stands q = false) → kfind stands p n = (a : Int) := by
 intro n
 induction n with
 | zero => intro p h1 h2 _; have : p = a := by omega
           subst this; simp [kfind, ha]
 | succ n ih =>
  intro p h1 h2 h3
  rcases Nat.lt_or_ge p a with hl | hl
  ·simp only [kfind, h3 p (Nat.le_refl _) hl, Bool.false_eq_true, if_false]
   exact ih (p + 1) hl (by omega) (fun q hq => h3 q (by omega))
  ·have : p = a := by omega
   subst this; simp [kfind, ha]
theorem kfind_none {stands : Nat → Bool} : ∀ (n p : Nat), (∀ q, p ≤ q → q ≤ p + n → stands q = false) → kfind stands p n = -1 := by
 intro n
 induction n with
 | zero => intro p h; simp [kfind, h p (Nat.le_refl _) (Nat.le_refl _)]
 | succ n ih => intro p h; simp only [kfind, h p (Nat.le_refl _) (by omega), Bool.false_eq_true, if_false]; exact ih (p + 1) (fun q h1 h2 => h q (by omega) (by omega))
end Go.Proofs.YtgjokdngbocehaaGreatDoor
namespace Go.Proofs.YtgjokdngbocehaaGreatDoor
def standsL (xs ys : List Int) (p : Nat) : Bool := decide (p + ys.length ≤ xs.length ∧ ∀ i, i < ys.length → xs[p + i]? = ys[i]?)
def findL (xs ys : List Int) : Int := kfind (standsL xs ys) 0 xs.length
theorem standsL_short (xs ys : List Int) (p : Nat) (h : xs.length < p + ys.length) : standsL xs ys p = false := by
 simp only [standsL, decide_eq_false_iff_not]; intro h2; omega
theorem standsL_true (xs ys : List Int) (p : Nat) (h : p + ys.length ≤ xs.length) (h2 : ∀ i, i < ys.length → xs[p + i]? = ys[i]?) : standsL xs ys p = true := by
 simp only [standsL, decide_eq_true_eq]; exact ⟨h, h2⟩
theorem standsL_false (xs ys : List Int) (p i : Nat) (hi : i < ys.length) (h2 : xs[p + i]? ≠ ys[i]?) : standsL xs ys p = false := by
 simp only [standsL, decide_eq_false_iff_not]; intro h3; exact h2 (h3.2 i hi)
theorem standsL_seg (xs ys : List Int) (p : Nat) (h : p + ys.length ≤ xs.length) : standsL xs ys p = decide ((xs.drop p).take ys.length = ys) := by
 by_cases e : (xs.drop p).take ys.length = ys
 ·rw [decide_eq_true e]
  refine standsL_true xs ys p h fun i hi => ?_
  have := congrArg (fun l => l[i]?) e
  simp only [List.getElem?_take, List.getElem?_drop, if_pos hi] at this
  exact this
 ·rw [decide_eq_false e]
  cases hs : standsL xs ys p with
  | false => rfl
  | true =>
   simp only [standsL, decide_eq_true_eq] at hs
   refine absurd ?_ e
   refine List.ext_getElem? fun i => ?_
   rw [List.getElem?_take, List.getElem?_drop]
   by_cases hi : i < ys.length
   ·rw [if_pos hi]; exact hs.2 i hi
   ·rw [if_neg hi, List.getElem?_eq_none (by omega)]
def chF (xs : List Int) (i : Nat) : Int := xs[i]?.getD 0
theorem chF_at {xs : List Int} {i : Nat} (h : i < xs.length) : xs[i]? = some (chF xs i) := by
 unfold chF; rw [List.getElem?_eq_getElem h]; rfl
theorem stands_iff (xs ys : List Int) (p : Nat) : standsL xs ys p = true ↔ KStands (chF xs) (chF ys) ys.length xs.length p := by
 simp only [standsL, decide_eq_true_eq, KStands]
 refine ⟨fun h => ⟨h.1, fun i hi => ?_⟩, fun h => ⟨h.1, fun i hi => ?_⟩⟩
 ·have := h.2 i hi
  rw [chF_at (show p + i < xs.length by omega), chF_at hi] at this
  exact Option.some.inj this
 ·rw [chF_at (show p + i < xs.length by omega), chF_at hi, h.2 i hi]
theorem findL_found {xs ys : List Int} {a : Nat} (h : KStands (chF xs) (chF ys) ys.length xs.length a) (hn : ∀ p, p < a → ¬ KStands (chF xs) (chF ys) ys.length xs.length p) : findL xs ys = (a : Int) := by
 refine kfind_found ((stands_iff ..).2 h) _ _ (Nat.zero_le _) (by have := h.1; omega) fun q _ hq => ?_
 cases hs : standsL xs ys q with
 | false => rfl
 | true => exact absurd ((stands_iff ..).1 hs) (hn q hq)
theorem findL_none {xs ys : List Int} (hn : ∀ p, ¬ KStands (chF xs) (chF ys) ys.length xs.length p) : findL xs ys = -1 := by
 refine kfind_none _ _ fun q _ _ => ?_
 cases hs : standsL xs ys q with
 | false => rfl
 | true => exact absurd ((stands_iff ..).1 hs) (hn q)
theorem findL_nil (xs : List Int) : findL xs [] = 0 := by
 have := findL_found (xs := xs) (ys := []) (a := 0) ⟨by simp, fun i hi => by simp at hi⟩ (fun p hp => by omega)
 simpa using this
end Go.Proofs.YtgjokdngbocehaaGreatDoor
namespace Go.Proofs.YtgjokdngbocehaaGreatDoor
open Go.RowKit
mutual
inductive PX where
 | mk (op : Int) (args : List PX) (path : List PS) (attr : List UInt8) (cmp : Int) (text : List UInt8) (num : Int) : PX
inductive PS where
 | mk (axis test : Int) (name : List UInt8) (wher : List PX) : PS
end
def PX.op : PX → Int | .mk o _ _ _ _ _ _ => o
def PX.args : PX → List PX | .mk _ a _ _ _ _ _ => a
def PX.path : PX → List PS | .mk _ _ p _ _ _ _ => p
def PX.attr : PX → List UInt8 | .mk _ _ _ a _ _ _ => a
def PX.cmp : PX → Int | .mk _ _ _ _ c _ _ => c
def PX.text : PX → List UInt8 | .mk _ _ _ _ _ t _ => t
def PX.num : PX → Int | .mk _ _ _ _ _ _ n => n
def PS.axis : PS → Int | .mk a _ _ _ => a
def PS.test : PS → Int | .mk _ t _ _ => t
def PS.name : PS → List UInt8 | .mk _ _ n _ => n
def PS.wher : PS → List PX | .mk _ _ _ w => w
def W64 (x : Int) : Prop := -9223372036854775808 ≤ x ∧ x ≤ 9223372036854775807
def RowP {α : Type} (P : World → α → List Value → Prop) (k : Nat) (w : World) (a : Option Addr) (l : List α) : Prop :=
 ∀ i, (h : i < l.length) → ∃ b o cs, a = some ⟨b, o, none⟩ ∧ b < w.heap.size ∧ cs.length = k ∧ (∀ j, j < k → w.cell? ⟨b, o + i * k + j, none⟩ = cs[j]?) ∧ P w l[i] cs
def StepAt (P : World → PX → List Value → Prop) (w : World) (s : PS) (cs : List Value) : Prop :=
 ∃ a c, cs = [.int .i64 s.axis, .int .i64 s.test, .string (strL s.name), .slice a s.wher.length c] ∧ s.wher.length ≤ c ∧ W64 s.axis ∧ W64 s.test ∧ s.name.length ≤ 1048576 ∧ s.wher.length ≤ 1048576 ∧ RowP P 7 w a s.wher
def XAt : Nat → World → PX → List Value → Prop
 | 0, _, _, _ => False
 | f + 1, w, x, cs => ∃ a c p d, cs = [.int .i64 x.op, .slice a x.args.length c, .slice p x.path.length d, .string (strL x.attr), .int .i64 x.cmp, .string (strL x.text), .int .i64 x.num] ∧
   x.args.length ≤ c ∧ x.path.length ≤ d ∧ W64 x.op ∧ W64 x.cmp ∧ W64 x.num ∧ x.attr.length ≤ 1048576 ∧ x.text.length ≤ 1048576 ∧ x.args.length ≤ 1048576 ∧ x.path.length ≤ 1048576 ∧
   RowP (XAt f) 7 w a x.args ∧ RowP (StepAt (XAt f)) 4 w p x.path
def SsAt (f : Nat) (w : World) (a : Option Addr) (l : List PS) : Prop := RowP (StepAt (XAt f)) 4 w a l
def XsAt (f : Nat) (w : World) (a : Option Addr) (l : List PX) : Prop := RowP (XAt f) 7 w a l
theorem RowP.turn {α : Type} {P Q : World → α → List Value → Prop} {k : Nat} {w w' : World} {a : Option Addr} {l : List α} (h : RowP P k w a l) (hb : Below w.heap.size w w')
  (hPQ : ∀ x ∈ l, ∀ cs, P w x cs → Q w' x cs) : RowP Q k w' a l := fun i hi => by
 obtain ⟨b, o, cs, h1, h2, h3, h4, h5⟩ := h i hi
 exact ⟨b, o, cs, h1, Nat.lt_of_lt_of_le h2 hb.size, h3, fun j hj => (hb.cell (p := ⟨b, o + i * k + j, none⟩) h2).trans (h4 j hj), hPQ _ (List.getElem_mem hi) cs h5⟩
theorem StepAt.turn {P Q : World → PX → List Value → Prop} {w w' : World} {s : PS} {cs : List Value} (h : StepAt P w s cs) (hb : Below w.heap.size w w') (hPQ : ∀ x cs, P w x cs → Q w' x cs) : StepAt Q w' s cs := by
 obtain ⟨a, c, h1, h2, h3, h4, h5, h6, h7⟩ := h
 exact ⟨a, c, h1, h2, h3, h4, h5, h6, h7.turn hb fun x _ cs => hPQ x cs⟩
theorem XAt.turn {w w' : World} (hb : Below w.heap.size w w') : ∀ {f g : Nat} {x : PX} {cs : List Value}, f ≤ g → XAt f w x cs → XAt g w' x cs
 | 0, _, _, _, _, h => h.elim
 | _ + 1, 0, _, _, hfg, _ => absurd hfg (Nat.not_succ_le_zero _)
 | _ + 1, _ + 1, _, _, hfg, ⟨a, c, p, d, h1, h2, h3, h4, h5, h6, h7, h8, h9, h10, h11, h12⟩ =>
  ⟨a, c, p, d, h1, h2, h3, h4, h5, h6, h7, h8, h9, h10, h11.turn hb fun _ _ _ => XAt.turn hb (Nat.le_of_succ_le_succ hfg), h12.turn hb fun _ _ _ h => h.turn hb fun _ _ => XAt.turn hb (Nat.le_of_succ_le_succ hfg)⟩
theorem XsAt.turn {f g : Nat} {w w' : World} {a : Option Addr} {l : List PX} (h : XsAt f w a l) (hb : Below w.heap.size w w') (hfg : f ≤ g) : XsAt g w' a l := RowP.turn h hb fun _ _ _ => XAt.turn hb hfg
theorem SsAt.turn {f g : Nat} {w w' : World} {a : Option Addr} {l : List PS} (h : SsAt f w a l) (hb : Below w.heap.size w w') (hfg : f ≤ g) : SsAt g w' a l := RowP.turn h hb fun _ _ _ h => h.turn hb fun _ _ => XAt.turn hb hfg
theorem XsAt.below {f : Nat} {w w' : World} {a : Option Addr} {l : List PX} (h : XsAt f w a l) (hb : Below w.heap.size w w') : XsAt f w' a l := h.turn hb (Nat.le_refl _)
theorem SsAt.below {f : Nat} {w w' : World} {a : Option Addr} {l : List PS} (h : SsAt f w a l) (hb : Below w.heap.size w w') : SsAt f w' a l := h.turn hb (Nat.le_refl _)
theorem RowP.nil {α : Type} (P : World → α → List Value → Prop) (k : Nat) (w : World) (a : Option Addr) : RowP P k w a [] := fun _ h => absurd h (Nat.not_lt_zero _)
theorem SsAt.get {f : Nat} {w : World} {a : Option Addr} {l : List PS} (h : SsAt f w a l) (i : Nat) (hi : i < l.length) :
  ∃ b o wa wc, a = some ⟨b, o, none⟩ ∧ b < w.heap.size ∧ XsAt f w wa l[i].wher ∧ l[i].wher.length ≤ wc ∧ W64 l[i].axis ∧ W64 l[i].test ∧ l[i].name.length ≤ 1048576 ∧ l[i].wher.length ≤ 1048576 ∧
   ∀ W, Below w.heap.size w W → W.cell? ⟨b, o + i * 4, none⟩ = some (.int .i64 l[i].axis) ∧ W.cell? ⟨b, o + i * 4 + 1, none⟩ = some (.int .i64 l[i].test) ∧ W.cell? ⟨b, o + i * 4 + 2, none⟩ = some (.string (strL l[i].name)) ∧
    W.cell? ⟨b, o + i * 4 + 3, none⟩ = some (.slice wa l[i].wher.length wc) := by
 obtain ⟨b, o, cs, h1, h2, h3, h4, wa, wc, h5, h6, h7, h8, h9, h10, h11⟩ := h i hi
 refine ⟨b, o, wa, wc, h1, h2, h11, h6, h7, h8, h9, h10, fun W hW => ?_⟩
 have k := fun j (hj : j < 4) => (hW.cell (p := ⟨b, o + i * 4 + j, none⟩) h2).trans (h4 j hj)
 rw [h5] at k
 exact ⟨k 0 (by decide), k 1 (by decide), k 2 (by decide), k 3 (by decide)⟩
theorem XsAt.get {f : Nat} {w : World} {a : Option Addr} {l : List PX} (h : XsAt (f + 1) w a l) (i : Nat) (hi : i < l.length) :
  ∃ b o aa ac pa pc, a = some ⟨b, o, none⟩ ∧ b < w.heap.size ∧ XsAt f w aa l[i].args ∧ SsAt f w pa l[i].path ∧ l[i].args.length ≤ ac ∧ l[i].path.length ≤ pc ∧ W64 l[i].op ∧ W64 l[i].cmp ∧ W64 l[i].num ∧
   l[i].attr.length ≤ 1048576 ∧ l[i].text.length ≤ 1048576 ∧ l[i].args.length ≤ 1048576 ∧ l[i].path.length ≤ 1048576 ∧
   ∀ W, Below w.heap.size w W → W.cell? ⟨b, o + i * 7, none⟩ = some (.int .i64 l[i].op) ∧ W.cell? ⟨b, o + i * 7 + 1, none⟩ = some (.slice aa l[i].args.length ac) ∧ W.cell? ⟨b, o + i * 7 + 2, none⟩ = some (.slice pa l[i].path.length pc) ∧
    W.cell? ⟨b, o + i * 7 + 3, none⟩ = some (.string (strL l[i].attr)) ∧ W.cell? ⟨b, o + i * 7 + 4, none⟩ = some (.int .i64 l[i].cmp) ∧ W.cell? ⟨b, o + i * 7 + 5, none⟩ = some (.string (strL l[i].text)) ∧
    W.cell? ⟨b, o + i * 7 + 6, none⟩ = some (.int .i64 l[i].num) := by
 obtain ⟨b, o, cs, h1, h2, h3, h4, aa, ac, pa, pc, h5, h6, h7, h8, h9, h10, h11, h12, h13, h14, h15, h16⟩ := h i hi
 refine ⟨b, o, aa, ac, pa, pc, h1, h2, h15, h16, h6, h7, h8, h9, h10, h11, h12, h13, h14, fun W hW => ?_⟩
 have k := fun j (hj : j < 7) => (hW.cell (p := ⟨b, o + i * 7 + j, none⟩) h2).trans (h4 j hj)
 rw [h5] at k
 exact ⟨k 0 (by decide), k 1 (by decide), k 2 (by decide), k 3 (by decide), k 4 (by decide), k 5 (by decide), k 6 (by decide)⟩
def stepC (s : PS) (wa : Option Addr) (wc : Nat) : List Value := [.int .i64 s.axis, .int .i64 s.test, .string (strL s.name), .slice wa s.wher.length wc]
def exprC (x : PX) (aa : Option Addr) (ac : Nat) (pa : Option Addr) (pc : Nat) : List Value :=
 [.int .i64 x.op, .slice aa x.args.length ac, .slice pa x.path.length pc, .string (strL x.attr), .int .i64 x.cmp, .string (strL x.text), .int .i64 x.num]
theorem SsAt.get' {f : Nat} {w : World} {a : Option Addr} {l : List PS} (h : SsAt f w a l) (i : Nat) (hi : i < l.length) :
  ∃ b o wa wc, a = some ⟨b, o, none⟩ ∧ b < w.heap.size ∧ StepAt (XAt f) w l[i] (stepC l[i] wa wc) ∧
   ∀ W, Below w.heap.size w W → W.cell? ⟨b, o + i * 4, none⟩ = some (.int .i64 l[i].axis) ∧ W.cell? ⟨b, o + i * 4 + 1, none⟩ = some (.int .i64 l[i].test) ∧ W.cell? ⟨b, o + i * 4 + 2, none⟩ = some (.string (strL l[i].name)) ∧
    W.cell? ⟨b, o + i * 4 + 3, none⟩ = some (.slice wa l[i].wher.length wc) := by
 obtain ⟨b, o, cs, h1, h2, h3, h4, wa, wc, h5, h6, h7, h8, h9, h10, h11⟩ := h i hi
 refine ⟨b, o, wa, wc, h1, h2, ⟨wa, wc, rfl, h6, h7, h8, h9, h10, h11⟩, fun W hW => ?_⟩
 have k := fun j (hj : j < 4) => (hW.cell (p := ⟨b, o + i * 4 + j, none⟩) h2).trans (h4 j hj)
 rw [h5] at k
 exact ⟨k 0 (by decide), k 1 (by decide), k 2 (by decide), k 3 (by decide)⟩
theorem XsAt.get' {f : Nat} {w : World} {a : Option Addr} {l : List PX} (h : XsAt f w a l) (i : Nat) (hi : i < l.length) :
  ∃ b o aa ac pa pc, a = some ⟨b, o, none⟩ ∧ b < w.heap.size ∧ XAt f w l[i] (exprC l[i] aa ac pa pc) ∧
   ∀ W, Below w.heap.size w W → W.cell? ⟨b, o + i * 7, none⟩ = some (.int .i64 l[i].op) ∧ W.cell? ⟨b, o + i * 7 + 1, none⟩ = some (.slice aa l[i].args.length ac) ∧ W.cell? ⟨b, o + i * 7 + 2, none⟩ = some (.slice pa l[i].path.length pc) ∧
    W.cell? ⟨b, o + i * 7 + 3, none⟩ = some (.string (strL l[i].attr)) ∧ W.cell? ⟨b, o + i * 7 + 4, none⟩ = some (.int .i64 l[i].cmp) ∧ W.cell? ⟨b, o + i * 7 + 5, none⟩ = some (.string (strL l[i].text)) ∧
    W.cell? ⟨b, o + i * 7 + 6, none⟩ = some (.int .i64 l[i].num) := by
 cases f with
 | zero => obtain ⟨_, _, _, _, _, _, _, h⟩ := h i hi; exact h.elim
 | succ f =>
  obtain ⟨b, o, cs, h1, h2, h3, h4, aa, ac, pa, pc, h5, hr⟩ := h i hi
  refine ⟨b, o, aa, ac, pa, pc, h1, h2, ⟨aa, ac, pa, pc, rfl, hr⟩, fun W hW => ?_⟩
  have k := fun j (hj : j < 7) => (hW.cell (p := ⟨b, o + i * 7 + j, none⟩) h2).trans (h4 j hj)
  rw [h5] at k
  exact ⟨k 0 (by decide), k 1 (by decide), k 2 (by decide), k 3 (by decide), k 4 (by decide), k 5 (by decide), k 6 (by decide)⟩
theorem XsAt.zero {w : World} {a : Option Addr} {l : List PX} (h : XsAt 0 w a l) : l = [] := by
 cases l with
 | nil => rfl
 | cons x l => obtain ⟨_, _, _, _, _, _, _, h⟩ := h 0 (by simp); exact h.elim
end Go.Proofs.YtgjokdngbocehaaGreatDoor
namespace Go.Proofs.YtgjokdngbocehaaGreatDoor
def cmpB (s : List UInt8) (c : Int) (t : List UInt8) (n : Int) : Option Bool :=
 let xs := runesOf (strL s)
 let ys := runesOf (strL t)
 if c = 0 then some true
 else if c = 1 then some (decide (cmpL xs ys = 0))
 else if c = 2 then some (decide (cmpL xs ys ≠ 0))
 else if c = 3 then some (standsL xs ys 0)
 else if c = 4 then some (decide (ys.length ≤ xs.length) && standsL xs ys (xs.length - ys.length))
 else if c = 5 then some (decide (0 ≤ findL xs ys))
 else if c = 6 then some (decide ((xs.length : Int) = n))
 else if c = 7 then some (decide (n < (xs.length : Int)))
 else if c = 8 then some (decide ((xs.length : Int) < n))
 else none
theorem cmpB_none {s : List UInt8} {c : Int} {t : List UInt8} {n : Int} (h : c < 0 ∨ 8 < c) : cmpB s c t n = none := by
 unfold cmpB
 rw [if_neg (by omega), if_neg (by omega), if_neg (by omega), if_neg (by omega), if_neg (by omega), if_neg (by omega), if_neg (by omega), if_neg (by omega), if_neg (by omega)]
end Go.Proofs.YtgjokdngbocehaaGreatDoor
