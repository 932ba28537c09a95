/-
  General words and lemmas for walks: slices of one-cell values, runes of a string. No program is named here.
-/
import Derived.WalkKit
import Derived.BigQuiet
import Derived.Deep.QuietTactic
import Derived.WalkSpells
import Derived.WalkLawsBesides
import Derived.Lib.Hide
import Derived.Lib.OthersKept
import Derived.Maps.AppendAt
import Derived.Laws.IdiomStrings
import Derived.Laws.BytesArg
import Derived.Lib.ConvBytes
import Derived.Test.YtklpihaelaagpaaDoorProg
import Derived.RegionCalls
import Derived.Laws.LoneSync
import Derived.Laws.Pointers
import Derived.Defers
import Derived.Deep.MidRow
import Derived.Deep.CutBlock
namespace Go.Proofs.YtklpihaelaagpaaDoor
open Go.RowKit

theorem ret_int {k : IntKind} {a b : Int} (h : a = b) : Ending.returned (.int k a) = .returned (.int k b) := by rw [h]
theorem ret_bool {a b : Bool} (h : a = b) : Ending.returned (.bool a) = .returned (.bool b) := by rw [h]

structure Sl (w : World) (a : Option Addr) (n : Nat) (xs : List Value) : Prop where
  len : n = xs.length
  cell : ∀ i, (h : i < xs.length) → ∃ b o, a = some ⟨b, o, none⟩ ∧ b < w.heap.size ∧ w.cell? ⟨b, o + i, none⟩ = some xs[i]

def RetSl (e : Ending) (w : World) (xs : List Value) : Prop := ∃ a n c, e = .returned (.slice a n c) ∧ Sl w a n xs

theorem Sl.below {w w' : World} {a : Option Addr} {n : Nat} {xs : List Value} (h : Sl w a n xs) (hb : Below w.heap.size w w') : Sl w' a n xs :=
  ⟨h.len, fun i hi => by
    obtain ⟨b, o, ha, hlt, hc⟩ := h.cell i hi
    exact ⟨b, o, ha, Nat.lt_of_lt_of_le hlt hb.size, by rw [hb.cell (p := ⟨b, o + i, none⟩) hlt]; exact hc⟩⟩

theorem Below.drewN {B : Nat} {a w : World} (h : Below B a w) (n : Nat) : Below B a (w.drewN n) := ⟨h.os, h.tape, h.output, h.size, h.block⟩

theorem Below.tr {a b c : World} (h : Below a.heap.size a b) (k : Below b.heap.size b c) : Below a.heap.size a c := h.trans (k.mono h.size)

theorem own_block {w w' : World} {base : Nat} {e : TypeId} {size : Nat} {v : Value} {n : Nat} {xs : List Value} (h : w.ownsRow base e size v n xs)
    (hk : ∀ k, v.ownBlock = some k → w'.heap[k]? = w.heap[k]?) : w'.ownsRow base e size v n xs := by
  obtain ⟨h1, h2⟩ := h
  refine ⟨h1, ?_⟩
  rcases h2 with h2 | ⟨g, cap, cur, hv, hg, hh, r⟩
  · exact Or.inl h2
  · exact Or.inr ⟨g, cap, cur, hv, hg, by rw [hk g (by rw [hv]; rfl)]; exact hh, r⟩
theorem own_sl {w : World} {base : Nat} {e : TypeId} {v : Value} {n : Nat} {xs : List Value} (h : w.ownsRow base e 1 v n xs) :
    ∃ a c, v = .slice a n c ∧ Sl w a n xs := by
  have hc := fun g hg => h.cells (g := g) hg
  have hl := h.lt
  obtain ⟨h1, h2⟩ := h
  rcases h2 with ⟨rfl, rfl⟩ | ⟨g, cap, cur, rfl, hg, hh, r⟩
  · exact ⟨none, 0, rfl, by simpa using h1.symm, fun i hi => by omega⟩
  · exact ⟨_, cap, rfl, by omega, fun i hi => ⟨g, 0, rfl, (hl g rfl).2, by
      have := hc g rfl i xs[i] (by simp)
      rw [Nat.zero_add]
      unfold Addr.add at this
      split at this
      · subst i; exact this
      · simpa using this⟩⟩

theorem setCell_heap {w : World} {b i : Nat} {c : Array Value} {e : TypeId} {fz : Nat × Nat} (h : w.heap[b]? = some (.cells c e fz)) (u : Value) :
    (w.setCell ⟨b, i, none⟩ u).heap[b]? = some (.cells (c.setIfInBounds i u) e fz) := by
  simp only [World.setCell, Array.getElem?_modify, if_true, h]
  rfl
theorem cell_heap {w : World} {b i : Nat} {c : Array Value} {e : TypeId} {fz : Nat × Nat} (h : w.heap[b]? = some (.cells c e fz)) : w.cell? ⟨b, i, none⟩ = c[i]? := by
  simp [World.cell?, h]
theorem frozen_heap {w : World} {b i : Nat} {c : Array Value} {e : TypeId} (h : w.heap[b]? = some (.cells c e (0, 0))) : w.frozen? ⟨b, i, none⟩ = false := by
  simp [World.frozen?, h]
theorem heap_lt {w : World} {b : Nat} {o : Obj} (h : w.heap[b]? = some o) : b < w.heap.size := (Array.getElem?_eq_some_iff.1 h).1

structure App (w w' : World) (v v' : Value) : Prop where
  grown : w.grownBy w' v.ownBlock
  own : v'.ownBlock = v.ownBlock ∨ ∃ g, v'.ownBlock = some g ∧ w.heap.size ≤ g
theorem App.below {w w' : World} {v v' : Value} (h : App w w' v v') {B : Nat} (hB : B ≤ w.heap.size) (hv : ∀ k, v.ownBlock = some k → B ≤ k) : Below B w w' :=
  (Below.refl B w).grown h.grown hB hv
theorem App.keep {w w' : World} {v v' : Value} (h : App w w' v v') {k : Nat} (hk : k < w.heap.size) (hne : v.ownBlock ≠ some k) : w'.heap[k]? = w.heap[k]? :=
  h.grown.block k hk (fun e => hne e.symm)
theorem App.ne {w w' : World} {v v' : Value} (h : App w w' v v') {k : Nat} (hk : k < w.heap.size) (hne : v.ownBlock ≠ some k) : v'.ownBlock ≠ some k := by
  rcases h.own with e | ⟨g, e, hg⟩
  · rw [e]; exact hne
  · rw [e]; intro e2; injection e2 with e2; omega

theorem wpList_app {P : Program} (w : World) {ops : Array Oper} {rest : List Oper} {o : Oper} {a : Act} {Q : Exit → Act → World → Prop} (hgd : o.guard = none) (s x : Operand) (t : TypeId)
    (ho : o.op = .call { callee := .builtin .append, args := #[s, x], argTypes := #[t, t] })
    (base : Nat) (e : TypeId) (i : TypeInfo) (z : Value) (size bytes : Nat) (ht : P.underlying t = some (.slice e)) (hi : P.info? e = some i) (hz : i.zero = some z)
    (hsize : i.size = size) (hby : i.bytes = bytes) (hzs : z.cells.size = size) (hsz : 0 < size)
    (v : Value) (n : Nat) (xs : List Value) (hs : a.eval s = v) (hown : w.ownsRow base e size v n xs)
    (H : Nat) (hH : w.heap.size = H) (c : Nat) (news : List Value) (hx : a.eval x = .slice (some ⟨H, 0, none⟩) 1 c) (hl : news.length = size) (h1 : ∀ u ∈ news, u.oneCell' = true)
    (hn : n + 1 ≤ 4294967296) (hbb : bytes ≤ 16384) (hbase : base ≤ w.heap.size)
    (h : ∀ v' w', w'.ownsRow base e size v' (n + 1) (xs ++ news) → App (w.alloc (.cells news.toArray e)) w' v v' → wpList P ops Q rest (a.put o.dst v') w') :
    wpList P ops Q (o :: rest) a (w.alloc (.cells news.toArray e)) := by
  subst hH
  have hb : (n + 1) * bytes ≤ 140737488355328 := Nat.le_trans (Nat.mul_le_mul hn hbb) (by decide)
  refine wpList_append_own_at _ hgd s x t ho base e i z size bytes ht hi hz hsize hby hzs hsz v n xs hs (hown.alloc _) ⟨w.heap.size, 0, none⟩ 1 c news hx (by omega) ?_ h1 (by unfold maxLen; omega) hb ?_ ?_
  · intro j u hj
    have hc : (w.alloc (.cells news.toArray e)).cell? ⟨w.heap.size, j, none⟩ = some u := by
      simp only [World.cell?]
      rw [heap_alloc_new w _]
      simpa using hj
    unfold Addr.add
    split
    · rename_i h0; subst h0; exact hc
    · simpa using hc
  · simp; omega
  · intro v' w' h2 h3 _ h5
    refine h v' w' h2 ⟨h3, ?_⟩
    rcases h5 with h5 | h5
    · exact .inl h5
    · exact .inr ⟨_, h5, Nat.le_refl _⟩

theorem width_pos (s : ByteArray) (pos : Nat) (h : pos < s.size) : 1 ≤ (Utf8.decode s pos).2 := by
  by_cases ha : (s[pos]'h).toNat < 128
  · rw [decode_ascii s pos h ha]
    exact Nat.le_refl _
  · exact (decode_high s pos h (by omega)).2

theorem decode_within (s : ByteArray) (p : Nat) (h : p < s.size) : p + (Utf8.decode s p).2 ≤ s.size := by
  simp only [Utf8.decode]
  repeat' split
  all_goals simp_all
  all_goals omega

def runesF (s : ByteArray) : Nat → Nat → List Int
  | 0, _ => []
  | f + 1, p => if p < s.size then ((Utf8.decode s p).1 : Int) :: runesF s f (p + (Utf8.decode s p).2) else []

theorem runesF_fuel (s : ByteArray) (f : Nat) : ∀ (g p : Nat), s.size - p ≤ f → s.size - p ≤ g → runesF s f p = runesF s g p := by
  induction f with
  | zero =>
    intro g p hf _
    cases g with
    | zero => rfl
    | succ g => simp only [runesF]; rw [if_neg (by omega)]
  | succ f ih =>
    intro g p hf hg
    cases g with
    | zero => simp only [runesF]; rw [if_neg (by omega)]
    | succ g =>
      simp only [runesF]
      by_cases h : p < s.size
      · have := width_pos s p h
        rw [if_pos h, if_pos h, ih g _ (by omega) (by omega)]
      · rw [if_neg h, if_neg h]

def runesAt (s : ByteArray) (p : Nat) : List Int := runesF s (s.size - p) p
def runesOf (s : ByteArray) : List Int := runesF s s.size 0

theorem runesAt_zero (s : ByteArray) : runesAt s 0 = runesOf s := rfl
theorem runesAt_step (s : ByteArray) (p : Nat) (h : p < s.size) : runesAt s p = ((Utf8.decode s p).1 : Int) :: runesAt s (p + (Utf8.decode s p).2) := by
  have hw := width_pos s p h
  unfold runesAt
  obtain ⟨f, hf⟩ : ∃ f, s.size - p = f + 1 := ⟨s.size - p - 1, by omega⟩
  rw [hf]
  simp only [runesF]
  rw [if_pos h, runesF_fuel s f (s.size - (p + (Utf8.decode s p).2)) _ (by omega) (by omega)]
theorem runesAt_end (s : ByteArray) (p : Nat) (h : ¬ p < s.size) : runesAt s p = [] := by
  unfold runesAt
  rw [show s.size - p = 0 by omega]
  rfl
theorem runesF_length (s : ByteArray) (f : Nat) : ∀ p, (runesF s f p).length ≤ f := by
  induction f with
  | zero => intro p; exact Nat.le_refl _
  | succ f ih =>
    intro p
    simp only [runesF]
    split
    · have := ih (p + (Utf8.decode s p).2); simp only [List.length_cons]; omega
    · simp
theorem runesOf_length (s : ByteArray) : (runesOf s).length ≤ s.size := runesF_length s _ 0

theorem runesFrom_eq (s : ByteArray) (f : Nat) : ∀ (p : Nat) (acc : Array Value), Conv.runesFrom s f p acc = acc ++ ((runesF s f p).map (Value.int .i32)).toArray := by
  induction f with
  | zero => intro p acc; simp [Conv.runesFrom, runesF]
  | succ f ih =>
    intro p acc
    simp only [Conv.runesFrom, runesF]
    split
    · rw [ih]; simp
    · simp

theorem Sl.keep {w w' : World} {a : Option Addr} {n : Nat} {xs : List Value} (h : Sl w a n xs) (hk : ∀ b o, a = some ⟨b, o, none⟩ → w'.heap[b]? = w.heap[b]?) : Sl w' a n xs :=
  ⟨h.len, fun i hi => by
    obtain ⟨b, o, ha, hlt, hc⟩ := h.cell i hi
    have hb := hk b o ha
    refine ⟨b, o, ha, ?_, ?_⟩
    · rw [Array.getElem?_eq_getElem hlt] at hb
      exact heap_lt hb
    · rw [World.cell?_of_block (a := ⟨b, o + i, none⟩) hb]; exact hc⟩
theorem Sl.nil (w : World) (a : Option Addr) : Sl w a 0 [] := ⟨rfl, fun i hi => absurd hi (by simp)⟩

def u8s (l : List UInt8) : List Value := l.map fun b => .int .u8 b.toNat
theorem u8s_length (l : List UInt8) : (u8s l).length = l.length := by simp [u8s]
def bytesV (s : ByteArray) : List Value := s.data.toList.map fun b => .int .u8 b.toNat
theorem bytesV_length (s : ByteArray) : (bytesV s).length = s.size := by
  unfold bytesV; rw [List.length_map, Array.length_toList]; rfl
theorem ofNat_toNat_map (l : List UInt8) : (l.map fun b => (b.toNat : Int)).map (fun n => UInt8.ofNat n.toNat) = l := by
  induction l with
  | nil => rfl
  | cons b l ih => simp only [List.map_cons, ih, Int.toNat_natCast, UInt8.ofNat_toNat]
theorem run_index_str {P : Program} (t : TypeId) (ht : P.underlying t = some .string) (s : ByteArray) (k : Nat) (o : UInt8) (h : s.data.toList[k]? = some o) (w : World) :
    (Instr.index t (.string s) (.int .i64 k)).run P w = .ok (.int .u8 o.toNat) w := by
  have hk : k < s.size := by
    have := (List.getElem?_eq_some_iff.1 h).1
    rw [Array.length_toList] at this
    exact this
  have e : s[k] = o := by
    have h2 := (List.getElem?_eq_some_iff.1 h).2
    rw [← h2]
    rfl
  simp [go_sem, ht, hk, e]
theorem run_bytes_str {P : Program} {w : World} {a : Option Addr} {n : Nat} {s : ByteArray} (h : Sl w a n (bytesV s)) (src dst e : TypeId) (hs : P.underlying src = some (.slice e)) (he : P.underlying e = some (.int .u8))
    (hd : P.underlying dst = some .string) (c : Nat) : (convert src dst (.slice a n c)).run P w = .ok (.string s) w := by
  have hlen : n = s.size := by rw [h.len, bytesV_length]
  have hl : s.data.toList.length = s.size := by rw [Array.length_toList]; rfl
  rcases a with _ | ⟨b, o, sp⟩
  · have h0 : s.data.toList = [] := by
      rcases hb : s.data.toList with _ | ⟨x, l⟩
      · rfl
      · exfalso
        obtain ⟨b, o, e, _⟩ := h.cell 0 (by rw [bytesV_length, ← hl, hb]; simp)
        cases e
    rw [run_convert_bytes_nil (P := P) w src e hs he n c dst hd]
    congr 2
    have : s.data = #[] := Array.toList_eq_nil_iff.1 h0
    cases s
    simp_all
    rfl
  · by_cases hn : n = 0
    · subst hn
      have h0 : s.data.toList = [] := by apply List.eq_nil_of_length_eq_zero; omega
      have h1 : (loadCells ⟨b, o, sp⟩ 0).run P w = .ok (([] : List Int).map (Value.int .u8)).toArray w := rfl
      rw [run_convert_bytes_string w src dst e _ 0 c hs he hd, run_bytesToString w _ 0 c [] h1]
      congr 2
      have : s.data = #[] := Array.toList_eq_nil_iff.1 h0
      cases s
      simp_all
      rfl
    · obtain ⟨b', o', e, _⟩ := h.cell 0 (by rw [bytesV_length]; omega)
      injection e with e
      injection e with e1 e2 e3
      subst e3
      rw [run_convert_bytes_arg (P := P) w src e hs he b o n c (s.data.toList.map fun b => (b.toNat : Int)) (by rw [List.length_map, hl, hlen]) (fun i hi => ?_) dst hd]
      · congr 2
        unfold strOfNums
        rw [ofNat_toNat_map]
      · obtain ⟨b', o', e, _, hc⟩ := h.cell i (by rw [bytesV_length]; omega)
        injection e with e
        injection e with e4 e5
        subst e4
        subst e5
        rw [hc]
        have hi' : i < s.data.size := by rw [← Array.length_toList]; omega
        simp only [bytesV, List.getD, List.getElem_map, List.getElem?_map, Array.getElem?_toList, Array.getElem_toList, Array.getElem?_eq_getElem hi', Option.map_some, Option.getD_some]
theorem bytesW_below (w : World) (e : TypeId) (s : ByteArray) : Below w.heap.size w (Lib.bytesWorld w e s) :=
  ⟨rfl, rfl, rfl, by rw [Lib.bytesWorld_size]; omega, fun k hk => Lib.bytesWorld_at_old w e s k hk⟩
theorem bytesW_sl (w : World) (e : TypeId) (s : ByteArray) : Sl (Lib.bytesWorld w e s) (some ⟨w.heap.size, 0, none⟩) s.size (bytesV s) :=
  ⟨(bytesV_length s).symm, fun i hi => ⟨w.heap.size, 0, rfl, by rw [Lib.bytesWorld_size]; omega, by
    have h1 : i < s.size := by rw [bytesV_length] at hi; exact hi
    have h2 : i < s.data.size := h1
    rw [Nat.zero_add, Lib.bytesWorld_cell w e s i h1]
    simp only [bytesV, List.getD, List.getElem_map, Array.getElem?_toList, Array.getElem_toList, Array.getElem?_eq_getElem h2, Option.getD_some]⟩⟩

def runesW (w : World) (e : TypeId) (s : ByteArray) : World :=
  w.drew.alloc (.cells (Conv.runesFrom s s.size 0 #[] ++ Array.replicate (grownCap w (Conv.runesFrom s s.size 0 #[]).size 0 e - (Conv.runesFrom s s.size 0 #[]).size) (.int .i32 0)) e)
def runesC (w : World) (e : TypeId) (s : ByteArray) : Nat := grownCap w (Conv.runesFrom s s.size 0 #[]).size 0 e
theorem runesFrom_size (s : ByteArray) : (Conv.runesFrom s s.size 0 #[]).size = (runesOf s).length := by
  rw [runesFrom_eq]; simp [runesOf]
theorem run_runes {P : Program} (src dst e : TypeId) (hs : P.underlying src = some .string) (hd : P.underlying dst = some (.slice e)) (he : P.underlying e = some (.int .i32))
    (w : World) (s : ByteArray) (h46 : s.size ≤ 70368744177664) :
    (convert src dst (.string s)).run P w = .ok (.slice (some ⟨w.heap.size, 0, none⟩) (runesOf s).length (runesC w e s)) (runesW w e s) := by
  have h := run_runes_of_string (P := P) w src dst e s hs hd he (by rw [runesFrom_size]; exact Nat.le_trans (runesOf_length s) h46)
  rw [h, ← runesFrom_size]
  rfl
theorem runesW_below (w : World) (e : TypeId) (s : ByteArray) : Below w.heap.size w (runesW w e s) := ((Below.refl _ w).drew).alloc (Nat.le_refl _) _
theorem runesW_size (w : World) (e : TypeId) (s : ByteArray) : (runesW w e s).heap.size = w.heap.size + 1 := by simp [runesW]
theorem runesW_sl (w : World) (e : TypeId) (s : ByteArray) : Sl (runesW w e s) (some ⟨w.heap.size, 0, none⟩) (runesOf s).length ((runesOf s).map (Value.int .i32)) :=
  ⟨by simp, fun i hi => ⟨w.heap.size, 0, rfl, by rw [runesW_size]; omega, by
    simp only [World.cell?, runesW]
    have := heap_alloc_new w.drew (.cells (Conv.runesFrom s s.size 0 #[] ++ Array.replicate (grownCap w (Conv.runesFrom s s.size 0 #[]).size 0 e - (Conv.runesFrom s s.size 0 #[]).size) (.int .i32 0)) e)
    rw [show w.drew.heap.size = w.heap.size by rfl] at this
    rw [this]
    simp only [Nat.zero_add]
    rw [Array.getElem?_append_left (by rw [runesFrom_size]; simpa using hi), runesFrom_eq]
    simp only [Option.isSome_none, Bool.false_eq_true, if_false, List.getElem_map]
    have hi' : i < (runesF s s.size 0).length := by simpa [runesOf] using hi
    simp [runesOf, hi']⟩⟩

def cmpL : List Int → List Int → Int
  | [], [] => 0
  | [], _ :: _ => -1
  | _ :: _, [] => 1
  | a :: s, b :: t => if a < b then -1 else if b < a then 1 else cmpL s t
theorem cmpL_drop (xs ys : List Int) (k : Nat) (h0 : k < xs.length) (h1 : k < ys.length) :
    cmpL (xs.drop k) (ys.drop k) = if xs[k] < ys[k] then -1 else if ys[k] < xs[k] then 1 else cmpL (xs.drop (k + 1)) (ys.drop (k + 1)) := by
  rw [List.drop_eq_getElem_cons h0, List.drop_eq_getElem_cons h1]; rfl
theorem cmpL_end (xs ys : List Int) (k : Nat) (h : ¬ (k < xs.length ∧ k < ys.length)) (hx : k ≤ xs.length) (hy : k ≤ ys.length) :
    cmpL (xs.drop k) (ys.drop k) = if xs.length < ys.length then -1 else if ys.length < xs.length then 1 else 0 := by
  by_cases h0 : k < xs.length
  · rw [List.drop_eq_getElem_cons h0, List.drop_of_length_le (l := ys) (by omega), if_neg (by omega), if_pos (by omega)]; rfl
  · rw [List.drop_of_length_le (by omega : xs.length ≤ k)]
    by_cases h1 : k < ys.length
    · rw [List.drop_eq_getElem_cons h1, if_pos (by omega)]; rfl
    · rw [List.drop_of_length_le (by omega), if_neg (by omega), if_neg (by omega)]; rfl
theorem cmpL_refl (xs : List Int) : cmpL xs xs = 0 := by
  induction xs with
  | nil => rfl
  | cons a s ih => simp [cmpL, ih]
theorem cmpL_neg (xs : List Int) : ∀ ys, cmpL ys xs = - cmpL xs ys := by
  induction xs with
  | nil => intro ys; cases ys <;> rfl
  | cons a s ih =>
    intro ys
    cases ys with
    | nil => rfl
    | cons b t =>
      simp only [cmpL]
      by_cases h : a < b
      · rw [if_neg (by omega), if_pos h, if_pos h]; rfl
      · by_cases h2 : b < a
        · rw [if_pos h2, if_neg h, if_pos h2]
        · rw [if_neg h2, if_neg h, if_neg h, if_neg h2]; exact ih t
theorem cmpL_bd (xs : List Int) : ∀ ys, -1 ≤ cmpL xs ys ∧ cmpL xs ys ≤ 1 := by
  induction xs with
  | nil => intro ys; cases ys <;> simp [cmpL]
  | cons a s ih =>
    intro ys
    cases ys with
    | nil => simp [cmpL]
    | cons b t =>
      simp only [cmpL]
      split
      · omega
      · split
        · omega
        · exact ih t
end Go.Proofs.YtklpihaelaagpaaDoor

namespace Go.Proofs.YtklpihaelaagpaaDoor
open Go.RowKit
end Go.Proofs.YtklpihaelaagpaaDoor

namespace Go.Proofs.YtklpihaelaagpaaDoor
open Go.RowKit

section
variable {P : Program} {ops : Array Oper} {rest : List Oper} {o : Oper} {a : Act} {w : World} {Q : Exit → Act → World → Prop}

theorem wpList_val (hg : o.guard = none) {v : Value} {w' : World} (h : (execOp a.eval o).run P w = .ok (.value v) w') (k : wpList P ops Q rest (a.put o.dst v) w') :
    wpList P ops Q (o :: rest) a w :=
  wpList_plain hg fun _ hK => by unfold Oper.wp; rw [h]; exact hK _ _ k

theorem wpList_build (hg : o.guard = none) (t : TypeId) (parts : List (Nat × Operand)) (ho : o.op = .build t parts.toArray) {v : Value}
    (h : (Instr.build t (parts.map fun p => (p.1, a.eval p.2)).toArray).run P w = .ok v w) (k : wpList P ops Q rest (a.put o.dst v) w) : wpList P ops Q (o :: rest) a w :=
  wpList_val hg (by unfold execOp; simp only [ho, List.map_toArray, Sem.run_bind, h, Result.andThen_ok]; rfl) k

theorem run_typeInfo' {t : TypeId} {i : TypeInfo} (h : P.info? t = some i) : (typeInfo t).run P w = .ok i w := by
  simp [typeInfo, program, Sem.run, h]

theorem wpList_alloc (hg : o.guard = none) (t : TypeId) (ho : o.op = .alloc t) {i : TypeInfo} (hi : P.info? t = some i) {z : Value} (hz : i.zero = some z)
    (k : wpList P ops Q rest (a.put o.dst (.pointer (some ⟨w.heap.size, 0, none⟩))) (w.alloc (.cells z.cells t))) : wpList P ops Q (o :: rest) a w := by
  refine wpList_val hg (v := .pointer (some ⟨w.heap.size, 0, none⟩)) (w' := w.alloc (.cells z.cells t)) ?_ k
  unfold execOp
  simp only [ho, Instr.alloc, zeroValue, Sem.run_bind, run_typeInfo' hi, Result.andThen_ok, hz]
  rfl

theorem setIfInBounds_pre (A C : List Value) (v u : Value) : (A ++ u :: C).toArray.setIfInBounds A.length v = (A ++ v :: C).toArray := by
  simp [List.setIfInBounds_toArray]
theorem setCells_whole (b : Nat) (t : TypeId) (vs : List Value) : ∀ (w : World) (pre old : List Value), w.heap[b]? = some (.cells (pre ++ old).toArray t (0, 0)) → old.length = vs.length →
    (w.setCells b pre.length vs).heap[b]? = some (.cells (pre ++ vs).toArray t (0, 0)) ∧ (∀ j, j ≠ b → (w.setCells b pre.length vs).heap[j]? = w.heap[j]?) ∧ (w.setCells b pre.length vs).heap.size = w.heap.size ∧ (w.setCells b pre.length vs).os = w.os ∧ (w.setCells b pre.length vs).tape = w.tape ∧ (w.setCells b pre.length vs).output = w.output ∧ (w.setCells b pre.length vs).drawn = w.drawn := by
  induction vs with
  | nil =>
    intro w pre old hb hl
    obtain rfl : old = [] := by simpa using hl
    exact ⟨hb, fun _ _ => rfl, rfl, rfl, rfl, rfl, rfl⟩
  | cons v vs ih =>
    intro w pre old hb hl
    cases old with
    | nil => simp at hl
    | cons u old =>
      have h1 := setCell_heap (i := pre.length) hb v
      have h2 : (pre ++ u :: old).toArray.setIfInBounds pre.length v = ((pre ++ [v]) ++ old).toArray := by
        rw [setIfInBounds_pre pre old v u]; simp
      rw [h2] at h1
      have h3 := ih (w.setCell ⟨b, pre.length, none⟩ v) (pre ++ [v]) old h1 (by simpa using hl)
      rw [List.length_append, List.length_singleton] at h3
      rw [World.setCells]
      obtain ⟨a1, a2, a3, a4, a5, a6, a7⟩ := h3
      refine ⟨by simpa using a1, fun j hj => (a2 j hj).trans (Below.heap_setCell _ _ _ _ hj), a3.trans (by simp [World.setCell]), a4, a5, a6, a7⟩

theorem world_ext {w w' : World} (h1 : w.heap = w'.heap) (h2 : w.tape = w'.tape) (h3 : w.drawn = w'.drawn) (h4 : w.os = w'.os) (h5 : w.output = w'.output) : w = w' := by
  cases w; cases w'; simp_all

theorem setCells_alloc (w : World) (z c : Array Value) (t : TypeId) (h : z.size = c.size) : (w.alloc (.cells z t)).setCells w.heap.size 0 c.toList = w.alloc (.cells c t) := by
  have hb : (w.alloc (.cells z t)).heap[w.heap.size]? = some (.cells ([] ++ z.toList).toArray t (0, 0)) := by
    rw [heap_alloc_new]; simp
  obtain ⟨a1, a2, a3, a4, a5, a6, a7⟩ := setCells_whole w.heap.size t c.toList (w.alloc (.cells z t)) [] z.toList hb (by simpa using h)
  simp only [List.length_nil] at a1 a2 a3 a4 a5 a6 a7
  refine world_ext ?_ a5 a7 a4 a6
  apply Array.ext_getElem?
  intro j
  by_cases hj : j = w.heap.size
  · subst hj
    rw [a1, heap_alloc_new]
    simp
  · rw [a2 j hj]
    by_cases hl : j < w.heap.size
    · rw [Below.heap_alloc _ _ _ hl, Below.heap_alloc _ _ _ hl]
    · rw [Array.getElem?_eq_none (by simp; omega), Array.getElem?_eq_none (by simp; omega)]

theorem wpList_new (o1 o2 o3 : Oper) (g1 : o1.guard = none) (g2 : o2.guard = none) (g3 : o3.guard = none) (t : TypeId) (parts : List (Nat × Operand)) (d1 d2 : Tmp)
    (h1 : o1.op = .build t parts.toArray) (h2 : o2.op = .alloc t) (h3 : o3.op = .store t (.tmp d2) (.tmp d1)) (e1 : o1.dst = some d1) (e2 : o2.dst = some d2) (e3 : o3.dst = none) (hne : d2 ≠ d1)
    (l1 : d1 < a.tmps.size) (l2 : d2 < a.tmps.size)
    {c : Array Value} (hb : (Instr.build t (parts.map fun p => (p.1, a.eval p.2)).toArray).run P w = .ok (.agg c) w)
    {i : TypeInfo} (hi : P.info? t = some i) {z : Array Value} (hz : i.zero = some (.agg z)) (hsz : i.size = c.size) (hzc : z.size = c.size) (h1c : c.all (·.oneCell') = true)
    (k : wpList P ops Q rest ((a.put (some d1) (.agg c)).put (some d2) (.pointer (some ⟨w.heap.size, 0, none⟩))) (w.alloc (.cells c t))) :
    wpList P ops Q (o1 :: o2 :: o3 :: rest) a w := by
  refine wpList_build g1 t parts h1 hb ?_
  refine wpList_alloc g2 t h2 hi hz ?_
  rw [e1, e2]
  have ev2 : ∀ b : Act, d2 < b.tmps.size → ∀ v, (b.put (some d2) v).eval (.tmp d2) = v := fun b hb v => by simp [Act.put, Act.eval, Array.getD, hb]
  refine wpList_store_mid g3 t (.tmp d2) (.tmp d1) h3 w.heap.size 0 c ?_ ?_ ?_ ?_ h1c ?_
  · simp [Act.put, Act.eval, Array.getD, l2]
  · simp [Act.put, Act.eval, Array.getD, l1, hne]
  · intro j hj
    have hc : (w.alloc (.cells z t)).cell? ⟨w.heap.size, 0 + j, none⟩ = z[0 + j]? := cell_heap (heap_alloc_new w _)
    refine ⟨?_, frozen_heap (heap_alloc_new w _)⟩
    rw [show Value.cells (.agg z) = z from rfl, hc, Nat.zero_add, Array.getElem?_eq_getElem (by omega)]
    rfl
  · rw [hi]; simp [hsz]
  · rw [show Value.cells (.agg z) = z from rfl, setCells_alloc w z c t hzc, e3]
    exact k

end
end Go.Proofs.YtklpihaelaagpaaDoor

namespace Go.Proofs.YtklpihaelaagpaaDoor
open Go.RowKit

def str1 (o : UInt8) : ByteArray := ⟨#[o]⟩
def strsOf (ps : List (UInt8 × ByteArray)) : List Value := ps.flatMap fun p => [.string (str1 p.1), .string p.2]
theorem strsOf_length (ps : List (UInt8 × ByteArray)) : (strsOf ps).length = 2 * ps.length := by
  induction ps with
  | nil => rfl
  | cons p ps ih => simp [strsOf] at ih ⊢; omega
theorem strsOf_at (ps : List (UInt8 × ByteArray)) : ∀ j, (h : j < ps.length) → (strsOf ps)[2 * j]? = some (.string (str1 ps[j].1)) ∧ (strsOf ps)[2 * j + 1]? = some (.string ps[j].2) := by
  induction ps with
  | nil => intro j h; simp at h
  | cons p ps ih =>
    intro j h
    cases j with
    | zero => simp [strsOf]
    | succ j =>
      have := ih j (by simpa using h)
      simpa [strsOf, Nat.mul_succ] using this
def look (ps : List (UInt8 × ByteArray)) (o : UInt8) : Option ByteArray := (ps.find? fun p => p.1 == o).map (·.2)

def Ent (w : World) (v : Value) : Option ByteArray → Prop
  | none => v = .slice none 0 0
  | some n => ∃ h c, v = .slice (some ⟨h, 0, none⟩) n.size c ∧ Sl w (some ⟨h, 0, none⟩) n.size (bytesV n)
theorem Ent.keep {w w' : World} {v : Value} {x : Option ByteArray} (h : Ent w v x) (hk : ∀ k, v.ownBlock = some k → w'.heap[k]? = w.heap[k]?) : Ent w' v x := by
  cases x with
  | none => exact h
  | some n =>
    obtain ⟨k, c, rfl, hs⟩ := h
    exact ⟨k, c, rfl, hs.keep fun b o e => by injection e with e; injection e with e1 e2; subst e1; exact hk _ rfl⟩

theorem strs_cells {w : World} {a : Option Addr} {n : Nat} {ps : List (UInt8 × ByteArray)} (hs : Sl w a n (strsOf ps)) (h0 : 0 < ps.length) :
    ∃ b o, a = some ⟨b, o, none⟩ ∧ b < w.heap.size ∧ ∀ j, (hj : j < ps.length) → w.cell? ⟨b, o + 2 * j, none⟩ = some (.string (str1 ps[j].1)) ∧ w.cell? ⟨b, o + (2 * j + 1), none⟩ = some (.string ps[j].2) := by
  obtain ⟨b, o, rfl, hb, _⟩ := hs.cell 0 (by rw [strsOf_length]; omega)
  refine ⟨b, o, rfl, hb, fun j hj => ?_⟩
  obtain ⟨e1, e2⟩ := strsOf_at ps j hj
  have key : ∀ i v, (strsOf ps)[i]? = some v → w.cell? ⟨b, o + i, none⟩ = some v := by
    intro i v hv
    obtain ⟨hi, hv2⟩ := List.getElem?_eq_some_iff.1 hv
    obtain ⟨b', o', e, _, hc⟩ := hs.cell i hi
    injection e with e
    injection e with e3 e4
    subst e3
    subst e4
    rw [hc, hv2]
  exact ⟨key _ _ e1, key _ _ e2⟩

def tab0 (v : Value) : Array Value := (Array.replicate 256 (.slice none 0 0)).push v
theorem tab0_size (v : Value) : (tab0 v).size = 257 := by simp [tab0]
theorem tab0_one (a : Option Addr) (n c : Nat) : (tab0 (.slice a n c)).all (·.oneCell') = true := by
  rw [Array.all_eq_true_iff_forall_mem]
  intro v hv
  simp only [tab0, Array.mem_push, Array.mem_replicate] at hv
  rcases hv with ⟨_, rfl⟩ | rfl <;> rfl
theorem info_str : (Tryd.prog.info? 9).map (fun i => (i.zero, i.size, i.bytes)) = some (some (.string ByteArray.empty), 1, 16) := by kernel_rfl
theorem info_parts2 {P : Program} {e : TypeId} {z : Value} {size : Nat} (h : (P.info? e).map (fun i => (i.zero, i.size)) = some (some z, size)) :
    ∃ i, P.info? e = some i ∧ i.zero = some z ∧ i.size = size := by
  cases hi : P.info? e with
  | none => rw [hi] at h; cases h
  | some i => rw [hi] at h; simp at h; exact ⟨i, rfl, h.1, h.2⟩

theorem look_cons (p : UInt8 × ByteArray) (ps : List (UInt8 × ByteArray)) (o : UInt8) : look (p :: ps) o = if p.1 = o then some p.2 else look ps o := by
  unfold look
  by_cases h : p.1 = o
  · rw [List.find?_cons_of_pos (by simp [h]), if_pos h]; rfl
  · rw [List.find?_cons_of_neg (by simp [h]), if_neg h]
theorem look_none (ps : List (UInt8 × ByteArray)) (o : UInt8) (h : o ∉ ps.map (·.1)) : look ps o = none := by
  induction ps with
  | nil => rfl
  | cons p ps ih =>
    simp only [List.map_cons, List.mem_cons, not_or] at h
    rw [look_cons, if_neg (fun e => h.1 e.symm), ih h.2]

end Go.Proofs.YtklpihaelaagpaaDoor

namespace Go.Proofs.YtklpihaelaagpaaDoor
open Go.RowKit
end Go.Proofs.YtklpihaelaagpaaDoor
