/-
  General words and lemmas for walks: slices of one-cell values, runes of a string. No program is named here.
-/
import Derived.WalkKit
import Derived.BigQuiet
import Derived.Deep.QuietTactic
import Derived.WalkSpells
import Derived.WalkLawsBesides
import Derived.Lib.Hide
import Derived.Lib.OthersKept
import Derived.Maps.AppendAt
import Derived.Laws.IdiomStrings
import Derived.Laws.BytesArg
import Derived.Lib.ConvBytes
import Derived.Test.YtmnloeolacmemaaGreatProg
import Derived.RegionCalls
import Derived.Laws.LoneSync
import Derived.Laws.Pointers
import Derived.Defers
namespace Go.Proofs.YtmnloeolacmemaaGreat
open Go.RowKit

theorem ret_int {k : IntKind} {a b : Int} (h : a = b) : Ending.returned (.int k a) = .returned (.int k b) := by rw [h]
theorem ret_bool {a b : Bool} (h : a = b) : Ending.returned (.bool a) = .returned (.bool b) := by rw [h]

/-- the slice (a, n) reads in w as the one-cell values xs -/
structure Sl (w : World) (a : Option Addr) (n : Nat) (xs : List Value) : Prop where
  len : n = xs.length
  cell : ∀ i, (h : i < xs.length) → ∃ b o, a = some ⟨b, o, none⟩ ∧ b < w.heap.size ∧ w.cell? ⟨b, o + i, none⟩ = some xs[i]

/-- the ending is a slice that reads as the one-cell values xs -/
def RetSl (e : Ending) (w : World) (xs : List Value) : Prop := ∃ a n c, e = .returned (.slice a n c) ∧ Sl w a n xs

theorem Sl.below {w w' : World} {a : Option Addr} {n : Nat} {xs : List Value} (h : Sl w a n xs) (hb : Below w.heap.size w w') : Sl w' a n xs :=
  ⟨h.len, fun i hi => by
    obtain ⟨b, o, ha, hlt, hc⟩ := h.cell i hi
    exact ⟨b, o, ha, Nat.lt_of_lt_of_le hlt hb.size, by rw [hb.cell (p := ⟨b, o + i, none⟩) hlt]; exact hc⟩⟩

theorem Below.drewN {B : Nat} {a w : World} (h : Below B a w) (n : Nat) : Below B a (w.drewN n) := ⟨h.os, h.tape, h.output, h.size, h.block⟩

theorem Below.tr {a b c : World} (h : Below a.heap.size a b) (k : Below b.heap.size b c) : Below a.heap.size a c := h.trans (k.mono h.size)

/-- an owned row stays owned where its block is as it was -/
theorem own_block {w w' : World} {base : Nat} {e : TypeId} {size : Nat} {v : Value} {n : Nat} {xs : List Value} (h : w.ownsRow base e size v n xs)
    (hk : ∀ k, v.ownBlock = some k → w'.heap[k]? = w.heap[k]?) : w'.ownsRow base e size v n xs := by
  obtain ⟨h1, h2⟩ := h
  refine ⟨h1, ?_⟩
  rcases h2 with h2 | ⟨g, cap, cur, hv, hg, hh, r⟩
  · exact Or.inl h2
  · exact Or.inr ⟨g, cap, cur, hv, hg, by rw [hk g (by rw [hv]; rfl)]; exact hh, r⟩
/-- what is owned reads as a slice of one-cell values -/
theorem own_sl {w : World} {base : Nat} {e : TypeId} {v : Value} {n : Nat} {xs : List Value} (h : w.ownsRow base e 1 v n xs) :
    ∃ a c, v = .slice a n c ∧ Sl w a n xs := by
  have hc := fun g hg => h.cells (g := g) hg
  have hl := h.lt
  obtain ⟨h1, h2⟩ := h
  rcases h2 with ⟨rfl, rfl⟩ | ⟨g, cap, cur, rfl, hg, hh, r⟩
  · exact ⟨none, 0, rfl, by simpa using h1.symm, fun i hi => by omega⟩
  · exact ⟨_, cap, rfl, by omega, fun i hi => ⟨g, 0, rfl, (hl g rfl).2, by
      have := hc g rfl i xs[i] (by simp)
      rw [Nat.zero_add]
      unfold Addr.add at this
      split at this
      · subst i; exact this
      · simpa using this⟩⟩

/-- a store into a block that is known whole -/
theorem setCell_heap {w : World} {b i : Nat} {c : Array Value} {e : TypeId} {fz : Nat × Nat} (h : w.heap[b]? = some (.cells c e fz)) (u : Value) :
    (w.setCell ⟨b, i, none⟩ u).heap[b]? = some (.cells (c.setIfInBounds i u) e fz) := by
  simp only [World.setCell, Array.getElem?_modify, if_true, h]
  rfl
theorem cell_heap {w : World} {b i : Nat} {c : Array Value} {e : TypeId} {fz : Nat × Nat} (h : w.heap[b]? = some (.cells c e fz)) : w.cell? ⟨b, i, none⟩ = c[i]? := by
  simp [World.cell?, h]
theorem frozen_heap {w : World} {b i : Nat} {c : Array Value} {e : TypeId} (h : w.heap[b]? = some (.cells c e (0, 0))) : w.frozen? ⟨b, i, none⟩ = false := by
  simp [World.frozen?, h]
theorem heap_lt {w : World} {b : Nat} {o : Obj} (h : w.heap[b]? = some o) : b < w.heap.size := (Array.getElem?_eq_some_iff.1 h).1

/-- what an append to the owned slice v does: the new value v', the new world w' -/
structure App (w w' : World) (v v' : Value) : Prop where
  grown : w.grownBy w' v.ownBlock
  own : v'.ownBlock = v.ownBlock ∨ ∃ g, v'.ownBlock = some g ∧ w.heap.size ≤ g
theorem App.below {w w' : World} {v v' : Value} (h : App w w' v v') {B : Nat} (hB : B ≤ w.heap.size) (hv : ∀ k, v.ownBlock = some k → B ≤ k) : Below B w w' :=
  (Below.refl B w).grown h.grown hB hv
theorem App.keep {w w' : World} {v v' : Value} (h : App w w' v v') {k : Nat} (hk : k < w.heap.size) (hne : v.ownBlock ≠ some k) : w'.heap[k]? = w.heap[k]? :=
  h.grown.block k hk (fun e => hne e.symm)
theorem App.ne {w w' : World} {v v' : Value} (h : App w w' v v') {k : Nat} (hk : k < w.heap.size) (hne : v.ownBlock ≠ some k) : v'.ownBlock ≠ some k := by
  rcases h.own with e | ⟨g, e, hg⟩
  · rw [e]; exact hne
  · rw [e]; intro e2; injection e2 with e2; omega

/-- append of one element, which lies in the block that was made last -/
theorem wpList_app {P : Program} (w : World) {ops : Array Oper} {rest : List Oper} {o : Oper} {a : Act} {Q : Exit → Act → World → Prop} (hgd : o.guard = none) (s x : Operand) (t : TypeId)
    (ho : o.op = .call { callee := .builtin .append, args := #[s, x], argTypes := #[t, t] })
    (base : Nat) (e : TypeId) (i : TypeInfo) (z : Value) (size bytes : Nat) (ht : P.underlying t = some (.slice e)) (hi : P.info? e = some i) (hz : i.zero = some z)
    (hsize : i.size = size) (hby : i.bytes = bytes) (hzs : z.cells.size = size) (hsz : 0 < size)
    (v : Value) (n : Nat) (xs : List Value) (hs : a.eval s = v) (hown : w.ownsRow base e size v n xs)
    (H : Nat) (hH : w.heap.size = H) (c : Nat) (news : List Value) (hx : a.eval x = .slice (some ⟨H, 0, none⟩) 1 c) (hl : news.length = size) (h1 : ∀ u ∈ news, u.oneCell' = true)
    (hn : n + 1 ≤ 4294967296) (hbb : bytes ≤ 16384) (hbase : base ≤ w.heap.size)
    (h : ∀ v' w', w'.ownsRow base e size v' (n + 1) (xs ++ news) → App (w.alloc (.cells news.toArray e)) w' v v' → wpList P ops Q rest (a.put o.dst v') w') :
    wpList P ops Q (o :: rest) a (w.alloc (.cells news.toArray e)) := by
  subst hH
  have hb : (n + 1) * bytes ≤ 140737488355328 := Nat.le_trans (Nat.mul_le_mul hn hbb) (by decide)
  refine wpList_append_own_at _ hgd s x t ho base e i z size bytes ht hi hz hsize hby hzs hsz v n xs hs (hown.alloc _) ⟨w.heap.size, 0, none⟩ 1 c news hx (by omega) ?_ h1 (by unfold maxLen; omega) hb ?_ ?_
  · intro j u hj
    have hc : (w.alloc (.cells news.toArray e)).cell? ⟨w.heap.size, j, none⟩ = some u := by
      simp only [World.cell?]
      rw [heap_alloc_new w _]
      simpa using hj
    unfold Addr.add
    split
    · rename_i h0; subst h0; exact hc
    · simpa using hc
  · simp; omega
  · intro v' w' h2 h3 _ h5
    refine h v' w' h2 ⟨h3, ?_⟩
    rcases h5 with h5 | h5
    · exact .inl h5
    · exact .inr ⟨_, h5, Nat.le_refl _⟩

theorem width_pos (s : ByteArray) (pos : Nat) (h : pos < s.size) : 1 ≤ (Utf8.decode s pos).2 := by
  by_cases ha : (s[pos]'h).toNat < 128
  · rw [decode_ascii s pos h ha]
    exact Nat.le_refl _
  · exact (decode_high s pos h (by omega)).2

/-- a character ends within the string -/
theorem decode_within (s : ByteArray) (p : Nat) (h : p < s.size) : p + (Utf8.decode s p).2 ≤ s.size := by
  simp only [Utf8.decode]
  repeat' split
  all_goals simp_all
  all_goals omega

/-- the characters from a place on, as Go's own range gives them; the first number bounds the steps -/
def runesF (s : ByteArray) : Nat → Nat → List Int
  | 0, _ => []
  | f + 1, p => if p < s.size then ((Utf8.decode s p).1 : Int) :: runesF s f (p + (Utf8.decode s p).2) else []

theorem runesF_fuel (s : ByteArray) (f : Nat) : ∀ (g p : Nat), s.size - p ≤ f → s.size - p ≤ g → runesF s f p = runesF s g p := by
  induction f with
  | zero =>
    intro g p hf _
    cases g with
    | zero => rfl
    | succ g => simp only [runesF]; rw [if_neg (by omega)]
  | succ f ih =>
    intro g p hf hg
    cases g with
    | zero => simp only [runesF]; rw [if_neg (by omega)]
    | succ g =>
      simp only [runesF]
      by_cases h : p < s.size
      · have := width_pos s p h
        rw [if_pos h, if_pos h, ih g _ (by omega) (by omega)]
      · rw [if_neg h, if_neg h]

def runesAt (s : ByteArray) (p : Nat) : List Int := runesF s (s.size - p) p
def runesOf (s : ByteArray) : List Int := runesF s s.size 0

theorem runesAt_zero (s : ByteArray) : runesAt s 0 = runesOf s := rfl
theorem runesAt_step (s : ByteArray) (p : Nat) (h : p < s.size) : runesAt s p = ((Utf8.decode s p).1 : Int) :: runesAt s (p + (Utf8.decode s p).2) := by
  have hw := width_pos s p h
  unfold runesAt
  obtain ⟨f, hf⟩ : ∃ f, s.size - p = f + 1 := ⟨s.size - p - 1, by omega⟩
  rw [hf]
  simp only [runesF]
  rw [if_pos h, runesF_fuel s f (s.size - (p + (Utf8.decode s p).2)) _ (by omega) (by omega)]
theorem runesAt_end (s : ByteArray) (p : Nat) (h : ¬ p < s.size) : runesAt s p = [] := by
  unfold runesAt
  rw [show s.size - p = 0 by omega]
  rfl
theorem runesF_length (s : ByteArray) (f : Nat) : ∀ p, (runesF s f p).length ≤ f := by
  induction f with
  | zero => intro p; exact Nat.le_refl _
  | succ f ih =>
    intro p
    simp only [runesF]
    split
    · have := ih (p + (Utf8.decode s p).2); simp only [List.length_cons]; omega
    · simp
theorem runesOf_length (s : ByteArray) : (runesOf s).length ≤ s.size := runesF_length s _ 0

/-- the list of all, in the model's own words of the conversion to a slice of characters -/
theorem runesFrom_eq (s : ByteArray) (f : Nat) : ∀ (p : Nat) (acc : Array Value), Conv.runesFrom s f p acc = acc ++ ((runesF s f p).map (Value.int .i32)).toArray := by
  induction f with
  | zero => intro p acc; simp [Conv.runesFrom, runesF]
  | succ f ih =>
    intro p acc
    simp only [Conv.runesFrom, runesF]
    split
    · rw [ih]; simp
    · simp

theorem Sl.keep {w w' : World} {a : Option Addr} {n : Nat} {xs : List Value} (h : Sl w a n xs) (hk : ∀ b o, a = some ⟨b, o, none⟩ → w'.heap[b]? = w.heap[b]?) : Sl w' a n xs :=
  ⟨h.len, fun i hi => by
    obtain ⟨b, o, ha, hlt, hc⟩ := h.cell i hi
    have hb := hk b o ha
    refine ⟨b, o, ha, ?_, ?_⟩
    · rw [Array.getElem?_eq_getElem hlt] at hb
      exact heap_lt hb
    · rw [World.cell?_of_block (a := ⟨b, o + i, none⟩) hb]; exact hc⟩
theorem Sl.nil (w : World) (a : Option Addr) : Sl w a 0 [] := ⟨rfl, fun i hi => absurd hi (by simp)⟩

/-- bytes as cells -/
def u8s (l : List UInt8) : List Value := l.map fun b => .int .u8 b.toNat
theorem u8s_length (l : List UInt8) : (u8s l).length = l.length := by simp [u8s]
/-- a string's bytes as cells -/
def bytesV (s : ByteArray) : List Value := s.data.toList.map fun b => .int .u8 b.toNat
theorem bytesV_length (s : ByteArray) : (bytesV s).length = s.size := by
  unfold bytesV; rw [List.length_map, Array.length_toList]; rfl
theorem ofNat_toNat_map (l : List UInt8) : (l.map fun b => (b.toNat : Int)).map (fun n => UInt8.ofNat n.toNat) = l := by
  induction l with
  | nil => rfl
  | cons b l ih => simp only [List.map_cons, ih, Int.toNat_natCast, UInt8.ofNat_toNat]
/-- s[k] of a string, the byte under a name -/
theorem run_index_str {P : Program} (t : TypeId) (ht : P.underlying t = some .string) (s : ByteArray) (k : Nat) (o : UInt8) (h : s.data.toList[k]? = some o) (w : World) :
    (Instr.index t (.string s) (.int .i64 k)).run P w = .ok (.int .u8 o.toNat) w := by
  have hk : k < s.size := by
    have := (List.getElem?_eq_some_iff.1 h).1
    rw [Array.length_toList] at this
    exact this
  have e : s[k] = o := by
    have h2 := (List.getElem?_eq_some_iff.1 h).2
    rw [← h2]
    rfl
  simp [go_sem, ht, hk, e]
/-- string(b) -/
theorem run_bytes_str {P : Program} {w : World} {a : Option Addr} {n : Nat} {s : ByteArray} (h : Sl w a n (bytesV s)) (src dst e : TypeId) (hs : P.underlying src = some (.slice e)) (he : P.underlying e = some (.int .u8))
    (hd : P.underlying dst = some .string) (c : Nat) : (convert src dst (.slice a n c)).run P w = .ok (.string s) w := by
  have hlen : n = s.size := by rw [h.len, bytesV_length]
  have hl : s.data.toList.length = s.size := by rw [Array.length_toList]; rfl
  rcases a with _ | ⟨b, o, sp⟩
  · have h0 : s.data.toList = [] := by
      rcases hb : s.data.toList with _ | ⟨x, l⟩
      · rfl
      · exfalso
        obtain ⟨b, o, e, _⟩ := h.cell 0 (by rw [bytesV_length, ← hl, hb]; simp)
        cases e
    rw [run_convert_bytes_nil (P := P) w src e hs he n c dst hd]
    congr 2
    have : s.data = #[] := Array.toList_eq_nil_iff.1 h0
    cases s
    simp_all
    rfl
  · by_cases hn : n = 0
    · subst hn
      have h0 : s.data.toList = [] := by apply List.eq_nil_of_length_eq_zero; omega
      have h1 : (loadCells ⟨b, o, sp⟩ 0).run P w = .ok (([] : List Int).map (Value.int .u8)).toArray w := rfl
      rw [run_convert_bytes_string w src dst e _ 0 c hs he hd, run_bytesToString w _ 0 c [] h1]
      congr 2
      have : s.data = #[] := Array.toList_eq_nil_iff.1 h0
      cases s
      simp_all
      rfl
    · obtain ⟨b', o', e, _⟩ := h.cell 0 (by rw [bytesV_length]; omega)
      injection e with e
      injection e with e1 e2 e3
      subst e3
      rw [run_convert_bytes_arg (P := P) w src e hs he b o n c (s.data.toList.map fun b => (b.toNat : Int)) (by rw [List.length_map, hl, hlen]) (fun i hi => ?_) dst hd]
      · congr 2
        unfold strOfNums
        rw [ofNat_toNat_map]
      · obtain ⟨b', o', e, _, hc⟩ := h.cell i (by rw [bytesV_length]; omega)
        injection e with e
        injection e with e4 e5
        subst e4
        subst e5
        rw [hc]
        have hi' : i < s.data.size := by rw [← Array.length_toList]; omega
        simp only [bytesV, List.getD, List.getElem_map, List.getElem?_map, Array.getElem?_toList, Array.getElem_toList, Array.getElem?_eq_getElem hi', Option.map_some, Option.getD_some]
/-- []byte(s) -/
theorem bytesW_below (w : World) (e : TypeId) (s : ByteArray) : Below w.heap.size w (Lib.bytesWorld w e s) :=
  ⟨rfl, rfl, rfl, by rw [Lib.bytesWorld_size]; omega, fun k hk => Lib.bytesWorld_at_old w e s k hk⟩
theorem bytesW_sl (w : World) (e : TypeId) (s : ByteArray) : Sl (Lib.bytesWorld w e s) (some ⟨w.heap.size, 0, none⟩) s.size (bytesV s) :=
  ⟨(bytesV_length s).symm, fun i hi => ⟨w.heap.size, 0, rfl, by rw [Lib.bytesWorld_size]; omega, by
    have h1 : i < s.size := by rw [bytesV_length] at hi; exact hi
    have h2 : i < s.data.size := h1
    rw [Nat.zero_add, Lib.bytesWorld_cell w e s i h1]
    simp only [bytesV, List.getD, List.getElem_map, Array.getElem?_toList, Array.getElem_toList, Array.getElem?_eq_getElem h2, Option.getD_some]⟩⟩

/-- the conversion of a string to a slice of characters: its new world, its capacity -/
def runesW (w : World) (e : TypeId) (s : ByteArray) : World :=
  w.drew.alloc (.cells (Conv.runesFrom s s.size 0 #[] ++ Array.replicate (grownCap w (Conv.runesFrom s s.size 0 #[]).size 0 e - (Conv.runesFrom s s.size 0 #[]).size) (.int .i32 0)) e)
def runesC (w : World) (e : TypeId) (s : ByteArray) : Nat := grownCap w (Conv.runesFrom s s.size 0 #[]).size 0 e
theorem runesFrom_size (s : ByteArray) : (Conv.runesFrom s s.size 0 #[]).size = (runesOf s).length := by
  rw [runesFrom_eq]; simp [runesOf]
theorem run_runes {P : Program} (src dst e : TypeId) (hs : P.underlying src = some .string) (hd : P.underlying dst = some (.slice e)) (he : P.underlying e = some (.int .i32))
    (w : World) (s : ByteArray) (h46 : s.size ≤ 70368744177664) :
    (convert src dst (.string s)).run P w = .ok (.slice (some ⟨w.heap.size, 0, none⟩) (runesOf s).length (runesC w e s)) (runesW w e s) := by
  have h := run_runes_of_string (P := P) w src dst e s hs hd he (by rw [runesFrom_size]; exact Nat.le_trans (runesOf_length s) h46)
  rw [h, ← runesFrom_size]
  rfl
theorem runesW_below (w : World) (e : TypeId) (s : ByteArray) : Below w.heap.size w (runesW w e s) := ((Below.refl _ w).drew).alloc (Nat.le_refl _) _
theorem runesW_size (w : World) (e : TypeId) (s : ByteArray) : (runesW w e s).heap.size = w.heap.size + 1 := by simp [runesW]
theorem runesW_sl (w : World) (e : TypeId) (s : ByteArray) : Sl (runesW w e s) (some ⟨w.heap.size, 0, none⟩) (runesOf s).length ((runesOf s).map (Value.int .i32)) :=
  ⟨by simp, fun i hi => ⟨w.heap.size, 0, rfl, by rw [runesW_size]; omega, by
    simp only [World.cell?, runesW]
    have := heap_alloc_new w.drew (.cells (Conv.runesFrom s s.size 0 #[] ++ Array.replicate (grownCap w (Conv.runesFrom s s.size 0 #[]).size 0 e - (Conv.runesFrom s s.size 0 #[]).size) (.int .i32 0)) e)
    rw [show w.drew.heap.size = w.heap.size by rfl] at this
    rw [this]
    simp only [Nat.zero_add]
    rw [Array.getElem?_append_left (by rw [runesFrom_size]; simpa using hi), runesFrom_eq]
    simp only [Option.isSome_none, Bool.false_eq_true, if_false, List.getElem_map]
    have hi' : i < (runesF s s.size 0).length := by simpa [runesOf] using hi
    simp [runesOf, hi']⟩⟩

/-- -1, 0 or 1 of two lists of numbers -/
def cmpL : List Int → List Int → Int
  | [], [] => 0
  | [], _ :: _ => -1
  | _ :: _, [] => 1
  | a :: s, b :: t => if a < b then -1 else if b < a then 1 else cmpL s t
theorem cmpL_drop (xs ys : List Int) (k : Nat) (h0 : k < xs.length) (h1 : k < ys.length) :
    cmpL (xs.drop k) (ys.drop k) = if xs[k] < ys[k] then -1 else if ys[k] < xs[k] then 1 else cmpL (xs.drop (k + 1)) (ys.drop (k + 1)) := by
  rw [List.drop_eq_getElem_cons h0, List.drop_eq_getElem_cons h1]; rfl
theorem cmpL_end (xs ys : List Int) (k : Nat) (h : ¬ (k < xs.length ∧ k < ys.length)) (hx : k ≤ xs.length) (hy : k ≤ ys.length) :
    cmpL (xs.drop k) (ys.drop k) = if xs.length < ys.length then -1 else if ys.length < xs.length then 1 else 0 := by
  by_cases h0 : k < xs.length
  · rw [List.drop_eq_getElem_cons h0, List.drop_of_length_le (l := ys) (by omega), if_neg (by omega), if_pos (by omega)]; rfl
  · rw [List.drop_of_length_le (by omega : xs.length ≤ k)]
    by_cases h1 : k < ys.length
    · rw [List.drop_eq_getElem_cons h1, if_pos (by omega)]; rfl
    · rw [List.drop_of_length_le (by omega), if_neg (by omega), if_neg (by omega)]; rfl
theorem cmpL_refl (xs : List Int) : cmpL xs xs = 0 := by
  induction xs with
  | nil => rfl
  | cons a s ih => simp [cmpL, ih]
theorem cmpL_neg (xs : List Int) : ∀ ys, cmpL ys xs = - cmpL xs ys := by
  induction xs with
  | nil => intro ys; cases ys <;> rfl
  | cons a s ih =>
    intro ys
    cases ys with
    | nil => rfl
    | cons b t =>
      simp only [cmpL]
      by_cases h : a < b
      · rw [if_neg (by omega), if_pos h, if_pos h]; rfl
      · by_cases h2 : b < a
        · rw [if_pos h2, if_neg h, if_pos h2]
        · rw [if_neg h2, if_neg h, if_neg h, if_neg h2]; exact ih t
theorem cmpL_bd (xs : List Int) : ∀ ys, -1 ≤ cmpL xs ys ∧ cmpL xs ys ≤ 1 := by
  induction xs with
  | nil => intro ys; cases ys <;> simp [cmpL]
  | cons a s ih =>
    intro ys
    cases ys with
    | nil => simp [cmpL]
    | cons b t =>
      simp only [cmpL]
      split
      · omega
      · split
        · omega
        · exact ih t
end Go.Proofs.YtmnloeolacmemaaGreat

/-
  sync.Once, not yet done, in one goroutine: the lock is taken, the function runs, 'done' is stored, the lock is let go. (Turned from the guide's worked example Lazy.)
-/
namespace Go.Proofs.YtmnloeolacmemaaGreat
open Go.RowKit

theorem disable (w : World) : (callFunc 60 #[]).run Tryz.prog w = .ok (.value (.tuple #[])) w := run_call_mark0 Tryz.func60 (by kernel_rfl) (by kernel_rfl) (by kernel_rfl) .disable (by kernel_rfl) w
theorem enable (w : World) : (callFunc 62 #[]).run Tryz.prog w = .ok (.value (.tuple #[])) w := run_call_mark0 Tryz.func62 (by kernel_rfl) (by kernel_rfl) (by kernel_rfl) .enable (by kernel_rfl) w
theorem acquire (a : Addr) (w : World) : (callFunc 63 #[.pointer (some a)]).run Tryz.prog w = .ok (.value (.tuple #[])) w := run_call_marked Tryz.func63 (by kernel_rfl) (by kernel_rfl) (by kernel_rfl) .acquire (by kernel_rfl) a w
theorem releaseMerge (a : Addr) (w : World) : (callFunc 65 #[.pointer (some a)]).run Tryz.prog w = .ok (.value (.tuple #[])) w := run_call_marked Tryz.func65 (by kernel_rfl) (by kernel_rfl) (by kernel_rfl) .releaseMerge (by kernel_rfl) a w

theorem store_deferred (a : Addr) (x : Value) (u : FrameMode) (w : World) (hc : w.cell? a = some x) (hz : w.frozen? a = false) :
    CallsD Tryz.prog 51 #[.pointer (some a), .bool true] u w fun e u' w' => u' = u ∧ (e = .returned (.tuple #[]) ∧ w' = w.drew.setCell a (.int .u32 1)) := by
  have hc' : w.drew.cell? a = some x := by go_simp
  have hz' : w.drew.frozen? a = false := by go_simp
  have hst := run_call_store (P := Tryz.prog) Tryz.func56 (by kernel_rfl) (by kernel_rfl) (by kernel_rfl) (by kernel_rfl) (k := .u32) (y := 1) hc' hz'
  go_enter_d Tryz.func51, Tryz.ntmps51
  go_wp2
  go_region_calls
  all_goals (go_end0; exact ⟨rfl, rfl⟩)

set_option maxRecDepth 100000 in
theorem unlock_deferred (a : Addr) (u : FrameMode) (w : World) (hc : w.cell? a = some (.int .i32 1)) (hz : w.frozen? a = false) :
    CallsD Tryz.prog 50 #[.pointer (some a)] u w fun e u' w' => u' = u ∧ (e = .returned (.tuple #[]) ∧ w' = w.setCell a (.int .i32 0)) := by
  have hd := disable
  have he := enable
  have hr := releaseMerge
  have hadd := run_call_add (P := Tryz.prog) Tryz.func66 (by kernel_rfl) (by kernel_rfl) (by kernel_rfl) .i32 (by kernel_rfl) (y := -1) (s := 0) hc hz (by simp [go_sem]; rfl)
  have hcv := run_convert_to_unsafe (P := Tryz.prog) (src := 151) (dst := 101) Tryz.underlying151 Tryz.underlying101 (by kernel_rfl) hc
  go_enter_d Tryz.func50, Tryz.ntmps50
  go_wp2
  go_end0
  go_wp2
  go_end0
  exact ⟨rfl, rfl⟩

set_option maxRecDepth 100000 in
theorem lock_free (a : Addr) (w : World) (hc : w.cell? a = some (.int .i32 0)) (hz : w.frozen? a = false) :
    Calls Tryz.prog 49 #[.pointer (some a)] w fun e w' => e = .returned (.tuple #[]) ∧ w' = w.setCell a (.int .i32 1) := by
  have hd := disable
  have he := enable
  have ha := acquire
  have hcas := run_call_cas_hit (P := Tryz.prog) Tryz.func61 (by kernel_rfl) (by kernel_rfl) (by kernel_rfl) .i32 (by kernel_rfl) (y := 1) hc hz
  have hc' : (w.setCell a (.int .i32 1)).cell? a = some (.int .i32 1) := World.cell?_setCell_same w a _ hc
  have hcv := run_convert_to_unsafe (P := Tryz.prog) (src := 151) (dst := 101) Tryz.underlying151 Tryz.underlying101 (by kernel_rfl) hc'
  go_enter Tryz.func49, Tryz.ntmps49
  go_wp2
  first | go_end0 | (simp only [Exit.inBlock, Exit.then]; refine bodyPost_ret (results_none rfl _ _ _) rfl ?_) | refine bodyPost_ret (results_none rfl _ _ _) rfl ?_
  go_wp2
  go_end0
  exact ⟨rfl, rfl⟩

set_option maxRecDepth 100000 in
set_option maxHeartbeats 1600000 in
/-- (*sync.Once).doSlow, not yet done and the lock free; what the function does is told by Q. -/
theorem doSlow_any (b : Nat) (first : Array Value) (x3 x4 : Value) (T : TypeId) (Q : World → Prop) (w : World)
    (hw : w.heap[b]? = some (.cells #[.int .u32 0, .int .i32 0, .int .u32 0, x3, x4] T (0, 0)))
    (hcall : Calls Tryz.prog 44 first (w.setCell ⟨b, 1, none⟩ (.int .i32 1)) fun e w2 => e = .returned (.tuple #[]) ∧ Q w2)
    (hQ : ∀ w2, Q w2 → ∃ y3 y4, w2.heap[b]? = some (.cells #[.int .u32 0, .int .i32 1, .int .u32 0, y3, y4] T (0, 0))) :
    Calls Tryz.prog 46 #[.pointer (some ⟨b, 0, none⟩),   .func (.func 44) first #[]] w fun e w' => e = .returned (.tuple #[]) ∧
      ∃ w2, Q w2 ∧ w' = (w2.drew.setCell ⟨b, 0, none⟩ (.int .u32 1)).setCell ⟨b, 1, none⟩ (.int .i32 0) := by
  have c0 := cell_heap (i := 0) hw
  have c1 := cell_heap (i := 1) hw
  have f1 := frozen_heap (i := 1) hw
  simp only [List.getElem?_toArray, List.getElem?_cons_zero, List.getElem?_cons_succ] at c0 c1
  have hl := run_call_load (P := Tryz.prog) Tryz.func48 (by kernel_rfl) (by kernel_rfl) (by kernel_rfl) .u32 (by kernel_rfl) (w := w.setCell ⟨b, 1, none⟩ (.int .i32 1)) (a := ⟨b, 0, none⟩) (x := 0) ((World.cell?_setCell_other _ ⟨b, 1, none⟩ ⟨b, 0, none⟩ _ (by simp)).trans c0)
  have hnot : ∀ (x : Bool) (w : World), (Op.unary .not (.bool x)).run Tryz.prog w = .ok (.bool (!x)) w := fun _ _ => rfl
  have HC := Lib.hid hcall
  have HQ := Lib.hid hQ
  clear hcall hQ
  go_enter_defers Tryz.func46, Tryz.ntmps46
  go_wp2_with (first | (go_at_call 49; refine (lock_free ⟨b, 1, none⟩ _ (by first | assumption | go_simp) (by first | assumption | go_simp)).mono ?_; rintro e w' ⟨rfl, rfl⟩) | (go_at_call 45; go_in))
  refine HC.out.mono ?_
  rintro e w2 ⟨rfl, hq⟩
  obtain ⟨y3, y4, h2⟩ := HQ.out w2 hq
  have HQ2 := Lib.hid hq
  clear hq hl c0 c1 f1 hw
  have H2 := Lib.hid h2
  clear h2
  go_wp2
  have h2 := H2.out
  have h3 := setCell_heap (i := 0) h2 (.int .u32 1)
  refine leaves_cons (f := 51) (args := #[.pointer (some ⟨b, 0, none⟩), .bool true]) (by simp) (by simp [go_sem]) ?_
  refine (store_deferred ⟨b, 0, none⟩ (.int .u32 0) .returning _ (by rw [cell_heap h2]; rfl) (frozen_heap h2)).mono ?_
  rintro e u' w'' ⟨rfl, rfl, rfl⟩
  refine leaves_cons (f := 50) (args := #[.pointer (some ⟨b, 1, none⟩)]) (by simp [settle]) (by simp [go_sem]) ?_
  refine (unlock_deferred ⟨b, 1, none⟩ _ _ (by have := setCell_heap (w := w2.drew) (i := 0) h2 (.int .u32 1); rw [cell_heap this]; rfl) (by have := setCell_heap (w := w2.drew) (i := 0) h2 (.int .u32 1); exact frozen_heap this)).mono ?_
  rintro e u' w'' ⟨rfl, rfl, rfl⟩
  simp [Leaves, settle, results, Tryz.results46]
  exact ⟨w2, HQ2, rfl⟩

set_option maxRecDepth 100000 in
set_option maxHeartbeats 1600000 in
/-- (*sync.Once).Do, not yet done. -/
theorem Do_any (b : Nat) (first : Array Value) (x3 x4 : Value) (T : TypeId) (Q : World → Prop) (w : World)
    (hw : w.heap[b]? = some (.cells #[.int .u32 0, .int .i32 0, .int .u32 0, x3, x4] T (0, 0)))
    (hcall : Calls Tryz.prog 44 first (w.setCell ⟨b, 1, none⟩ (.int .i32 1)) fun e w2 => e = .returned (.tuple #[]) ∧ Q w2)
    (hQ : ∀ w2, Q w2 → ∃ y3 y4, w2.heap[b]? = some (.cells #[.int .u32 0, .int .i32 1, .int .u32 0, y3, y4] T (0, 0))) :
    Calls Tryz.prog 43 #[.pointer (some ⟨b, 0, none⟩),   .func (.func 44) first #[]] w fun e w' => e = .returned (.tuple #[]) ∧
      ∃ w2, Q w2 ∧ w' = (w2.drew.setCell ⟨b, 0, none⟩ (.int .u32 1)).setCell ⟨b, 1, none⟩ (.int .i32 0) := by
  have c0 := cell_heap (i := 0) hw
  simp only [List.getElem?_toArray, List.getElem?_cons_zero] at c0
  have hl := run_call_load (P := Tryz.prog) Tryz.func48 (by kernel_rfl) (by kernel_rfl) (by kernel_rfl) .u32 (by kernel_rfl) (w := w) (a := ⟨b, 0, none⟩) (x := 0) c0
  have hnot : ∀ (x : Bool) (w : World), (Op.unary .not (.bool x)).run Tryz.prog w = .ok (.bool (!x)) w := fun _ _ => rfl
  have HS := Lib.hid (doSlow_any b first x3 x4 T Q w hw hcall hQ)
  clear hcall hQ hw c0
  go_enter Tryz.func43, Tryz.ntmps43
  go_wp2_with (first | (go_at_call 46; refine HS.out.mono ?_; rintro e w' ⟨rfl, hq⟩) | (go_at_call 45; go_in))
  go_end0
  exact ⟨rfl, hq⟩
end Go.Proofs.YtmnloeolacmemaaGreat
