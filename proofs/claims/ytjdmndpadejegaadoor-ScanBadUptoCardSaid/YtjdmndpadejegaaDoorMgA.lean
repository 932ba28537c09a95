/-
  General words and lemmas for walks: slices of one-cell values, runes of a string. No program is named here.
-/
import Derived.WalkKit
import Derived.BigQuiet
import Derived.Deep.QuietTactic
import Derived.WalkSpells
import Derived.WalkLawsBesides
import Derived.Lib.Hide
import Derived.Lib.OthersKept
import Derived.Maps.AppendAt
import Derived.Laws.IdiomStrings
import Derived.Laws.BytesArg
import Derived.Lib.ConvBytes
import Derived.Deep.Upon
import Derived.Lib.DecodeN
import Derived.Laws.Cover4
namespace Go.Proofs.YtjdmndpadejegaaDoor
open Go.RowKit

theorem ret_int {k : IntKind} {a b : Int} (h : a = b) : Ending.returned (.int k a) = .returned (.int k b) := by rw [h]
theorem ret_bool {a b : Bool} (h : a = b) : Ending.returned (.bool a) = .returned (.bool b) := by rw [h]

structure Sl (w : World) (a : Option Addr) (n : Nat) (xs : List Value) : Prop where
  len : n = xs.length
  cell : ∀ i, (h : i < xs.length) → ∃ b o, a = some ⟨b, o, none⟩ ∧ b < w.heap.size ∧ w.cell? ⟨b, o + i, none⟩ = some xs[i]

def RetSl (e : Ending) (w : World) (xs : List Value) : Prop := ∃ a n c, e = .returned (.slice a n c) ∧ Sl w a n xs

theorem Sl.below {w w' : World} {a : Option Addr} {n : Nat} {xs : List Value} (h : Sl w a n xs) (hb : Below w.heap.size w w') : Sl w' a n xs :=
  ⟨h.len, fun i hi => by
    obtain ⟨b, o, ha, hlt, hc⟩ := h.cell i hi
    exact ⟨b, o, ha, Nat.lt_of_lt_of_le hlt hb.size, by rw [hb.cell (p := ⟨b, o + i, none⟩) hlt]; exact hc⟩⟩

theorem Below.drewN {B : Nat} {a w : World} (h : Below B a w) (n : Nat) : Below B a (w.drewN n) := ⟨h.os, h.tape, h.output, h.size, h.block⟩

theorem Below.tr {a b c : World} (h : Below a.heap.size a b) (k : Below b.heap.size b c) : Below a.heap.size a c := h.trans (k.mono h.size)

theorem own_block {w w' : World} {base : Nat} {e : TypeId} {size : Nat} {v : Value} {n : Nat} {xs : List Value} (h : w.ownsRow base e size v n xs)
    (hk : ∀ k, v.ownBlock = some k → w'.heap[k]? = w.heap[k]?) : w'.ownsRow base e size v n xs := by
  obtain ⟨h1, h2⟩ := h
  refine ⟨h1, ?_⟩
  rcases h2 with h2 | ⟨g, cap, cur, hv, hg, hh, r⟩
  · exact Or.inl h2
  · exact Or.inr ⟨g, cap, cur, hv, hg, by rw [hk g (by rw [hv]; rfl)]; exact hh, r⟩
theorem own_sl {w : World} {base : Nat} {e : TypeId} {v : Value} {n : Nat} {xs : List Value} (h : w.ownsRow base e 1 v n xs) :
    ∃ a c, v = .slice a n c ∧ Sl w a n xs := by
  have hc := fun g hg => h.cells (g := g) hg
  have hl := h.lt
  obtain ⟨h1, h2⟩ := h
  rcases h2 with ⟨rfl, rfl⟩ | ⟨g, cap, cur, rfl, hg, hh, r⟩
  · exact ⟨none, 0, rfl, by simpa using h1.symm, fun i hi => by omega⟩
  · exact ⟨_, cap, rfl, by omega, fun i hi => ⟨g, 0, rfl, (hl g rfl).2, by
      have := hc g rfl i xs[i] (by simp)
      rw [Nat.zero_add]
      unfold Addr.add at this
      split at this
      · subst i; exact this
      · simpa using this⟩⟩

theorem setCell_heap {w : World} {b i : Nat} {c : Array Value} {e : TypeId} {fz : Nat × Nat} (h : w.heap[b]? = some (.cells c e fz)) (u : Value) :
    (w.setCell ⟨b, i, none⟩ u).heap[b]? = some (.cells (c.setIfInBounds i u) e fz) := by
  simp only [World.setCell, Array.getElem?_modify, if_true, h]
  rfl
theorem cell_heap {w : World} {b i : Nat} {c : Array Value} {e : TypeId} {fz : Nat × Nat} (h : w.heap[b]? = some (.cells c e fz)) : w.cell? ⟨b, i, none⟩ = c[i]? := by
  simp [World.cell?, h]
theorem frozen_heap {w : World} {b i : Nat} {c : Array Value} {e : TypeId} (h : w.heap[b]? = some (.cells c e (0, 0))) : w.frozen? ⟨b, i, none⟩ = false := by
  simp [World.frozen?, h]
theorem heap_lt {w : World} {b : Nat} {o : Obj} (h : w.heap[b]? = some o) : b < w.heap.size := (Array.getElem?_eq_some_iff.1 h).1

structure App (w w' : World) (v v' : Value) : Prop where
  grown : w.grownBy w' v.ownBlock
  own : v'.ownBlock = v.ownBlock ∨ ∃ g, v'.ownBlock = some g ∧ w.heap.size ≤ g
theorem App.below {w w' : World} {v v' : Value} (h : App w w' v v') {B : Nat} (hB : B ≤ w.heap.size) (hv : ∀ k, v.ownBlock = some k → B ≤ k) : Below B w w' :=
  (Below.refl B w).grown h.grown hB hv
theorem App.keep {w w' : World} {v v' : Value} (h : App w w' v v') {k : Nat} (hk : k < w.heap.size) (hne : v.ownBlock ≠ some k) : w'.heap[k]? = w.heap[k]? :=
  h.grown.block k hk (fun e => hne e.symm)
theorem App.ne {w w' : World} {v v' : Value} (h : App w w' v v') {k : Nat} (hk : k < w.heap.size) (hne : v.ownBlock ≠ some k) : v'.ownBlock ≠ some k := by
  rcases h.own with e | ⟨g, e, hg⟩
  · rw [e]; exact hne
  · rw [e]; intro e2; injection e2 with e2; omega

theorem wpList_app {P : Program} (w : World) {ops : Array Oper} {rest : List Oper} {o : Oper} {a : Act} {Q : Exit → Act → World → Prop} (hgd : o.guard = none) (s x : Operand) (t : TypeId)
    (ho : o.op = .call { callee := .builtin .append, args := #[s, x], argTypes := #[t, t] })
    (base : Nat) (e : TypeId) (i : TypeInfo) (z : Value) (size bytes : Nat) (ht : P.underlying t = some (.slice e)) (hi : P.info? e = some i) (hz : i.zero = some z)
    (hsize : i.size = size) (hby : i.bytes = bytes) (hzs : z.cells.size = size) (hsz : 0 < size)
    (v : Value) (n : Nat) (xs : List Value) (hs : a.eval s = v) (hown : w.ownsRow base e size v n xs)
    (H : Nat) (hH : w.heap.size = H) (c : Nat) (news : List Value) (hx : a.eval x = .slice (some ⟨H, 0, none⟩) 1 c) (hl : news.length = size) (h1 : ∀ u ∈ news, u.oneCell' = true)
    (hn : n + 1 ≤ 4294967296) (hbb : bytes ≤ 16384) (hbase : base ≤ w.heap.size)
    (h : ∀ v' w', w'.ownsRow base e size v' (n + 1) (xs ++ news) → App (w.alloc (.cells news.toArray e)) w' v v' → wpList P ops Q rest (a.put o.dst v') w') :
    wpList P ops Q (o :: rest) a (w.alloc (.cells news.toArray e)) := by
  subst hH
  have hb : (n + 1) * bytes ≤ 140737488355328 := Nat.le_trans (Nat.mul_le_mul hn hbb) (by decide)
  refine wpList_append_own_at _ hgd s x t ho base e i z size bytes ht hi hz hsize hby hzs hsz v n xs hs (hown.alloc _) ⟨w.heap.size, 0, none⟩ 1 c news hx (by omega) ?_ h1 (by unfold maxLen; omega) hb ?_ ?_
  · intro j u hj
    have hc : (w.alloc (.cells news.toArray e)).cell? ⟨w.heap.size, j, none⟩ = some u := by
      simp only [World.cell?]
      rw [heap_alloc_new w _]
      simpa using hj
    unfold Addr.add
    split
    · rename_i h0; subst h0; exact hc
    · simpa using hc
  · simp; omega
  · intro v' w' h2 h3 _ h5
    refine h v' w' h2 ⟨h3, ?_⟩
    rcases h5 with h5 | h5
    · exact .inl h5
    · exact .inr ⟨_, h5, Nat.le_refl _⟩

theorem width_pos (s : ByteArray) (pos : Nat) (h : pos < s.size) : 1 ≤ (Utf8.decode s pos).2 := by
  by_cases ha : (s[pos]'h).toNat < 128
  · rw [decode_ascii s pos h ha]
    exact Nat.le_refl _
  · exact (decode_high s pos h (by omega)).2

theorem decode_within (s : ByteArray) (p : Nat) (h : p < s.size) : p + (Utf8.decode s p).2 ≤ s.size := by
  simp only [Utf8.decode]
  repeat' split
  all_goals simp_all
  all_goals omega

def runesF (s : ByteArray) : Nat → Nat → List Int
  | 0, _ => []
  | f + 1, p => if p < s.size then ((Utf8.decode s p).1 : Int) :: runesF s f (p + (Utf8.decode s p).2) else []

theorem runesF_fuel (s : ByteArray) (f : Nat) : ∀ (g p : Nat), s.size - p ≤ f → s.size - p ≤ g → runesF s f p = runesF s g p := by
  induction f with
  | zero =>
    intro g p hf _
    cases g with
    | zero => rfl
    | succ g => simp only [runesF]; rw [if_neg (by omega)]
  | succ f ih =>
    intro g p hf hg
    cases g with
    | zero => simp only [runesF]; rw [if_neg (by omega)]
    | succ g =>
      simp only [runesF]
      by_cases h : p < s.size
      · have := width_pos s p h
        rw [if_pos h, if_pos h, ih g _ (by omega) (by omega)]
      · rw [if_neg h, if_neg h]

def runesAt (s : ByteArray) (p : Nat) : List Int := runesF s (s.size - p) p
def runesOf (s : ByteArray) : List Int := runesF s s.size 0

theorem runesAt_zero (s : ByteArray) : runesAt s 0 = runesOf s := rfl
theorem runesAt_step (s : ByteArray) (p : Nat) (h : p < s.size) : runesAt s p = ((Utf8.decode s p).1 : Int) :: runesAt s (p + (Utf8.decode s p).2) := by
  have hw := width_pos s p h
  unfold runesAt
  obtain ⟨f, hf⟩ : ∃ f, s.size - p = f + 1 := ⟨s.size - p - 1, by omega⟩
  rw [hf]
  simp only [runesF]
  rw [if_pos h, runesF_fuel s f (s.size - (p + (Utf8.decode s p).2)) _ (by omega) (by omega)]
theorem runesAt_end (s : ByteArray) (p : Nat) (h : ¬ p < s.size) : runesAt s p = [] := by
  unfold runesAt
  rw [show s.size - p = 0 by omega]
  rfl
theorem runesF_length (s : ByteArray) (f : Nat) : ∀ p, (runesF s f p).length ≤ f := by
  induction f with
  | zero => intro p; exact Nat.le_refl _
  | succ f ih =>
    intro p
    simp only [runesF]
    split
    · have := ih (p + (Utf8.decode s p).2); simp only [List.length_cons]; omega
    · simp
theorem runesOf_length (s : ByteArray) : (runesOf s).length ≤ s.size := runesF_length s _ 0

theorem runesFrom_eq (s : ByteArray) (f : Nat) : ∀ (p : Nat) (acc : Array Value), Conv.runesFrom s f p acc = acc ++ ((runesF s f p).map (Value.int .i32)).toArray := by
  induction f with
  | zero => intro p acc; simp [Conv.runesFrom, runesF]
  | succ f ih =>
    intro p acc
    simp only [Conv.runesFrom, runesF]
    split
    · rw [ih]; simp
    · simp

theorem Sl.keep {w w' : World} {a : Option Addr} {n : Nat} {xs : List Value} (h : Sl w a n xs) (hk : ∀ b o, a = some ⟨b, o, none⟩ → w'.heap[b]? = w.heap[b]?) : Sl w' a n xs :=
  ⟨h.len, fun i hi => by
    obtain ⟨b, o, ha, hlt, hc⟩ := h.cell i hi
    have hb := hk b o ha
    refine ⟨b, o, ha, ?_, ?_⟩
    · rw [Array.getElem?_eq_getElem hlt] at hb
      exact heap_lt hb
    · rw [World.cell?_of_block (a := ⟨b, o + i, none⟩) hb]; exact hc⟩
theorem Sl.nil (w : World) (a : Option Addr) : Sl w a 0 [] := ⟨rfl, fun i hi => absurd hi (by simp)⟩

def u8s (l : List UInt8) : List Value := l.map fun b => .int .u8 b.toNat
theorem u8s_length (l : List UInt8) : (u8s l).length = l.length := by simp [u8s]
def bytesV (s : ByteArray) : List Value := s.data.toList.map fun b => .int .u8 b.toNat
theorem bytesV_length (s : ByteArray) : (bytesV s).length = s.size := by
  unfold bytesV; rw [List.length_map, Array.length_toList]; rfl
theorem ofNat_toNat_map (l : List UInt8) : (l.map fun b => (b.toNat : Int)).map (fun n => UInt8.ofNat n.toNat) = l := by
  induction l with
  | nil => rfl
  | cons b l ih => simp only [List.map_cons, ih, Int.toNat_natCast, UInt8.ofNat_toNat]
theorem run_index_str {P : Program} (t : TypeId) (ht : P.underlying t = some .string) (s : ByteArray) (k : Nat) (o : UInt8) (h : s.data.toList[k]? = some o) (w : World) :
    (Instr.index t (.string s) (.int .i64 k)).run P w = .ok (.int .u8 o.toNat) w := by
  have hk : k < s.size := by
    have := (List.getElem?_eq_some_iff.1 h).1
    rw [Array.length_toList] at this
    exact this
  have e : s[k] = o := by
    have h2 := (List.getElem?_eq_some_iff.1 h).2
    rw [← h2]
    rfl
  simp [go_sem, ht, hk, e]
theorem run_bytes_str {P : Program} {w : World} {a : Option Addr} {n : Nat} {s : ByteArray} (h : Sl w a n (bytesV s)) (src dst e : TypeId) (hs : P.underlying src = some (.slice e)) (he : P.underlying e = some (.int .u8))
    (hd : P.underlying dst = some .string) (c : Nat) : (convert src dst (.slice a n c)).run P w = .ok (.string s) w := by
  have hlen : n = s.size := by rw [h.len, bytesV_length]
  have hl : s.data.toList.length = s.size := by rw [Array.length_toList]; rfl
  rcases a with _ | ⟨b, o, sp⟩
  · have h0 : s.data.toList = [] := by
      rcases hb : s.data.toList with _ | ⟨x, l⟩
      · rfl
      · exfalso
        obtain ⟨b, o, e, _⟩ := h.cell 0 (by rw [bytesV_length, ← hl, hb]; simp)
        cases e
    rw [run_convert_bytes_nil (P := P) w src e hs he n c dst hd]
    congr 2
    have : s.data = #[] := Array.toList_eq_nil_iff.1 h0
    cases s
    simp_all
    rfl
  · by_cases hn : n = 0
    · subst hn
      have h0 : s.data.toList = [] := by apply List.eq_nil_of_length_eq_zero; omega
      have h1 : (loadCells ⟨b, o, sp⟩ 0).run P w = .ok (([] : List Int).map (Value.int .u8)).toArray w := rfl
      rw [run_convert_bytes_string w src dst e _ 0 c hs he hd, run_bytesToString w _ 0 c [] h1]
      congr 2
      have : s.data = #[] := Array.toList_eq_nil_iff.1 h0
      cases s
      simp_all
      rfl
    · obtain ⟨b', o', e, _⟩ := h.cell 0 (by rw [bytesV_length]; omega)
      injection e with e
      injection e with e1 e2 e3
      subst e3
      rw [run_convert_bytes_arg (P := P) w src e hs he b o n c (s.data.toList.map fun b => (b.toNat : Int)) (by rw [List.length_map, hl, hlen]) (fun i hi => ?_) dst hd]
      · congr 2
        unfold strOfNums
        rw [ofNat_toNat_map]
      · obtain ⟨b', o', e, _, hc⟩ := h.cell i (by rw [bytesV_length]; omega)
        injection e with e
        injection e with e4 e5
        subst e4
        subst e5
        rw [hc]
        have hi' : i < s.data.size := by rw [← Array.length_toList]; omega
        simp only [bytesV, List.getD, List.getElem_map, List.getElem?_map, Array.getElem?_toList, Array.getElem_toList, Array.getElem?_eq_getElem hi', Option.map_some, Option.getD_some]
theorem bytesW_below (w : World) (e : TypeId) (s : ByteArray) : Below w.heap.size w (Lib.bytesWorld w e s) :=
  ⟨rfl, rfl, rfl, by rw [Lib.bytesWorld_size]; omega, fun k hk => Lib.bytesWorld_at_old w e s k hk⟩
theorem bytesW_sl (w : World) (e : TypeId) (s : ByteArray) : Sl (Lib.bytesWorld w e s) (some ⟨w.heap.size, 0, none⟩) s.size (bytesV s) :=
  ⟨(bytesV_length s).symm, fun i hi => ⟨w.heap.size, 0, rfl, by rw [Lib.bytesWorld_size]; omega, by
    have h1 : i < s.size := by rw [bytesV_length] at hi; exact hi
    have h2 : i < s.data.size := h1
    rw [Nat.zero_add, Lib.bytesWorld_cell w e s i h1]
    simp only [bytesV, List.getD, List.getElem_map, Array.getElem?_toList, Array.getElem_toList, Array.getElem?_eq_getElem h2, Option.getD_some]⟩⟩

def runesW (w : World) (e : TypeId) (s : ByteArray) : World :=
  w.drew.alloc (.cells (Conv.runesFrom s s.size 0 #[] ++ Array.replicate (grownCap w (Conv.runesFrom s s.size 0 #[]).size 0 e - (Conv.runesFrom s s.size 0 #[]).size) (.int .i32 0)) e)
def runesC (w : World) (e : TypeId) (s : ByteArray) : Nat := grownCap w (Conv.runesFrom s s.size 0 #[]).size 0 e
theorem runesFrom_size (s : ByteArray) : (Conv.runesFrom s s.size 0 #[]).size = (runesOf s).length := by
  rw [runesFrom_eq]; simp [runesOf]
theorem run_runes {P : Program} (src dst e : TypeId) (hs : P.underlying src = some .string) (hd : P.underlying dst = some (.slice e)) (he : P.underlying e = some (.int .i32))
    (w : World) (s : ByteArray) (h46 : s.size ≤ 70368744177664) :
    (convert src dst (.string s)).run P w = .ok (.slice (some ⟨w.heap.size, 0, none⟩) (runesOf s).length (runesC w e s)) (runesW w e s) := by
  have h := run_runes_of_string (P := P) w src dst e s hs hd he (by rw [runesFrom_size]; exact Nat.le_trans (runesOf_length s) h46)
  rw [h, ← runesFrom_size]
  rfl
theorem runesW_below (w : World) (e : TypeId) (s : ByteArray) : Below w.heap.size w (runesW w e s) := ((Below.refl _ w).drew).alloc (Nat.le_refl _) _
theorem runesW_size (w : World) (e : TypeId) (s : ByteArray) : (runesW w e s).heap.size = w.heap.size + 1 := by simp [runesW]
theorem runesW_sl (w : World) (e : TypeId) (s : ByteArray) : Sl (runesW w e s) (some ⟨w.heap.size, 0, none⟩) (runesOf s).length ((runesOf s).map (Value.int .i32)) :=
  ⟨by simp, fun i hi => ⟨w.heap.size, 0, rfl, by rw [runesW_size]; omega, by
    simp only [World.cell?, runesW]
    have := heap_alloc_new w.drew (.cells (Conv.runesFrom s s.size 0 #[] ++ Array.replicate (grownCap w (Conv.runesFrom s s.size 0 #[]).size 0 e - (Conv.runesFrom s s.size 0 #[]).size) (.int .i32 0)) e)
    rw [show w.drew.heap.size = w.heap.size by rfl] at this
    rw [this]
    simp only [Nat.zero_add]
    rw [Array.getElem?_append_left (by rw [runesFrom_size]; simpa using hi), runesFrom_eq]
    simp only [Option.isSome_none, Bool.false_eq_true, if_false, List.getElem_map]
    have hi' : i < (runesF s s.size 0).length := by simpa [runesOf] using hi
    simp [runesOf, hi']⟩⟩

def cmpL : List Int → List Int → Int
  | [], [] => 0
  | [], _ :: _ => -1
  | _ :: _, [] => 1
  | a :: s, b :: t => if a < b then -1 else if b < a then 1 else cmpL s t
theorem cmpL_drop (xs ys : List Int) (k : Nat) (h0 : k < xs.length) (h1 : k < ys.length) :
    cmpL (xs.drop k) (ys.drop k) = if xs[k] < ys[k] then -1 else if ys[k] < xs[k] then 1 else cmpL (xs.drop (k + 1)) (ys.drop (k + 1)) := by
  rw [List.drop_eq_getElem_cons h0, List.drop_eq_getElem_cons h1]; rfl
theorem cmpL_end (xs ys : List Int) (k : Nat) (h : ¬ (k < xs.length ∧ k < ys.length)) (hx : k ≤ xs.length) (hy : k ≤ ys.length) :
    cmpL (xs.drop k) (ys.drop k) = if xs.length < ys.length then -1 else if ys.length < xs.length then 1 else 0 := by
  by_cases h0 : k < xs.length
  · rw [List.drop_eq_getElem_cons h0, List.drop_of_length_le (l := ys) (by omega), if_neg (by omega), if_pos (by omega)]; rfl
  · rw [List.drop_of_length_le (by omega : xs.length ≤ k)]
    by_cases h1 : k < ys.length
    · rw [List.drop_eq_getElem_cons h1, if_pos (by omega)]; rfl
    · rw [List.drop_of_length_le (by omega), if_neg (by omega), if_neg (by omega)]; rfl
theorem cmpL_refl (xs : List Int) : cmpL xs xs = 0 := by
  induction xs with
  | nil => rfl
  | cons a s ih => simp [cmpL, ih]
theorem cmpL_neg (xs : List Int) : ∀ ys, cmpL ys xs = - cmpL xs ys := by
  induction xs with
  | nil => intro ys; cases ys <;> rfl
  | cons a s ih =>
    intro ys
    cases ys with
    | nil => rfl
    | cons b t =>
      simp only [cmpL]
      by_cases h : a < b
      · rw [if_neg (by omega), if_pos h, if_pos h]; rfl
      · by_cases h2 : b < a
        · rw [if_pos h2, if_neg h, if_pos h2]
        · rw [if_neg h2, if_neg h, if_neg h, if_neg h2]; exact ih t
theorem cmpL_bd (xs : List Int) : ∀ ys, -1 ≤ cmpL xs ys ∧ cmpL xs ys ≤ 1 := by
  induction xs with
  | nil => intro ys; cases ys <;> simp [cmpL]
  | cons a s ih =>
    intro ys
    cases ys with
    | nil => simp [cmpL]
    | cons b t =>
      simp only [cmpL]
      split
      · omega
      · split
        · omega
        · exact ih t
end Go.Proofs.YtjdmndpadejegaaDoor

namespace Go.Proofs.YtjdmndpadejegaaDoor
open Go.RowKit

def strL (l : List UInt8) : ByteArray := ⟨l.toArray⟩
theorem strL_size (l : List UInt8) : (strL l).size = l.length := by simp [strL, ByteArray.size]
theorem strL_data (l : List UInt8) : (strL l).data.toList = l := by simp [strL]
theorem strL_of (s : ByteArray) : strL s.data.toList = s := by
  apply ByteArray.ext
  simp [strL]
theorem strL_add (l m : List UInt8) : strL l ++ strL m = strL (l ++ m) := by
  apply ByteArray.ext
  simp [strL]
theorem run_catL {P : Program} (a b : List UInt8) (h : a.length + b.length ≤ 9223372036854775807) (w : World) : (Op.stringOp .add (strL a) (strL b)).run P w = .ok (.string (strL (a ++ b))) w := by
  rw [run_string_add_sum (P := P) w _ _ (by rw [strL_size, strL_size]; omega), strL_add]

def AttrsAt (w : World) (a : Option Addr) (n : Nat) (ats : List (List UInt8 × List UInt8)) : Prop :=
  n = ats.length ∧ ∀ i, (h : i < ats.length) → ∃ b o, a = some ⟨b, o, none⟩ ∧ b < w.heap.size ∧ w.cell? ⟨b, o + i * 2, none⟩ = some (.string (strL ats[i].1)) ∧ w.cell? ⟨b, o + i * 2 + 1, none⟩ = some (.string (strL ats[i].2))
theorem AttrsAt.below {w w' : World} {a : Option Addr} {n : Nat} {ats : List (List UInt8 × List UInt8)} (h : AttrsAt w a n ats) (hb : Below w.heap.size w w') : AttrsAt w' a n ats :=
  ⟨h.1, fun i hi => by
    obtain ⟨b, o, e, hlt, h1, h2⟩ := h.2 i hi
    exact ⟨b, o, e, Nat.lt_of_lt_of_le hlt hb.size, (hb.cell (p := ⟨b, o + i * 2, none⟩) hlt).trans h1, (hb.cell (p := ⟨b, o + i * 2 + 1, none⟩) hlt).trans h2⟩⟩
end Go.Proofs.YtjdmndpadejegaaDoor

namespace Go.Proofs.YtjdmndpadejegaaDoor
open Go.RowKit

structure Kp (S : Nat → Prop) (w w' : World) : Prop where
  os : w'.os = w.os
  tape : w'.tape = w.tape
  output : w'.output = w.output
  size : w.heap.size ≤ w'.heap.size
  block : ∀ k, k < w.heap.size → ¬ S k → w'.heap[k]? = w.heap[k]?
section
variable {S S' : Nat → Prop} {w w1 w2 : World}
theorem Kp.refl (S : Nat → Prop) (w : World) : Kp S w w := ⟨rfl, rfl, rfl, Nat.le_refl _, fun _ _ _ => rfl⟩
theorem Kp.mono (h : Kp S w w1) (hs : ∀ k, k < w.heap.size → S k → S' k) : Kp S' w w1 := ⟨h.os, h.tape, h.output, h.size, fun k hk hn => h.block k hk fun e => hn (hs k hk e)⟩
theorem Kp.trans (h : Kp S w w1) (k : Kp S' w1 w2) (hs : ∀ k, S' k → S k ∨ w.heap.size ≤ k) : Kp S w w2 :=
  ⟨k.os.trans h.os, k.tape.trans h.tape, k.output.trans h.output, Nat.le_trans h.size k.size, fun i hi hn => (k.block i (Nat.lt_of_lt_of_le hi h.size) (fun e => by rcases hs i e with e | e; exact hn e; omega)).trans (h.block i hi hn)⟩
theorem Kp.of (h : Below w.heap.size w w1) : Kp S w w1 := ⟨h.os, h.tape, h.output, h.size, fun k hk _ => h.block k hk⟩
theorem Kp.on (h : Kp S w w1) (k : Below w1.heap.size w1 w2) : Kp S w w2 := h.trans (S' := fun _ => False) (Kp.of k) fun _ e => e.elim
theorem Kp.set (h : Kp S w w1) {b : Nat} (hb : S b ∨ w.heap.size ≤ b) (i : Nat) (u : Value) : Kp S w (w1.setCell ⟨b, i, none⟩ u) :=
  ⟨h.os, h.tape, h.output, by simp [World.setCell]; exact h.size, fun k hk hn => (Below.heap_setCell _ _ _ _ (fun e => by have e' : k = b := e; subst e'; rcases hb with e | e; exact hn e; omega)).trans (h.block k hk hn)⟩
theorem Kp.drew (h : Kp S w w1) : Kp S w w1.drew := ⟨h.os, h.tape, h.output, h.size, h.block⟩
theorem Kp.drewN (h : Kp S w w1) (n : Nat) : Kp S w (w1.drewN n) := ⟨h.os, h.tape, h.output, h.size, h.block⟩
theorem Kp.alloc (h : Kp S w w1) (o : Obj) : Kp S w (w1.alloc o) := h.on ((Below.refl _ _).alloc (Nat.le_refl _) o)
theorem Kp.grown (h : Kp S w w1) {row : Option Nat} (hg : w1.grownBy w2 row) (hr : ∀ k, row = some k → S k ∨ w.heap.size ≤ k) : Kp S w w2 :=
  h.trans (S' := fun k => row = some k) ⟨hg.os, hg.tape, hg.output, hg.size, fun k hk hn => hg.block k hk fun e => hn e.symm⟩ hr
theorem Kp.below {B : Nat} (h : Kp S w w1) (hB : B ≤ w.heap.size) (hS : ∀ k, S k → B ≤ k) : Below B w w1 := ⟨h.os, h.tape, h.output, h.size, fun k hk => h.block k (by omega) fun e => by have := hS k e; omega⟩
theorem Kp.cell (h : Kp S w w1) {p : Addr} (hp : p.block < w.heap.size) (hn : ¬ S p.block) : w1.cell? p = w.cell? p := World.cell?_of_block (h.block p.block hp hn)
theorem Kp.heap (h : Kp S w w1) {b : Nat} {o : Obj} (hb : w.heap[b]? = some o) (hn : ¬ S b) : w1.heap[b]? = some o := (h.block b (heap_lt hb) hn).trans hb
theorem Kp.sl (h : Kp S w w1) {a : Option Addr} {n : Nat} {xs : List Value} (hs : Sl w a n xs) (hn : ∀ b o, a = some ⟨b, o, none⟩ → ¬ S b) : Sl w1 a n xs :=
  ⟨hs.len, fun i hi => by
    obtain ⟨b, o, ha, hlt, hc⟩ := hs.cell i hi
    exact ⟨b, o, ha, Nat.lt_of_lt_of_le hlt h.size, (h.cell (p := ⟨b, o + i, none⟩) hlt (hn b o ha)).trans hc⟩⟩
theorem Kp.own (h : Kp S w w1) {base : Nat} {e : TypeId} {size : Nat} {v : Value} {n : Nat} {xs : List Value} (ho : w.ownsRow base e size v n xs) (hn : ∀ k, v.ownBlock = some k → ¬ S k) : w1.ownsRow base e size v n xs :=
  own_block ho fun k hk => h.block k (ho.lt k hk).2 (hn k hk)
end
end Go.Proofs.YtjdmndpadejegaaDoor

namespace Go.Proofs.YtjdmndpadejegaaDoor

def chr (r : Nat) : Prop := r < 55296 ∨ (57344 ≤ r ∧ r ≤ 1114111)
def encN (r : Nat) : List Nat :=
  if r < 128 then [r]
  else if r < 2048 then [192 + r / 64, 128 + r % 64]
  else if r < 65536 then [224 + r / 4096, 128 + r / 64 % 64, 128 + r % 64]
  else [240 + r / 262144, 128 + r / 4096 % 64, 128 + r / 64 % 64, 128 + r % 64]

def natLess : List Nat → List Nat → Bool
  | _, [] => false
  | [], _ :: _ => true
  | a :: x, b :: y => decide (a < b) || (a == b && natLess x y)
theorem bytesLess_nat : ∀ l m : List UInt8, Op.bytesLess l m = natLess (l.map UInt8.toNat) (m.map UInt8.toNat)
  | _, [] => by unfold Op.bytesLess; simp [natLess]
  | [], b :: y => by simp [Op.bytesLess, natLess]
  | a :: x, b :: y => by
    simp only [Op.bytesLess, List.map_cons, natLess, bytesLess_nat x y]
    congr 1
    have : (a == b) = (a.toNat == b.toNat) := by rw [Bool.eq_iff_iff]; simp [UInt8.toNat_inj]
    rw [this]
theorem natLess_app (p x y : List Nat) : natLess (p ++ x) (p ++ y) = natLess x y := by
  induction p with
  | nil => rfl
  | cons a p ih => simp [natLess, ih]
theorem natLess_nil (x : List Nat) : natLess x [] = false := by cases x <;> rfl

set_option maxHeartbeats 1000000 in
theorem encN_lt (r q : Nat) (x y : List Nat) (h : r < q) : natLess (encN r ++ x) (encN q ++ y) = true := by
  unfold encN
  repeat' split
  all_goals (try (exfalso; omega))
  all_goals simp only [List.cons_append, List.nil_append, natLess, Bool.or_eq_true, Bool.and_eq_true, decide_eq_true_eq, beq_iff_eq]
  all_goals omega
set_option maxHeartbeats 1000000 in
theorem encN_gt (r q : Nat) (x y : List Nat) (h : r < q) : natLess (encN q ++ y) (encN r ++ x) = false := by
  unfold encN
  repeat' split
  all_goals (try (exfalso; omega))
  all_goals simp only [List.cons_append, List.nil_append, natLess, Bool.or_eq_false_iff, Bool.and_eq_false_iff, decide_eq_false_iff_not, beq_eq_false_iff_ne]
  all_goals omega

def bytesN (s : ByteArray) (p : Nat) : List Nat := (s.data.toList.drop p).map UInt8.toNat
theorem len_data (s : ByteArray) : s.data.toList.length = s.size := by rw [Array.length_toList]; rfl
theorem get_nat (s : ByteArray) (p : Nat) (h : p < s.size) : (bytesN s p) = (s.get! p).toNat :: bytesN s (p + 1) := by
  have hl : p < s.data.toList.length := by rw [len_data]; exact h
  unfold bytesN
  rw [List.drop_eq_getElem_cons hl, List.map_cons]
  have e : s.get! p = s.data.toList[p] := by
    rw [show s.get! p = s.get! (p + 0) by rfl, get_at s p h]
    rfl
  rw [e]
theorem bytesN_end (s : ByteArray) (p : Nat) (h : ¬ p < s.size) : bytesN s p = [] := by
  unfold bytesN
  rw [List.drop_of_length_le (by rw [len_data]; omega)]
  rfl
theorem byte_lt (s : ByteArray) (p : Nat) : (s.get! p).toNat < 256 := (s.get! p).toNat_lt

set_option maxHeartbeats 2000000 in
theorem decode_good (s : ByteArray) (p : Nat) (h : p < s.size) (hg : ¬ ((Utf8.decode s p).1 = 65533 ∧ (Utf8.decode s p).2 = 1)) :
    chr (Utf8.decode s p).1 ∧ bytesN s p = encN (Utf8.decode s p).1 ++ bytesN s (p + (Utf8.decode s p).2) := by
  have h0 := byte_lt s p
  have h1 := byte_lt s (p + 1)
  have h2 := byte_lt s (p + 2)
  have h3 := byte_lt s (p + 3)
  have g0 := get_nat s p h
  have g1 := get_nat s (p + 1)
  have g2 := get_nat s (p + 2)
  have g3 := get_nat s (p + 3)
  rw [Lib.decode_at] at hg ⊢
  generalize (s.get! p).toNat = b0 at *
  generalize (s.get! (p + 1)).toNat = b1 at *
  generalize (s.get! (p + 2)).toNat = b2 at *
  generalize (s.get! (p + 3)).toNat = b3 at *
  unfold Lib.decodeN at hg ⊢
  unfold chr
  split
  · refine ⟨by simp only; omega, ?_⟩
    simp only [encN]
    rw [if_pos (by assumption), g0]
    rfl
  · split
    · split
      · refine ⟨by simp only; omega, ?_⟩
        simp only [encN]
        rw [if_neg (by omega), if_pos (by omega), g0, g1 (by omega)]
        simp only [List.cons_append, List.nil_append, List.cons.injEq]
        exact ⟨by omega, by omega, trivial⟩
      · rename_i a b c; rw [if_neg a, if_pos b, if_neg c] at hg; simp at hg
    · split
      · split
        · refine ⟨by simp only; omega, ?_⟩
          simp only [encN]
          rw [if_neg (by omega), if_neg (by omega), if_pos (by omega), g0, g1 (by omega), g2 (by omega)]
          simp only [List.cons_append, List.nil_append, List.cons.injEq]
          exact ⟨by omega, by omega, by omega, trivial⟩
        · rename_i a b c d; rw [if_neg a, if_neg b, if_pos c, if_neg d] at hg; simp at hg
      · split
        · split
          · refine ⟨by simp only; omega, ?_⟩
            simp only [encN]
            rw [if_neg (by omega), if_neg (by omega), if_neg (by omega), g0, g1 (by omega), g2 (by omega), g3 (by omega)]
            simp only [List.cons_append, List.nil_append, List.cons.injEq]
            exact ⟨by omega, by omega, by omega, by omega, trivial⟩
          · rename_i a b c d e; rw [if_neg a, if_neg b, if_neg c, if_pos d, if_neg e] at hg; simp at hg
        · rename_i a b c d; rw [if_neg a, if_neg b, if_neg c, if_neg d] at hg; simp at hg
end Go.Proofs.YtjdmndpadejegaaDoor

namespace Go.Proofs.YtjdmndpadejegaaDoor
open Go.RowKit

def decL (l : List UInt8) : Nat × Nat := Lib.decodeN l.length (l.getD 0 0).toNat (l.getD 1 0).toNat (l.getD 2 0).toNat (l.getD 3 0).toNat
theorem get_drop (s : ByteArray) (p k : Nat) : s.get! (p + k) = (s.data.toList.drop p).getD k 0 := by
  rw [List.getD_eq_getElem?_getD, List.getElem?_drop, Array.getElem?_toList]
  show s.data[p + k]! = _
  rw [getElem!_def]
  rcases s.data[p + k]? with _ | v <;> rfl
theorem decode_drop (s : ByteArray) (p : Nat) : Utf8.decode s p = decL (s.data.toList.drop p) := by
  rw [Lib.decode_at]
  unfold decL
  rw [← get_drop, ← get_drop, ← get_drop, ← get_drop, List.length_drop, Array.length_toList]
  rfl

def encU (r : Nat) : List UInt8 := (encN r).map UInt8.ofNat
theorem encN_byte (r : Nat) (h : r ≤ 1114111) : ∀ x ∈ encN r, x < 256 := by
  unfold encN
  intro x hx
  repeat' split at hx
  all_goals simp only [List.mem_cons, List.not_mem_nil, or_false] at hx
  all_goals omega
theorem encN_ne (r : Nat) : 1 ≤ (encN r).length ∧ (encN r).length ≤ 4 := by
  unfold encN
  repeat' split
  all_goals simp
theorem chr_le {r : Nat} (h : chr r) : r ≤ 1114111 := by unfold chr at h; omega
theorem toNat_of (x : Nat) (h : x < 256) : (UInt8.ofNat x).toNat = x := by
  rw [UInt8.toNat_ofNat']; omega

set_option maxHeartbeats 1000000 in
theorem dec_enc (r : Nat) (h : chr r) (x : List UInt8) : decL (encU r ++ x) = (r, (encN r).length) := by
  unfold chr at h
  unfold decL encU encN
  by_cases h1 : r < 128
  · rw [if_pos h1]
    simp only [List.map_cons, List.map_nil, List.cons_append, List.nil_append, List.getD_cons_zero, List.length_cons, List.length_nil]
    rw [toNat_of r (by omega)]
    unfold Lib.decodeN
    rw [if_pos h1]
  · rw [if_neg h1]
    by_cases h2 : r < 2048
    · rw [if_pos h2]
      simp only [List.map_cons, List.map_nil, List.cons_append, List.nil_append, List.getD_cons_zero, List.getD_cons_succ, List.length_cons, List.length_nil]
      rw [toNat_of (192 + r / 64) (by omega), toNat_of (128 + r % 64) (by omega)]
      unfold Lib.decodeN
      rw [if_neg (by omega), if_pos (by omega), if_pos (by omega)]
      congr 1; omega
    · rw [if_neg h2]
      by_cases h3 : r < 65536
      · rw [if_pos h3]
        simp only [List.map_cons, List.map_nil, List.cons_append, List.nil_append, List.getD_cons_zero, List.getD_cons_succ, List.length_cons, List.length_nil]
        rw [toNat_of (224 + r / 4096) (by omega), toNat_of (128 + r / 64 % 64) (by omega), toNat_of (128 + r % 64) (by omega)]
        unfold Lib.decodeN
        rw [if_neg (by omega), if_neg (by omega), if_pos (by omega), if_pos (by omega)]
        congr 1; omega
      · rw [if_neg h3]
        simp only [List.map_cons, List.map_nil, List.cons_append, List.nil_append, List.getD_cons_zero, List.getD_cons_succ, List.length_cons, List.length_nil]
        rw [toNat_of (240 + r / 262144) (by omega), toNat_of (128 + r / 4096 % 64) (by omega), toNat_of (128 + r / 64 % 64) (by omega), toNat_of (128 + r % 64) (by omega)]
        unfold Lib.decodeN
        rw [if_neg (by omega), if_neg (by omega), if_neg (by omega), if_pos (by omega), if_pos (by omega)]
        congr 1; omega

def strU (l : List UInt8) : ByteArray := ⟨l.toArray⟩
theorem strU_data (l : List UInt8) : (strU l).data.toList = l := by simp [strU]
theorem strU_size (l : List UInt8) : (strU l).size = l.length := by simp [strU, ByteArray.size]
theorem decL_str (l : List UInt8) (p : Nat) : decL (l.drop p) = Utf8.decode (strU l) p := by rw [decode_drop, strU_data]
theorem map_of_to (l : List UInt8) : (l.map UInt8.toNat).map UInt8.ofNat = l := by
  induction l with
  | nil => rfl
  | cons b l ih => simp only [List.map_cons, ih, UInt8.ofNat_toNat]

theorem dec_inv (l : List UInt8) (h : l ≠ []) : (chr (decL l).1 ∧ l = encU (decL l).1 ++ l.drop (decL l).2 ∧ (decL l).2 = (encN (decL l).1).length) ∨ decL l = (65533, 1) := by
  have hp : 0 < (strU l).size := by rw [strU_size]; exact List.length_pos_iff.2 h
  have e0 : decL l = Utf8.decode (strU l) 0 := by rw [← decL_str, List.drop_zero]
  by_cases hg : (Utf8.decode (strU l) 0).1 = 65533 ∧ (Utf8.decode (strU l) 0).2 = 1
  · right; rw [e0]; exact Prod.ext hg.1 hg.2
  · left
    obtain ⟨h1, h2⟩ := decode_good (strU l) 0 hp hg
    have hw := decode_within (strU l) 0 hp
    rw [← e0] at h1 h2 hw
    refine ⟨h1, ?_, ?_⟩
    · unfold bytesN at h2
      rw [strU_data, List.drop_zero, Nat.zero_add] at h2
      have h3 := congrArg (List.map UInt8.ofNat) h2
      rw [List.map_append, map_of_to, map_of_to] at h3
      exact h3
    · unfold bytesN at h2
      have h3 := congrArg List.length h2
      rw [strU_data] at h3
      simp only [List.length_append, List.length_map, List.length_drop] at h3
      rw [strU_size] at hw
      omega
theorem dec_pos (l : List UInt8) (h : l ≠ []) : 1 ≤ (decL l).2 := by
  rcases dec_inv l h with ⟨_, _, h⟩ | h
  · rw [h]; exact (encN_ne _).1
  · rw [h]; exact Nat.le_refl _

def mendF : Nat → List UInt8 → List UInt8
  | 0, _ => []
  | f + 1, l => if l = [] then [] else encU (decL l).1 ++ mendF f (l.drop (decL l).2)
theorem mendF_fuel (f : Nat) : ∀ (g : Nat) (l : List UInt8), l.length ≤ f → l.length ≤ g → mendF f l = mendF g l := by
  induction f with
  | zero =>
    intro g l hf _
    obtain rfl : l = [] := List.eq_nil_of_length_eq_zero (by omega)
    cases g <;> rfl
  | succ f ih =>
    intro g l hf hg
    by_cases h : l = []
    · subst h; cases g <;> rfl
    · have hl := List.length_pos_iff.2 h
      obtain ⟨g, rfl⟩ : ∃ k, g = k + 1 := ⟨g - 1, by omega⟩
      have := dec_pos l h
      simp only [mendF]
      rw [if_neg h, if_neg h, ih g _ (by rw [List.length_drop]; omega) (by rw [List.length_drop]; omega)]
def mendL (l : List UInt8) : List UInt8 := mendF l.length l
theorem mendL_step (l : List UInt8) (h : l ≠ []) : mendL l = encU (decL l).1 ++ mendL (l.drop (decL l).2) := by
  have hl := List.length_pos_iff.2 h
  have := dec_pos l h
  unfold mendL
  obtain ⟨f, hf⟩ : ∃ f, l.length = f + 1 := ⟨l.length - 1, by omega⟩
  rw [hf]
  simp only [mendF]
  rw [if_neg h, mendF_fuel f (l.drop (decL l).2).length _ (by rw [List.length_drop]; omega) (Nat.le_refl _)]
theorem mendL_nil : mendL [] = [] := rfl
theorem mendL_enc (r : Nat) (h : chr r) (x : List UInt8) : mendL (encU r ++ x) = encU r ++ mendL x := by
  have hne : encU r ++ x ≠ [] := by
    have := (encN_ne r).1
    intro e
    have h3 : (encU r ++ x).length = 0 := by rw [e]; rfl
    rw [List.length_append, encU, List.length_map] at h3
    omega
  rw [mendL_step _ hne, dec_enc r h]
  congr 2
  rw [List.drop_append_of_le_length (by simp [encU]), List.drop_of_length_le (by simp [encU]), List.nil_append]
theorem mendL_bad (b : UInt8) (x : List UInt8) (h : ∀ r y, chr r → b :: x ≠ encU r ++ y) : mendL (b :: x) = [239, 191, 189] ++ mendL x := by
  rw [mendL_step _ (by simp)]
  rcases dec_inv (b :: x) (by simp) with ⟨h1, h2, _⟩ | h1
  · exact absurd h2 (h _ _ h1)
  · rw [h1]
    rfl

theorem encU_low (b : UInt8) (h : b.toNat < 128) : encU b.toNat = [b] := by
  unfold encU encN; rw [if_pos h]; simp
theorem encN_high (r : Nat) (h : 128 ≤ r) (h2 : r ≤ 1114111) : ∀ x ∈ encN r, 128 ≤ x := by
  unfold encN
  intro x hx
  repeat' split at hx
  all_goals simp only [List.mem_cons, List.not_mem_nil, or_false] at hx
  all_goals omega
theorem encU_high (r : Nat) (h : 128 ≤ r) (h2 : chr r) : ∀ b ∈ encU r, 128 ≤ b.toNat := by
  intro b hb
  obtain ⟨x, hx, rfl⟩ := List.mem_map.1 hb
  rw [toNat_of x (encN_byte r (chr_le h2) x hx)]
  exact encN_high r h (chr_le h2) x hx
theorem mendL_asc (t x : List UInt8) (h : ∀ d ∈ t, d.toNat < 128) : mendL (t ++ x) = t ++ mendL x := by
  induction t with
  | nil => rfl
  | cons d t ih =>
    have hd := h d (by simp)
    have e := mendL_enc d.toNat (.inl (by omega)) (t ++ x)
    rw [encU_low d hd] at e
    rw [List.cons_append, show d :: (t ++ x) = [d] ++ (t ++ x) by rfl, e, ih (fun y hy => h y (by simp [hy]))]
    rfl
theorem all_bytes {p : UInt8 → Prop} (h : ∀ n : Fin 256, p (UInt8.ofNat n)) (b : UInt8) : p b := by
  have := h ⟨b.toNat, b.toNat_lt⟩
  simpa using this
theorem enc_model (r : Nat) (h : chr r) : (Utf8.encode (r : Int)).data.toList = encU r := by
  have hv : Utf8.valid (r : Int) = true := by
    unfold Utf8.valid chr at *
    simp only [Bool.or_eq_true, Bool.and_eq_true, decide_eq_true_eq]
    omega
  unfold Utf8.encode encU encN
  simp only [hv, if_true, Int.toNat_natCast]
  repeat' split
  all_goals rfl
theorem dec_chr (l : List UInt8) (h : l ≠ []) : chr (decL l).1 := by
  rcases dec_inv l h with ⟨h, _⟩ | h
  · exact h
  · rw [h]; unfold chr; omega
theorem runesBytes_data (ns : List Int) : ∀ s : ByteArray, (ns.foldl (fun r n => r ++ Utf8.encode n) s).data.toList = s.data.toList ++ ns.flatMap fun n => (Utf8.encode n).data.toList := by
  induction ns with
  | nil => intro s; simp
  | cons n ns ih => intro s; simp only [List.foldl_cons, ih, List.flatMap_cons]; simp
theorem runes_mend (s : ByteArray) : ∀ (f p : Nat), ((runesF s f p).flatMap fun n => (Utf8.encode n).data.toList) = mendF f (s.data.toList.drop p) := by
  intro f
  induction f with
  | zero => intro p; rfl
  | succ f ih =>
    intro p
    simp only [runesF, mendF]
    by_cases h : p < s.size
    · have hne : s.data.toList.drop p ≠ [] := by
        intro e
        have := congrArg List.length e
        rw [List.length_drop, Array.length_toList] at this
        have h2 : s.data.size = s.size := rfl
        simp at this; omega
      rw [if_pos h, if_neg hne, List.flatMap_cons, ih, decode_drop, enc_model _ (dec_chr _ hne), List.drop_drop]
    · have he : s.data.toList.drop p = [] := List.drop_of_length_le (by rw [Array.length_toList]; exact Nat.le_of_not_lt h)
      rw [if_neg h, if_pos he]
      rfl
theorem mend_model (l : List UInt8) : (runesBytes (runesOf (strU l))) = strU (mendL l) := by
  apply ByteArray.ext
  have h := runesBytes_data (runesOf (strU l)) ByteArray.empty
  unfold runesBytes runesOf at *
  rw [runes_mend] at h
  rw [strU_data, List.drop_zero, strU_size] at h
  rw [← Array.toList_inj, strU_data]
  rw [strU_size]
  simpa [mendL] using h
theorem mendL_len (n : Nat) : ∀ l : List UInt8, l.length ≤ n → (mendL l).length ≤ 4 * l.length := by
  induction n with
  | zero =>
    intro l h
    obtain rfl : l = [] := List.eq_nil_of_length_eq_zero (by omega)
    simp [mendL_nil]
  | succ n ih =>
    intro l h
    by_cases h0 : l = []
    · subst h0; simp [mendL_nil]
    · have hl := List.length_pos_iff.2 h0
      have hp := dec_pos l h0
      have h4 := (encN_ne (decL l).1).2
      rw [mendL_step l h0]
      have := ih (l.drop (decL l).2) (by rw [List.length_drop]; omega)
      simp only [List.length_append, encU, List.length_map, List.length_drop] at *
      omega
end Go.Proofs.YtjdmndpadejegaaDoor
