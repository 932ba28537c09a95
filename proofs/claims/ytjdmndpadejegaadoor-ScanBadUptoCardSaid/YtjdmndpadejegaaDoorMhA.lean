/-
  append of one element, as a step of a region that draws; the last one left out. No program is named here.
-/
import Derived.Test.YtjdmndpadejegaaDoorMgV
import Derived.Deep.RegionLaw
import Derived.Test.YtjdmndpadejegaaDoorMgZC
import Derived.BigRegion
import Derived.Deep.RegionHeld3
import Derived.Test.YtjdmndpadejegaaDoorMgU
namespace Go.Proofs.YtjdmndpadejegaaDoor
open Go.RowKit

theorem step_qapp {P : Program} {ops : Array Oper} {o : Oper} {a : Act} {w : World} {K : Act → World → Prop} {Q : Exit → Act → World → Prop} {E : Prop} (hgd : o.guard = none) (s x : Operand) (t : TypeId)
    (ho : o.op = .call { callee := .builtin .append, args := #[s, x], argTypes := #[t, t] })
    (e : TypeId) (i : TypeInfo) (z : Value) (size bytes : Nat) (ht : P.underlying t = some (.slice e)) (hi : P.info? e = some i) (hz : i.zero = some z)
    (hsize : i.size = size) (hby : i.bytes = bytes) (hzs : z.cells.size = size) (hsz : 0 < size)
    (v : Value) (n : Nat) (xs : List Value) (hs : a.eval s = v) (hown : QRow w e size v n xs)
    (H : Nat) (c : Nat) (news : List Value) (hx : a.eval x = .slice (some ⟨H, 0, none⟩) 1 c) (hnew : w.heap[H]? = some (.cells news.toArray e (0, 0))) (hl : news.length = size) (h1 : ∀ u ∈ news, u.oneCell' = true)
    (hn : n + 1 ≤ 4294967296) (hbb : bytes ≤ 16384)
    (h : ∀ v' w', QRow w' e size v' (n + 1) (xs ++ news) → App w w' v v' → K (a.put o.dst v') w') :
    if Region.wanted o (yielded ops a.tmps) = true then Oper.wp P o a w K Q else E := by
  have hw : Region.wanted o (yielded ops a.tmps) = true := by simp [Region.wanted, hgd]
  rw [if_pos hw]
  have hb : (n + 1) * bytes ≤ 140737488355328 := Nat.le_trans (Nat.mul_le_mul hn hbb) (by decide)
  obtain ⟨v', w', hr, r1, r2, r3⟩ := run_qappend (P := P) (w := w) t o.type i z bytes ht hi hz hsize hby hzs hsz hown ⟨H, 0, none⟩ c news (by omega) (by
    intro j u hj
    have hc : w.cell? ⟨H, j, none⟩ = some u := by rw [cell_heap hnew]; simpa using hj
    unfold Addr.add
    split
    · rename_i h0; subst h0; exact hc
    · simpa using hc) h1 (by unfold maxLen; omega) hb
  unfold Oper.wp execOp
  simp only [ho, resolve, invoke, builtin, Sem.run_bind, Sem.run_pure, Result.andThen_ok, List.map_toArray, List.map_cons, List.map_nil, hs, hx, hr]
  exact h v' w' r1 ⟨r2, r3⟩
theorem QRow.pop {w : World} {e : TypeId} {size n : Nat} {a : Option Addr} {c : Nat} {xs ys : List Value} (h : QRow w e size (.slice a (n + 1) c) (n + 1) (xs ++ ys)) (hx : xs.length = n * size) : QRow w e size (.slice a n c) n xs := by
  obtain ⟨h1, h2⟩ := h
  rcases h2 with ⟨A, h0, h2⟩ | ⟨g', off', cap', cur, hv, hh, h5, h6, h7, h8⟩
  · omega
  · cases hv
    refine ⟨hx, .inr ⟨g', off', c, cur, rfl, hh, by omega, h6, h7, ?_⟩⟩
    have h3 : ((cur.toList.drop off').take ((n + 1) * size)).take (n * size) = (xs ++ ys).take (n * size) := by rw [h8]
    rw [List.take_take, Nat.min_eq_left (Nat.mul_le_mul_right _ (by omega))] at h3
    rw [h3, ← hx, List.take_left']
    rfl
end Go.Proofs.YtjdmndpadejegaaDoor

namespace Go.Proofs.YtjdmndpadejegaaDoor
open Go.RowKit

def tkRow (all : List UInt8) (l : List (TokP × Value)) : List Value := l.flatMap fun x => (tkV x.1.kind x.1.name x.2 (encs x.1.text) (PLof all x.1.frm) (PLof all x.1.fin)).toList
theorem tkRow_len (all : List UInt8) (l : List (TokP × Value)) : (tkRow all l).length = l.length * 12 := by
  induction l with
  | nil => rfl
  | cons x l ih =>
    have e : tkRow all (x :: l) = (tkV x.1.kind x.1.name x.2 (encs x.1.text) (PLof all x.1.frm) (PLof all x.1.fin)).toList ++ tkRow all l := rfl
    rw [e, List.length_append, ih, List.length_cons, show (tkV x.1.kind x.1.name x.2 (encs x.1.text) (PLof all x.1.frm) (PLof all x.1.fin)).toList.length = 12 from rfl]
    omega
theorem tkRow_app (all : List UInt8) (l : List (TokP × Value)) (x : TokP × Value) : tkRow all (l ++ [x]) = tkRow all l ++ (tkV x.1.kind x.1.name x.2 (encs x.1.text) (PLof all x.1.frm) (PLof all x.1.fin)).toList := by simp [tkRow]
def stRow (l : List (List UInt8)) : List Value := l.map fun q => .string (strL q)
def runC (tv : Value) (how : Nat) (p : Pl) (ov : Value) (inn : Nat) : Array Value := #[tv, .int .i64 how, .int .i64 p.byte, .int .i64 p.rune, .int .i64 p.line, .int .i64 p.col, ov, .int .i64 inn]
def AvAt (w : World) (rb : Nat) (tv ov : Value) (fr : Nat → Prop) (x : TokP × Value) : Prop :=
  ∃ a c, x.2 = .slice a x.1.attrs.length c ∧ AtsR w a x.1.attrs ∧ ∀ k, x.2.ownBlock = some k → fr k ∧ k ≠ rb ∧ tv.ownBlock ≠ some k ∧ ov.ownBlock ≠ some k
structure RunAt (G : Nat) (w : World) (rb : Nat) (all : List UInt8) (tks : List (TokP × Value)) (stk : List (List UInt8)) (inn : Nat) (how : Nat) (p : Pl) (fr : Nat → Prop) : Prop where
  at' : ∃ tv ov, w.heap[rb]? = some (.cells (runC tv how p ov inn) 61 (0, 0)) ∧ QRow w 41 12 tv tks.length (tkRow all tks) ∧ QRow w 9 1 ov stk.length (stRow stk) ∧ (∀ k, tv.ownBlock = some k → fr k ∧ k ≠ rb) ∧ (∀ k, ov.ownBlock = some k → fr k ∧ k ≠ rb ∧ tv.ownBlock ≠ some k) ∧ ∀ x ∈ tks, AvAt w rb tv ov fr x
  mem : fr rb
  dom : ∀ k, fr k → G ≤ k ∧ k < w.heap.size
section
variable {G : Nat} {w w' : World} {rb : Nat} {all : List UInt8} {tks : List (TokP × Value)} {stk : List (List UInt8)} {inn how : Nat} {p : Pl} {fr : Nat → Prop} {tv ov : Value} {x : TokP × Value}
theorem AtsR.keepB {a : Option Addr} {ats : List (List UInt8 × List Nat)} (h : AtsR w a ats) (hs : w.heap.size ≤ w'.heap.size) (hk : ∀ b o, a = some ⟨b, o, none⟩ → w'.heap[b]? = w.heap[b]?) : AtsR w' a ats := fun i hi => by
  obtain ⟨b, o, h1, h2, h3, h4⟩ := h i hi
  exact ⟨b, o, h1, Nat.lt_of_lt_of_le h2 hs, (World.cell?_of_block (a := ⟨b, o + i * 2, none⟩) (hk b o h1)).trans h3, (World.cell?_of_block (a := ⟨b, o + i * 2 + 1, none⟩) (hk b o h1)).trans h4⟩
theorem AvAt.keep (h : AvAt w rb tv ov fr x) (hs : w.heap.size ≤ w'.heap.size) {rb' : Nat} {tv' ov' : Value} {fr' : Nat → Prop} (hk : ∀ k, x.2.ownBlock = some k → fr k → k ≠ rb → tv.ownBlock ≠ some k → ov.ownBlock ≠ some k → w'.heap[k]? = w.heap[k]? ∧ fr' k ∧ k ≠ rb' ∧ tv'.ownBlock ≠ some k ∧ ov'.ownBlock ≠ some k) : AvAt w' rb' tv' ov' fr' x := by
  obtain ⟨a, c, h1, h2, h3⟩ := h
  refine ⟨a, c, h1, h2.keepB hs fun b o e => ?_, fun k e => ?_⟩
  · have e2 : x.2.ownBlock = some b := by rw [h1, e]; rfl
    obtain ⟨g1, g2, g3, g4⟩ := h3 b e2
    exact (hk b e2 g1 g2 g3 g4).1
  · obtain ⟨g1, g2, g3, g4⟩ := h3 k e
    exact (hk k e g1 g2 g3 g4).2
theorem RunAt.keep (h : RunAt G w rb all tks stk inn how p fr) (hs : w.heap.size ≤ w'.heap.size) (hk : ∀ k, fr k → w'.heap[k]? = w.heap[k]?) : RunAt G w' rb all tks stk inn how p fr := by
  obtain ⟨⟨tv, ov, h1, h2, h3, h4, h5, h6⟩, h7, h8⟩ := h
  exact ⟨⟨tv, ov, (hk _ h7).trans h1, h2.keep fun k e => hk k (h4 k e).1, h3.keep fun k e => hk k (h5 k e).1, h4, h5, fun x hx => (h6 x hx).keep hs fun k e g1 g2 g3 g4 => ⟨hk k g1, g1, g2, g3, g4⟩⟩, h7, fun k e => ⟨(h8 k e).1, Nat.lt_of_lt_of_le (h8 k e).2 hs⟩⟩
theorem RunAt.below (h : RunAt G w rb all tks stk inn how p fr) (k : Below w.heap.size w w') : RunAt G w' rb all tks stk inn how p fr := h.keep k.size fun j hj => k.block j (h.dom j hj).2
theorem RunAt.head (h : RunAt G w rb all tks stk inn how p fr) {tv ov : Value} (h1 : w.heap[rb]? = some (.cells (runC tv how p ov inn) 61 (0, 0))) {how' : Nat} {p' : Pl} {inn' : Nat} (h1' : w'.heap[rb]? = some (.cells (runC tv how' p' ov inn') 61 (0, 0))) (hk : Kp (· = rb) w w') : RunAt G w' rb all tks stk inn' how' p' fr := by
  obtain ⟨⟨tv2, ov2, g1, h2, h3, h4, h5, h6⟩, h7, h8⟩ := h
  rw [h1] at g1
  have e1 : tv = tv2 := by injection g1 with g1; injection g1 with g1 _ _; exact congrArg (fun a : Array Value => a.getD 0 undef) g1
  have e2 : ov = ov2 := by injection g1 with g1; injection g1 with g1 _ _; exact congrArg (fun a : Array Value => a.getD 6 undef) g1
  subst e1; subst e2
  have hb : ∀ k, fr k → k ≠ rb → w'.heap[k]? = w.heap[k]? := fun k hf hn => hk.block k (h8 k hf).2 hn
  exact ⟨⟨tv, ov, h1', h2.keep fun k e => hb k (h4 k e).1 (h4 k e).2, h3.keep fun k e => hb k (h5 k e).1 (h5 k e).2.1, h4, h5, fun x hx => (h6 x hx).keep hk.size fun k e g1 g2 g3 g4 => ⟨hb k g1 g2, g1, g2, g3, g4⟩⟩, h7, fun k e => ⟨(h8 k e).1, Nat.lt_of_lt_of_le (h8 k e).2 hk.size⟩⟩
theorem RunAt.push (h : RunAt G w rb all tks stk inn how p fr) (h1 : w.heap[rb]? = some (.cells (runC tv how p ov inn) 61 (0, 0))) {wl w2 : World} {v' : Value} (hG : G ≤ w.heap.size) (hbl : Below w.heap.size w wl) (hq : QRow w2 41 12 v' (tks.length + 1) (tkRow all (tks ++ [x]))) (ha : App wl w2 tv v')
    {a : Option Addr} {c : Nat} (hx : x.2 = .slice a x.1.attrs.length c) (hr : AtsR w a x.1.attrs) (hxf : ∀ k, x.2.ownBlock = some k → G ≤ k ∧ k < w.heap.size ∧ ¬ fr k) :
    ∃ fr', RunAt G (w2.setCell ⟨rb, 0, none⟩ v') rb all (tks ++ [x]) stk inn how p fr' ∧ Kp fr w (w2.setCell ⟨rb, 0, none⟩ v') ∧ ∀ k, fr' k → fr k ∨ w.heap.size ≤ k ∨ x.2.ownBlock = some k := by
  obtain ⟨⟨tv2, ov2, g1, h2, h3, h4, h5, h6⟩, h7, h8⟩ := h
  rw [h1] at g1
  have e1 : tv = tv2 := by injection g1 with g1; injection g1 with g1 _ _; exact congrArg (fun a : Array Value => a.getD 0 undef) g1
  have e2 : ov = ov2 := by injection g1 with g1; injection g1 with g1 _ _; exact congrArg (fun a : Array Value => a.getD 6 undef) g1
  subst e1; subst e2
  have hrbl := (h8 rb h7).2
  have hkk : ∀ k, k < w.heap.size → tv.ownBlock ≠ some k → k ≠ rb → (w2.setCell ⟨rb, 0, none⟩ v').heap[k]? = w.heap[k]? := fun k h1 h2 h3 => (Below.heap_setCell _ _ _ _ h3).trans ((ha.grown.block k (Nat.lt_of_lt_of_le h1 hbl.size) (fun e => h2 e.symm)).trans (hbl.block k h1))
  have hrb2 : w2.heap[rb]? = some (.cells (runC tv how p ov inn) 61 (0, 0)) := (ha.grown.block rb (Nat.lt_of_lt_of_le hrbl hbl.size) (fun e => (h4 rb e.symm).2 rfl)).trans ((hbl.block rb hrbl).trans h1)
  have hsz : (w2.setCell ⟨rb, 0, none⟩ v').heap.size = w2.heap.size := by simp [World.setCell]
  have hvb : ∀ k, v'.ownBlock = some k → (fr k ∧ k ≠ rb ∧ tv.ownBlock = some k) ∨ w.heap.size ≤ k := fun k e => by
    rcases ha.own with h | ⟨g, h, hg⟩
    · rw [h] at e; exact .inl ⟨(h4 k e).1, (h4 k e).2, e⟩
    · rw [h] at e; injection e with e; have := hbl.size; exact .inr (by omega)
  have hvl : ∀ k, v'.ownBlock = some k → k < w2.heap.size := fun k e => by
    obtain ⟨_, hq2⟩ := hq
    rcases hq2 with ⟨A, e1, e2⟩ | ⟨g, o, cp, cur, e1, e2, _⟩
    · omega
    · rw [e1] at e; injection e with e; subst e; exact heap_lt e2
  refine ⟨fun k => fr k ∨ v'.ownBlock = some k ∨ x.2.ownBlock = some k, ⟨⟨v', ov, setCell_heap (i := 0) hrb2 v', ?_, ?_, ?_, ?_, ?_⟩, .inl h7, ?_⟩, ?_, ?_⟩
  · rw [List.length_append, List.length_singleton]
    refine hq.keep fun k e => Below.heap_setCell _ _ _ _ ?_
    rcases hvb k e with h | h
    · exact h.2.1
    · show k ≠ rb; omega
  · refine h3.keep fun k e => ?_
    obtain ⟨f1, f2, f3⟩ := h5 k e
    exact hkk k (h8 k f1).2 f3 f2
  · intro k e
    refine ⟨.inr (.inl e), ?_⟩
    rcases hvb k e with h | h
    · exact h.2.1
    · omega
  · intro k e
    obtain ⟨f1, f2, f3⟩ := h5 k e
    refine ⟨.inl f1, f2, fun e2 => ?_⟩
    rcases hvb k e2 with h | h
    · exact f3 h.2.2
    · have := (h8 k f1).2; omega
  · intro y hy
    have hs2 : w.heap.size ≤ (w2.setCell ⟨rb, 0, none⟩ v').heap.size := by rw [hsz]; exact Nat.le_trans hbl.size ha.grown.size
    rcases List.mem_append.1 hy with hy | hy
    · refine (h6 y hy).keep hs2 fun k e g1 g2 g3 g4 => ⟨hkk k (h8 k g1).2 g3 g2, .inl g1, g2, fun e2 => ?_, g4⟩
      rcases hvb k e2 with h | h
      · exact g3 h.2.2
      · have := (h8 k g1).2; omega
    · obtain rfl : y = x := by simpa using hy
      refine ⟨a, c, hx, hr.keepB hs2 fun b o e => ?_, fun k e => ?_⟩
      · obtain ⟨_, f2, f3⟩ := hxf b (by rw [hx, e]; rfl)
        exact hkk b f2 (fun e2 => f3 (h4 b e2).1) (fun e2 => f3 (by rw [e2]; exact h7))
      · obtain ⟨f1, f2, f3⟩ := hxf k e
        refine ⟨.inr (.inr e), fun e2 => f3 (by rw [e2]; exact h7), fun e2 => ?_, fun e2 => f3 (h5 k e2).1⟩
        rcases hvb k e2 with h | h
        · exact f3 h.1
        · omega
  · intro k e
    rw [hsz]
    rcases e with e | e | e
    · exact ⟨(h8 k e).1, Nat.lt_of_lt_of_le (h8 k e).2 (Nat.le_trans hbl.size ha.grown.size)⟩
    · refine ⟨?_, hvl k e⟩
      rcases hvb k e with h | h
      · exact (h8 k h.1).1
      · omega
    · exact ⟨(hxf k e).1, Nat.lt_of_lt_of_le (hxf k e).2.1 (Nat.le_trans hbl.size ha.grown.size)⟩
  · refine (((Kp.of (S := fr) hbl).trans (S' := fun k => tv.ownBlock = some k) ⟨ha.grown.os, ha.grown.tape, ha.grown.output, ha.grown.size, fun k hk hn => ha.grown.block k hk fun e => hn e.symm⟩ fun k e => .inl (h4 k e).1)).set (.inl h7) _ _
  · intro k e
    rcases e with e | e | e
    · exact .inl e
    · rcases hvb k e with h | h
      · exact .inl h.1
      · exact .inr (.inl h)
    · exact .inr (.inr e)
theorem RunAt.opn (h : RunAt G w rb all tks stk inn how p fr) (h1 : w.heap[rb]? = some (.cells (runC tv how p ov inn) 61 (0, 0))) {wl w2 : World} {v' : Value} {q : List UInt8} (hG : G ≤ w.heap.size) (hbl : Below w.heap.size w wl) (hq : QRow w2 9 1 v' (stk.length + 1) (stRow (stk ++ [q]))) (ha : App wl w2 ov v') :
    ∃ fr', RunAt G (w2.setCell ⟨rb, 6, none⟩ v') rb all tks (stk ++ [q]) inn how p fr' ∧ Kp fr w (w2.setCell ⟨rb, 6, none⟩ v') ∧ ∀ k, fr' k → fr k ∨ w.heap.size ≤ k := by
  obtain ⟨⟨tv2, ov2, g1, h2, h3, h4, h5, h6⟩, h7, h8⟩ := h
  rw [h1] at g1
  have e1 : tv = tv2 := by injection g1 with g1; injection g1 with g1 _ _; exact congrArg (fun a : Array Value => a.getD 0 undef) g1
  have e2 : ov = ov2 := by injection g1 with g1; injection g1 with g1 _ _; exact congrArg (fun a : Array Value => a.getD 6 undef) g1
  subst e1; subst e2
  have hrbl := (h8 rb h7).2
  have hkk : ∀ k, k < w.heap.size → ov.ownBlock ≠ some k → k ≠ rb → (w2.setCell ⟨rb, 6, none⟩ v').heap[k]? = w.heap[k]? := fun k h1 h2 h3 => (Below.heap_setCell _ _ _ _ h3).trans ((ha.grown.block k (Nat.lt_of_lt_of_le h1 hbl.size) (fun e => h2 e.symm)).trans (hbl.block k h1))
  have hrb2 : w2.heap[rb]? = some (.cells (runC tv how p ov inn) 61 (0, 0)) := (ha.grown.block rb (Nat.lt_of_lt_of_le hrbl hbl.size) (fun e => (h5 rb e.symm).2.1 rfl)).trans ((hbl.block rb hrbl).trans h1)
  have hsz : (w2.setCell ⟨rb, 6, none⟩ v').heap.size = w2.heap.size := by simp [World.setCell]
  have hvb : ∀ k, v'.ownBlock = some k → (fr k ∧ k ≠ rb ∧ tv.ownBlock ≠ some k ∧ ov.ownBlock = some k) ∨ w.heap.size ≤ k := fun k e => by
    rcases ha.own with h | ⟨g, h, hg⟩
    · rw [h] at e; exact .inl ⟨(h5 k e).1, (h5 k e).2.1, (h5 k e).2.2, e⟩
    · rw [h] at e; injection e with e; have := hbl.size; exact .inr (by omega)
  have hvl : ∀ k, v'.ownBlock = some k → k < w2.heap.size := fun k e => by
    obtain ⟨_, hq2⟩ := hq
    rcases hq2 with ⟨A, e1, e2⟩ | ⟨g, o, cp, cur, e1, e2, _⟩
    · omega
    · rw [e1] at e; injection e with e; subst e; exact heap_lt e2
  refine ⟨fun k => fr k ∨ v'.ownBlock = some k, ⟨⟨tv, v', setCell_heap (i := 6) hrb2 v', ?_, ?_, ?_, ?_, ?_⟩, .inl h7, ?_⟩, ?_, ?_⟩
  · refine h2.keep fun k e => ?_
    obtain ⟨f1, f2⟩ := h4 k e
    exact hkk k (h8 k f1).2 (fun e2 => (h5 k e2).2.2 e) f2
  · rw [List.length_append, List.length_singleton]
    refine hq.keep fun k e => Below.heap_setCell _ _ _ _ ?_
    rcases hvb k e with h | h
    · exact h.2.1
    · show k ≠ rb; omega
  · intro k e
    exact ⟨.inl (h4 k e).1, (h4 k e).2⟩
  · intro k e
    rcases hvb k e with h | h
    · exact ⟨.inl h.1, h.2.1, h.2.2.1⟩
    · exact ⟨.inr e, by omega, fun e2 => by have := (h8 k (h4 k e2).1).2; omega⟩
  · intro y hy
    have hs2 : w.heap.size ≤ (w2.setCell ⟨rb, 6, none⟩ v').heap.size := by rw [hsz]; exact Nat.le_trans hbl.size ha.grown.size
    refine (h6 y hy).keep hs2 fun k e g1 g2 g3 g4 => ⟨hkk k (h8 k g1).2 g4 g2, .inl g1, g2, g3, fun e2 => ?_⟩
    rcases hvb k e2 with h | h
    · exact g4 h.2.2.2
    · have := (h8 k g1).2; omega
  · intro k e
    rw [hsz]
    rcases e with e | e
    · exact ⟨(h8 k e).1, Nat.lt_of_lt_of_le (h8 k e).2 (Nat.le_trans hbl.size ha.grown.size)⟩
    · refine ⟨?_, hvl k e⟩
      rcases hvb k e with h | h
      · exact (h8 k h.1).1
      · omega
  · refine (((Kp.of (S := fr) hbl).trans (S' := fun k => ov.ownBlock = some k) ⟨ha.grown.os, ha.grown.tape, ha.grown.output, ha.grown.size, fun k hk hn => ha.grown.block k hk fun e => hn e.symm⟩ fun k e => .inl (h5 k e).1)).set (.inl h7) _ _
  · intro k e
    rcases e with e | e
    · exact .inl e
    · rcases hvb k e with h | h
      · exact .inl h.1
      · exact .inr h
theorem RunAt.pop {n : Nat} {oa : Option Addr} {oc : Nat} (h : RunAt G w rb all tks stk inn how p fr) (h1 : w.heap[rb]? = some (.cells (runC tv how p (.slice oa (n + 1) oc) inn) 61 (0, 0))) (hn : stk.length = n + 1) :
    RunAt G (w.setCell ⟨rb, 6, none⟩ (.slice oa n oc)) rb all tks stk.dropLast inn how p fr := by
  obtain ⟨⟨tv2, ov2, g1, h2, h3, h4, h5, h6⟩, h7, h8⟩ := h
  rw [h1] at g1
  have e1 : tv = tv2 := by injection g1 with g1; injection g1 with g1 _ _; exact congrArg (fun a : Array Value => a.getD 0 undef) g1
  have e2 : Value.slice oa (n + 1) oc = ov2 := by injection g1 with g1; injection g1 with g1 _ _; exact congrArg (fun a : Array Value => a.getD 6 undef) g1
  subst e1; subst e2
  have hkk : ∀ k, k ≠ rb → (w.setCell ⟨rb, 6, none⟩ (.slice oa n oc)).heap[k]? = w.heap[k]? := fun k h3 => Below.heap_setCell _ _ _ _ h3
  have hob : (Value.slice oa n oc).ownBlock = (Value.slice oa (n + 1) oc).ownBlock := by cases oa <;> rfl
  have hl : stk.dropLast.length = n := by rw [List.length_dropLast]; omega
  have hst : stRow stk = stRow stk.dropLast ++ [.string (strL (stk.getLast (by intro e; rw [e] at hn; cases hn)))] := by
    conv => lhs; rw [← List.dropLast_concat_getLast (l := stk) (by intro e; rw [e] at hn; cases hn)]
    simp [stRow]
  refine ⟨⟨tv, .slice oa n oc, setCell_heap (i := 6) h1 _, h2.keep fun k e => hkk k (h4 k e).2, ?_, h4, fun k e => h5 k (by rw [← hob]; exact e), fun y hy => ?_⟩, h7, fun k e => ?_⟩
  · rw [hl]
    rw [hn, hst] at h3
    refine (h3.pop (by rw [show (stRow stk.dropLast).length = stk.dropLast.length by simp [stRow], hl]; omega)).keep fun k e => hkk k ?_
    exact (h5 k (by rw [← hob]; exact e)).2.1
  · refine (h6 y hy).keep (by simp [World.setCell]) fun k e g1 g2 g3 g4 => ⟨hkk k g2, g1, g2, g3, by rw [hob]; exact g4⟩
  · have := h8 k e
    exact ⟨this.1, by simp [World.setCell]; exact this.2⟩
end
end Go.Proofs.YtjdmndpadejegaaDoor

namespace Go.Proofs.YtjdmndpadejegaaDoor
open Go.RowKit

def frDr (rb sb most i TB : Nat) (t : Array Value) : Array Value := #[.pointer (some ⟨rb, 0, none⟩), .pointer (some ⟨sb, 0, none⟩), .int .i64 most, slotOf t 3, slotOf t 4, slotOf t 5, .bool false, .int .i64 i, slotOf t 8, .pointer (some ⟨TB, 0, none⟩), slotOf t 10, slotOf t 11, slotOf t 12, slotOf t 13, slotOf t 14, slotOf t 15, slotOf t 16, slotOf t 17, slotOf t 18, slotOf t 19, slotOf t 20, slotOf t 21, slotOf t 22, slotOf t 23, slotOf t 24, slotOf t 25, slotOf t 26, slotOf t 27, slotOf t 28, slotOf t 29, slotOf t 30, slotOf t 31, slotOf t 32, slotOf t 33, slotOf t 34, slotOf t 35, slotOf t 36, slotOf t 37, slotOf t 38, slotOf t 39, slotOf t 40, slotOf t 41, slotOf t 42, slotOf t 43, slotOf t 44, slotOf t 45, slotOf t 46, slotOf t 47, slotOf t 48, slotOf t 49, slotOf t 50, slotOf t 51, slotOf t 52, slotOf t 53, slotOf t 54, slotOf t 55, slotOf t 56, slotOf t 57, slotOf t 58, slotOf t 59, slotOf t 60, slotOf t 61, slotOf t 62, slotOf t 63, slotOf t 64, slotOf t 65, slotOf t 66, slotOf t 67, slotOf t 68, slotOf t 69, slotOf t 70, slotOf t 71, slotOf t 72, slotOf t 73, slotOf t 74, slotOf t 75, slotOf t 76, slotOf t 77, slotOf t 78, slotOf t 79, slotOf t 80, slotOf t 81, slotOf t 82, slotOf t 83, slotOf t 84, slotOf t 85, slotOf t 86, slotOf t 87, slotOf t 88, slotOf t 89, slotOf t 90, slotOf t 91, slotOf t 92, slotOf t 93, slotOf t 94, slotOf t 95, slotOf t 96, slotOf t 97, slotOf t 98, slotOf t 99, slotOf t 100, slotOf t 101, slotOf t 102, slotOf t 103, slotOf t 104, slotOf t 105, slotOf t 106, slotOf t 107, slotOf t 108, slotOf t 109, slotOf t 110, slotOf t 111, slotOf t 112, slotOf t 113, slotOf t 114, slotOf t 115, slotOf t 116, slotOf t 117, slotOf t 118, slotOf t 119]
theorem infoTok : (Tryd.prog.info? 41).map (fun i => (i.zero, i.size, i.bytes)) = some (some (.agg #[.int .i64 0, .string ⟨#[]⟩, .slice none 0 0, .string ⟨#[]⟩, .int .i64 0, .int .i64 0, .int .i64 0, .int .i64 0, .int .i64 0, .int .i64 0, .int .i64 0, .int .i64 0]), 12, 128) := by kernel_rfl
theorem infoStr : (Tryd.prog.info? 9).map (fun i => (i.zero, i.size, i.bytes)) = some (some (.string ⟨#[]⟩), 1, 16) := by kernel_rfl
set_option maxRecDepth 100000 in
set_option maxHeartbeats 8000000 in
theorem run12 (G : Nat) (w : World) (hG : G ≤ w.heap.size) (rb sb most i TB : Nat) (all : List UInt8) (tks : List (TokP × Value)) (stk : List (List UInt8)) (inn how : Nat) (p : Pl) (fr : Nat → Prop) (hR : RunAt G w rb all tks stk inn how p fr) (hn : tks.length ≤ 1073741824)
    (tt : TokP) (av : Value) (hT : w.heap[TB]? = some (.cells (tkV tt.kind tt.name av (encs tt.text) (PLof all tt.frm) (PLof all tt.fin)) 41 (0, 0))) (hTf : ¬ fr TB) (a : Option Addr) (c : Nat) (hav : av = .slice a tt.attrs.length c) (har : AtsR w a tt.attrs) (hxf : ∀ k, av.ownBlock = some k → G ≤ k ∧ k < w.heap.size ∧ ¬ fr k)
    (K : Act → World → Prop) (Q : Exit → Act → World → Prop) (a' : Act) (ha : a' = { tmps := frDr rb sb most i TB a'.tmps, defers := [] })
    (H : ∀ a2 w2 fr', a2 = { tmps := frDr rb sb most i TB a2.tmps, defers := [] } → RunAt G w2 rb all (tks ++ [(tt, av)]) stk inn how p fr' → Kp fr w w2 → (∀ k, fr' k → fr k ∨ w.heap.size ≤ k ∨ av.ownBlock = some k) → K a2 w2) :
    Code.wp Tryd.prog (((Tryd.f19).body.bind (regNo 12)).getD .skip) (Exit.then K Q) a' w := by
  conv => arg 2; whnf
  obtain ⟨i0, hi, hz0, hz1, hz2⟩ := info_parts infoTok
  obtain ⟨tv, ov, h1, h2, h3, h4, h5, h6⟩ := hR.at'
  obtain ⟨va, vc, rfl, _⟩ := h2.slice
  have hrb := heap_lt h1
  have hTl := heap_lt hT
  have c0 : w.cell? ⟨rb, 0, none⟩ = some (.slice va tks.length vc) := by rw [cell_heap h1]; rfl
  have hneT : TB ≠ rb := fun e => hTf (by rw [e]; exact hR.mem)
  subst hav
  obtain ⟨x0, x1, x2, x3, x4, x5, x6, x7, x8, x9, x10, x11⟩ := tkv_cells hT
  have HR := Lib.hid hR
  have H1 := Lib.hid h1
  have H2 := Lib.hid h2
  have H4 := Lib.hid h4
  have HH := Lib.hid H
  have HAR := Lib.hid har
  have HXF := Lib.hid hxf
  have HQO : Hid (∀ W o, W.heap = (w.alloc o).heap → QRow W 41 12 (.slice va tks.length vc) tks.length (tkRow all tks)) := Lib.hid fun W o e => H2.out.keep fun k hk => by rw [e]; exact heap_alloc_old _ _ (HR.out.dom k (H4.out k hk).1).2
  have HPU : Hid (∀ (wl w7 : World) v', Below w.heap.size w wl → App wl w7 (.slice va tks.length vc) v' → QRow w7 41 12 v' (tks.length + 1) (tkRow all tks ++ (tkV tt.kind tt.name (.slice a tt.attrs.length c) (encs tt.text) (PLof all tt.frm) (PLof all tt.fin)).toList) → (∃ fr', RunAt G (w7.setCell ⟨rb, 0, none⟩ v') rb all (tks ++ [(tt, .slice a tt.attrs.length c)]) stk inn how p fr' ∧ Kp fr w (w7.setCell ⟨rb, 0, none⟩ v') ∧ ∀ k, fr' k → fr k ∨ w.heap.size ≤ k ∨ (Value.slice a tt.attrs.length c).ownBlock = some k) ∧ w7.heap[rb]? = some (.cells (runC (.slice va tks.length vc) how p ov inn) 61 (0, 0))) := Lib.hid fun wl w7 v' hb hap hq =>
    ⟨HR.out.push (x := (tt, .slice a tt.attrs.length c)) H1.out hG hb (by rw [tkRow_app]; exact hq) hap rfl HAR.out HXF.out, (hap.grown.block rb (Nat.lt_of_lt_of_le hrb hb.size) (fun e => (H4.out rb e.symm).2 rfl)).trans ((hb.block rb hrb).trans H1.out)⟩
  have HBA : Hid (∀ o, Below w.heap.size w (w.alloc o)) := Lib.hid fun o => (Below.refl _ _).alloc (Nat.le_refl _) o
  obtain ⟨k, hk⟩ : ∃ k, tt.kind = k := ⟨_, rfl⟩
  obtain ⟨q, hq⟩ : ∃ k, tt.name = k := ⟨_, rfl⟩
  obtain ⟨t, ht⟩ : ∃ k, encs tt.text = k := ⟨_, rfl⟩
  obtain ⟨p0, hp0⟩ : ∃ k, PLof all tt.frm = k := ⟨_, rfl⟩
  obtain ⟨p1, hp1⟩ : ∃ k, PLof all tt.fin = k := ⟨_, rfl⟩
  rw [hk, hq, ht, hp0, hp1] at HPU
  rw [hk] at x0
  rw [hq] at x1
  rw [ht] at x3
  rw [hp0] at x4 x5 x6 x7
  rw [hp1] at x8 x9 x10 x11
  obtain ⟨n, hnn⟩ : ∃ n, tks.length = n := ⟨_, rfl⟩
  rw [hnn] at hn c0 HQO HPU
  obtain ⟨tn, htn⟩ : ∃ n, tt.attrs.length = n := ⟨_, rfl⟩
  rw [htn] at x2 HPU HH
  clear h1 h2 h3 h4 h5 h6 hT hR H har hxf hk hq ht hp0 hp1 hnn htn hTf
  obtain ⟨t', dd⟩ := a'
  obtain ⟨ha1, rfl⟩ := Act.mk.inj ha
  rw [ha1]
  clear ha ha1
  dsimp only [frDr]
  refine wp_region_noPanic ?_
  go_region_law (first | (refine step_qapp rfl (.tmp 60) (.tmp 62) 58 rfl 41 i0 (.agg #[.int .i64 0, .string ⟨#[]⟩, .slice none 0 0, .string ⟨#[]⟩, .int .i64 0, .int .i64 0, .int .i64 0, .int .i64 0, .int .i64 0, .int .i64 0, .int .i64 0, .int .i64 0]) 12 128 Tryd.underlying58 hi hz0 hz1 hz2 (by rfl) (by decide) (.slice va n vc) n (tkRow all tks) (by rfl) ?_ _ _ [.int .i64 k, .string (strL q), .slice a tn c, .string (strL t), .int .i64 p0.byte, .int .i64 p0.rune, .int .i64 p0.line, .int .i64 p0.col, .int .i64 p1.byte, .int .i64 p1.rune, .int .i64 p1.line, .int .i64 p1.col] (by rfl) (heap_alloc_new w _) (by rfl) (by intro u hu; simp only [List.mem_cons, List.not_mem_nil, or_false] at hu; rcases hu with rfl | rfl | rfl | rfl | rfl | rfl | rfl | rfl | rfl | rfl | rfl | rfl <;> rfl) (by omega) (by decide) ?_; exact HQO.out _ _ rfl; intro v7 w7 hq7 hap7; have hpp := HPU.out _ _ _ (HBA.out _) ⟨⟨hap7.grown.os, hap7.grown.tape, hap7.grown.output, hap7.grown.size, hap7.grown.block⟩, hap7.own⟩ hq7; have HX := Lib.hid hpp.1; have d0 : w7.cell? ⟨rb, 0, none⟩ = some (.slice va n vc) := (by rw [cell_heap hpp.2]; rfl); have f0 := frozen_heap (i := 0) hpp.2; have hl7 := heap_lt hpp.2; obtain ⟨a7, c7, rfl, _⟩ := hq7.slice; clear hpp hq7 hap7))
  all_goals
    obtain ⟨fr', g1, g2, g3⟩ := HX.out
    first
      | exact HH.out _ _ fr' (by rfl) g1 g2 g3
      | exact HH.out _ _ fr' (by rfl) (g1.below ((Below.refl _ _).drew)) (g2.drew) g3
set_option maxRecDepth 100000 in
set_option maxHeartbeats 8000000 in
theorem run15 (G : Nat) (w : World) (hG : G ≤ w.heap.size) (rb sb most i TB : Nat) (all : List UInt8) (tks : List (TokP × Value)) (stk : List (List UInt8)) (inn how : Nat) (p : Pl) (fr : Nat → Prop) (hR : RunAt G w rb all tks stk inn how p fr) (hn : stk.length ≤ 1073741824)
    (kd : Nat) (q : List UInt8) (av : Value) (tx : List UInt8) (p0 p1 : Pl) (hT : w.heap[TB]? = some (.cells (tkV kd q av tx p0 p1) 41 (0, 0))) (hTf : ¬ fr TB)
    (K : Act → World → Prop) (Q : Exit → Act → World → Prop) (a' : Act) (ha : a' = { tmps := frDr rb sb most i TB a'.tmps, defers := [] })
    (H : ∀ a2 w2 fr', a2 = { tmps := frDr rb sb most i TB a2.tmps, defers := [] } → RunAt G w2 rb all tks (stk ++ [q]) inn how p fr' → Kp fr w w2 → (∀ k, fr' k → fr k ∨ w.heap.size ≤ k) → K a2 w2) :
    Code.wp Tryd.prog (((Tryd.f19).body.bind (regNo 15)).getD .skip) (Exit.then K Q) a' w := by
  conv => arg 2; whnf
  obtain ⟨i0, hi, hz0, hz1, hz2⟩ := info_parts infoStr
  obtain ⟨tv, ov, h1, h2, h3, h4, h5, h6⟩ := hR.at'
  obtain ⟨oa, oc, rfl, _⟩ := h3.slice
  have hrb := heap_lt h1
  have hTl := heap_lt hT
  have c6 : w.cell? ⟨rb, 6, none⟩ = some (.slice oa stk.length oc) := by rw [cell_heap h1]; rfl
  have x1 := (tkv_cells hT).2.1
  have hneT : TB ≠ rb := fun e => hTf (by rw [e]; exact hR.mem)
  have HR := Lib.hid hR
  have H1 := Lib.hid h1
  have H3 := Lib.hid h3
  have H5 := Lib.hid h5
  have HH := Lib.hid H
  have HQO : Hid (∀ W o, W.heap = (w.alloc o).heap → QRow W 9 1 (.slice oa stk.length oc) stk.length (stRow stk)) := Lib.hid fun W o e => H3.out.keep fun k hk => by rw [e]; exact heap_alloc_old _ _ (HR.out.dom k (H5.out k hk).1).2
  have HPU : Hid (∀ (wl w7 : World) v', Below w.heap.size w wl → App wl w7 (.slice oa stk.length oc) v' → QRow w7 9 1 v' (stk.length + 1) (stRow stk ++ [.string (strL q)]) → (∃ fr', RunAt G (w7.setCell ⟨rb, 6, none⟩ v') rb all tks (stk ++ [q]) inn how p fr' ∧ Kp fr w (w7.setCell ⟨rb, 6, none⟩ v') ∧ ∀ k, fr' k → fr k ∨ w.heap.size ≤ k) ∧ w7.heap[rb]? = some (.cells (runC tv how p (.slice oa stk.length oc) inn) 61 (0, 0))) := Lib.hid fun wl w7 v' hb hap hq =>
    ⟨HR.out.opn H1.out hG hb (by rw [show stRow (stk ++ [q]) = stRow stk ++ [.string (strL q)] by simp [stRow]]; exact hq) hap, (hap.grown.block rb (Nat.lt_of_lt_of_le hrb hb.size) (fun e => (H5.out rb e.symm).2.1 rfl)).trans ((hb.block rb hrb).trans H1.out)⟩
  have HBA : Hid (∀ o, Below w.heap.size w (w.alloc o)) := Lib.hid fun o => (Below.refl _ _).alloc (Nat.le_refl _) o
  obtain ⟨n, hnn⟩ : ∃ n, stk.length = n := ⟨_, rfl⟩
  rw [hnn] at hn c6 HQO HPU
  clear h1 h2 h3 h4 h5 h6 hT hR H hnn hTf
  obtain ⟨t', dd⟩ := a'
  obtain ⟨ha1, rfl⟩ := Act.mk.inj ha
  rw [ha1]
  clear ha ha1
  dsimp only [frDr]
  refine wp_region_noPanic ?_
  go_region_law (first | (refine step_qapp rfl (.tmp 74) (.tmp 77) 59 rfl 9 i0 (.string ⟨#[]⟩) 1 16 Tryd.underlying59 hi hz0 hz1 hz2 (by rfl) (by decide) (.slice oa n oc) n (stRow stk) (by rfl) ?_ _ _ [.string (strL q)] (by rfl) (heap_alloc_new w _) (by rfl) (by intro u hu; simp only [List.mem_cons, List.not_mem_nil, or_false] at hu; subst hu; rfl) (by omega) (by decide) ?_; exact HQO.out _ _ rfl; intro v7 w7 hq7 hap7; have hpp := HPU.out _ _ _ (HBA.out _) ⟨⟨hap7.grown.os, hap7.grown.tape, hap7.grown.output, hap7.grown.size, hap7.grown.block⟩, hap7.own⟩ hq7; have HX := Lib.hid hpp.1; have d0 : w7.cell? ⟨rb, 6, none⟩ = some (.slice oa n oc) := (by rw [cell_heap hpp.2]; rfl); have f0 := frozen_heap (i := 6) hpp.2; have hl7 := heap_lt hpp.2; obtain ⟨a7, c7, rfl, _⟩ := hq7.slice; clear hpp hq7 hap7))
  all_goals
    obtain ⟨fr', g1, g2, g3⟩ := HX.out
    first
      | exact HH.out _ _ fr' (by rfl) g1 g2 g3
      | exact HH.out _ _ fr' (by rfl) (g1.below ((Below.refl _ _).drew)) (g2.drew) g3
set_option maxRecDepth 100000 in
set_option maxHeartbeats 8000000 in
theorem run20 (G : Nat) (w : World) (rb sb most i TB : Nat) (all : List UInt8) (tks : List (TokP × Value)) (stk : List (List UInt8)) (inn how : Nat) (p : Pl) (fr : Nat → Prop) (hR : RunAt G w rb all tks stk inn how p fr) (hn : stk.length ≤ 1073741824) (hn0 : stk ≠ [])
    (K : Act → World → Prop) (Q : Exit → Act → World → Prop) (a' : Act) (ha : a' = { tmps := frDr rb sb most i TB a'.tmps, defers := [] })
    (H : ∀ a2 w2, a2 = { tmps := frDr rb sb most i TB a2.tmps, defers := [] } → RunAt G w2 rb all tks stk.dropLast inn how p fr → Kp fr w w2 → K a2 w2) :
    Code.wp Tryd.prog (((Tryd.f19).body.bind (regNo 20)).getD .skip) (Exit.then K Q) a' w := by
  conv => arg 2; whnf
  obtain ⟨n, hnn⟩ : ∃ n, stk.length = n + 1 := ⟨stk.length - 1, by have : 0 < stk.length := List.length_pos_iff.2 hn0; omega⟩
  obtain ⟨tv, ov, h1, h2, h3, h4, h5, h6⟩ := hR.at'
  obtain ⟨oa, oc, rfl, hoc⟩ := h3.slice
  rw [hnn] at h1 hn hoc
  have hrb := heap_lt h1
  have c6 : w.cell? ⟨rb, 6, none⟩ = some (.slice oa (n + 1) oc) := by rw [cell_heap h1]; rfl
  have f6 := frozen_heap (i := 6) h1
  have hob : ∃ g o, oa = some ⟨g, o, none⟩ := by
    rw [hnn] at h3
    obtain ⟨g, o, c, e, _⟩ := h3.here
    injection e with e1 e2 e3
    exact ⟨g, o, e1⟩
  obtain ⟨g, o, rfl⟩ := hob
  have HX : Hid (RunAt G (w.setCell ⟨rb, 6, none⟩ (.slice (some ⟨g, o, none⟩) n oc)) rb all tks stk.dropLast inn how p fr ∧ Kp fr w (w.setCell ⟨rb, 6, none⟩ (.slice (some ⟨g, o, none⟩) n oc))) := Lib.hid ⟨hR.pop h1 hnn, (Kp.refl fr w).set (b := rb) (.inl hR.mem) _ _⟩
  have HH := Lib.hid H
  have e1 : IntKind.i64.wrap (((n : Int) + 1) - 1) = (n : Int) := by rw [IntWalk.i64_in _ (by omega)]; omega
  have e2 : IntKind.i64.wrap (((n + 1 : Nat) : Int) - 1) = (n : Int) := by rw [IntWalk.i64_in _ (by omega)]; omega
  have hi1 : (0 : Int) ≤ (n : Int) := by omega
  have hi2 : (n : Int) ≤ (oc : Int) := by omega
  clear h1 h2 h3 h4 h5 h6 hR H hnn hn0
  obtain ⟨t', dd⟩ := a'
  obtain ⟨ha1, rfl⟩ := Act.mk.inj ha
  rw [ha1]
  clear ha ha1
  dsimp only [frDr]
  refine wp_region_noPanic ?_
  go_region
  all_goals
    obtain ⟨g1, g2⟩ := HX.out
    first
      | exact HH.out _ _ (by rfl) g1 g2
      | exact HH.out _ _ (by rfl) (g1.below ((Below.refl _ _).drew)) g2.drew
end Go.Proofs.YtjdmndpadejegaaDoor

namespace Go.Proofs.YtjdmndpadejegaaDoor
open Go.RowKit

theorem open_name {F : Nat} {l : List UInt8} {t : Tok} {n : Nat} (h : openF F l = .ok t n) : t.name.length ≤ l.length := by
  obtain ⟨q, k, _, h0, h, _⟩ := next_inv h
  obtain ⟨c, _, _, h1, h, _⟩ := next_inv h
  cases h
  have h0 : capt (fun l => (charL 2 l).next l fun _ l => nameGo F l) l = .ok q k := h0
  unfold capt at h0
  split at h0 <;> first | cases h0 | skip
  show (l.take _).length ≤ _
  rw [List.length_take]; omega
theorem less_name {F inn : Nat} {name : List UInt8} {l : List UInt8} {t : Tok} {n : Nat} (h : lessF F inn name l = .ok (.tag t) n) : t.name.length ≤ l.length ∨ t.name = name := by
  rcases l with _ | ⟨y, u⟩
  · cases h
  have h : (if y.toNat = 33 then on1 (bangF F inn) (y :: u) else if inn = 2 then badP (y :: u) else if y.toNat = 47 ∧ inn = 1 then on1 (fun l => (endF F name l).next l fun t l => doneP (Mk.tag t) l) (y :: u)
    else (openF F (y :: u)).next (y :: u) fun t l => doneP (Mk.tag t) l) = .ok (.tag t) n := h
  split at h
  · exfalso
    obtain ⟨k, h, _⟩ := on1_inv h
    rcases u with _ | ⟨z, u⟩
    · cases h
    have h : (if z.toNat = 91 ∧ inn = 1 then (lit [91, 67, 68, 65, 84, 65, 91] (z :: u)).next (z :: u) fun _ l => (secGo F false [] l).next l fun t l => doneP (Mk.sec t) l
      else (lit [45, 45] (z :: u)).next (z :: u) fun _ l => (comGo F 0 l).next l fun _ l => doneP Mk.com l) = .ok (.tag t) k := h
    split at h
    · obtain ⟨_, _, _, _, h, _⟩ := next_inv h
      obtain ⟨_, _, _, _, h, _⟩ := next_inv h
      cases h
    · obtain ⟨_, _, _, _, h, _⟩ := next_inv h
      obtain ⟨_, _, _, _, h, _⟩ := next_inv h
      cases h
  · split at h
    · cases h
    · split at h
      · obtain ⟨k, h, _⟩ := on1_inv h
        obtain ⟨_, _, _, h1, h, _⟩ := next_inv h
        cases h
        obtain ⟨_, _, _, _, h1, _⟩ := next_inv h1
        obtain ⟨_, _, _, _, h1, _⟩ := next_inv h1
        cases h1
        exact .inr rfl
      · obtain ⟨_, _, _, h1, h, _⟩ := next_inv h
        cases h
        exact .inl (open_name h1)
theorem goL_name {F inn : Nat} {name : List UInt8} {l : List UInt8} {σ : St} {t : Tok} {n : Nat} (h : goL F inn name .zero l = (σ, .ok t n)) : t.name.length ≤ l.length ∨ t.name = name := by
  obtain ⟨_, _, k, _, h4⟩ := goL_end F inn name _ _ _ _ h
  obtain ⟨_, ⟨u, p2, p3⟩, _⟩ := step_less F inn name _ _ _ _ h4 ⟨by simp, by simp⟩
  refine (less_name p3).imp (fun h => ?_) id
  have := congrArg List.length p2
  rw [List.length_drop, List.length_cons] at this
  omega
structure DrOk (N : Nat) (s : Dr) : Prop where
  inn2 : s.inn ≤ 2
  stk1 : s.inn = 1 → s.stk ≠ []
  nms : ∀ q ∈ s.stk, q.length ≤ N
  stl : s.stk.length ≤ s.toks.length
theorem DrOk.nm {N : Nat} {s : Dr} (h : DrOk N s) : s.nm.length ≤ N := by
  unfold Dr.nm
  cases hl : s.stk.getLast? with
  | none => exact Nat.zero_le _
  | some q => exact h.nms q (List.mem_of_getLast? hl)
theorem next_tok {F : Nat} {all : List UInt8} {fr : Nat} {e : Bool} {inn : Nat} {name : List UInt8} {t : TokP} {fr' : Nat} (h : nextN F all fr e inn name = (.tok t, fr')) : (t.kind = 2 → inn = 1) ∧ t.kind ≤ 3 ∧ (t.name.length ≤ all.length ∨ t.name = name) := by
  unfold nextN at h
  rcases hg : goL F inn name .zero (all.drop fr) with ⟨σ, s⟩
  rw [hg] at h
  cases s with
  | bad n => cases h
  | wait =>
    dsimp only at h
    exfalso
    have h := congrArg (·.1) h
    dsimp only at h
    split at h
    · cases h
    · split at h <;> cases h
  | ok tk n =>
    dsimp only at h
    by_cases ht : σ.text ≠ []
    · rw [if_pos ht] at h
      cases h
      exact ⟨fun h => (by cases h), Nat.zero_le _, .inl (Nat.zero_le _)⟩
    · rw [if_neg ht] at h
      cases h
      have hk := goL_kind hg
      have hn := goL_name hg
      rw [List.length_drop] at hn
      refine ⟨fun h => ?_, ?_, hn.imp (fun h => by show tk.name.length ≤ _; omega) id⟩
      · rcases hk with (hk | hk) | hk
        · exact absurd (hk.symm.trans h) (by decide)
        · exact absurd (hk.symm.trans h) (by decide)
        · exact hk.2.2.2
      · show tk.kind ≤ 3
        rcases hk with (hk | hk) | hk
        · omega
        · omega
        · omega
theorem DrOk.go {N : Nat} {s : Dr} (h : DrOk N s) (t : TokP) (fr : Nat) (hn : t.name.length ≤ N) : DrOk N (s.go t fr) := by
  have hst : (s.go t fr).stk = s.stk' t := rfl
  have hin : (s.go t fr).inn = if s.stk' t = [] ∧ t.kind ≠ 0 then 2 else if t.kind = 1 then 1 else s.inn := rfl
  have hto : (s.go t fr).toks = s.toks ++ [t] := rfl
  refine ⟨?_, fun e => ?_, fun q hq => ?_, ?_⟩
  · rw [hin]
    have := h.inn2
    split
    · exact Nat.le_refl _
    · split <;> omega
  · rw [hst]
    rw [hin] at e
    by_cases hc : s.stk' t = [] ∧ t.kind ≠ 0
    · rw [if_pos hc] at e; cases e
    · rw [if_neg hc] at e
      intro he
      have hk : t.kind = 0 := by
        apply Classical.byContradiction; intro h0; exact hc ⟨he, h0⟩
      rw [hk, if_neg (by decide)] at e
      have : s.stk' t = s.stk := by unfold Dr.stk'; rw [hk, if_neg (by decide), if_neg (by decide)]
      rw [this] at he
      exact h.stk1 e he
  · rw [hst] at hq
    unfold Dr.stk' at hq
    split at hq
    · rcases List.mem_append.1 hq with hq | hq
      · exact h.nms q hq
      · obtain rfl : q = t.name := by simpa using hq
        exact hn
    · split at hq
      · exact h.nms q (List.dropLast_subset _ hq)
      · exact h.nms q hq
  · rw [hst, hto, List.length_append, List.length_singleton]
    have := h.stl
    unfold Dr.stk'
    split
    · rw [List.length_append, List.length_singleton]; omega
    · split
      · rw [List.length_dropLast]; omega
      · omega
end Go.Proofs.YtjdmndpadejegaaDoor
