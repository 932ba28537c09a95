/-
  Scan, plain law: a scanner between two calls; what a call of Next does to it.
-/
import Derived.Test.YtjdmndpadejegaaDoorMgT
import Derived.Test.YtjdmndpadejegaaDoorMgU
import Derived.Test.YtjdmndpadejegaaDoorMgK
import Derived.Deep.AppendSrc
import Derived.Deep.Upon
import Derived.Test.YtjdmndpadejegaaDoorMgD
import Derived.RangeFuncNested
import Derived.RangeFuncBox
import Derived.RangeFuncLeaves
import Derived.Maps.AppendAt
import Derived.Test.YtjdmndpadejegaaDoorMgA
import Derived.Test.YtjdmndpadejegaaDoorProg
import Derived.Shelf.Abstract
import Derived.WalkKit
import Derived.OwnWalkIn
import Derived.TacticsInMore
import Derived.LoopNIn
import Derived.LoopIn
namespace Go.Proofs.YtjdmndpadejegaaDoor
open Go.RowKit

def RCut (b : List UInt8) (k : Nat) : Prop := k ≤ b.length ∧ (k = 0 ∨ (∃ t, b.drop k = 60 :: t) ∨ ∃ t, b.take k = t ++ [62])
theorem RCut.zero (b : List UInt8) : RCut b 0 := ⟨Nat.zero_le _, .inl rfl⟩
theorem RCut.app {b : List UInt8} {k : Nat} (h : RCut b k) (m : List UInt8) : RCut (b ++ m) k := by
  obtain ⟨h1, h2⟩ := h
  refine ⟨by rw [List.length_append]; omega, ?_⟩
  rcases h2 with h2 | ⟨t, h2⟩ | ⟨t, h2⟩
  · exact .inl h2
  · exact .inr (.inl ⟨t ++ m, by rw [List.drop_append_of_le_length h1, h2]; rfl⟩)
  · exact .inr (.inr ⟨t, by rw [List.take_append_of_le_length h1, h2]⟩)
theorem RCut.place {b : List UInt8} {k : Nat} (h : RCut b k) (j : Nat) (hj : k + j ≤ b.length) : PLof b (k + j) = { plL (b.drop k) j (PLof b k) with byte := k + j } := by
  refine PLof_add b k j hj ?_
  rcases h.2 with rfl | ⟨t, h2⟩ | ⟨t, h2⟩
  · left; simp
  · rcases Nat.eq_zero_or_pos j with rfl | hp
    · right; left; simp
    · obtain ⟨i, rfl⟩ : ∃ i, j = i + 1 := ⟨j - 1, by omega⟩
      refine .inr (.inr (.inl ⟨60, t.take i, by rw [h2]; rfl, by decide⟩))
  · exact .inr (.inr (.inr ⟨t, 62, h2, by decide⟩))
theorem RCut.stays {b : List UInt8} {k : Nat} (h : RCut b k) (m : List UInt8) : PLof (b ++ m) k = PLof b k := by
  by_cases hb : b = []
  · subst hb
    have h1 := h.1
    obtain rfl : k = 0 := by simpa using h1
    unfold PLof
    rw [plL_zero, plL_zero]
  · refine PLof_app b m k h.1 ?_
    rcases Nat.lt_or_ge k b.length with hk | hk
    · exact .inl hk
    · right
      have hk : k = b.length := Nat.le_antisymm h.1 hk
      intro t x e
      rcases h.2 with h2 | ⟨u, h2⟩ | ⟨u, h2⟩
      · exfalso; apply hb; apply List.eq_nil_of_length_eq_zero; omega
      · rw [hk, List.drop_length] at h2; cases h2
      · rw [hk, List.take_length, e] at h2
        have := List.append_inj_right' h2 rfl
        injection this with this _
        subst this
        decide
structure MkOk (F : Nat) (r : List UInt8) (inn : Nat) (nm : List UInt8) (σ : St) : Prop where
  ex : ∃ k, k ≤ r.length ∧ goL F inn nm .zero (r.take k) = (σ, .wait)
  le : σ.i ≤ r.length
  br : σ.br ≤ σ.i
  len : σ.text.length ≤ σ.i
  cr : inn = 1 → σ.cr = crAt r σ.i
  inn2 : inn ≤ 2
theorem crAt_app (r m : List UInt8) (i : Nat) (h : i ≤ r.length) : crAt (r ++ m) i = crAt r i := by
  unfold crAt
  by_cases h1 : 1 ≤ i
  · rw [List.getD_eq_getElem?_getD, List.getD_eq_getElem?_getD, List.getElem?_append_left (by omega)]
  · simp [h1]
theorem MkOk.app {F : Nat} {r : List UInt8} {inn : Nat} {nm : List UInt8} {σ : St} (h : MkOk F r inn nm σ) (m : List UInt8) : MkOk F (r ++ m) inn nm σ := by
  obtain ⟨⟨k, h1, h2⟩, h3, h4, h5, h6, h7⟩ := h
  exact ⟨⟨k, by rw [List.length_append]; omega, by rw [List.take_append_of_le_length h1]; exact h2⟩, by rw [List.length_append]; omega, h4, h5, fun e => by rw [crAt_app r m _ h3]; exact h6 e, h7⟩
theorem MkOk.go {F : Nat} {r : List UInt8} {inn : Nat} {nm : List UInt8} {σ : St} (h : MkOk F r inn nm σ) : goL F inn nm σ (r.drop σ.i) = goL F inn nm .zero r := by
  obtain ⟨k, h1, h2⟩ := h.ex
  have := goL_resume F inn nm (r.drop k) _ _ _ h2
  rw [List.take_append_drop] at this
  rw [this]
  rfl
theorem MkOk.new (F : Nat) (r : List UInt8) (inn : Nat) (nm : List UInt8) (σ : St) (h2 : goL F inn nm .zero r = (σ, .wait)) (hb : σ.br ≤ σ.i) (hl : σ.text.length ≤ σ.i) (hcr : inn = 1 → σ.cr = crAt r σ.i) (hin : inn ≤ 2) : MkOk F r inn nm σ :=
  ⟨⟨r.length, Nat.le_refl _, by rw [List.take_length]; exact h2⟩, by have := (goL_end F inn nm _ _ _ _ h2).2.1; simp only [St.zero, Nat.zero_add] at this; exact this, hb, hl, hcr, hin⟩
def BegOk (σ : St) : Prop := σ.text = [] ∨ 0 ≤ σ.beg ∧ σ.beg ≤ σ.i
theorem BegOk.act {σ : St} (h : BegOk σ) (m : Mk) (n : Nat) : BegOk (σ.act m n) := by
  unfold BegOk at h ⊢
  cases m with
  | tag t => exact h
  | com => exact h.imp id fun ⟨a, b⟩ => ⟨a, by show σ.beg ≤ ((σ.i + n : Nat) : Int); omega⟩
  | skip => exact h.imp id fun ⟨a, b⟩ => ⟨a, by show σ.beg ≤ ((σ.i + n : Nat) : Int); omega⟩
  | sec t =>
    show σ.text ++ t = [] ∨ 0 ≤ (if σ.text = [] ∧ t ≠ [] then (σ.i : Int) else σ.beg) ∧ (if σ.text = [] ∧ t ≠ [] then (σ.i : Int) else σ.beg) ≤ ((σ.i + n : Nat) : Int)
    by_cases h0 : σ.text = [] ∧ t ≠ []
    · rw [if_pos h0]; right; omega
    · rw [if_neg h0]
      rcases h with h | ⟨a, b⟩
      · left
        by_cases ht : t = []
        · rw [h, ht]; rfl
        · exact absurd ⟨h, ht⟩ h0
      · right; omega
  | put r w =>
    simp only [St.act]
    split
    · exact h.imp id fun ⟨a, b⟩ => ⟨a, by show σ.beg ≤ ((σ.i + n : Nat) : Int); omega⟩
    · right
      show 0 ≤ (if σ.text = [] then (σ.i : Int) else σ.beg) ∧ (if σ.text = [] then (σ.i : Int) else σ.beg) ≤ ((σ.i + n : Nat) : Int)
      by_cases h0 : σ.text = []
      · rw [if_pos h0]; omega
      · rw [if_neg h0]
        rcases h with h | ⟨a, b⟩
        · exact absurd h h0
        · omega
theorem goL_beg (F inn : Nat) (name : List UInt8) : ∀ σ l τ r, BegOk σ → goL F inn name σ l = (τ, r) → BegOk τ := by
  refine goL_ind fun σ l ih τ r h0 h => ?_
  rw [goL_eq] at h
  cases hs : stepF F inn name (decide (2 ≤ σ.br)) l with
  | wait => rw [hs] at h; cases h; exact h0
  | bad n => rw [hs] at h; cases h; exact h0
  | ok a n =>
    obtain ⟨p1, p2⟩ := step_pos _ _ _ _ _ _ _ hs
    rw [hs] at h
    by_cases ha : ∃ t, a = .tag t
    · obtain ⟨t, rfl⟩ := ha
      cases h; exact h0
    · have h' : goL F inn name (σ.act a n) (l.drop n) = (τ, r) := by
        cases a <;> first | exact h | exact absurd ⟨_, rfl⟩ ha
      exact ih _ _ (by rw [List.length_drop]; omega) _ _ (h0.act a n) h'
theorem beg_zero : BegOk .zero := .inl rfl
structure Sn where
  all : List UInt8
  fr : Nat
  ended : Bool
  mk' : Option (Nat × List UInt8 × St)
def Sn.new : Sn := ⟨[], 0, false, none⟩
def Sn.rest (S : Sn) : List UInt8 := S.all.drop S.fr
structure SnOk (F : Nat) (S : Sn) : Prop where
  cut : RCut S.all S.fr
  big : S.all.length < F
  mk' : ∀ inn nm σ, S.mk' = some (inn, nm, σ) → MkOk F S.rest inn nm σ
theorem SnOk.new {F : Nat} (h : 0 < F) : SnOk F .new := ⟨RCut.zero _, h, fun _ _ _ e => by cases e⟩
def Sn.push (S : Sn) (m : List UInt8) : Sn := { S with all := S.all ++ m }
def Sn.fin (S : Sn) : Sn := { S with ended := true }
theorem Sn.rest_push {S : Sn} (h : S.fr ≤ S.all.length) (m : List UInt8) : (S.push m).rest = S.rest ++ m := List.drop_append_of_le_length h
theorem SnOk.push {F : Nat} {S : Sn} (h : SnOk F S) (m : List UInt8) (hb : S.all.length + m.length < F) : SnOk F (S.push m) :=
  ⟨h.cut.app m, by show (S.all ++ m).length < F; rw [List.length_append]; exact hb, fun inn nm σ e => by rw [Sn.rest_push h.cut.1]; exact (h.mk' inn nm σ e).app m⟩
theorem SnOk.fin {F : Nat} {S : Sn} (h : SnOk F S) : SnOk F S.fin := ⟨h.cut, h.big, h.mk'⟩
def innOf (z : Int) : Nat := if z = 0 then 0 else if z = 1 then 1 else 2
theorem innOf_le (z : Int) : innOf z ≤ 2 := by unfold innOf; split; decide; split <;> decide
def Sn.next (F : Nat) (S : Sn) (inn : Nat) (nm : List UInt8) : Sn :=
  match goL F inn nm .zero S.rest with
  | (_, .bad _) => S
  | (σ, .wait) => { S with mk' := some (inn, nm, σ) }
  | (σ, .ok _ n) => { S with fr := if σ.text ≠ [] then S.fr + σ.i else S.fr + n, mk' := none }
theorem Sn.next_fr (F : Nat) (S : Sn) (inn : Nat) (nm : List UInt8) : (S.next F inn nm).fr = (nextN F S.all S.fr S.ended inn nm).2 ∧ (S.next F inn nm).all = S.all ∧ (S.next F inn nm).ended = S.ended := by
  unfold Sn.next nextN Sn.rest
  rcases goL F inn nm .zero (S.all.drop S.fr) with ⟨σ, s⟩
  cases s with
  | wait => exact ⟨rfl, rfl, rfl⟩
  | bad n => exact ⟨rfl, rfl, rfl⟩
  | ok t n =>
    refine ⟨?_, rfl, rfl⟩
    show (if σ.text ≠ [] then S.fr + σ.i else S.fr + n) = _
    dsimp only
    by_cases h : σ.text ≠ []
    · rw [if_pos h, if_pos h]
    · rw [if_neg h, if_neg h]
theorem cut_text {F : Nat} {b : List UInt8} {k inn : Nat} {nm : List UInt8} {σ : St} {t : Tok} {n : Nat} (hk : k ≤ b.length) (h : goL F inn nm .zero (b.drop k) = (σ, .ok t n)) : RCut b (k + σ.i) ∧ RCut b (k + n) ∧ σ.i < n ∧ k + n ≤ b.length := by
  obtain ⟨h1, h2, j, h3, h4⟩ := goL_end F inn nm _ _ _ _ h
  obtain ⟨g1, g2, _⟩ := goL_ok F inn nm _ _ _ _ _ h
  simp only [St.zero, Nat.sub_zero, Nat.zero_add] at h4 g2
  rw [List.length_drop] at g2
  obtain ⟨p1, ⟨u, p2, _⟩, y, p3, p4⟩ := step_less F inn nm _ _ _ _ h4 ⟨by simp, by simp⟩
  rw [List.drop_drop] at p2 p3
  refine ⟨⟨by omega, .inr (.inl ⟨u, p2⟩)⟩, ⟨by omega, .inr (.inr ⟨b.take (k + n - 1), ?_⟩)⟩, by omega, by omega⟩
  rw [List.getElem?_drop, show k + σ.i + (j - 1) = k + n - 1 by omega] at p3
  obtain ⟨q1, q2⟩ := List.getElem?_eq_some_iff.1 p3
  have e : y = 62 := by rw [← byte_of p4]; rfl
  rw [show k + n = (k + n - 1) + 1 by omega, List.take_add_one, List.getElem?_eq_getElem (by omega), q2, e]
  rfl
theorem SnOk.next {F : Nat} {S : Sn} (h : SnOk F S) {inn : Nat} {nm : List UInt8} (hw : ∀ σ, goL F inn nm .zero S.rest = (σ, .wait) → MkOk F S.rest inn nm σ) : SnOk F (S.next F inn nm) := by
  unfold Sn.next
  rcases hg : goL F inn nm .zero S.rest with ⟨σ, s⟩
  cases s with
  | bad n => exact h
  | wait => exact ⟨h.cut, h.big, fun i m τ e => by
      have e : some (inn, nm, σ) = some (i, m, τ) := e
      injection e with e
      injection e with e1 e
      injection e with e2 e3
      subst e1; subst e2; subst e3
      exact hw _ hg⟩
  | ok t n =>
    obtain ⟨c1, c2, _⟩ := cut_text h.cut.1 hg
    refine ⟨?_, h.big, fun _ _ _ e => by cases e⟩
    show RCut S.all (if σ.text ≠ [] then S.fr + σ.i else S.fr + n)
    by_cases ht : σ.text ≠ []
    · rw [if_pos ht]; exact c1
    · rw [if_neg ht]; exact c2
def Sn.start (S : Sn) (inn : Nat) (nm : List UInt8) : St :=
  match S.mk' with
  | none => .zero
  | some (i, m, σ) => if i = inn ∧ m = nm then σ else .zero
theorem SnOk.start {F : Nat} {S : Sn} (h : SnOk F S) (inn : Nat) (nm : List UInt8) :
    goL F inn nm (S.start inn nm) (S.rest.drop (S.start inn nm).i) = goL F inn nm .zero S.rest ∧ (S.start inn nm).i ≤ S.rest.length ∧ (S.start inn nm).br ≤ (S.start inn nm).i ∧ (S.start inn nm).text.length ≤ (S.start inn nm).i ∧ (inn = 1 → (S.start inn nm).cr = crAt S.rest (S.start inn nm).i) := by
  have hz : goL F inn nm .zero (S.rest.drop St.zero.i) = goL F inn nm .zero S.rest ∧ St.zero.i ≤ S.rest.length ∧ St.zero.br ≤ St.zero.i ∧ St.zero.text.length ≤ St.zero.i ∧ (inn = 1 → St.zero.cr = crAt S.rest St.zero.i) :=
    ⟨rfl, Nat.zero_le _, Nat.le_refl _, Nat.le_refl _, fun _ => by simp [crAt, St.zero]⟩
  unfold Sn.start
  cases hm : S.mk' with
  | none => exact hz
  | some q =>
    obtain ⟨i, m, σ⟩ := q
    show goL F inn nm (if i = inn ∧ m = nm then σ else .zero) _ = _ ∧ _
    by_cases he : i = inn ∧ m = nm
    · obtain ⟨rfl, rfl⟩ := he
      have := h.mk' _ _ _ hm
      simp only [and_self, if_true]
      exact ⟨this.go, this.le, this.br, this.len, this.cr⟩
    · simp only [he, if_false]
      exact hz
end Go.Proofs.YtjdmndpadejegaaDoor

namespace Go.Proofs.YtjdmndpadejegaaDoor
open Go.RowKit

section
variable {P : Program} {w : World} {e : TypeId} {v : Value} {n : Nat} {xs : List Value}
theorem run_qappn (t ty : TypeId) (i : TypeInfo) (z : Value) (bytes : Nat) (ht : P.underlying t = Option.some (.slice e)) (hi : P.info? e = Option.some i) (hz : i.zero = Option.some z)
    (hsize : i.size = 1) (hby : i.bytes = bytes) (hzs : z.cells.size = 1) (h : QRow w e 1 v n xs)
    (A : Option Addr) (m c : Nat) (news : List Value) (hl : Sl w A m news) (h1 : ∀ u ∈ news, u.oneCell' = true)
    (h63 : n + m ≤ maxLen) (hbytes : (n + m) * bytes ≤ 140737488355328) :
    ∃ v' w', (Builtin.append_ #[t, t] ty #[v, .slice A m c]).run P w = .ok v' w' ∧ QRow w' e 1 v' (n + m) (xs ++ news) ∧ w.grownBy w' v.ownBlock ∧ (v'.ownBlock = v.ownBlock ∨ ∃ g, v'.ownBlock = Option.some g ∧ w.heap.size ≤ g) ∧ (m = 0 → v' = v) := by
  have hlen := hl.len
  rcases Nat.eq_zero_or_pos m with rfl | hm
  · obtain rfl : news = [] := List.eq_nil_of_length_eq_zero hlen.symm
    obtain ⟨a, cv, rfl, hle⟩ := h.slice
    have hs : Src P i.size t (.slice A 0 c) 0 [] w := by
      cases A with
      | none => exact Src.ofNil (P := P) w ht c
      | some ad => exact Src.ofSlice (P := P) w ht ad 0 c [] (by simp) (by intro _ _ h'; simp at h') (by simp)
    refine ⟨_, _, run_append_nothing (P := P) w t t ty e i ht hi a n cv hle _ hs, by simpa using h, ⟨rfl, rfl, rfl, Nat.le_refl _, fun _ _ _ => rfl⟩, .inl rfl, fun _ => rfl⟩
  obtain ⟨gb, go, rfl, _, _⟩ := hl.cell 0 (by omega)
  have hnews : ∀ j u, news[j]? = Option.some u → w.cell? ((⟨gb, go, none⟩ : Addr).add j) = Option.some u := by
    intro j u hj
    obtain ⟨hj1, hj2⟩ := List.getElem?_eq_some_iff.1 hj
    obtain ⟨b, off, he, _, hc⟩ := hl.cell j hj1
    injection he with he
    injection he with e1 e2 e3
    subst e1; subst e2
    rw [Addr.add_lit, hc, hj2]
  have hl1 : news.length = m * 1 := by omega
  have hown : ∀ v' w', w'.ownsRow w.heap.size e 1 v' (n + m) (xs ++ news) → w.grownBy w' none → QRow w' e 1 v' (n + m) (xs ++ news) ∧ w.grownBy w' v.ownBlock ∧ (v'.ownBlock = v.ownBlock ∨ ∃ g, v'.ownBlock = Option.some g ∧ w.heap.size ≤ g) ∧ (m = 0 → v' = v) := by
    intro v' w' r1 r2
    refine ⟨QRow.own r1, ⟨r2.os, r2.tape, r2.output, r2.size, fun k hk _ => r2.block k hk (by simp)⟩, .inr ?_, fun h0 => absurd h0 (by omega)⟩
    rcases r1.2 with ⟨_, h0⟩ | ⟨g, cap, cur, rfl, hg, _⟩
    · omega
    · exact ⟨g, rfl, hg⟩
  rcases h.2 with ⟨A', rfl, rfl⟩ | ⟨g, off, cap, cur, rfl, hh, h5, h6, h7, h8⟩
  · have hx : xs = [] := List.eq_nil_of_length_eq_zero (by have := h.1; omega)
    subst hx
    cases A' with
    | none =>
      obtain ⟨v', w', hr, r1, r2, _⟩ := run_append_own (P := P) w w.heap.size t ty e i z 1 bytes ht hi hz hsize hby hzs (by decide) (.slice none 0 0) 0 [] (World.ownsRow_nil w _ e 1) ⟨gb, go, none⟩ m c news hl1 hnews h1 h63 hbytes (Nat.le_refl _)
      exact ⟨v', w', hr, hown v' w' r1 r2⟩
    | some a' =>
      obtain ⟨v', w', hr, r1, r2⟩ := run_append_arg_grows (P := P) w t ty e i z 1 bytes ht hi hz hsize hby hzs (by decide) a' 0 0 [] (by simp) (by intro _ _ h'; simp at h') ⟨gb, go, none⟩ m c news hl1 hnews (by omega) h63 hbytes
      exact ⟨v', w', hr, hown v' w' r1 r2⟩
  · simp only [Nat.mul_one] at h7 h8
    by_cases hroom : n + m ≤ cap
    · have hfit : off + n + m ≤ cur.toList.length := by rw [Array.length_toList, h7]; omega
      obtain ⟨pa, pb, pc, pd, e1, e2, e3, e4, e5⟩ := cut3 cur.toList off n m hfit
      have hcur : cur = (pa ++ (pb ++ (pc ++ pd))).toArray := by rw [← e1]
      have hb' : pb = xs := by rw [e5, h8]
      have hlen0 : (pa ++ pb).length = off + n * i.size := by rw [List.length_append, e2, e3, hsize, Nat.mul_one]
      have hh2 : w.heap[g]? = Option.some (.cells ((pa ++ pb) ++ (pc ++ pd)).toArray e (0, 0)) := by rw [hh, hcur, List.append_assoc]
      have hcell : ∀ j, j < news.length → (w.cell? ⟨g, off + n * i.size + j, none⟩).isSome = true := fun j hj => by
        rw [cell_heap hh2, ← hlen0]
        simp only [List.getElem?_toArray]
        rw [List.getElem?_append_right (by omega), Nat.add_sub_cancel_left, List.getElem?_append_left (by omega)]
        rw [List.getElem?_eq_getElem (by omega)]; rfl
      have hr := run_append_room_cells (P := P) w t ty e i ht hi g off n cap ⟨gb, go, none⟩ m c news (by rw [hsize]; exact hl1) hnews h1 hroom hcell (fun j _ => frozen_heap hh)
      obtain ⟨g1, g2, g3, g4, g5, g6⟩ := setCells_mid g e pd news w (pa ++ pb) pc hh2 (by omega)
      rw [hlen0] at g1 g2 g3 g4 g5 g6
      refine ⟨_, _, hr, ⟨by rw [List.length_append, h.1, hl1, Nat.add_mul], .inr ⟨g, off, cap, _, rfl, g1, hroom, h6, ?_, ?_⟩⟩, ⟨g4, g5, g6, Nat.le_of_eq g3.symm, fun k _ hk => g2 k (fun e => hk (by rw [e]; rfl))⟩, .inl rfl, fun h0 => absurd h0 (by omega)⟩
      · have hs : cur.size = (pa ++ (pb ++ (pc ++ pd))).length := by rw [hcur]; simp
        rw [h7] at hs
        simp only [List.size_toArray, List.length_append] at hs ⊢
        omega
      · have hx : (((pa ++ pb) ++ (news ++ pd)).toArray.toList.drop off) = (xs ++ news) ++ pd := by
          rw [List.toList_toArray, List.append_assoc, ← e2, List.drop_left, hb', List.append_assoc]
        rw [hx, List.take_left']
        rw [List.length_append, h.1, hl1, Nat.add_mul]
    · have holds : ∀ j u, xs[j]? = Option.some u → w.cell? ((⟨g, off, none⟩ : Addr).add j) = Option.some u := by
        intro j u hj
        rw [Addr.add_lit, cell_heap hh]
        rw [← h8, List.getElem?_take] at hj
        split at hj
        · simpa using hj
        · cases hj
      obtain ⟨v', w', hr, r1, r2⟩ := run_append_arg_grows (P := P) w t ty e i z 1 bytes ht hi hz hsize hby hzs (by decide) ⟨g, off, none⟩ n cap xs h.1 holds ⟨gb, go, none⟩ m c news hl1 hnews (by omega) h63 hbytes
      exact ⟨v', w', hr, hown v' w' r1 r2⟩
theorem QRow.drop {a : Option Addr} {c : Nat} (h : QRow w e 1 (.slice a n c) n xs) (k : Nat) (hk : k ≤ n) : QRow w e 1 (.slice (if c = k then a else a.map (·.add k)) (n - k) (c - k)) (n - k) (xs.drop k) := by
  obtain ⟨h1, h2⟩ := h
  rcases h2 with ⟨A, hv, h2⟩ | ⟨g, off, cap, cur, hv, hh, h5, h6, h7, h8⟩
  · cases hv
    obtain rfl : k = 0 := by omega
    refine ⟨by rw [List.length_drop]; omega, .inl ⟨_, rfl, rfl⟩⟩
  · cases hv
    have hlen : (xs.drop k).length = (n - k) * 1 := by rw [List.length_drop]; omega
    by_cases hc : c = k
    · subst hc
      obtain rfl : n = c := by omega
      exact ⟨hlen, .inl ⟨_, by rw [Nat.sub_self], Nat.sub_self _⟩⟩
    · rw [if_neg hc]
      refine ⟨hlen, .inr ⟨g, off + k, c - k, cur, by simp [Addr.add_lit], hh, by omega, by omega, by omega, ?_⟩⟩
      rw [← h8, List.drop_take, List.drop_drop]
      congr 1
      omega
theorem QRow.sl (h : QRow w e 1 v n xs) : ∃ a c, v = .slice a n c ∧ n ≤ c ∧ Sl w a n xs := by
  cases n with
  | zero =>
    obtain ⟨a, c, rfl, hc⟩ := h.slice
    obtain rfl : xs = [] := List.eq_nil_of_length_eq_zero (by have := h.1; omega)
    exact ⟨a, c, rfl, hc, Sl.nil w a⟩
  | succ n =>
    obtain ⟨g, off, c, rfl, h1, h2, _, h3⟩ := h.here
    exact ⟨_, c, rfl, h1, by have := h.1; omega, fun i hi => ⟨g, off, rfl, h2, h3 i _ (by simp)⟩⟩
end
theorem wpList_qappn {P : Program} (w : World) {ops : Array Oper} {rest : List Oper} {o : Oper} {a : Act} {Q : Exit → Act → World → Prop} (hgd : o.guard = none) (s x : Operand) (t : TypeId)
    (ho : o.op = .call { callee := .builtin .append, args := #[s, x], argTypes := #[t, t] })
    (e : TypeId) (i : TypeInfo) (z : Value) (bytes : Nat) (ht : P.underlying t = some (.slice e)) (hi : P.info? e = some i) (hz : i.zero = some z)
    (hsize : i.size = 1) (hby : i.bytes = bytes) (hzs : z.cells.size = 1)
    (v : Value) (n : Nat) (xs : List Value) (hs : a.eval s = v) (hown : QRow w e 1 v n xs)
    (A : Option Addr) (m c : Nat) (news : List Value) (hx : a.eval x = .slice A m c) (hl : Sl w A m news) (h1 : ∀ u ∈ news, u.oneCell' = true)
    (hn : n + m ≤ 4294967296) (hbb : bytes ≤ 16384)
    (h : ∀ v' w', QRow w' e 1 v' (n + m) (xs ++ news) → w.grownBy w' v.ownBlock → (v'.ownBlock = v.ownBlock ∨ ∃ g, v'.ownBlock = some g ∧ w.heap.size ≤ g) → (m = 0 → v' = v) → wpList P ops Q rest (a.put o.dst v') w') :
    wpList P ops Q (o :: rest) a w := by
  have hb : (n + m) * bytes ≤ 140737488355328 := Nat.le_trans (Nat.mul_le_mul hn hbb) (by decide)
  refine wpList_plain hgd fun K hK => ?_
  obtain ⟨v', w', hr, r1, r2, r3, r4⟩ := run_qappn (P := P) (w := w) t o.type i z bytes ht hi hz hsize hby hzs hown A m c news hl h1 (by unfold maxLen; omega) hb
  unfold Oper.wp execOp
  simp only [ho, resolve, invoke, builtin, Sem.run_bind, Sem.run_pure, Result.andThen_ok, List.map_toArray, List.map_cons, List.map_nil, hs, hx, hr]
  exact hK _ _ (h v' w' r1 r2 r3 r4)
end Go.Proofs.YtjdmndpadejegaaDoor

namespace Go.Proofs.YtjdmndpadejegaaDoor
open Go.RowKit

structure KpX (X : Nat → Prop) (D : Nat) (A B : World) : Prop where
  os : B.os = A.os
  tape : B.tape = A.tape
  output : B.output = A.output
  size : A.heap.size ≤ B.heap.size
  block : ∀ k, k < D → ¬ X k → B.heap[k]? = A.heap[k]?
theorem KpX.refl (X : Nat → Prop) (D : Nat) (A : World) : KpX X D A A := ⟨rfl, rfl, rfl, Nat.le_refl _, fun _ _ _ => rfl⟩
theorem KpX.trans {X : Nat → Prop} {D : Nat} {A B C : World} (h : KpX X D A B) (k : KpX X D B C) : KpX X D A C :=
  ⟨k.os.trans h.os, k.tape.trans h.tape, k.output.trans h.output, Nat.le_trans h.size k.size, fun i h1 h2 => (k.block i h1 h2).trans (h.block i h1 h2)⟩
theorem KpX.weak {X Y : Nat → Prop} {D E : Nat} {A B : World} (h : KpX X D A B) (hE : E ≤ D) (hX : ∀ k, k < E → X k → Y k) : KpX Y E A B :=
  ⟨h.os, h.tape, h.output, h.size, fun i h1 h2 => h.block i (by omega) (fun hx => h2 (hX i h1 hx))⟩
theorem KpX.of_below {X : Nat → Prop} {D : Nat} {A B : World} (h : Below D A B) : KpX X D A B := ⟨h.os, h.tape, h.output, h.size, fun i h1 _ => h.block i h1⟩
theorem KpX.below {X : Nat → Prop} {D E : Nat} {A B : World} (h : KpX X D A B) (hE : E ≤ D) (hX : ∀ k, k < E → ¬ X k) : Below E A B := ⟨h.os, h.tape, h.output, h.size, fun i h1 => h.block i (by omega) (hX i h1)⟩
theorem KpX.set {X : Nat → Prop} {D : Nat} {A B : World} (h : KpX X D A B) {b : Nat} (hb : X b) (j : Nat) (u : Value) : KpX X D A (B.setCell ⟨b, j, none⟩ u) :=
  ⟨h.os, h.tape, h.output, by simp [World.setCell]; exact h.size, fun k h1 h2 => (Below.heap_setCell _ _ _ _ (fun e => by have e' : k = b := e; subst e'; exact h2 hb)).trans (h.block k h1 h2)⟩
theorem KpX.grown {X : Nat → Prop} {D : Nat} {A B C : World} {row : Option Nat} (h : KpX X D A B) (hg : B.grownBy C row) (hD : D ≤ B.heap.size) (hr : ∀ k, row = some k → D ≤ k ∨ X k) : KpX X D A C :=
  ⟨hg.os.trans h.os, hg.tape.trans h.tape, hg.output.trans h.output, Nat.le_trans h.size hg.size, fun k h1 h2 => (hg.block k (by omega) (fun e => by rcases hr k e.symm with h3 | h3; omega; exact h2 h3)).trans (h.block k h1 h2)⟩
theorem KpX.alloc {X : Nat → Prop} {D : Nat} {A B : World} (h : KpX X D A B) (hD : D ≤ B.heap.size) (o : Obj) : KpX X D A (B.alloc o) :=
  h.grown (World.grownBy_alloc B o none) hD (fun k e => by cases e)
theorem kpX_b {X : Nat → Prop} {D : Nat} {w : World} (hn : D ≤ w.heap.size) (W : World) (l : Nat) (o o' : Obj) (hl : w.heap.size ≤ l) (h : W.heap[l]? = some o) (_ : o.isCells = false) (_ : o.isWalk = false) : KpX X D W (W.putObj l o') :=
  (KpX.refl X D W).grown (grownBy_putObj' W l o') (by have := (Array.getElem?_eq_some_iff.1 h).1; omega) (fun k e => by cases e; exact .inl (by omega))
theorem ownFrom_kpX {β : Type} {X : Nat → Prop} {D B : Nat} {w₀ : World} (hn : D ≤ w₀.heap.size) (hB : D ≤ B) : OwnFrom B (fun (_ : β) W => KpX X D w₀ W) :=
  fun _ _ _ _ hs hg hr => hs.grown hg (Nat.le_trans hn hs.size) (fun k e => .inl (Nat.le_trans hB (hr k e).1))
theorem boxApp {X : Nat → Prop} {W w1 : World} {D B : Nat} {t e : TypeId} {size : Nat} {v v' : Value} {k m : Nat} {xs ys : List Value} {tmp : Obj}
    (hv : Boxed W B t v) (hrow : W.ownsRow D e size v k xs) (hBD : B < D) (hX : X B) (hD : D ≤ W.heap.size) (hown' : w1.ownsRow D e size v' m ys) (hgrow : (W.alloc tmp).grownBy w1 v.ownBlock) :
    Boxed w1 B t v ∧ Boxed (w1.setCell ⟨B, 0, none⟩ v') B t v' ∧ (w1.setCell ⟨B, 0, none⟩ v').ownsRow D e size v' m ys ∧ KeepsOthers W (w1.setCell ⟨B, 0, none⟩ v') ∧ KpX X D W (w1.setCell ⟨B, 0, none⟩ v') := by
  have hne : some B ≠ v.ownBlock := fun e => by have := (hrow.lt B e.symm).1; omega
  have hne' : v'.ownBlock ≠ some B := fun e => by have := (hown'.lt B e).1; omega
  have hv1 : Boxed w1 B t v := (hv.alloc tmp).kept hgrow hne
  refine ⟨hv1, hv1.set v', hown'.kept (grownBy_setCell' w1 B v') (.inr hne'), ?_, ?_⟩
  · refine ((KeepsOthers.alloc W tmp).trans (KeepsOthers.of_grownBy hgrow fun j o ej hj => ?_)).trans (KeepsOthers.setCell _ _ _)
    rcases (hrow.alloc tmp).2 with ⟨rfl, _⟩ | ⟨g, cap, cur, rfl, _, hgb, _⟩
    · simp [Value.ownBlock] at ej
    · obtain rfl : g = j := by simpa [Value.ownBlock] using ej
      rw [hgb] at hj; cases hj; rfl
  · refine (((KpX.refl X D W).alloc hD tmp).grown hgrow (by simp; omega) (fun k e => ?_)).set hX _ _
    exact .inl (hrow.lt k e).1
end Go.Proofs.YtjdmndpadejegaaDoor

namespace Go.Proofs.YtjdmndpadejegaaDoor
open Go.RowKit Go.Shelf

attribute [local go_sem] Oper.semAt_some

def prsF : Nat → Nat → List UInt8 → List (Nat × Nat)
  | 0, _, _ => []
  | f + 1, p, l => if l = [] then [] else (p, (decL l).1) :: prsF f (p + (decL l).2) (l.drop (decL l).2)
theorem prsF_at {m p : Nat} {l : List UInt8} (h : l ≠ []) (hm : l.length ≤ m) : prsF m p l = (p, (decL l).1) :: prsF (m - 1) (p + (decL l).2) (l.drop (decL l).2) := by
  cases m with
  | zero => exact absurd (List.eq_nil_of_length_eq_zero (by omega)) h
  | succ m => show (if l = [] then [] else _) = _; rw [if_neg h]; rfl
theorem prsF_end (m p : Nat) : prsF m p [] = [] := by cases m <;> rfl
theorem prsF_len : ∀ (m p : Nat) (l : List UInt8), (prsF m p l).length ≤ l.length
  | 0, _, _ => Nat.zero_le _
  | m + 1, p, l => by
    show (if l = [] then [] else _ : List (Nat × Nat)).length ≤ _
    split
    · exact Nat.zero_le _
    · rename_i h
      have := prsF_len m (p + (decL l).2) (l.drop (decL l).2)
      have h1 := dec_pos l h
      have h2 := dec_le l h
      rw [List.length_drop] at this
      rw [List.length_cons]
      omega
def prs (l : List UInt8) : List (Nat × Nat) := prsF l.length 0 l
theorem all_makes (s : ByteArray) (w : World) :
    Calls Tryd.prog 27 #[.string s] w fun e w' => e = .returned (.func (.func 41) #[] #[.pointer (some ⟨w.heap.size, 0, none⟩)]) ∧ w' = w.alloc (.cells #[.string s] 9) := by
  go_enter Tryd.func27, Tryd.ntmps27
  go_wp2_with fail
  go_ret
  exact ⟨rfl, rfl⟩
set_option maxRecDepth 1000000 in
set_option maxHeartbeats 4000000 in
theorem all_rounds (n : Nat) (hn : 1 ≤ n) (B0 : Nat) (s : ByteArray) (Kp : World → World → Prop) (hKw : ∀ {A B : World}, Kp A B → KeepsWalks A B) (w : World) (hb0 : Boxed w B0 9 (.string s)) (l : Nat) (J Jx : List (Nat × Nat) → World → Prop) (W : World) (hW : Below w.heap.size w W) (hA : AbidesFrom W.heap.size J)
    (hY : ∀ pre x W1, J pre W1 → pre.length < (prs s.data.toList).length → (pre ++ [x]) <+: prs s.data.toList → YieldAt Fence.wide (n - 1) Tryd.prog l #[Value.int .i64 x.1, Value.int .i32 x.2] W1 fun e W' => (e = .returned (.bool true) ∧ J (pre ++ [x]) W' ∧ Kp W1 W') ∨ (e = .returned (.bool false) ∧ Jx (pre ++ [x]) W')) (h0 : J [] W) :
    CallsIn Fence.wide n Tryd.prog 41 #[.func (.yield l) #[] #[], .pointer (some ⟨B0, 0, none⟩)] W fun e W' => (∃ v, e = .returned v) ∧ ((∃ xs, xs = prs s.data.toList ∧ J xs W') ∨ (∃ pre, pre <+: prs s.data.toList ∧ Jx pre W')) := by
  have hro : Fence.wide.round = none := rfl
  have c0 := (hW.cell (p := ⟨B0, 0, none⟩) hb0.lt).trans hb0.cell
  have hA2 : Hid (∀ pre (X : World) (pos pos' k : Nat), J pre X → W.heap.size ≤ k → X.heap[k]? = some (.stringIter s pos) → J pre (X.iterAt k s pos')) := fun pre X pos pos' k hJ hk hit => hA pre X _ (some k) hJ ⟨rfl, rfl, rfl, by rw [Lib.iterAt_size]; exact Nat.le_refl _, fun j _ hj => Lib.iterAt_other X k j s pos' (fun e => hj (by rw [e]))⟩ (fun r e => by cases e; exact ⟨hk, _, hit, rfl⟩)
  have h1 : J [] (W.alloc (.stringIter s 0)) := hA _ _ _ none h0 (World.grownBy_alloc W _ none) (fun r e => by cases e)
  have HY := Lib.hid hY
  have hlen : s.size = s.data.toList.length := by rw [Array.length_toList]; rfl
  clear hW hb0 hA hY h0
  refine callsIn_of_wp Tryd.func41 rfl trivial ?_ hro
  simp only [Tryd.ntmps41, List.size_toArray, List.length_cons, List.length_nil, Nat.reduceAdd, Nat.reduceSub, Array.replicate_succ, Array.replicate_zero, List.push_toArray, List.append_toArray, List.nil_append, List.cons_append]
  gi_wp2
  gi_loopw [3] (fun _iv wr => ∃ (pre : List (Nat × Nat)) (pos m : Nat), wr.heap[W.heap.size]? = some (.stringIter s pos) ∧ Hid ((s.data.toList.drop pos).length ≤ m) ∧ Hid (prs s.data.toList = pre ++ prsF m pos (s.data.toList.drop pos)) ∧ J pre wr) (fun _ wr => s.size - wr.iterPos W.heap.size)
  case atStart => exact ⟨[], 0, s.data.toList.length, World.iter_heap _ _ _, Lib.hid (Nat.le_refl _), Lib.hid rfl, h1⟩
  case round =>
    obtain ⟨pre, pos, m, hit, hm, hxe, hJs⟩ := hrel
    by_cases hp : pos < s.size
    · have hnx : ∀ ty, (Instr.next (.pointer (some ⟨W.heap.size, 0, none⟩)) true ty).run Tryd.prog wr = _ := fun ty => Lib.run_next_any_at wr W.heap.size s pos ty hit hp
      have hwd := width_pos s pos hp
      have hne : s.data.toList.drop pos ≠ [] := by
        intro e
        have := congrArg List.length e
        rw [List.length_drop, List.length_nil] at this
        omega
      have hxe2 := hxe.out
      rw [prsF_at hne hm.out] at hxe2
      have hm2 := hm.out
      rw [decode_drop] at hnx hwd
      generalize hd : decL (s.data.toList.drop pos) = d at *
      obtain ⟨r, k⟩ := d
      dsimp only at hnx hwd hxe2
      have hJ2 := hA2.out pre wr pos (pos + k) W.heap.size hJs (Nat.le_refl _) hit
      generalize hw2 : wr.iterAt W.heap.size s (pos + k) = w2 at *
      have hit2 : w2.heap[W.heap.size]? = some (.stringIter s (pos + k)) := by rw [← hw2]; exact Lib.iterAt_heap wr W.heap.size s pos _ hit
      have hxe3 : prs s.data.toList = (pre ++ [(pos, r)]) ++ prsF (m - 1) (pos + k) (s.data.toList.drop (pos + k)) := by rw [hxe2, List.append_assoc, List.drop_drop]; rfl
      have HX3 := Lib.hid hxe3
      have hlt : pre.length < (prs s.data.toList).length := by rw [hxe2]; simp
      have hm3 : (s.data.toList.drop (pos + k)).length ≤ m - 1 := by rw [List.length_drop] at hm2 ⊢; omega
      have HM3 := Lib.hid hm3
      have HIT := Lib.hid hit
      have HIT2 := Lib.hid hit2
      obtain ⟨fn, tmps, assign, body, hy, hR⟩ := HY.out pre (pos, r) w2 hJ2 hlt ⟨_, hxe3.symm⟩
      clear hw2 hit hxe2 hm2 hm3 hxe3 hJs hJ2 hit2 hd hxe hm hlt hne
      gi_wp2
      refine hR.mono ?_
      rintro e W3 (⟨rfl, hJ3, hk3⟩ | ⟨rfl, hJx3⟩)
      · have hit3 : W3.heap[W.heap.size]? = some (.stringIter s (pos + k)) := (hKw hk3).same _ _ HIT2.out rfl
        gi_wp2
        go_roundw
        case rel => exact ⟨pre ++ [(pos, r)], pos + k, m - 1, hit3, HM3, HX3, hJ3⟩
        case measure =>
          have e1 : W3.iterPos W.heap.size = pos + k := by unfold World.iterPos; rw [hit3]
          have e2 : wr.iterPos W.heap.size = pos := by unfold World.iterPos; rw [HIT.out]
          rw [e1, e2]
          omega
      · gi_wp2
        refine bodyPost_ret (results_none rfl _ _ _) rfl ?_
        exact ⟨⟨_, rfl⟩, .inr ⟨pre ++ [(pos, r)], ⟨_, HX3.out.symm⟩, hJx3⟩⟩
    · have hnx : ∀ ty, (Instr.next (.pointer (some ⟨W.heap.size, 0, none⟩)) true ty).run Tryd.prog wr = _ := fun ty => Lib.run_next_end_at wr W.heap.size s pos ty hit hp
      have hxe2 := hxe.out
      rw [show s.data.toList.drop pos = [] from List.drop_of_length_le (by omega), prsF_end, List.append_nil] at hxe2
      have HXE := Lib.hid hxe2
      clear hxe2 hxe
      gi_wp2
      go_end0
      exact ⟨⟨_, rfl⟩, .inl ⟨pre, HXE.out.symm, hJs⟩⟩
theorem prsF_lt : ∀ (m p : Nat) (l : List UInt8) (x : Nat × Nat), x ∈ prsF m p l → x.1 < p + l.length
  | 0, _, _, _, h => by cases h
  | m + 1, p, l, x, h => by
    by_cases hl : l = []
    · rw [hl, prsF_end] at h; cases h
    · have h : x ∈ (if l = [] then [] else (p, (decL l).1) :: prsF m (p + (decL l).2) (l.drop (decL l).2)) := h
      rw [if_neg hl] at h
      have h1 := dec_pos l hl
      have h2 := dec_le l hl
      rcases List.mem_cons.1 h with rfl | h
      · show p < _; omega
      · have := prsF_lt m _ _ x h
        rw [List.length_drop] at this
        omega
abbrev PlcN (b : Nat) := { x : Nat × Nat // x.1 < b }
theorem all_stops (n : Nat) (hn : 1 ≤ n) (B0 : Nat) (s : ByteArray) (Kp : World → World → Prop) (hKw : ∀ {A B : World}, Kp A B → KeepsWalks A B) (w : World) (hb0 : Boxed w B0 9 (.string s)) (b : Nat) (hb : s.data.toList.length ≤ b) :
    SeqStopsK Fence.wide n Tryd.prog 41 #[.pointer (some ⟨B0, 0, none⟩)] (fun x : PlcN b => #[Value.int .i64 x.1.1, Value.int .i32 x.1.2]) Kp (fun ys => ys.map (·.1) = prs s.data.toList) (fun pre => pre.map (·.1) <+: prs s.data.toList) (prs s.data.toList).length w := fun l J Jx W hW hA hAx hY h0 => by
  refine (all_rounds n hn B0 s Kp hKw w hb0 l (fun pre W => ∃ p : List (PlcN b), p.map (·.1) = pre ∧ J p W) (fun pre W => ∃ p : List (PlcN b), p.map (·.1) = pre ∧ Jx p W) W hW ?_ ?_ ⟨[], rfl, h0⟩).mono ?_
  · rintro pre A B row ⟨p, rfl, hJ⟩ hg hr
    exact ⟨p, rfl, hA p A B row hJ hg hr⟩
  · rintro pre x W1 ⟨p, rfl, hJ⟩ hlt hp
    have hx : x.1 < b := by
      have := prsF_lt _ 0 _ x (hp.subset (by simp) : x ∈ prsF s.data.toList.length 0 s.data.toList)
      omega
    obtain ⟨fn, tmps, assign, body, hy, hR⟩ := hY p ⟨x, hx⟩ W1 hJ (by rwa [List.length_map] at hlt)
    refine ⟨fn, tmps, assign, body, hy, hR.mono ?_⟩
    rintro e W' (⟨h1, h2, h3⟩ | ⟨h1, h2⟩)
    · exact .inl ⟨h1, ⟨p ++ [⟨x, hx⟩], by simp, h2⟩, h3⟩
    · exact .inr ⟨h1, ⟨p ++ [⟨x, hx⟩], by simp, h2⟩⟩
  · rintro e W' ⟨h1, (⟨ys, rfl, p, h2, h3⟩ | ⟨pre, h2, p, rfl, h3⟩)⟩
    · exact ⟨h1, .inl ⟨p, h2, h3⟩⟩
    · exact ⟨h1, .inr ⟨p, h2, h3⟩⟩
def plFold (l : List UInt8) (p : Pl) (xs : List (Nat × Nat)) : Pl := xs.foldl (fun p x => p.step x.2 (decide (l[x.1 + 1]? = some 10))) p
theorem plFold_snoc (l : List UInt8) (p : Pl) (xs : List (Nat × Nat)) (x : Nat × Nat) : plFold l p (xs ++ [x]) = (plFold l p xs).step x.2 (decide (l[x.1 + 1]? = some 10)) := by simp [plFold]
theorem plFold_go (l : List UInt8) : ∀ (m q k : Nat) (p : Pl), k ≤ m → q + k ≤ l.length → plFold l p (prsF m q ((l.drop q).take k)) = plL (l.drop q) k p
  | 0, q, k, p, hk, _ => by
    obtain rfl : k = 0 := by omega
    rfl
  | m + 1, q, k, p, hk, hl => by
    by_cases h0 : k = 0
    · subst h0
      rw [List.take_zero, prsF_end]; rfl
    · have hne : (l.drop q).take k ≠ [] := by
        intro e
        have := congrArg List.length e
        rw [List.length_take, List.length_drop, List.length_nil] at this
        omega
      have h1 := dec_pos _ hne
      have h2 := dec_le _ hne
      rw [List.length_take, List.length_drop] at h2
      rw [prsF_at hne (by rw [List.length_take]; omega), plL_step _ k p h0 (by rw [List.length_drop]; omega)]
      rw [List.drop_drop, List.drop_take, List.drop_drop, Nat.add_sub_cancel]
      rw [← plFold_go l m (q + (decL ((l.drop q).take k)).2) (k - (decL ((l.drop q).take k)).2) _ (by omega) (by omega)]
      rw [List.getElem?_drop]
      rfl
theorem plFold_prs (l : List UInt8) (k : Nat) (hk : k ≤ l.length) (p : Pl) : plFold l p (prs (l.take k)) = plL l k p := by
  have := plFold_go l (l.take k).length 0 k p (by rw [List.length_take]; omega) (by omega)
  rw [List.drop_zero] at this
  exact this
end Go.Proofs.YtjdmndpadejegaaDoor
