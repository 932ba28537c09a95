/-
  Scan, plain law: places of all bytes so far stay so when more come; the next token.
-/
import Derived.Test.YtjdmndpadejegaaDoorMgT
namespace Go.Proofs.YtjdmndpadejegaaDoor
open Go.RowKit

theorem plL_app (m : List UInt8) : ∀ (n : Nat) (l : List UInt8) (k : Nat) (p : Pl), k ≤ n → k ≤ l.length → (k < l.length ∨ ∀ t x, l = t ++ [x] → x.toNat ≠ 13) → plL (l ++ m) k p = plL l k p := by
  intro n
  induction n with
  | zero =>
    intro l k p hn _ _
    obtain rfl : k = 0 := by omega
    rw [plL_zero, plL_zero]
  | succ n ih =>
    intro l k p hn hk hc
    by_cases h0 : k = 0
    · subst h0; rw [plL_zero, plL_zero]
    · have hne : l.take k ≠ [] := by
        intro e
        have := congrArg List.length e
        rw [List.length_take, List.length_nil] at this
        omega
      have h1 := dec_pos _ hne
      have h2 := dec_le _ hne
      rw [List.length_take] at h2
      rw [plL_step (l ++ m) k p h0 (by rw [List.length_append]; omega), plL_step l k p h0 hk, List.take_append_of_le_length hk]
      have hstep : p.step (decL (l.take k)).1 (decide ((l ++ m)[1]? = some 10)) = p.step (decL (l.take k)).1 (decide (l[1]? = some 10)) := by
        by_cases hl : 1 < l.length
        · rw [List.getElem?_append_left hl]
        · -- one byte alone
          have hl1 : l.length = 1 := by omega
          obtain ⟨x, rfl⟩ : ∃ x, l = [x] := by
            rcases l with _ | ⟨x, _ | ⟨y, l⟩⟩
            · simp at hl1
            · exact ⟨x, rfl⟩
            · simp at hl1
          have hx : x.toNat ≠ 13 := by
            rcases hc with hc | hc
            · simp only [List.length_cons, List.length_nil] at hc; omega
            · exact hc [] x rfl
          have hr : (decL ([x].take k)).1 ≠ 13 := by
            have e : [x].take k = [x] := List.take_of_length_le (by simp; omega)
            rw [e]
            intro hd
            rcases dec_inv [x] (by simp) with ⟨g1, g2, g3⟩ | g
            · rw [hd] at g2
              have h13 : encU 13 = [13] := rfl
              rw [h13, List.cons_append, List.cons.injEq] at g2
              exact hx (by rw [g2.1]; rfl)
            · rw [g] at hd; exact absurd hd (by decide)
          unfold Pl.step
          simp only [hr, false_and, or_false]
      rw [hstep]
      generalize hw : (decL (l.take k)).2 = w at *
      rw [List.drop_append_of_le_length (by omega)]
      refine ih _ _ _ (by omega) (by rw [List.length_drop]; omega) ?_
      rcases hc with hc | hc
      · left; rw [List.length_drop]; omega
      · right
        intro t x e
        by_cases hwl : w = l.length
        · rw [hwl, List.drop_length] at e
          exact absurd e (by simp)
        · refine hc (l.take w ++ t) x ?_
          rw [List.append_assoc, ← e, List.take_append_drop]
def PLof (b : List UInt8) (k : Nat) : Pl := { plL b k ⟨0, 0, 1, 1⟩ with byte := k }
theorem plL_byte : ∀ (n : Nat) (l : List UInt8) (k : Nat) (p : Pl) (x : Nat), k ≤ n → k ≤ l.length → plL l k { p with byte := x } = { plL l k p with byte := x } := by
  intro n
  induction n with
  | zero =>
    intro l k p x hn _
    obtain rfl : k = 0 := by omega
    rfl
  | succ n ih =>
    intro l k p x hn hk
    by_cases h0 : k = 0
    · subst h0; rfl
    · have hne : l.take k ≠ [] := by
        intro e
        have := congrArg List.length e
        rw [List.length_take, List.length_nil] at this
        omega
      have h1 := dec_pos _ hne
      have h2 := dec_le _ hne
      rw [List.length_take] at h2
      rw [plL_step l k _ h0 hk, plL_step l k p h0 hk]
      have hs : ∀ r nl, ({ p with byte := x } : Pl).step r nl = { p.step r nl with byte := x } := by
        intro r nl; unfold Pl.step; split <;> rfl
      rw [hs]
      exact ih _ _ _ _ (by omega) (by rw [List.length_drop]; omega)
theorem PLof_add (b : List UInt8) (a k : Nat) (h : a + k ≤ b.length) (hb : Bnd (b.take a) ((b.drop a).take k)) : PLof b (a + k) = { plL (b.drop a) k (PLof b a) with byte := a + k } := by
  unfold PLof
  rw [plL_split a b a k _ (Nat.le_refl _) h hb]
  rw [plL_byte k (b.drop a) k (plL b a ⟨0, 0, 1, 1⟩) a (Nat.le_refl _) (by rw [List.length_drop]; omega)]
theorem PLof_app (b m : List UInt8) (k : Nat) (h : k ≤ b.length) (hc : k < b.length ∨ ∀ t x, b = t ++ [x] → x.toNat ≠ 13) : PLof (b ++ m) k = PLof b k := by
  unfold PLof
  rw [plL_app m k b k _ (Nat.le_refl _) h hc]
end Go.Proofs.YtjdmndpadejegaaDoor

namespace Go.Proofs.YtjdmndpadejegaaDoor
open Go.RowKit

structure TokP where
  kind : Nat
  name : List UInt8
  attrs : List (List UInt8 × List Nat)
  text : List Nat
  frm : Nat
  fin : Nat
inductive Out where
  | tok (t : TokP)
  | wait
  | done
  | bad (p : Nat)
def nextN (F : Nat) (all : List UInt8) (fr : Nat) (ended : Bool) (inn : Nat) (name : List UInt8) : Out × Nat :=
  match goL F inn name .zero (all.drop fr) with
  | (_, .bad n) => (.bad (fr + n), fr)
  | (σ, .wait) => (if ended = false then .wait else if inn = 2 ∧ σ.i = (all.drop fr).length then .done else .bad all.length, fr)
  | (σ, .ok t n) => if σ.text ≠ [] then (.tok ⟨0, [], [], σ.text, fr + σ.beg.toNat, fr + σ.i⟩, fr + σ.i) else (.tok ⟨t.kind, t.name, t.attrs, [], fr + σ.i, fr + n⟩, fr + n)
theorem step_two (F inn : Nat) (name : List UInt8) (a b : Bool) (t : List UInt8) : stepF F inn name a (60 :: t) = stepF F inn name b (60 :: t) := rfl
theorem go_text (F inn : Nat) (name : List UInt8) (l : List UInt8) (σ : St) (t : Tok) (n : Nat) (h : goL F inn name .zero l = (σ, .ok t n)) :
    σ.i < n ∧ n ≤ l.length ∧ goL F inn name .zero (l.drop σ.i) = (.zero, .ok t (n - σ.i)) := by
  obtain ⟨h1, h2, k, h3, h4⟩ := goL_end F inn name _ _ _ _ h
  obtain ⟨g1, g2, _⟩ := goL_ok F inn name _ _ _ _ _ h
  simp only [St.zero, Nat.sub_zero, Nat.zero_add] at h4 g2
  obtain ⟨p1, ⟨u, p2, _⟩, _⟩ := step_less F inn name _ _ _ _ h4 ⟨by simp, by simp⟩
  refine ⟨by omega, g2, ?_⟩
  rw [goL_eq]
  rw [p2] at h4 ⊢
  rw [step_two F inn name _ (decide (2 ≤ σ.br)), h4]
  simp only [St.zero]
  congr 2
  omega
structure Dr where
  fr : Nat
  stk : List (List UInt8)
  inn : Nat
  toks : List TokP
def Dr.nm (s : Dr) : List UInt8 := s.stk.getLast?.getD []
def Dr.stk' (s : Dr) (t : TokP) : List (List UInt8) := if t.kind = 1 then s.stk ++ [t.name] else if t.kind = 2 then s.stk.dropLast else s.stk
def Dr.go (s : Dr) (t : TokP) (fr : Nat) : Dr := { fr := fr, stk := s.stk' t, inn := if s.stk' t = [] ∧ t.kind ≠ 0 then 2 else if t.kind = 1 then 1 else s.inn, toks := s.toks ++ [t] }
def stepD (F : Nat) (all : List UInt8) (s : Dr) : Option Dr :=
  match nextN F all s.fr false s.inn s.nm with
  | (.tok t, fr) => some (s.go t fr)
  | _ => none
theorem next_app (F : Nat) (all m : List UInt8) (fr : Nat) (e e' : Bool) (inn : Nat) (name : List UInt8) (t : TokP) (fr' : Nat) (hf : fr ≤ all.length) (h : nextN F all fr e inn name = (.tok t, fr')) :
    nextN F (all ++ m) fr e' inn name = (.tok t, fr') ∧ fr < fr' ∧ fr' ≤ all.length := by
  unfold nextN at h ⊢
  rw [List.drop_append_of_le_length hf]
  cases hg : goL F inn name .zero (all.drop fr) with
  | mk σ r =>
    rw [hg] at h
    cases r with
    | bad n => cases h
    | wait =>
      simp only at h
      split at h
      · cases h
      · split at h <;> cases h
    | ok tk n =>
      obtain ⟨g1, g2, g3, _⟩ := goL_ok F inn name _ _ _ _ _ hg
      obtain ⟨g4, g5, _⟩ := go_text F inn name _ _ _ _ hg
      have := g3 ((all.drop fr).drop (n - St.zero.i) ++ m)
      rw [← List.append_assoc, List.take_append_drop] at this
      rw [this]
      rw [List.length_drop] at g5
      simp only at h ⊢
      refine ⟨h, ?_⟩
      split at h
      · rename_i ht
        simp only [Prod.mk.injEq] at h
        have : 1 ≤ σ.i := by
          rcases Nat.eq_zero_or_pos σ.i with h0 | h0
          · exfalso
            have h5 := goL_eq F inn name .zero (all.drop fr)
            rw [hg] at h5
            cases hs : stepF F inn name (decide (2 ≤ St.zero.br)) (all.drop fr) with
            | wait => rw [hs] at h5; cases h5
            | bad k => rw [hs] at h5; cases h5
            | ok a k =>
              rw [hs] at h5
              obtain ⟨p1, p2⟩ := step_pos _ _ _ _ _ _ _ hs
              by_cases ha : ∃ t, a = .tag t
              · obtain ⟨t', rfl⟩ := ha
                simp only [Prod.mk.injEq] at h5
                rw [h5.1] at ht
                exact ht rfl
              · have hi := act_i St.zero a k fun t e => ha ⟨t, e⟩
                have h' : goL F inn name (St.zero.act a k) ((all.drop fr).drop k) = (σ, .ok tk n) := by
                  cases a <;> first | exact h5.symm | exact absurd ⟨_, rfl⟩ ha
                have := (goL_end F inn name _ _ _ _ h').1
                omega
          · exact h0
        omega
      · simp only [Prod.mk.injEq] at h
        omega
theorem stepD_app (F : Nat) (all m : List UInt8) (s s' : Dr) (hf : s.fr ≤ all.length) (h : stepD F all s = some s') : stepD F (all ++ m) s = some s' ∧ s.fr < s'.fr ∧ s'.fr ≤ all.length := by
  unfold stepD at h ⊢
  cases hn : nextN F all s.fr false s.inn s.nm with
  | mk o fr =>
    rw [hn] at h
    cases o with
    | tok t =>
      simp only [Option.some.injEq] at h
      obtain ⟨h1, h2, h3⟩ := next_app F all m _ _ false _ _ _ _ hf hn
      rw [h1]
      subst h
      exact ⟨rfl, h2, h3⟩
    | wait => cases h
    | done => cases h
    | bad p => cases h
inductive Reach (F : Nat) (all : List UInt8) : Dr → Dr → Prop where
  | refl (s : Dr) : Reach F all s s
  | step {s s' s'' : Dr} (h : stepD F all s = some s') (hr : Reach F all s' s'') : Reach F all s s''
theorem Reach.app {F : Nat} {all : List UInt8} (m : List UInt8) {s s' : Dr} (h : Reach F all s s') : s.fr ≤ all.length → Reach F (all ++ m) s s' ∧ s.fr ≤ s'.fr ∧ s'.fr ≤ all.length := by
  induction h with
  | refl s => exact fun hs => ⟨.refl s, Nat.le_refl _, hs⟩
  | step h _ ih =>
    intro hs
    obtain ⟨h1, h2, h3⟩ := stepD_app F all m _ _ hs h
    obtain ⟨i1, i2, i3⟩ := ih h3
    exact ⟨.step h1 i1, by omega, i3⟩
theorem Reach.trans {F : Nat} {all : List UInt8} {s s' s'' : Dr} (h : Reach F all s s') (h' : Reach F all s' s'') : Reach F all s s'' := by
  induction h with
  | refl s => exact h'
  | step h _ ih => exact .step h (ih h')
end Go.Proofs.YtjdmndpadejegaaDoor

namespace Go.Proofs.YtjdmndpadejegaaDoor
open Go.RowKit

def drvF (F : Nat) (all : List UInt8) (e : Bool) : Nat → Dr → Option (Dr × Out)
  | 0, _ => none
  | k + 1, s =>
    match nextN F all s.fr e s.inn s.nm with
    | (.tok t, fr) => drvF F all e k (s.go t fr)
    | (o, _) => some (s, o)
def Out.no : Out → Prop
  | .tok _ => False
  | _ => True
structure Fin' (F : Nat) (all : List UInt8) (e : Bool) (s s' : Dr) (o : Out) : Prop where
  reach : Reach F all s s'
  last : nextN F all s'.fr e s'.inn s'.nm = (o, s'.fr)
  no : o.no
theorem next_e {F : Nat} {all : List UInt8} {fr : Nat} {e : Bool} (e' : Bool) {inn : Nat} {name : List UInt8} {t : TokP} {fr' : Nat} (hf : fr ≤ all.length) (h : nextN F all fr e inn name = (.tok t, fr')) :
    nextN F all fr e' inn name = (.tok t, fr') ∧ fr < fr' ∧ fr' ≤ all.length := by
  have := next_app F all [] fr e e' inn name t fr' hf h
  rwa [List.append_nil] at this
theorem next_no {F : Nat} {all : List UInt8} {fr : Nat} {e : Bool} {inn : Nat} {name : List UInt8} {o : Out} {fr' : Nat} (h : nextN F all fr e inn name = (o, fr')) (ho : o.no) : fr' = fr := by
  unfold nextN at h
  split at h
  · cases h; rfl
  · simp only [Prod.mk.injEq] at h; exact h.2.symm
  · split at h
    · cases h; exact ho.elim
    · cases h; exact ho.elim
theorem stepD_iff {F : Nat} {all : List UInt8} {s s' : Dr} (e : Bool) (hf : s.fr ≤ all.length) : stepD F all s = some s' ↔ ∃ t fr, nextN F all s.fr e s.inn s.nm = (.tok t, fr) ∧ s' = s.go t fr := by
  constructor
  · intro h
    unfold stepD at h
    cases hn : nextN F all s.fr false s.inn s.nm with
    | mk o fr =>
      rw [hn] at h
      cases o with
      | tok t =>
        simp only [Option.some.injEq] at h
        exact ⟨t, fr, (next_e e hf hn).1, h.symm⟩
      | wait => cases h
      | done => cases h
      | bad p => cases h
  · rintro ⟨t, fr, h, rfl⟩
    unfold stepD
    rw [(next_e false hf h).1]
theorem drv_fin {F : Nat} {all : List UInt8} {e : Bool} : ∀ (k : Nat) (s s' : Dr) (o : Out), s.fr ≤ all.length → drvF F all e k s = some (s', o) → Fin' F all e s s' o
  | 0, _, _, _, _, h => by cases h
  | k + 1, s, s', o, hf, h => by
    unfold drvF at h
    cases hn : nextN F all s.fr e s.inn s.nm with
    | mk o' fr =>
      rw [hn] at h
      cases o' with
      | tok t =>
        simp only at h
        obtain ⟨h1, h2, h3⟩ := next_e false hf hn
        have ih := drv_fin k (s.go t fr) s' o h3 h
        exact ⟨.step ((stepD_iff e hf).2 ⟨t, fr, hn, rfl⟩) ih.reach, ih.last, ih.no⟩
      | wait => cases h; exact ⟨.refl _, by rw [hn, next_no hn (by trivial)], trivial⟩
      | done => cases h; exact ⟨.refl _, by rw [hn, next_no hn (by trivial)], trivial⟩
      | bad p => cases h; exact ⟨.refl _, by rw [hn, next_no hn (by trivial)], trivial⟩
theorem go0 (s : Dr) (t : TokP) (fr : Nat) (h : t.kind = 0) : (s.go t fr).inn = s.inn ∧ (s.go t fr).nm = s.nm ∧ (s.go t fr).stk = s.stk := by
  unfold Dr.go Dr.nm Dr.stk'
  simp [h]
theorem go_toks (s : Dr) (t : TokP) (fr : Nat) : (s.go t fr).toks = s.toks ++ [t] := rfl
theorem Reach.toks {F : Nat} {all : List UInt8} {s s' : Dr} (h : Reach F all s s') : s.fr ≤ all.length → ∃ l, s'.toks = s.toks ++ l ∧ l.length ≤ s'.fr - s.fr := by
  induction h with
  | refl s => exact fun _ => ⟨[], by simp, by simp⟩
  | @step s s1 s2 h _ ih =>
    intro hf
    obtain ⟨t, fr, hn, rfl⟩ := (stepD_iff false hf).1 h
    obtain ⟨h1, h2, h3⟩ := next_e false hf hn
    obtain ⟨l, e1, e2⟩ := ih h3
    have h4 : s.fr < (s.go t fr).fr := h2
    refine ⟨t :: l, by rw [e1, go_toks]; simp, ?_⟩
    rw [List.length_cons]
    have : (s.go t fr).fr ≤ s2.fr := (Reach.app (F := F) (all := all) [] (by assumption) h3).2.1
    omega
theorem Reach.split {F : Nat} {all : List UInt8} {s s' : Dr} (h : Reach F all s s') : s = s' ∨ ∃ s1, stepD F all s = some s1 ∧ Reach F all s1 s' := by
  cases h with
  | refl => exact .inl rfl
  | step h hr => exact .inr ⟨_, h, hr⟩
theorem Fin'.drv {F : Nat} {all : List UInt8} {e : Bool} {s s' : Dr} {o : Out} (h : Fin' F all e s s' o) : s.fr ≤ all.length → ∀ k, s'.toks.length < s.toks.length + k → drvF F all e k s = some (s', o) := by
  obtain ⟨hr, hl, hn⟩ := h
  induction hr with
  | refl s =>
    intro _ k hk
    obtain ⟨j, rfl⟩ : ∃ j, k = j + 1 := ⟨k - 1, by omega⟩
    unfold drvF
    rw [hl]
    cases o with
    | tok t => exact hn.elim
    | _ => rfl
  | @step s s1 s2 h hr ih =>
    intro hf k hk
    obtain ⟨t, fr, hnx, rfl⟩ := (stepD_iff e hf).1 h
    obtain ⟨h1, h2, h3⟩ := next_e false hf hnx
    obtain ⟨l, e1, _⟩ := hr.toks h3
    have e2 := congrArg List.length e1
    rw [go_toks, List.length_append, List.length_append] at e2
    simp only [List.length_cons, List.length_nil] at e2
    obtain ⟨j, rfl⟩ : ∃ j, k = j + 1 := ⟨k - 1, by omega⟩
    unfold drvF
    rw [hnx]
    exact ih hl h3 j (by rw [go_toks, List.length_append]; simp only [List.length_cons, List.length_nil]; omega)
theorem fin_ex (F : Nat) (all : List UInt8) (e : Bool) : ∀ (n : Nat) (s : Dr), all.length - s.fr ≤ n → s.fr ≤ all.length → ∃ s' o, Fin' F all e s s' o := by
  intro n
  induction n with
  | zero =>
    intro s hn hf
    cases hx : nextN F all s.fr e s.inn s.nm with
    | mk o fr =>
      cases o with
      | tok t =>
        obtain ⟨_, h2, h3⟩ := next_e false hf hx
        omega
      | wait => exact ⟨s, .wait, .refl _, by rw [hx, next_no hx (by trivial)], trivial⟩
      | done => exact ⟨s, .done, .refl _, by rw [hx, next_no hx (by trivial)], trivial⟩
      | bad p => exact ⟨s, .bad p, .refl _, by rw [hx, next_no hx (by trivial)], trivial⟩
  | succ n ih =>
    intro s hn hf
    cases hx : nextN F all s.fr e s.inn s.nm with
    | mk o fr =>
      cases o with
      | tok t =>
        obtain ⟨_, h2, h3⟩ := next_e false hf hx
        obtain ⟨s', o, h⟩ := ih (s.go t fr) (by show all.length - fr ≤ n; omega) h3
        exact ⟨s', o, .step ((stepD_iff e hf).2 ⟨t, fr, hx, rfl⟩) h.reach, h.last, h.no⟩
      | wait => exact ⟨s, .wait, .refl _, by rw [hx, next_no hx (by trivial)], trivial⟩
      | done => exact ⟨s, .done, .refl _, by rw [hx, next_no hx (by trivial)], trivial⟩
      | bad p => exact ⟨s, .bad p, .refl _, by rw [hx, next_no hx (by trivial)], trivial⟩
theorem Fin'.one {F : Nat} {all : List UInt8} {e e' : Bool} {s s' t' : Dr} {o o' : Out} (h : Fin' F all e s s' o) (h' : Fin' F all e' s t' o') : s.fr ≤ all.length → s' = t' := by
  obtain ⟨hr, hl, hn⟩ := h
  obtain ⟨hr', hl', hn'⟩ := h'
  induction hr with
  | refl s =>
    intro hf
    cases hr' with
    | refl => rfl
    | step h _ =>
      obtain ⟨t, fr, hx, _⟩ := (stepD_iff e hf).1 h
      rw [hl] at hx
      cases hx
      exact hn.elim
  | @step s s1 s2 h hr ih =>
    intro hf
    obtain ⟨t, fr, hx, rfl⟩ := (stepD_iff e' hf).1 h
    obtain ⟨_, _, h3⟩ := next_e false hf hx
    cases hr' with
    | refl =>
      rw [hl'] at hx
      cases hx
      exact hn'.elim
    | step h' hr2 =>
      rw [h] at h'
      cases h'
      exact ih hl hr2 h3
theorem Reach.le {F : Nat} {all : List UInt8} {s s' : Dr} (h : Reach F all s s') (hf : s.fr ≤ all.length) : s.fr ≤ s'.fr ∧ s'.fr ≤ all.length := (h.app [] hf).2
theorem Fin'.cut {F : Nat} {all : List UInt8} {e : Bool} {s s' : Dr} {o : Out} (h : Fin' F all e s s' o) : s.fr ≤ all.length → ∀ m, Reach F (all.take s'.fr ++ m) s s' := by
  obtain ⟨hr, hl, hn⟩ := h
  induction hr with
  | refl s => exact fun _ m => .refl _
  | @step s s1 s2 h hr ih =>
    intro hf m
    obtain ⟨t, fr, hx, rfl⟩ := (stepD_iff e hf).1 h
    obtain ⟨_, h2, h3⟩ := next_e false hf hx
    have hle : fr ≤ s2.fr := (hr.le h3).1
    have hle2 := (hr.le h3).2
    refine .step ?_ (ih hl h3 m)
    -- the token hangs on the bytes up to s2
    have key : nextN F (all.take s2.fr) s.fr e s.inn s.nm = (.tok t, fr) := by
      unfold nextN at hx ⊢
      cases hg : goL F s.inn s.nm .zero (all.drop s.fr) with
      | mk σ r =>
        rw [hg] at hx
        cases r with
        | bad n => cases hx
        | wait => simp only [Prod.mk.injEq] at hx; split at hx <;> (try split at hx) <;> simp at hx
        | ok tk n =>
          obtain ⟨g1, g2, g3, _⟩ := goL_ok F _ _ _ _ _ _ _ hg
          obtain ⟨g4, g5, g6⟩ := go_text F _ _ _ _ _ _ hg
          have gz : St.zero.i = 0 := rfl
          rw [gz] at g1 g2
          rw [gz, Nat.sub_zero] at g3
          rw [List.length_drop] at g5
          have hn2 : s.fr + n ≤ s2.fr := by
            simp only at hx
            split at hx
            · rename_i ht
              cases hx
              -- a text: its tag comes next
              have hy : ∃ t2, nextN F all (s.fr + σ.i) e (s.go ⟨0, [], [], σ.text, s.fr + σ.beg.toNat, s.fr + σ.i⟩ (s.fr + σ.i)).inn (s.go ⟨0, [], [], σ.text, s.fr + σ.beg.toNat, s.fr + σ.i⟩ (s.fr + σ.i)).nm = (.tok t2, s.fr + n) := by
                rw [(go0 s _ _ rfl).1, (go0 s _ _ rfl).2.1]
                unfold nextN
                rw [← List.drop_drop, g6]
                simp only [St.zero]
                refine ⟨⟨tk.kind, tk.name, tk.attrs, [], s.fr + σ.i + 0, s.fr + n⟩, ?_⟩
                simp only [ne_eq, not_true_eq_false, if_false]
                rw [show s.fr + σ.i + (n - σ.i) = s.fr + n by omega]
              obtain ⟨t2, hy⟩ := hy
              have hst : stepD F all (s.go ⟨0, [], [], σ.text, s.fr + σ.beg.toNat, s.fr + σ.i⟩ (s.fr + σ.i)) = some ((s.go ⟨0, [], [], σ.text, s.fr + σ.beg.toNat, s.fr + σ.i⟩ (s.fr + σ.i)).go t2 (s.fr + n)) := (stepD_iff e h3).2 ⟨t2, s.fr + n, hy, rfl⟩
              rcases hr.split with he | ⟨s3, h', hr2⟩
              · rw [← he] at hl
                have hz : nextN F all (s.fr + σ.i) e (s.go ⟨0, [], [], σ.text, s.fr + σ.beg.toNat, s.fr + σ.i⟩ (s.fr + σ.i)).inn (s.go ⟨0, [], [], σ.text, s.fr + σ.beg.toNat, s.fr + σ.i⟩ (s.fr + σ.i)).nm = (o, s.fr + σ.i) := hl
                rw [hy] at hz
                simp only [Prod.mk.injEq] at hz
                rw [← hz.1] at hn
                exact hn.elim
              · rw [hst] at h'
                cases h'
                exact (hr2.le (by show s.fr + n ≤ all.length; omega)).1
            · cases hx
              exact hle
          have hdr : (all.take s2.fr).drop s.fr = (all.drop s.fr).take n ++ ((all.drop s.fr).drop n).take (s2.fr - s.fr - n) := by
            rw [← List.take_add, List.drop_take]
            congr 1; omega
          rw [hdr, g3]
          exact hx
    have hk := next_app F (all.take s2.fr) m s.fr e e _ _ _ _ (by rw [List.length_take]; omega) key
    exact (stepD_iff e (by rw [List.length_append, List.length_take]; omega)).2 ⟨t, fr, hk.1, rfl⟩
theorem Fin'.bad {F : Nat} {all : List UInt8} {e : Bool} {s s' : Dr} {k : Nat} (h : Fin' F all e s s' (.bad k)) (hf : s.fr ≤ all.length) :
    k ≤ all.length ∧ s'.fr ≤ k ∧ (k < all.length ∨ e = true) ∧ Fin' F (all.take k) false s s' .wait ∧ (k < all.length → ∀ m e', Fin' F (all.take (k + 1) ++ m) e' s s' (.bad k)) := by
  have hle := h.reach.le hf
  have hc := h.cut hf
  have hl := h.last
  unfold nextN at hl
  cases hg : goL F s'.inn s'.nm .zero (all.drop s'.fr) with
  | mk σ r =>
    rw [hg] at hl
    cases r with
    | ok tk n => simp only at hl; split at hl <;> cases hl
    | bad n =>
      simp only [Prod.mk.injEq, Out.bad.injEq, and_true] at hl
      obtain ⟨g1, g2, g3, g4⟩ := goL_bad F _ _ _ _ _ _ hg
      rw [List.length_drop] at g2
      have gz : St.zero.i = 0 := rfl
      rw [gz] at g1 g2
      rw [gz, Nat.sub_zero] at g3 g4
      subst hl
      refine ⟨by omega, by omega, .inl (by omega), ⟨?_, ?_, trivial⟩, fun _ m e' => ⟨?_, ?_, trivial⟩⟩
      · have := hc ((all.drop s'.fr).take n)
        rwa [← List.take_add] at this
      · have hw := g4 n (Nat.le_refl _)
        unfold nextN
        rw [List.drop_take, show s'.fr + n - s'.fr = n by omega]
        cases hq : goL F s'.inn s'.nm St.zero ((all.drop s'.fr).take n) with
        | mk τ r => rw [hq] at hw; simp only at hw; subst hw; rfl
      · have := hc ((all.drop s'.fr).take (n + 1) ++ m)
        rwa [← List.append_assoc, ← List.take_add] at this
      · unfold nextN
        have hd : (all.take (s'.fr + n + 1) ++ m).drop s'.fr = (all.drop s'.fr).take (n + 1) ++ m := by
          rw [show s'.fr + n + 1 = s'.fr + (n + 1) by omega, drop_cat _ _ _ _ hle.2]
        rw [hd, g3 m]
    | wait =>
      simp only [Prod.mk.injEq, and_true] at hl
      split at hl
      · cases hl
      · rename_i he
        split at hl
        · cases hl
        · simp only [Out.bad.injEq] at hl
          subst hl
          have het : e = true := by cases e; exact absurd rfl he; rfl
          refine ⟨Nat.le_refl _, hle.2, .inr het, ⟨?_, ?_, trivial⟩, fun h => by omega⟩
          · rw [List.take_length]; exact h.reach
          · rw [List.take_length]
            unfold nextN
            rw [hg]
            rfl
theorem Fin'.badOn {F : Nat} {all : List UInt8} {s s' : Dr} {k : Nat} (h : Fin' F all false s s' (.bad k)) (hf : s.fr ≤ all.length) (m : List UInt8) (e : Bool) : k < all.length ∧ Fin' F (all ++ m) e s s' (.bad k) := by
  obtain ⟨_, _, h3, _, h5⟩ := h.bad hf
  have hk : k < all.length := by rcases h3 with h3 | h3; exact h3; cases h3
  refine ⟨hk, ?_⟩
  have := h5 hk (all.drop (k + 1) ++ m) e
  rwa [← List.append_assoc, List.take_append_drop] at this
end Go.Proofs.YtjdmndpadejegaaDoor

namespace Go.Proofs.YtjdmndpadejegaaDoor
open Go.RowKit

theorem next_inv {α β : Type} {a : Sc α} {l : List UInt8} {G : α → List UInt8 → Sc β} {c : β} {K : Nat} (h : a.next l G = .ok c K) : ∃ x n k, a = .ok x n ∧ G x (l.drop n) = .ok c k ∧ K = n + k := by
  cases a with
  | wait => cases h
  | bad n => cases h
  | ok x n =>
    obtain ⟨k, h1, h2⟩ := up_ok (show (G x (l.drop n)).up n = .ok c K from h)
    exact ⟨x, n, k, rfl, h1, h2⟩
theorem on1_inv {β : Type} {G : List UInt8 → Sc β} {x : UInt8} {l : List UInt8} {c : β} {K : Nat} (h : on1 G (x :: l) = .ok c K) : ∃ k, G l = .ok c k ∧ K = 1 + k := up_ok h
theorem tag_kind (F : Nat) : ∀ (f : Nat) (gap : Bool) (ats : List (List UInt8 × List Nat)) (l : List UInt8) (c : Nat × List (List UInt8 × List Nat)) (n : Nat), tagGo F f gap ats l = .ok c n → c.1 = 1 ∨ c.1 = 3
  | 0, _, _, _, _, _, h => by cases h
  | f + 1, gap, ats, l, c, n, h => by
    rcases l with _ | ⟨x, l⟩
    · cases h
    have h : (if blankB x = true then on1 (tagGo F f true ats) (x :: l) else if x.toNat = 47 then on1 (fun l => (lit [62] l).next l fun _ l => doneP (3, ats) l) (x :: l)
      else if x.toNat = 62 then on1 (doneP (1, ats)) (x :: l) else if gap = true then (attrF F (ats.map (·.1)) (x :: l)).next (x :: l) fun a l => tagGo F f false (ats ++ [a]) l else badP (x :: l)) = .ok c n := h
    split at h
    · obtain ⟨k, h, _⟩ := on1_inv h
      exact tag_kind F f _ _ _ _ _ h
    · split at h
      · obtain ⟨k, h, _⟩ := on1_inv h
        obtain ⟨_, _, _, _, h, _⟩ := next_inv h
        cases h
        exact .inr rfl
      · split at h
        · obtain ⟨k, h, _⟩ := on1_inv h
          cases h
          exact .inl rfl
        · split at h
          · obtain ⟨_, _, _, _, h, _⟩ := next_inv h
            exact tag_kind F f _ _ _ _ _ h
          · cases h
theorem open_kind {F : Nat} {l : List UInt8} {t : Tok} {n : Nat} (h : openF F l = .ok t n) : t.kind = 1 ∨ t.kind = 3 := by
  obtain ⟨_, _, _, _, h, _⟩ := next_inv h
  obtain ⟨c, _, _, h1, h, _⟩ := next_inv h
  cases h
  exact tag_kind F _ _ _ _ _ _ h1
theorem less_kind {F inn : Nat} {name : List UInt8} {l : List UInt8} {t : Tok} {n : Nat} (h : lessF F inn name l = .ok (.tag t) n) : (t.kind = 1 ∨ t.kind = 3) ∨ t.kind = 2 ∧ t.name = name ∧ t.attrs = [] ∧ inn = 1 := by
  rcases l with _ | ⟨y, u⟩
  · cases h
  have h : (if y.toNat = 33 then on1 (bangF F inn) (y :: u) else if inn = 2 then badP (y :: u) else if y.toNat = 47 ∧ inn = 1 then on1 (fun l => (endF F name l).next l fun t l => doneP (Mk.tag t) l) (y :: u)
    else (openF F (y :: u)).next (y :: u) fun t l => doneP (Mk.tag t) l) = .ok (.tag t) n := h
  split at h
  · exfalso
    obtain ⟨k, h, _⟩ := on1_inv h
    rcases u with _ | ⟨z, u⟩
    · cases h
    have h : (if z.toNat = 91 ∧ inn = 1 then (lit [91, 67, 68, 65, 84, 65, 91] (z :: u)).next (z :: u) fun _ l => (secGo F false [] l).next l fun t l => doneP (Mk.sec t) l
      else (lit [45, 45] (z :: u)).next (z :: u) fun _ l => (comGo F 0 l).next l fun _ l => doneP Mk.com l) = .ok (.tag t) k := h
    split at h
    · obtain ⟨_, _, _, _, h, _⟩ := next_inv h
      obtain ⟨_, _, _, _, h, _⟩ := next_inv h
      cases h
    · obtain ⟨_, _, _, _, h, _⟩ := next_inv h
      obtain ⟨_, _, _, _, h, _⟩ := next_inv h
      cases h
  · split at h
    · cases h
    · split at h
      · rename_i hy
        obtain ⟨k, h, _⟩ := on1_inv h
        obtain ⟨_, _, _, h1, h, _⟩ := next_inv h
        cases h
        obtain ⟨_, _, _, _, h1, _⟩ := next_inv h1
        obtain ⟨_, _, _, _, h1, _⟩ := next_inv h1
        cases h1
        exact .inr ⟨rfl, rfl, rfl, hy.2⟩
      · obtain ⟨_, _, _, h1, h, _⟩ := next_inv h
        cases h
        exact .inl (open_kind h1)
theorem goL_kind {F inn : Nat} {name : List UInt8} {l : List UInt8} {σ : St} {t : Tok} {n : Nat} (h : goL F inn name .zero l = (σ, .ok t n)) : (t.kind = 1 ∨ t.kind = 3) ∨ t.kind = 2 ∧ t.name = name ∧ t.attrs = [] ∧ inn = 1 := by
  obtain ⟨_, _, k, _, h4⟩ := goL_end F inn name _ _ _ _ h
  obtain ⟨_, ⟨u, _, p3⟩, _⟩ := step_less F inn name _ _ _ _ h4 ⟨by simp, by simp⟩
  exact less_kind p3
theorem goL_nil (F inn : Nat) (name : List UInt8) (σ : St) : goL F inn name σ [] = (σ, .wait) := by rw [goL_eq]; rfl
theorem next_end (F : Nat) (all : List UInt8) (inn : Nat) (name : List UInt8) : nextN F all all.length false inn name = (.wait, all.length) := by
  unfold nextN
  rw [List.drop_length, goL_nil]
  rfl
theorem cut_step (F : Nat) (p : List UInt8) (x : UInt8) (s s0 : Dr) (o : Out) (hf0 : s0.fr ≤ p.length) (h : Fin' F p false s0 s o) :
    ∃ s' o', Fin' F (p ++ [x]) false s s' o' ∧
      (s'.toks = s.toks ∨ (∃ t, s'.toks = s.toks ++ [t] ∧ t.kind ≠ 0 ∧ t.fin = p.length + 1) ∨ ∃ u t, s'.toks = s.toks ++ [u, t] ∧ u.kind = 0 ∧ t.kind ≠ 0 ∧ t.fin = p.length + 1) := by
  have hfr := (h.reach.le hf0).2
  by_cases hb : ∃ k, o = .bad k
  · obtain ⟨k, rfl⟩ := hb
    obtain ⟨_, h2⟩ := h.badOn hf0 [x] false
    exact ⟨s, _, ⟨.refl _, h2.last, trivial⟩, .inl rfl⟩
  have hl := h.last
  have hdr : (p ++ [x]).drop s.fr = p.drop s.fr ++ [x] := by rw [List.drop_append_of_le_length hfr]
  have hlen : (p.drop s.fr).length = p.length - s.fr := List.length_drop
  cases hg : goL F s.inn s.nm .zero (p.drop s.fr) with
  | mk σ0 r0 =>
    have hw : r0 = .wait := by
      unfold nextN at hl
      rw [hg] at hl
      cases r0 with
      | wait => rfl
      | bad n => simp only [Prod.mk.injEq, and_true] at hl; exact absurd ⟨_, hl.symm⟩ hb
      | ok t n =>
        simp only at hl
        have hno := h.no
        split at hl <;> (simp only [Prod.mk.injEq] at hl; rw [← hl.1] at hno; exact hno.elim)
    subst hw
    cases hq : goL F s.inn s.nm .zero (p.drop s.fr ++ [x]) with
    | mk σ r =>
      cases r with
      | wait => exact ⟨s, .wait, ⟨.refl _, by unfold nextN; rw [hdr, hq]; rfl, trivial⟩, .inl rfl⟩
      | bad n => exact ⟨s, .bad (s.fr + n), ⟨.refl _, by unfold nextN; rw [hdr, hq], trivial⟩, .inl rfl⟩
      | ok tk n =>
        obtain ⟨g1, g2, g3, g4⟩ := goL_ok F _ _ _ _ _ _ _ hq
        obtain ⟨g5, g6, g7⟩ := go_text F _ _ _ _ _ _ hq
        have hk := goL_kind hq
        have hk0 : tk.kind ≠ 0 := by rcases hk with (hk | hk) | hk <;> omega
        have gz : St.zero.i = 0 := rfl
        rw [gz] at g1 g2
        rw [gz, Nat.sub_zero] at g3
        rw [List.length_append, List.length_singleton] at g2
        have hn : s.fr + n = p.length + 1 := by
          by_cases hle : n ≤ (p.drop s.fr).length
          · exfalso
            have := g3 ((p.drop s.fr).drop n)
            rw [List.take_append_of_le_length hle, List.take_append_drop, hg] at this
            cases this
          · omega
        have hend : ∀ inn nm, nextN F (p ++ [x]) (s.fr + n) false inn nm = (.wait, s.fr + n) := by
          intro inn nm
          have := next_end F (p ++ [x]) inn nm
          rwa [List.length_append, List.length_singleton, ← hn] at this
        have hfx : s.fr ≤ (p ++ [x]).length := by rw [List.length_append]; omega
        by_cases ht : σ.text = []
        · have hx : nextN F (p ++ [x]) s.fr false s.inn s.nm = (.tok ⟨tk.kind, tk.name, tk.attrs, [], s.fr + σ.i, s.fr + n⟩, s.fr + n) := by
            unfold nextN; rw [hdr, hq]; simp only; rw [if_neg (by simp [ht])]
          exact ⟨s.go ⟨tk.kind, tk.name, tk.attrs, [], s.fr + σ.i, s.fr + n⟩ (s.fr + n), .wait, ⟨.step ((stepD_iff false hfx).2 ⟨_, _, hx, rfl⟩) (.refl _), hend _ _, trivial⟩, .inr (.inl ⟨_, rfl, hk0, hn⟩)⟩
        · have hx : nextN F (p ++ [x]) s.fr false s.inn s.nm = (.tok ⟨0, [], [], σ.text, s.fr + σ.beg.toNat, s.fr + σ.i⟩, s.fr + σ.i) := by
            unfold nextN; rw [hdr, hq]; simp only; rw [if_pos ht]
          have hy : nextN F (p ++ [x]) (s.fr + σ.i) false (s.go ⟨0, [], [], σ.text, s.fr + σ.beg.toNat, s.fr + σ.i⟩ (s.fr + σ.i)).inn (s.go ⟨0, [], [], σ.text, s.fr + σ.beg.toNat, s.fr + σ.i⟩ (s.fr + σ.i)).nm = (.tok ⟨tk.kind, tk.name, tk.attrs, [], s.fr + σ.i, s.fr + n⟩, s.fr + n) := by
            rw [(go0 s _ _ rfl).1, (go0 s _ _ rfl).2.1]
            unfold nextN
            rw [← List.drop_drop, hdr, g7]
            simp only [St.zero, ne_eq, not_true_eq_false, if_false]
            rw [show s.fr + σ.i + (n - σ.i) = s.fr + n by omega, Nat.add_zero]
          have hfx2 : s.fr + σ.i ≤ (p ++ [x]).length := by rw [List.length_append, List.length_singleton]; omega
          refine ⟨(s.go ⟨0, [], [], σ.text, s.fr + σ.beg.toNat, s.fr + σ.i⟩ (s.fr + σ.i)).go ⟨tk.kind, tk.name, tk.attrs, [], s.fr + σ.i, s.fr + n⟩ (s.fr + n), .wait, ⟨.step ((stepD_iff false hfx).2 ⟨_, _, hx, rfl⟩) (.step ((stepD_iff false hfx2).2 ⟨_, _, hy, rfl⟩) (.refl _)), hend _ _, trivial⟩, .inr (.inr ⟨⟨0, [], [], σ.text, s.fr + σ.beg.toNat, s.fr + σ.i⟩, ⟨tk.kind, tk.name, tk.attrs, [], s.fr + σ.i, s.fr + n⟩, ?_, rfl, hk0, hn⟩)⟩
          rw [go_toks, go_toks]; simp
end Go.Proofs.YtjdmndpadejegaaDoor
