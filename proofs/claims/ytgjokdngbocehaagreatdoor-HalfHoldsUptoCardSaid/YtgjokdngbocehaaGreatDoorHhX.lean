/-
 A beginning's nodes: those that half keeps, and those of the answer; plain Lean.
-/
import Derived.Test.YtgjokdngbocehaaGreatDoorHhW
import Derived.Test.YtgjokdngbocehaaGreatDoorHhD
import Derived.Test.YtgjokdngbocehaaGreatDoorHhJ
namespace Go.Proofs.YtgjokdngbocehaaGreatDoor
open Go.RowKit
def RbAt (N : Nat) (evs : List Ev) (h : HN) (r : RN) : Prop :=
 evs[r.pos]? = some h.ev ∧ h.par = r.par + 1 ∧ h.kd = (if h.ev.kind = 0 then 1 else 2) ∧ (h.ev.kind = 0 ∨ h.ev.kind = 1) ∧ h.txt = r.val ∧ h.bg = r.pos ∧ (h.op = true → r.clo = -1 ∧ h.en = N) ∧ (h.op = false → 0 ≤ r.clo ∧ (h.en : Int) = r.clo + 1) ∧ (h.ev.kind = 1 → h.op = false)
structure RbR (N : Nat) (evs : List Ev) (s : BegS) (hs : List HN) (o : List Nat) (rs : List RN) : Prop where
 len : hs.length = rs.length + 1
 opn : o = 0 :: (opnsOf s).map (fun x => x.toNat + 1)
 bot : ∀ x, (opnsOf s).head? = some x → x = 0
 at' : ∀ (i : Nat) (r : RN), rs[i]? = some r → ∃ h, hs[i + 1]? = some h ∧ RbAt N evs h r
 root : ∃ h, hs[0]? = some h ∧ h.txt = (rs.head?.map fun r => r.val).getD [] ∧ h.op = true ∧ h.kd = 0 ∧ h.par = -1 ∧ h.ev = hRoot.ev
theorem foldl_add_get (t : List UInt8) : ∀ (o : List Nat) (l : List HN) (j : Nat), o.Nodup → (o.foldl (fun l k => l.modify k (addT t)) l)[j]? = (l[j]?).map (fun h => if j ∈ o then addT t h else h)
 | [], l, j, _ => by simp
 | k :: o, l, j, hn => by
  obtain ⟨h1, h2⟩ := List.nodup_cons.1 hn
  rw [List.foldl_cons, foldl_add_get t o _ j h2, List.getElem?_modify]
  cases hl : l[j]? with
  | none => simp
  | some x =>
   simp only [Option.map_some]
   by_cases e : k = j
   ·subst e; simp [h1]
   ·have e2 : ¬ j = k := fun h => e h.symm
    simp [e, e2]
theorem opnsOf_open {s : BegS} {e : Ev} (h : e.kind = 0) : opnsOf (begNext s e) = opnsOf s ++ [e.num] := by
 have : (begNext s e).opn = (e.num, e.dep, e.name) :: s.opn := by unfold begNext; simp [h]
 unfold opnsOf; rw [this]; simp
theorem opnsOf_text {s : BegS} {e : Ev} (h : e.kind = 1) : opnsOf (begNext s e) = opnsOf s := by
 have : (begNext s e).opn = s.opn := by unfold begNext; simp [h]
 unfold opnsOf; rw [this]
theorem opnsOf_close {s : BegS} {e : Ev} {rest : List (Int × Int × List UInt8)} (h : e.kind = 2) (hr : s.opn = (e.num, e.dep, e.name) :: rest) : opnsOf s = opnsOf (begNext s e) ++ [e.num] := by
 have : (begNext s e).opn = rest := by unfold begNext; simp [h, hr]
 unfold opnsOf; rw [this, hr]; simp
theorem topH_of {s : BegS} {o : List Nat} (h : o = 0 :: (opnsOf s).map (fun x => x.toNat + 1)) (h0 : ∀ x ∈ s.opn, 0 ≤ x.1) : (topH o : Int) = topOf s.opn + 1 := by
 subst h
 unfold topH topOf
 cases ho : s.opn with
 | nil => unfold opnsOf; rw [ho]; rfl
 | cons a r =>
  have e : opnsOf s = (r.reverse.map (·.1)) ++ [a.1] := by unfold opnsOf; rw [ho]; simp
  have := h0 a (by rw [ho]; exact List.mem_cons_self)
  rw [e, List.map_append, ← List.cons_append]
  simp
  omega
theorem RbR.start (N : Nat) (evs : List Ev) : RbR N evs beg0 [hRoot] [0] [] :=
 ⟨rfl, rfl, fun x h => (by cases h), fun i r h => by simp at h, hRoot, rfl, rfl, rfl, rfl, rfl, rfl⟩
theorem RbR.step {N k : Nat} {evs : List Ev} {s : BegS} {hs : List HN} {o : List Nat} {rs : List RN} (h : RbR N evs s hs o rs) (hk : k < evs.length) (he : begOk s evs[k] = true) (hn : o.Nodup) (hinv : NdInv (evs.take k) s (nodesB (evs.take k))) (hrl : (rs.length : Int) = s.next) :
  RbR N evs (begNext s evs[k]) (hNext N k (hs, o) evs[k]).1 (hNext N k (hs, o) evs[k]).2 (rnNext s rs evs[k]) := by
 obtain ⟨h1, h2, h3, h4, h5⟩ := h
 have hcnt : s.cnt = k := by rw [hinv.cnt, List.length_take]; omega
 obtain ⟨hnd, hop0, _⟩ := opns_nodup hinv
 have hopn := hinv.opn
 have htop := topH_of h2 (fun x hx => (hopn x hx).1)
 have hek : evs[k]? = some evs[k] := List.getElem?_eq_getElem hk
 generalize evs[k] = e at *
 by_cases k2 : e.kind = 2
 ·have hhd := begOk_close he k2
  obtain ⟨rest, hr⟩ : ∃ rest, s.opn = (e.num, e.dep, e.name) :: rest := by
   cases ho : s.opn with
   | nil => rw [ho] at hhd; cases hhd
   | cons a r => rw [ho] at hhd; simp at hhd; exact ⟨r, by rw [hhd]⟩
  have hnum := hopn _ (by rw [hr]; exact List.mem_cons_self)
  simp only at hnum
  have hoc := opnsOf_close k2 hr
  have ht2 : topH o = e.num.toNat + 1 := by
   have : topOf s.opn = e.num := by unfold topOf; rw [hr]; rfl
   omega
  have e1 : hNext N k (hs, o) e = (hs.modify (topH o) (endH k), o.dropLast) := by unfold hNext; rw [if_neg (by omega), if_neg (by omega)]
  have e2 : rnNext s rs e = rs.modify e.num.toNat (rnClo k) := by unfold rnNext; rw [if_pos k2, hcnt]
  rw [e1, e2]
  refine ⟨by rw [List.length_modify, List.length_modify]; exact h1, ?_, fun x hx => ?_, fun i r hri => ?_, ?_⟩
  ·rw [h2, hoc, List.map_append, ← List.cons_append]
   exact List.dropLast_concat
  ·refine h3 x ?_
   rw [hoc, List.head?_append]
   rw [hx]; rfl
  ·rw [List.getElem?_modify] at hri
   cases hr0 : rs[i]? with
   | none => rw [hr0] at hri; simp at hri
   | some r0 =>
    rw [hr0] at hri
    obtain ⟨y, g1, g2⟩ := h4 i r0 hr0
    rw [List.getElem?_modify, g1, ht2]
    by_cases e3 : e.num.toNat = i
    ·subst e3
     simp at hri
     subst hri
     refine ⟨endH k y, by simp, ?_⟩
     obtain ⟨q1, q2, q3, q4, q5, q6, q7, q8, q9⟩ := g2
     exact ⟨q1, q2, q3, q4, q5, q6, fun hh => absurd hh Bool.false_ne_true, fun _ => ⟨by show (0 : Int) ≤ (k : Int); omega, by show ((k + 1 : Nat) : Int) = (k : Int) + 1; omega⟩, fun _ => rfl⟩
    ·simp [e3] at hri
     subst hri
     exact ⟨y, by simp [e3], g2⟩
  ·obtain ⟨y, g1, g2, g3⟩ := h5
   refine ⟨y, by rw [List.getElem?_modify, g1, ht2]; simp, ?_, g3⟩
   rw [g2, List.head?_eq_getElem?, List.head?_eq_getElem?, List.getElem?_modify]
   cases rs[0]? with
   | none => rfl
   | some r0 =>
    by_cases e3 : e.num.toNat = 0
    ·simp [e3, rnClo]
    ·simp [e3]
 obtain ⟨hnum, h01⟩ := begOk_new he k2
 have hnl : e.num.toNat = rs.length := by omega
 have hmem : ∀ i : Nat, i + 1 ∈ o ↔ (i : Int) ∈ opnsOf s := by
  intro i
  rw [h2]
  constructor
  ·intro hm
   rcases List.mem_cons.1 hm with hm | hm
   ·omega
   ·obtain ⟨x, hx, hxe⟩ := List.mem_map.1 hm
    have := (hop0 x hx).1
    have : x = (i : Int) := by omega
    rw [← this]; exact hx
  ·intro hm
   exact List.mem_cons_of_mem _ (List.mem_map.2 ⟨_, hm, by simp⟩)
 have hopge : ∀ x ∈ opnsOf s, 0 ≤ x := fun x hx => (hop0 x hx).1
 have hnotlast : ¬ ((rs.length : Nat) : Int) ∈ opnsOf s := fun hm => by
  have := (hop0 _ hm).2
  have hl := hinv.nxt
  omega
 have hget : ∀ i : Nat, (rnOpens e (opnsOf s) (rs ++ [rnNew s e]))[i]? = ((rs ++ [rnNew s e])[i]?).map (fun r => if (i : Int) ∈ opnsOf s then rnOpen e r else r) := fun i => rnOpens_get e _ _ i hopge hnd
 rcases h01 with k0 | k1
 ·have het : e.text = [] := by
   unfold begOk at he
   rw [if_pos k0] at he
   simp only [Bool.and_eq_true, decide_eq_true_eq] at he
   exact he.1.1.2.2.2
  have e1 : hNext N k (hs, o) e = (hs ++ [⟨e, 1, topH o, true, [], k, N⟩], o ++ [hs.length]) := by unfold hNext; rw [if_pos k0]
  have e2 : rnNext s rs e = rnOpens e (opnsOf s) (rs ++ [rnNew s e]) := by unfold rnNext; rw [if_neg k2, if_pos k0]
  rw [e1, e2]
  refine ⟨by rw [rnOpens_length]; simp [h1], ?_, fun x hx => ?_, fun i r hri => ?_, ?_⟩
  ·rw [opnsOf_open k0, List.map_append, ← List.cons_append, ← h2, h1]
   simp [hnl]
  ·rw [opnsOf_open k0, List.head?_append] at hx
   cases hh : (opnsOf s).head? with
   | some y => rw [hh] at hx; cases hx; exact h3 _ hh
   | none =>
    rw [hh] at hx
    simp at hx
    have hnil : s.opn = [] := by
     cases ho : s.opn with
     | nil => rfl
     | cons a r => unfold opnsOf at hh; rw [ho] at hh; simp at hh
    have hc0 : s.cnt = 0 := by
     unfold begOk at he
     rw [if_pos k0] at he
     simp only [Bool.and_eq_true, decide_eq_true_eq] at he
     rcases he.1.1.1 with h0 | h0
     ·exact h0
     ·exact absurd hnil h0
    have : (evs.take k) = [] := List.eq_nil_of_length_eq_zero (by rw [← hinv.cnt]; exact hc0)
    have hz := hinv.nxt
    rw [this] at hz
    have : (nodesB []).length = 0 := rfl
    rw [this] at hz
    omega
  ·rw [hget] at hri
   cases hr0 : (rs ++ [rnNew s e])[i]? with
   | none => rw [hr0] at hri; simp at hri
   | some r0 =>
    rw [hr0] at hri
    simp only [Option.map_some, Option.some.injEq] at hri
    have hsame : r.pos = r0.pos ∧ r.par = r0.par ∧ r.clo = r0.clo ∧ r.val = r0.val := by
     subst hri
     split
     ·exact ⟨rfl, rfl, rfl, by show r0.val ++ e.text = _; rw [het, List.append_nil]⟩
     ·exact ⟨rfl, rfl, rfl, rfl⟩
    obtain ⟨w1, w2, w3, w4⟩ := hsame
    rcases snoc_get hr0 with ⟨hil, hr0⟩ | ⟨hil, rfl⟩
    ·obtain ⟨y, g1, q1, q2, q3, q4, q5, q6, q7, q8, q9⟩ := h4 i r0 hr0
     exact ⟨y, get_snoc g1, by rw [w1]; exact q1, by rw [w2]; exact q2, q3, q4, by rw [w4]; exact q5, by rw [w1]; exact q6, by rw [w3]; exact q7, by rw [w3]; exact q8, q9⟩
    ·refine ⟨⟨e, 1, topH o, true, [], k, N⟩, by rw [hil, ← h1]; exact get_last hs _, ?_⟩
     exact ⟨by rw [w1]; show evs[s.cnt]? = some e; rw [hcnt]; exact hek, by rw [w2]; exact htop, by show (1 : Int) = if e.kind = 0 then 1 else 2; rw [if_pos k0], .inl k0, by rw [w4]; show [] = e.text; exact het.symm, by rw [w1]; exact hcnt.symm, fun _ => ⟨by rw [w3]; rfl, rfl⟩, fun hh => absurd hh.symm Bool.false_ne_true, fun hh => by have : e.kind = 1 := hh; omega⟩
  ·obtain ⟨y, g1, g2, g3⟩ := h5
   refine ⟨y, get_snoc g1, ?_, g3⟩
   rw [g2, List.head?_eq_getElem?, List.head?_eq_getElem?, hget]
   cases hr0 : rs[0]? with
   | none =>
    have hz : rs = [] := by cases rs with
     | nil => rfl
     | cons a l => simp at hr0
    subst hz
    simp only [List.nil_append, List.getElem?_cons_zero, Option.map_some, Option.map_none, Option.getD_none, Option.getD_some]
    split
    ·show [] = e.text ++ e.text; rw [het]; rfl
    ·show [] = e.text; rw [het]
   | some r0 =>
    rw [get_snoc hr0]
    simp only [Option.map_some, Option.getD_some]
    split
    ·show r0.val = r0.val ++ e.text; rw [het, List.append_nil]
    ·rfl
 ·have e1 : hNext N k (hs, o) e = (o.foldl (fun l k => l.modify k (addT e.text)) (hs ++ [⟨e, 2, topH o, false, e.text, k, k + 1⟩]), o) := by unfold hNext; rw [if_neg (by omega), if_pos k1]
  have e2 : rnNext s rs e = (rnOpens e (opnsOf s) (rs ++ [rnNew s e])).modify rs.length (rnClo k) := by unfold rnNext; rw [if_neg k2, if_neg (by omega), hcnt, hnl]
  have hne : s.opn ≠ [] := by
   unfold begOk at he
   rw [if_neg (by omega), if_pos k1] at he
   simp only [Bool.and_eq_true, decide_eq_true_eq] at he
   exact he.1.1.1
  rw [e1, e2]
  have hfg := fun j => foldl_add_get e.text o (hs ++ [(⟨e, 2, topH o, false, e.text, k, k + 1⟩ : HN)]) j hn
  refine ⟨by rw [foldl_modify_len, List.length_modify, rnOpens_length]; simp [h1], by rw [opnsOf_text k1]; exact h2, by rw [opnsOf_text k1]; exact h3, fun i r hri => ?_, ?_⟩
  ·rw [List.getElem?_modify, hget] at hri
   rw [hfg]
   cases hr0 : (rs ++ [rnNew s e])[i]? with
   | none => rw [hr0] at hri; simp at hri
   | some r0 =>
    rw [hr0] at hri
    rcases snoc_get hr0 with ⟨hil, hr0⟩ | ⟨hil, rfl⟩
    ·have hni : ¬ rs.length = i := by omega
     simp [hni] at hri
     obtain ⟨y, g1, q1, q2, q3, q4, q5, q6, q7, q8, q9⟩ := h4 i r0 hr0
     rw [get_snoc g1]
     by_cases hm : (i : Int) ∈ opnsOf s
     ·rw [if_pos hm] at hri
      subst hri
      refine ⟨addT e.text y, by simp [(hmem i).2 hm], ?_⟩
      exact ⟨q1, q2, q3, q4, by show y.txt ++ e.text = r0.val ++ e.text; rw [q5], q6, q7, q8, q9⟩
     ·rw [if_neg hm] at hri
      subst hri
      have hno : ¬ i + 1 ∈ o := fun hh => hm ((hmem i).1 hh)
      exact ⟨y, by rw [Option.map_some, if_neg hno], q1, q2, q3, q4, q5, q6, q7, q8, q9⟩
    ·have hnl2 : ¬ (i : Int) ∈ opnsOf s := by rw [hil]; exact hnotlast
     simp [hil.symm, hnl2] at hri
     have hno : ¬ i + 1 ∈ o := fun hh => hnl2 ((hmem i).1 hh)
     refine ⟨⟨e, 2, topH o, false, e.text, k, k + 1⟩, ?_, ?_⟩
     ·have : i + 1 = hs.length := by omega
      rw [this, get_last]
      rw [← this]
      simp [hno]
     ·subst hri
      exact ⟨by show evs[s.cnt]? = some e; rw [hcnt]; exact hek, htop, by show (2 : Int) = if e.kind = 0 then 1 else 2; rw [if_neg (by omega)], .inr k1, rfl, hcnt.symm, fun hh => absurd hh Bool.false_ne_true, fun _ => ⟨by show (0 : Int) ≤ (k : Int); omega, by show ((k + 1 : Nat) : Int) = (k : Int) + 1; omega⟩, fun _ => rfl⟩
  ·obtain ⟨y, g1, g2, g3⟩ := h5
   refine ⟨addT e.text y, ?_, ?_, g3⟩
   ·rw [hfg, get_snoc g1]
    have : 0 ∈ o := by rw [h2]; exact List.mem_cons_self
    simp [this]
   ·have hz : (0 : Int) ∈ opnsOf s := by
     cases hh : (opnsOf s).head? with
     | none =>
      exfalso
      cases ho : s.opn with
      | nil => exact hne ho
      | cons a r => unfold opnsOf at hh; rw [ho] at hh; simp at hh
     | some x =>
      have := h3 x hh
      subst this
      exact List.mem_of_head? hh
    have hlt : 0 < rs.length := by
     have := (hop0 0 hz).2
     have hl := hinv.nxt
     omega
    obtain ⟨r0, hr0⟩ : ∃ r0, rs[0]? = some r0 := ⟨rs[0], List.getElem?_eq_getElem hlt⟩
    have hn0 : ¬ rs.length = 0 := by omega
    show y.txt ++ e.text = _
    rw [g2, List.head?_eq_getElem?, List.head?_eq_getElem?, List.getElem?_modify, hget, get_snoc hr0, hr0]
    have hz' : ((0 : Nat) : Int) ∈ opnsOf s := hz
    simp only [Option.map_some, Option.getD_some, if_pos hz', if_neg hn0]
    rfl
theorem RbR.all (N : Nat) (evs : List Ev) : ∀ k, k ≤ evs.length → ∀ s, begAll beg0 (evs.take k) = some s → RbR N evs s (hAll N evs k).1 (hAll N evs k).2 (rnAll beg0 [] (evs.take k)) := by
 intro k
 induction k with
 | zero =>
  intro _ s hs
  rw [List.take_zero] at hs
  obtain rfl : beg0 = s := Option.some.inj hs
  exact RbR.start N evs
 | succ k ih =>
  intro hk s hs
  have hkl : k < evs.length := by omega
  have hs2 := hs
  rw [List.take_succ_eq_append_getElem hkl, begAll_snoc] at hs
  cases ht : begAll beg0 (evs.take k) with
  | none => rw [ht] at hs; cases hs
  | some t =>
   rw [ht] at hs
   simp only [Option.bind_some] at hs
   split at hs
   ·rename_i hok
    obtain rfl := Option.some.inj hs
    have hinv := nodesB_inv ht
    have hrl : ((rnAll beg0 [] (evs.take k)).length : Int) = t.next := by rw [(rnAll_spec ht).len]; exact hinv.nxt.symm
    have := (ih (by omega) t ht).step hkl hok (HOk.all N evs k (by omega) t ht).nod hinv hrl
    rw [hAll_succ N evs k hkl, List.take_succ_eq_append_getElem hkl, rnAll_snoc _ _ _ _ ht]
    exact this
   ·cases hs
end Go.Proofs.YtgjokdngbocehaaGreatDoor
