/-
  The nodes that a beginning's events tell, as half.read keeps them; plain Lean.
-/
import Derived.Test.YtklpihaelaagpaaDoorLgF
import Derived.Test.YtklpihaelaagpaaDoorLgG
import Derived.Test.YtklpihaelaagpaaDoorLgA
import Derived.Deep.Upon
namespace Go.Proofs.YtklpihaelaagpaaDoor
open Go.RowKit

def hRoot : HN := ⟨⟨0, 0, 0, [], [], [], 0, 0⟩, 0, -1, true, [], 0, 0⟩
def topH (o : List Nat) : Nat := (o[o.length - 1]?).getD 0
def addT (t : List UInt8) (h : HN) : HN := { h with txt := h.txt ++ t }
def endH (i : Nat) (h : HN) : HN := { h with op := false, en := i + 1 }
def hNext (N i : Nat) (st : List HN × List Nat) (e : Ev) : List HN × List Nat :=
  if e.kind = 0 then (st.1 ++ [⟨e, 1, topH st.2, true, [], i, N⟩], st.2 ++ [st.1.length])
  else if e.kind = 1 then (st.2.foldl (fun l k => l.modify k (addT e.text)) (st.1 ++ [⟨e, 2, topH st.2, false, e.text, i, i + 1⟩]), st.2)
  else (st.1.modify (topH st.2) (endH i), st.2.dropLast)
def hAll (N : Nat) (evs : List Ev) (k : Nat) : List HN × List Nat := (List.range k).foldl (fun st i => match evs[i]? with | none => st | some e => hNext N i st e) ([hRoot], [0])
theorem hAll_zero (N : Nat) (evs : List Ev) : hAll N evs 0 = ([hRoot], [0]) := rfl
theorem hAll_succ (N : Nat) (evs : List Ev) (k : Nat) (h : k < evs.length) : hAll N evs (k + 1) = hNext N k (hAll N evs k) evs[k] := by
  unfold hAll
  rw [List.range_succ, List.foldl_append]
  simp [List.getElem?_eq_getElem h]
def txS (evs : List Ev) (k : Nat) : Nat := ((evs.take k).map fun e => e.text.length).sum
theorem txS_succ (evs : List Ev) (k : Nat) (h : k < evs.length) : txS evs (k + 1) = txS evs k + evs[k].text.length := by
  unfold txS
  rw [List.take_succ_eq_append_getElem h, List.map_append, List.sum_append]; simp
theorem txS_le (evs : List Ev) (k : Nat) : txS evs k ≤ wtEs evs := by
  unfold txS wtEs
  induction evs generalizing k with
  | nil => simp
  | cons x r ih =>
    cases k with
    | zero => simp
    | succ k => simp only [List.take_succ_cons, List.map_cons, List.sum_cons]; have := ih k; have : x.text.length ≤ wtE x := (by unfold wtE; omega); omega
structure HOk (N : Nat) (evs : List Ev) (k : Nat) (s : BegS) (st : List HN × List Nat) : Prop where
  len : st.1.length ≤ k + 1
  pos : 1 ≤ st.1.length
  opn : st.2.length = s.opn.length + 1
  lt : ∀ p ∈ st.2, p < st.1.length
  par : ∀ (i : Nat) (h : HN), st.1[i]? = some h → 1 ≤ i → 0 ≤ h.par ∧ h.par < (i : Int)
  txt : ∀ h ∈ st.1, h.txt.length ≤ txS evs k
  ev : ∀ h ∈ st.1, h.ev ∈ evs ∨ h.ev = hRoot.ev
  root : ∀ h, st.1[0]? = some h → h.par = -1 ∧ h.kd = 0
  cnt : st.1.length = s.next.toNat + 1 ∧ 0 ≤ s.next
  nod : st.2.Nodup
theorem foldl_modify_len {α : Type} (f : α → α) (o : List Nat) : ∀ l : List α, (o.foldl (fun l k => l.modify k f) l).length = l.length := by
  induction o with
  | nil => intro l; rfl
  | cons k o ih => intro l; rw [List.foldl_cons, ih, List.length_modify]
theorem modify_get {α : Type} {f : α → α} {l : List α} {k i : Nat} {x : α} (h : (l.modify k f)[i]? = some x) : ∃ y, l[i]? = some y ∧ (x = y ∨ x = f y) := by
  rw [List.getElem?_modify] at h
  cases hy : l[i]? with
  | none => rw [hy] at h; simp at h
  | some y =>
    rw [hy] at h
    refine ⟨y, rfl, ?_⟩
    by_cases e : k = i
    · simp [e] at h; exact .inr h.symm
    · simp [e] at h; exact .inl h.symm
theorem topH_mem {o : List Nat} (h : 1 ≤ o.length) : topH o ∈ o := by
  unfold topH
  rw [List.getElem?_eq_getElem (by omega)]
  exact List.getElem_mem _
theorem hAll_start (N : Nat) (evs : List Ev) : HOk N evs 0 beg0 (hAll N evs 0) := by
  rw [hAll_zero]
  refine ⟨Nat.le_refl _, Nat.le_refl _, rfl, fun p hp => ?_, fun i h hi h1 => ?_, fun h hh => ?_, fun h hh => ?_, fun h hh => ?_, ⟨rfl, Int.le_refl _⟩, ?_⟩
  · have : p = 0 := by simpa using hp
    subst this; exact Nat.lt_succ_self _
  · have : i < 1 := (List.getElem?_eq_some_iff.1 hi).1
    omega
  · have : h = hRoot := by simpa using hh
    subst this; exact Nat.zero_le _
  · have : h = hRoot := by simpa using hh
    subst this; exact .inr rfl
  · obtain rfl : hRoot = h := by simpa using hh
    exact ⟨rfl, rfl⟩
  · exact List.nodup_cons.2 ⟨by simp, List.nodup_nil⟩
theorem foldl_modify_get {f : HN → HN} (hf : ∀ h, (f h).par = h.par ∧ (f h).kd = h.kd ∧ (f h).ev = h.ev) (o : List Nat) : ∀ (l : List HN) (i : Nat) (h : HN), (o.foldl (fun l k => l.modify k f) l)[i]? = some h → ∃ y, l[i]? = some y ∧ h.par = y.par ∧ h.kd = y.kd ∧ h.ev = y.ev := by
  induction o with
  | nil => intro l i h hi; exact ⟨h, hi, rfl, rfl, rfl⟩
  | cons k o ih =>
    intro l i h hi
    rw [List.foldl_cons] at hi
    obtain ⟨y, h1, h2, h3, h4⟩ := ih _ i h hi
    obtain ⟨z, g1, g2⟩ := modify_get h1
    refine ⟨z, g1, ?_, ?_, ?_⟩
    · rcases g2 with rfl | rfl
      · exact h2
      · exact h2.trans (hf z).1
    · rcases g2 with rfl | rfl
      · exact h3
      · exact h3.trans (hf z).2.1
    · rcases g2 with rfl | rfl
      · exact h4
      · exact h4.trans (hf z).2.2
theorem foldl_add_len (t : List UInt8) (B : Nat) (o : List Nat) : o.Nodup → ∀ l : List HN, (∀ h ∈ l, h.txt.length ≤ B) → ∀ (i : Nat) (h : HN), (o.foldl (fun l k => l.modify k (addT t)) l)[i]? = some h → h.txt.length ≤ B + t.length := by
  intro hn l hl i h hi
  have key : ∀ (o : List Nat), o.Nodup → ∀ l : List HN, (∀ h ∈ l, h.txt.length ≤ B + t.length) → (∀ k ∈ o, ∀ h, l[k]? = some h → h.txt.length ≤ B) → ∀ h ∈ (o.foldl (fun l k => l.modify k (addT t)) l), h.txt.length ≤ B + t.length := by
    intro o
    induction o with
    | nil => intro _ l h1 _ h hh; exact h1 h hh
    | cons k o ih =>
      intro hn l h1 h2 h hh
      rw [List.foldl_cons] at hh
      obtain ⟨hk, hn2⟩ := List.nodup_cons.1 hn
      refine ih hn2 (l.modify k (addT t)) (fun g hg => ?_) (fun q hq g hg => ?_) h hh
      · obtain ⟨j, hj, rfl⟩ := List.getElem_of_mem hg
        have hj2 : (l.modify k (addT t))[j]? = some (l.modify k (addT t))[j] := List.getElem?_eq_getElem hj
        obtain ⟨y, g1, g2⟩ := modify_get hj2
        by_cases e : j = k
        · subst e
          have h3 := h2 j List.mem_cons_self y g1
          rcases g2 with g2 | g2
          · rw [g2]; omega
          · rw [g2]; unfold addT; simp only [List.length_append]; omega
        · have h4 : (l.modify k (addT t))[j]? = l[j]? := by rw [List.getElem?_modify]; cases l[j]? <;> simp [show ¬ k = j from fun h => e h.symm]
          rw [hj2, g1] at h4
          rw [Option.some.inj h4]
          exact h1 y (List.mem_of_getElem? g1)
      · have hqk : ¬ k = q := fun e => hk (by rw [e]; exact hq)
        have h4 : (l.modify k (addT t))[q]? = l[q]? := by rw [List.getElem?_modify]; cases l[q]? <;> simp [hqk]
        rw [hg] at h4
        exact h2 q (List.mem_cons_of_mem _ hq) g h4.symm
  exact key o hn l (fun g hg => Nat.le_trans (hl g hg) (Nat.le_add_right _ _)) (fun q _ g hg => hl g (List.mem_of_getElem? hg)) h (List.mem_of_getElem? hi)
theorem foldl_mod_app {f : HN → HN} (o : List Nat) : ∀ (l m : List HN) (j : Nat), j < l.length → (o.foldl (fun l k => l.modify k f) (l ++ m))[j]? = (o.foldl (fun l k => l.modify k f) l)[j]? := by
  induction o with
  | nil => intro l m j hj; exact List.getElem?_append_left hj
  | cons k o ih =>
    intro l m j hj
    rw [List.foldl_cons, List.foldl_cons]
    rcases Nat.lt_or_ge k l.length with hk | hk
    · have e : (l ++ m).modify k f = l.modify k f ++ m := by
        refine List.ext_getElem? fun i => ?_
        rw [List.getElem?_modify]
        rcases Nat.lt_or_ge i l.length with hi | hi
        · rw [List.getElem?_append_left hi, List.getElem?_append_left (by rw [List.length_modify]; exact hi), List.getElem?_modify]
        · rw [List.getElem?_append_right hi, List.getElem?_append_right (by rw [List.length_modify]; exact hi), List.length_modify]
          cases m[i - l.length]? <;> simp [show ¬ k = i by omega]
      rw [e]
      exact ih _ _ j (by rw [List.length_modify]; exact hj)
    · have e : (l ++ m).modify k f = l ++ m.modify (k - l.length) f := by
        refine List.ext_getElem? fun i => ?_
        rw [List.getElem?_modify]
        rcases Nat.lt_or_ge i l.length with hi | hi
        · rw [List.getElem?_append_left hi, List.getElem?_append_left hi]
          cases l[i]? <;> simp [show ¬ k = i by omega]
        · rw [List.getElem?_append_right hi, List.getElem?_append_right hi, List.getElem?_modify]
          cases m[i - l.length]? with
          | none => simp
          | some x =>
            by_cases e : k = i
            · subst e; simp
            · simp [e, show ¬ k - l.length = i - l.length by omega]
      have e2 : l.modify k f = l := List.modify_eq_self hk
      rw [e, e2]
      exact ih _ _ j hj
theorem foldl_mod_last {f : HN → HN} (o : List Nat) : ∀ (l m : List HN), (∀ p ∈ o, p < l.length) → ∀ j, j = l.length → (o.foldl (fun l k => l.modify k f) (l ++ m))[j]? = (l ++ m)[j]? := by
  intro l m ho j hj
  have key : ∀ (o : List Nat) (q : List HN), (∀ p ∈ o, p < j) → (o.foldl (fun l k => l.modify k f) q)[j]? = q[j]? := by
    intro o
    induction o with
    | nil => intro q _; rfl
    | cons k o ih =>
      intro q h
      rw [List.foldl_cons, ih _ fun p hp => h p (List.mem_cons_of_mem _ hp), List.getElem?_modify]
      have := h k List.mem_cons_self
      cases q[j]? <;> simp [show ¬ k = j by omega]
  exact key o _ fun p hp => by rw [hj]; exact ho p hp
theorem HOk.step {N : Nat} {evs : List Ev} {k : Nat} {s : BegS} {st : List HN × List Nat} {e : Ev} (h : HOk N evs k s st) (he : begOk s e = true) (hk : k < evs.length) (hek : evs[k] = e) : HOk N evs (k + 1) (begNext s e) (hNext N k st e) := by
  obtain ⟨h1, h2, h3, h4, h5, h6, h7, h8, h9, h10⟩ := h
  have htx := txS_succ evs k hk
  rw [hek] at htx
  have hmem : e ∈ evs := by rw [← hek]; exact List.getElem_mem hk
  have htop := h4 _ (topH_mem (by omega : 1 ≤ st.2.length))
  by_cases k2 : e.kind = 2
  · have hhd := begOk_close he k2
    obtain ⟨rest, hr⟩ : ∃ rest, s.opn = (e.num, e.dep, e.name) :: rest := by
      cases ho : s.opn with
      | nil => rw [ho] at hhd; cases hhd
      | cons a r => rw [ho] at hhd; simp at hhd; exact ⟨r, by rw [hhd]⟩
    have e1 : hNext N k st e = (st.1.modify (topH st.2) (endH k), st.2.dropLast) := by unfold hNext; rw [if_neg (by omega), if_neg (by omega)]
    have e2 : (begNext s e).opn = rest := by unfold begNext; simp [k2, hr]
    have e3 : (begNext s e).next = s.next := by unfold begNext; simp [k2]
    rw [e1]
    have hsub : ∀ p ∈ st.2.dropLast, p ∈ st.2 := fun p hp => (List.dropLast_sublist st.2).subset hp
    refine ⟨by simp; omega, by simp; omega, by rw [e2]; simp [h3, hr], fun p hp => by rw [List.length_modify]; exact h4 p (hsub p hp), fun i g hg hi => ?_, fun g hg => ?_, fun g hg => ?_, fun g hg => ?_, by rw [e3, List.length_modify]; exact h9, (List.dropLast_sublist _).nodup h10⟩
    · obtain ⟨y, q1, q2⟩ := modify_get hg
      have := h5 i y q1 hi
      rcases q2 with rfl | rfl
      · exact this
      · exact this
    · obtain ⟨j, hj, rfl⟩ := List.getElem_of_mem hg
      obtain ⟨y, q1, q2⟩ := modify_get (List.getElem?_eq_getElem hj)
      have := h6 y (List.mem_of_getElem? q1)
      rcases q2 with q2 | q2
      · rw [q2]; omega
      · rw [q2]; show y.txt.length ≤ _; omega
    · obtain ⟨j, hj, rfl⟩ := List.getElem_of_mem hg
      obtain ⟨y, q1, q2⟩ := modify_get (List.getElem?_eq_getElem hj)
      have := h7 y (List.mem_of_getElem? q1)
      rcases q2 with q2 | q2
      · rw [q2]; exact this
      · rw [q2]; exact this
    · obtain ⟨y, q1, q2⟩ := modify_get hg
      have := h8 y q1
      rcases q2 with rfl | rfl
      · exact this
      · exact this
  obtain ⟨hnum, h01⟩ := begOk_new he k2
  have e3 : (begNext s e).next = s.next + 1 := by unfold begNext; simp [k2]
  rcases h01 with k0 | k1
  · have e1 : hNext N k st e = (st.1 ++ [⟨e, 1, topH st.2, true, [], k, N⟩], st.2 ++ [st.1.length]) := by unfold hNext; rw [if_pos k0]
    have e2 : (begNext s e).opn = (e.num, e.dep, e.name) :: s.opn := by unfold begNext; simp [k0]
    rw [e1]
    refine ⟨by simp; omega, by simp, by rw [e2]; simp [h3], fun p hp => ?_, fun i g hg hi => ?_, fun g hg => ?_, fun g hg => ?_, fun g hg => ?_, by rw [e3]; simp; omega, ?_⟩
    · rw [List.length_append, List.length_singleton]
      rcases List.mem_append.1 hp with hp | hp
      · have := h4 p hp; omega
      · have : p = st.1.length := by simpa using hp
        omega
    · rcases snoc_get hg with ⟨_, hg⟩ | ⟨hi2, rfl⟩
      · exact h5 i g hg hi
      · show (0 : Int) ≤ (topH st.2 : Int) ∧ (topH st.2 : Int) < (i : Int); omega
    · rcases List.mem_append.1 hg with hg | hg
      · have := h6 g hg; omega
      · obtain rfl := List.mem_singleton.1 hg
        exact Nat.zero_le _
    · rcases List.mem_append.1 hg with hg | hg
      · exact h7 g hg
      · obtain rfl := List.mem_singleton.1 hg
        exact .inl hmem
    · rcases snoc_get hg with ⟨_, hg⟩ | ⟨hi2, _⟩
      · exact h8 g hg
      · omega
    · refine List.nodup_append.2 ⟨h10, List.nodup_cons.2 ⟨by simp, List.nodup_nil⟩, fun a ha b hb => ?_⟩
      have : b = st.1.length := by simpa using hb
      have := h4 a ha
      omega
  · have e1 : hNext N k st e = (st.2.foldl (fun l k => l.modify k (addT e.text)) (st.1 ++ [⟨e, 2, topH st.2, false, e.text, k, k + 1⟩]), st.2) := by unfold hNext; rw [if_neg (by omega), if_pos k1]
    have e2 : (begNext s e).opn = s.opn := by unfold begNext; simp [k1]
    rw [e1]
    have hl : (st.2.foldl (fun l k => l.modify k (addT e.text)) (st.1 ++ [(⟨e, 2, topH st.2, false, e.text, k, k + 1⟩ : HN)])).length = st.1.length + 1 := by rw [foldl_modify_len]; simp
    have hf : ∀ h, (addT e.text h).par = h.par ∧ (addT e.text h).kd = h.kd ∧ (addT e.text h).ev = h.ev := fun h => ⟨rfl, rfl, rfl⟩
    refine ⟨by rw [hl]; omega, by rw [hl]; omega, by rw [e2]; exact h3, fun p hp => by rw [hl]; have := h4 p hp; omega, fun i g hg hi => ?_, fun g hg => ?_, fun g hg => ?_, fun g hg => ?_, by rw [e3, hl]; omega, h10⟩
    · obtain ⟨y, q1, q2, _, _⟩ := foldl_modify_get hf _ _ _ _ hg
      rw [q2]
      rcases snoc_get q1 with ⟨_, hy⟩ | ⟨hi2, rfl⟩
      · exact h5 i y hy hi
      · show (0 : Int) ≤ (topH st.2 : Int) ∧ (topH st.2 : Int) < (i : Int); omega
    · obtain ⟨j, hj, rfl⟩ := List.getElem_of_mem hg
      rw [htx]
      have hj2 := List.getElem?_eq_getElem hj
      have hj3 : j < st.1.length + 1 := by rw [← hl]; exact hj
      rcases Nat.lt_or_ge j st.1.length with hjl | hjl
      · refine foldl_add_len e.text (txS evs k) st.2 h10 st.1 h6 j _ ?_
        rw [← hj2, foldl_mod_app _ _ _ _ hjl]
      · have hje : j = st.1.length := by omega
        subst hje
        rw [foldl_mod_last st.2 st.1 _ h4 _ rfl, List.getElem?_append_right (Nat.le_refl _), Nat.sub_self] at hj2
        rw [← Option.some.inj hj2]
        show e.text.length ≤ _
        omega
    · obtain ⟨j, hj, rfl⟩ := List.getElem_of_mem hg
      obtain ⟨y, q1, _, _, q4⟩ := foldl_modify_get hf _ _ _ _ (List.getElem?_eq_getElem hj)
      rw [q4]
      rcases snoc_get q1 with ⟨_, hy⟩ | ⟨_, rfl⟩
      · exact h7 y (List.mem_of_getElem? hy)
      · exact .inl hmem
    · obtain ⟨y, q1, q2, q3, _⟩ := foldl_modify_get hf _ _ _ _ hg
      rw [q2, q3]
      rcases snoc_get q1 with ⟨_, hy⟩ | ⟨hi2, _⟩
      · exact h8 y hy
      · omega
theorem HOk.all (N : Nat) (evs : List Ev) : ∀ k, k ≤ evs.length → ∀ s, begAll beg0 (evs.take k) = some s → HOk N evs k s (hAll N evs k) := by
  intro k
  induction k with
  | zero =>
    intro _ s hs
    rw [List.take_zero] at hs
    obtain rfl : beg0 = s := Option.some.inj hs
    exact hAll_start N evs
  | succ k ih =>
    intro hk s hs
    have hkl : k < evs.length := by omega
    rw [List.take_succ_eq_append_getElem hkl, begAll_snoc] at hs
    cases ht : begAll beg0 (evs.take k) with
    | none => rw [ht] at hs; cases hs
    | some t =>
      rw [ht] at hs
      simp only [Option.bind_some] at hs
      split at hs
      · rename_i hok
        obtain rfl := Option.some.inj hs
        rw [hAll_succ N evs k hkl]
        exact (ih (by omega) t ht).step hok hkl rfl
      · cases hs
end Go.Proofs.YtklpihaelaagpaaDoor

namespace Go.Proofs.YtklpihaelaagpaaDoor
open Go.RowKit

theorem own_slice {w : World} {base : Nat} {e : TypeId} {size : Nat} {v : Value} {n : Nat} {xs : List Value} (h : w.ownsRow base e size v n xs) :
    ∃ a c, v = .slice a n c ∧ n ≤ c ∧ (a = none → n = 0) ∧ ∀ ad, a = some ad → ∃ g, ad = ⟨g, 0, none⟩ ∧ base ≤ g ∧ g < w.heap.size ∧ w.frozen? ⟨g, 0, none⟩ = false ∧ ∀ j u, xs[j]? = some u → w.cell? ⟨g, j, none⟩ = some u := by
  have hc := fun g hg => h.cells (g := g) hg
  have hl := h.lt
  have h0 := h
  obtain ⟨h1, h2⟩ := h
  rcases h2 with ⟨rfl, rfl⟩ | ⟨g, cap, cur, rfl, hg, hh, h5, r⟩
  · exact ⟨none, 0, rfl, Nat.le_refl _, fun _ => rfl, fun ad h => by cases h⟩
  · refine ⟨_, cap, rfl, h5, fun h => (by cases h), fun ad he => ⟨g, (by cases he; rfl), hg, (hl g rfl).2, frozen_heap hh, fun j u hj => ?_⟩⟩
    have := hc g rfl j u hj
    unfold Addr.add at this
    split at this
    · rename_i h; subst h; exact this
    · simpa using this
theorem own_some {w : World} {base : Nat} {e : TypeId} {size : Nat} {v : Value} {n : Nat} {xs : List Value} (h : w.ownsRow base e size v (n + 1) xs) :
    ∃ g c, v = .slice (some ⟨g, 0, none⟩) (n + 1) c ∧ n + 1 ≤ c ∧ base ≤ g ∧ g < w.heap.size ∧ w.frozen? ⟨g, 0, none⟩ = false ∧ ∀ j u, xs[j]? = some u → w.cell? ⟨g, j, none⟩ = some u := by
  obtain ⟨a, c, rfl, h1, h2, h3⟩ := own_slice h
  cases a with
  | none => have := h2 rfl; omega
  | some ad =>
    obtain ⟨g, rfl, h4⟩ := h3 _ rfl
    exact ⟨g, c, rfl, h1, h4⟩
theorem own_pop {w : World} {base : Nat} {e : TypeId} {size : Nat} {g c n : Nat} {xs ys : List Value} (h : w.ownsRow base e size (.slice (some ⟨g, 0, none⟩) (n + 1) c) (n + 1) (xs ++ ys)) (hx : xs.length = n * size) :
    w.ownsRow base e size (.slice (some ⟨g, 0, none⟩) n c) n xs := by
  obtain ⟨h1, h2⟩ := h
  rcases h2 with ⟨h0, _⟩ | ⟨g', cap', cur, hv, hg, hh, hn, hcap, hsz, htake⟩
  · cases h0
  · cases hv
    refine ⟨hx, .inr ⟨g, c, cur, rfl, hg, hh, by omega, hcap, hsz, ?_⟩⟩
    have h3 : (cur.toList.take ((n + 1) * size)).take (n * size) = (xs ++ ys).take (n * size) := by rw [htake]
    rw [List.take_take, Nat.min_eq_left (Nat.mul_le_mul_right _ (by omega))] at h3
    rw [h3, ← hx, List.take_left']
    rfl
theorem wpList_app_row {P : Program} (w : World) {ops : Array Oper} {rest : List Oper} {o : Oper} {a : Act} {Q : Exit → Act → World → Prop} (hgd : o.guard = none) (s x : Operand) (t : TypeId)
    (ho : o.op = .call { callee := .builtin .append, args := #[s, x], argTypes := #[t, t] })
    (base : Nat) (e : TypeId) (i : TypeInfo) (z : Value) (size bytes : Nat) (ht : P.underlying t = some (.slice e)) (hi : P.info? e = some i) (hz : i.zero = some z)
    (hsize : i.size = size) (hby : i.bytes = bytes) (hzs : z.cells.size = size) (hsz : 0 < size)
    (v : Value) (n : Nat) (xs : List Value) (hs : a.eval s = v) (hown : w.ownsRow base e size v n xs)
    (A : Option Addr) (m c : Nat) (news : List Value) (hx : a.eval x = .slice A m c) (hl : news.length = m * size) (hc : ∀ ad, A = some ad → ∀ j u, news[j]? = some u → w.cell? (ad.add j) = some u) (hA : A = none → m = 0) (h1 : ∀ u ∈ news, u.oneCell' = true)
    (hn : n + m ≤ 4294967296) (hbb : bytes ≤ 16384) (hbase : base ≤ w.heap.size)
    (h : ∀ v' w', w'.ownsRow base e size v' (n + m) (xs ++ news) → App w w' v v' → wpList P ops Q rest (a.put o.dst v') w') :
    wpList P ops Q (o :: rest) a w := by
  have hb : (n + m) * bytes ≤ 140737488355328 := Nat.le_trans (Nat.mul_le_mul hn hbb) (by decide)
  rcases A with _ | ad
  · have hm := hA rfl
    subst hm
    have hnews : news = [] := List.eq_nil_of_length_eq_zero (by omega)
    subst hnews
    obtain ⟨av, cv, rfl, hle, _, _⟩ := own_slice hown
    refine wpList_plain hgd fun K hK' => ?_
    have hrun := run_append_nothing (P := P) w t t o.type e i ht hi av n cv hle _ (Src.ofNil (P := P) (size := i.size) w ht c)
    unfold Oper.wp
    simp [execOp, ho, resolve, invoke, builtin, hs, hx, hrun, Result.andThen]
    exact hK' _ _ (h _ _ (by simpa using hown) ⟨⟨rfl, rfl, rfl, Nat.le_refl _, fun _ _ _ => rfl⟩, .inl rfl⟩)
  · refine wpList_append_own_at (P := P) w hgd s x t ho base e i z size bytes ht hi hz hsize hby hzs hsz v n xs hs hown ad m c news hx hl (hc ad rfl) h1 (by unfold maxLen; omega) hb hbase fun v' w' h2 h3 _ h5 => h v' w' h2 ⟨h3, ?_⟩
    rcases h5 with h5 | h5
    · exact .inl h5
    · exact .inr ⟨_, h5, Nat.le_refl _⟩
end Go.Proofs.YtklpihaelaagpaaDoor

namespace Go.Proofs.YtklpihaelaagpaaDoor
open Go.RowKit

structure TsAt (w : World) (a : Option Addr) (n : Nat) (l : List Int) : Prop where
  len : n = l.length
  at' : ∀ i, (h : i < l.length) → ∃ b o, a = some ⟨b, o, none⟩ ∧ b < w.heap.size ∧ w.cell? ⟨b, o + i, none⟩ = some (.int .i64 l[i])
theorem TsAt.below {w w' : World} {a : Option Addr} {n : Nat} {l : List Int} (h : TsAt w a n l) (hb : Below w.heap.size w w') : TsAt w' a n l :=
  ⟨h.len, fun i hi => by
    obtain ⟨b, o, e, hlt, hc⟩ := h.at' i hi
    exact ⟨b, o, e, Nat.lt_of_lt_of_le hlt hb.size, (hb.cell (p := ⟨b, o + i, none⟩) hlt).trans hc⟩⟩
theorem TsAt.far {w : World} {a : Option Addr} {n : Nat} {l : List Int} (h : TsAt w a n l) {P j : Nat} (hne : ∀ ad, a = some ad → ad.block ≠ P) (v : Value) : TsAt (w.setCell ⟨P, j, none⟩ v) a n l :=
  ⟨h.len, fun i hi => by
    obtain ⟨b, o, e, hlt, hc⟩ := h.at' i hi
    refine ⟨b, o, e, by rw [show (w.setCell ⟨P, j, none⟩ v).heap.size = w.heap.size by simp [World.setCell]]; exact hlt, ?_⟩
    rw [← hc]
    unfold World.cell?
    rw [Below.heap_setCell _ _ _ _ (show b ≠ P from hne _ e)]⟩
set_option maxRecDepth 100000 in
set_option maxHeartbeats 1000000 in
theorem good_any (t : Int) (w : World) : Calls Tryd.prog 68 #[.int .i64 t] w fun e w' => e = .returned (.bool (decide (0 ≤ t ∧ t ≤ 2))) ∧ w' = w := by
  by_cases h0 : 0 ≤ t
  · by_cases h2 : t ≤ 2
    · rw [decide_eq_true ⟨h0, h2⟩]
      go_enter Tryd.func68, Tryd.ntmps68
      go_wp2_with fail
      go_ret
      exact ⟨rfl, rfl⟩
    · rw [decide_eq_false (by omega)]
      have h2' : 2 < t := by omega
      clear h2
      go_enter Tryd.func68, Tryd.ntmps68
      go_wp2_with fail
      go_ret
      exact ⟨ret_bool (by simp; omega), rfl⟩
  · rw [decide_eq_false (by omega)]
    have h0' : t < 0 := by omega
    clear h0
    go_enter Tryd.func68, Tryd.ntmps68
    go_wp2_with fail
    go_ret
    exact ⟨rfl, rfl⟩
set_option maxRecDepth 100000 in
set_option maxHeartbeats 1000000 in
theorem seen_any (t : Int) (w : World) : Calls Tryd.prog 51 #[.int .i64 t] w fun e w' => e = .returned (.int .i64 (seenI t)) ∧ w' = w := by
  have HG := Lib.hid (good_any t)
  unfold seenI
  by_cases h : 0 ≤ t ∧ t ≤ 2
  · rw [if_pos h]
    rw [decide_eq_true h] at HG
    clear h
    go_enter Tryd.func51, Tryd.ntmps51
    go_wp2_with fail
    (with_reducible refine (HG.out _).mono ?_)
    rintro e w2 ⟨rfl, rfl⟩
    go_wp2_with fail
    go_ret
    exact ⟨rfl, rfl⟩
  · rw [if_neg h]
    rw [decide_eq_false h] at HG
    clear h
    go_enter Tryd.func51, Tryd.ntmps51
    go_wp2_with fail
    (with_reducible refine (HG.out _).mono ?_)
    rintro e w2 ⟨rfl, rfl⟩
    go_wp2_with fail
    go_ret
    exact ⟨rfl, rfl⟩
set_option maxRecDepth 100000 in
set_option maxHeartbeats 1000000 in
theorem kNot_any (t : Int) (w : World) : Calls Tryd.prog 34 #[.int .i64 t] w fun e w' => e = .returned (.int .i64 (notI t)) ∧ w' = w := by
  have HG := Lib.hid (seen_any t)
  have h3 := seenI_3 t
  unfold notI
  generalize seenI t = s at *
  unfold T3 at h3
  have ew : IntKind.i64.wrap (2 - s) = 2 - s := IntWalk.i64_in _ (by omega)
  go_enter Tryd.func34, Tryd.ntmps34
  go_wp2_with fail
  (with_reducible refine (HG.out _).mono ?_)
  rintro e w2 ⟨rfl, rfl⟩
  go_wp2_with fail
  go_ret
  exact ⟨rfl, rfl⟩
set_option maxRecDepth 100000 in
set_option maxHeartbeats 1000000 in
theorem truth_any (b : Bool) (w : World) : Calls Tryd.prog 35 #[.bool b] w fun e w' => e = .returned (.int .i64 (truthI b)) ∧ w' = w := by
  cases b with
  | true =>
    go_enter Tryd.func35, Tryd.ntmps35
    go_wp2_with fail
    go_ret
    exact ⟨rfl, rfl⟩
  | false =>
    go_enter Tryd.func35, Tryd.ntmps35
    go_wp2_with fail
    go_ret
    exact ⟨rfl, rfl⟩
set_option maxRecDepth 100000 in
set_option maxHeartbeats 4000000 in
theorem kAnd_any (a : Option Addr) (n c : Nat) (l : List Int) (w : World) (h : TsAt w a n l) (hn : n ≤ 1048576) : Calls Tryd.prog 32 #[.slice a n c] w fun e w' => e = .returned (.int .i64 (andL l)) ∧ w' = w := by
  have HL : Hid (l.length = n) := Lib.hid h.len.symm
  have H1 := Lib.hid h.at'
  have HS := Lib.hid seen_any
  obtain ⟨R, hR⟩ : ∃ R, andL l = R := ⟨_, rfl⟩
  rw [hR]
  have HR := Lib.hid hR
  clear h hR
  go_enter Tryd.func32, Tryd.ntmps32
  go_wp2_with fail
  go_loopw [3, 8] (fun av iv wr => ∃ (i : Nat) (r : Int), iv = .int .i64 i ∧ av = .int .i64 r ∧ i ≤ n ∧ Hid (wr = w) ∧ Hid ((l.drop i).foldl (fun a t => min a (seenI t)) r = R)) (fun _ iv _ => n - (intOf iv).toNat)
  case atStart => exact ⟨0, 2, rfl, rfl, Nat.zero_le _, (by first | exact Lib.hid rfl | exact Lib.hid trivial), HR⟩
  case round =>
    obtain ⟨i, r, rfl, rfl, hin, HW, HJ⟩ := hrel
    obtain rfl := HW.out
    by_cases hi : i < n
    · have i1 : (0 : Int) ≤ (i : Int) := by omega
      have i2 : (i : Int) < (n : Int) := by omega
      have ewi : IntKind.i64.wrap ((i : Int) + 1) = (i : Int) + 1 := IntWalk.i64_in _ (by omega)
      have hil : i < l.length := by rw [HL.out]; exact hi
      obtain ⟨b, o, rfl, _, hc⟩ := H1.out i hil
      have HNX : Hid ((l.drop (i + 1)).foldl (fun a t => min a (seenI t)) (min r (seenI l[i])) = R) := Lib.hid (by
        have := HJ.out
        rw [List.drop_eq_getElem_cons hil] at this
        exact this)
      generalize l[i] = t at *
      have HST := Lib.hid (HS.out t wr)
      generalize seenI t = st at *
      go_wp2_with fail
      (with_reducible refine HST.out.mono ?_)
      rintro e w2 ⟨rfl, rfl⟩
      go_wp2_with fail
      go_roundw
      case rel => exact ⟨i + 1, _, by go_num, rfl, by omega, (by first | exact Lib.hid rfl | exact Lib.hid trivial), HNX⟩
      case measure => simp [intOf]; omega
    · have i4 : (n : Int) ≤ (i : Int) := by omega
      have HE : Hid (r = R) := Lib.hid (by
        have := HJ.out
        rw [List.drop_of_length_le (by rw [HL.out]; omega)] at this
        exact this)
      go_wp2_with fail
      go_ret
      exact ⟨ret_int HE.out, rfl⟩
set_option maxRecDepth 100000 in
set_option maxHeartbeats 4000000 in
theorem kOr_any (a : Option Addr) (n c : Nat) (l : List Int) (w : World) (h : TsAt w a n l) (hn : n ≤ 1048576) : Calls Tryd.prog 33 #[.slice a n c] w fun e w' => e = .returned (.int .i64 (orL l)) ∧ w' = w := by
  have HL : Hid (l.length = n) := Lib.hid h.len.symm
  have H1 := Lib.hid h.at'
  have HS := Lib.hid seen_any
  obtain ⟨R, hR⟩ : ∃ R, orL l = R := ⟨_, rfl⟩
  rw [hR]
  have HR := Lib.hid hR
  clear h hR
  go_enter Tryd.func33, Tryd.ntmps33
  go_wp2_with fail
  go_loopw [3, 8] (fun av iv wr => ∃ (i : Nat) (r : Int), iv = .int .i64 i ∧ av = .int .i64 r ∧ i ≤ n ∧ Hid (wr = w) ∧ Hid ((l.drop i).foldl (fun a t => max a (seenI t)) r = R)) (fun _ iv _ => n - (intOf iv).toNat)
  case atStart => exact ⟨0, 0, rfl, rfl, Nat.zero_le _, (by first | exact Lib.hid rfl | exact Lib.hid trivial), HR⟩
  case round =>
    obtain ⟨i, r, rfl, rfl, hin, HW, HJ⟩ := hrel
    obtain rfl := HW.out
    by_cases hi : i < n
    · have i1 : (0 : Int) ≤ (i : Int) := by omega
      have i2 : (i : Int) < (n : Int) := by omega
      have ewi : IntKind.i64.wrap ((i : Int) + 1) = (i : Int) + 1 := IntWalk.i64_in _ (by omega)
      have hil : i < l.length := by rw [HL.out]; exact hi
      obtain ⟨b, o, rfl, _, hc⟩ := H1.out i hil
      have HNX : Hid ((l.drop (i + 1)).foldl (fun a t => max a (seenI t)) (max r (seenI l[i])) = R) := Lib.hid (by
        have := HJ.out
        rw [List.drop_eq_getElem_cons hil] at this
        exact this)
      generalize l[i] = t at *
      have HST := Lib.hid (HS.out t wr)
      generalize seenI t = st at *
      go_wp2_with fail
      (with_reducible refine HST.out.mono ?_)
      rintro e w2 ⟨rfl, rfl⟩
      go_wp2_with fail
      go_roundw
      case rel => exact ⟨i + 1, _, by go_num, rfl, by omega, (by first | exact Lib.hid rfl | exact Lib.hid trivial), HNX⟩
      case measure => simp [intOf]; omega
    · have i4 : (n : Int) ≤ (i : Int) := by omega
      have HE : Hid (r = R) := Lib.hid (by
        have := HJ.out
        rw [List.drop_of_length_le (by rw [HL.out]; omega)] at this
        exact this)
      go_wp2_with fail
      go_ret
      exact ⟨ret_int HE.out, rfl⟩
end Go.Proofs.YtklpihaelaagpaaDoor
