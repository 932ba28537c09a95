/-
  The plain law of a document's root: it is in all, and what Beginning says.
-/
import Derived.Test.YtopfbngdbhofkaaGreatDoorBtC
import Derived.Test.YtopfbngdbhofkaaGreatDoorItV
import Derived.Test.YtopfbngdbhofkaaGreatDoorItZ
namespace Go.Proofs.YtopfbngdbhofkaaGreatDoor
open Go.RowKit

def Bot (s : BegS) : Prop := ∀ a, [a] <:+ s.opn → a.1 = 0
theorem Bot.step {pre : List Ev} {s : BegS} {nds : List Nd} {e : Ev} (hi : NdInv pre s nds) (h : Bot s) (he : begOk s e = true) : Bot (begNext s e) := by
  intro a ha
  by_cases hk : e.kind = 2
  · have hh := begOk_close he hk
    obtain ⟨rest, hr⟩ : ∃ rest, s.opn = (e.num, e.dep, e.name) :: rest := by
      cases ho : s.opn with
      | nil => rw [ho] at hh; cases hh
      | cons a r => rw [ho] at hh; simp at hh; exact ⟨r, by rw [hh]⟩
    have hop : (begNext s e).opn = rest := by unfold begNext; simp [hk, hr]
    rw [hop] at ha
    exact h a (by rw [hr]; exact ha.trans (List.suffix_cons _ _))
  · obtain ⟨hn, hk01⟩ := begOk_new he hk
    rcases hk01 with h0 | h1
    · have hop : (begNext s e).opn = (e.num, e.dep, e.name) :: s.opn := by unfold begNext; simp [h0]
      rw [hop] at ha
      rcases List.suffix_cons_iff.1 ha with h2 | h2
      · simp only [List.cons.injEq] at h2
        obtain ⟨h3, h4⟩ := h2
        have hc : s.cnt = 0 := by
          unfold begOk at he
          rw [if_pos h0] at he
          simp only [Bool.and_eq_true, decide_eq_true_eq] at he
          rcases he.1.1.1 with h5 | h5
          · exact h5
          · exact absurd h4.symm h5
        have hnx := hi.nxt
        have hl : nds.length = 0 := by
          cases hnd : nds with
          | nil => rfl
          | cons x r =>
            obtain ⟨e', he', _⟩ := hi.here 0 x (by rw [hnd]; rfl)
            have := get_lt he'
            have := hi.cnt
            omega
        rw [h3]
        simp only
        omega
      · exact h a h2
    · have hop : (begNext s e).opn = s.opn := by unfold begNext; simp [h1]
      rw [hop] at ha
      exact h a ha
theorem Bot.all {pre : List Ev} {s : BegS} {nds : List Nd} (hi : NdInv pre s nds) (h : Bot s) : ∀ (l : List Ev) {t : BegS}, begAll s l = some t → Bot t := by
  intro l
  induction l generalizing pre s nds with
  | nil => intro t ht; simp only [begAll, Option.some.injEq] at ht; subst ht; exact h
  | cons e l ih =>
    intro t ht
    unfold begAll at ht
    split at ht
    · rename_i he
      exact ih (hi.step he) (h.step hi he) ht
    · cases ht
theorem last_root {evs : List Ev} (h : wholeB evs = true) : lastN evs 0 + 1 = (nodesB evs).length := by
  have hpos := wholeB_pos h
  obtain ⟨t, ht, hne, hop⟩ := wholeB_some h
  obtain ⟨pre, e, rfl⟩ : ∃ pre e, evs = pre ++ [e] := ⟨evs.dropLast, evs.getLast hne, (List.dropLast_concat_getLast hne).symm⟩
  rw [begAll_snoc] at ht
  cases hs : begAll beg0 pre with
  | none => rw [hs] at ht; cases ht
  | some s =>
    rw [hs] at ht
    simp only [Option.bind_some] at ht
    split at ht
    · rename_i he
      obtain rfl := Option.some.inj ht
      have hk : e.kind = 2 := by
        by_cases hk : e.kind = 2
        · exact hk
        · obtain ⟨_, hk01⟩ := begOk_new he hk
          rcases hk01 with h0 | h1
          · have : (begNext s e).opn = (e.num, e.dep, e.name) :: s.opn := by unfold begNext; simp [h0]
            rw [this] at hop; cases hop
          · have h2 : (begNext s e).opn = s.opn := by unfold begNext; simp [h1]
            rw [h2] at hop
            unfold begOk at he
            rw [if_neg (by omega), if_pos h1] at he
            simp [hop] at he
      have hh := begOk_close he hk
      obtain ⟨rest, hr⟩ : ∃ rest, s.opn = (e.num, e.dep, e.name) :: rest := by
        cases ho : s.opn with
        | nil => rw [ho] at hh; cases hh
        | cons a r => rw [ho] at hh; simp at hh; exact ⟨r, by rw [hh]⟩
      have hop2 : (begNext s e).opn = rest := by unfold begNext; simp [hk, hr]
      rw [hop2] at hop
      subst hop
      have hb : Bot s := Bot.all NdInv.start (fun a ha => by simp [beg0] at ha) pre hs
      have hz := hb (e.num, e.dep, e.name) (by rw [hr]; exact List.suffix_rfl)
      simp only at hz
      have hnb : nodesB (pre ++ [e]) = ndNext s (nodesB pre) e := ndAll_snoc _ _ _ _ hs
      have hnl : (nodesB (pre ++ [e])).length = (nodesB pre).length := by rw [hnb]; unfold ndNext; rw [if_pos hk, List.length_modify]
      have h0 : 0 < (nodesB pre).length := by omega
      unfold lastN
      rw [hnl]
      rw [hnb]
      unfold ndNext
      rw [if_pos hk, List.getElem?_modify, List.getElem?_eq_getElem h0, hz]
      simp
      omega
    · cases ht
theorem begR_whole (evs : List Ev) : (wholeB evs = true → begR evs = (true, 0, true)) ∧ (wholeB evs = false → (begR evs).1 = false ∨ (begR evs).2.2 = false) := by
  constructor
  · intro h
    obtain ⟨t, ht, hne, hop⟩ := wholeB_some h
    rw [begR_all ht, hop]
    simp [hne]
  · intro h
    unfold wholeB at h
    unfold begR
    cases hs : begAll beg0 evs with
    | none => exact .inl rfl
    | some s => rw [hs] at h; exact .inr h
end Go.Proofs.YtopfbngdbhofkaaGreatDoor
