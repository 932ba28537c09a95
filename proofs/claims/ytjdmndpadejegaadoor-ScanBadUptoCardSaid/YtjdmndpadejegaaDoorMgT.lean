/-
  Scan, plain law: steps with enough fuel; they go on from a mark; they are decided by the bytes up to their end.
-/
import Derived.Test.YtjdmndpadejegaaDoorMgG
import Derived.Test.YtjdmndpadejegaaDoorMgS
import Derived.Test.YtjdmndpadejegaaDoorMgC
namespace Go.Proofs.YtjdmndpadejegaaDoor
open Go.RowKit

theorem go_succ (F inn : Nat) (name : List UInt8) (f : Nat) (σ : St) (l : List UInt8) : goF F inn name (f + 1) σ l =
    match stepF F inn name (decide (2 ≤ σ.br)) l with
    | .wait => (σ, .wait)
    | .bad n => (σ, .bad (σ.i + n))
    | .ok (.tag t) n => (σ, .ok t (σ.i + n))
    | .ok a n => goF F inn name f (σ.act a n) (l.drop n) := rfl
theorem go_fuel (F inn : Nat) (name : List UInt8) : ∀ (f g : Nat) (σ : St) (l : List UInt8), l.length < f → l.length < g → goF F inn name f σ l = goF F inn name g σ l
  | 0, _, _, _, h, _ => by omega
  | f + 1, 0, _, _, _, h => by omega
  | f + 1, g + 1, σ, l, h1, h2 => by
    rw [go_succ, go_succ]
    cases hs : stepF F inn name (decide (2 ≤ σ.br)) l with
    | wait => rfl
    | bad n => rfl
    | ok a n =>
      obtain ⟨p1, p2⟩ := step_pos _ _ _ _ _ _ _ hs
      have := fun τ => go_fuel F inn name f g τ (l.drop n) (by rw [List.length_drop]; omega) (by rw [List.length_drop]; omega)
      cases a <;> first | rfl | exact this _
def goL (F inn : Nat) (name : List UInt8) (σ : St) (l : List UInt8) : St × Sc Tok := goF F inn name (l.length + 1) σ l
theorem goL_eq (F inn : Nat) (name : List UInt8) (σ : St) (l : List UInt8) : goL F inn name σ l =
    match stepF F inn name (decide (2 ≤ σ.br)) l with
    | .wait => (σ, .wait)
    | .bad n => (σ, .bad (σ.i + n))
    | .ok (.tag t) n => (σ, .ok t (σ.i + n))
    | .ok a n => goL F inn name (σ.act a n) (l.drop n) := by
  unfold goL
  rw [go_succ]
  cases hs : stepF F inn name (decide (2 ≤ σ.br)) l with
  | wait => rfl
  | bad n => rfl
  | ok a n =>
    obtain ⟨p1, p2⟩ := step_pos _ _ _ _ _ _ _ hs
    have := fun τ => go_fuel F inn name l.length ((l.drop n).length + 1) τ (l.drop n) (by rw [List.length_drop]; omega) (by omega)
    cases a <;> first | rfl | exact this _
theorem goL_ind {C : St → List UInt8 → Prop} (h : ∀ σ l, (∀ τ u, u.length < l.length → C τ u) → C σ l) : ∀ σ l, C σ l := by
  have key : ∀ n σ l, l.length ≤ n → C σ l := by
    intro n
    induction n with
    | zero => intro σ l hl; exact h σ l fun τ u hu => by omega
    | succ n ih => intro σ l hl; exact h σ l fun τ u hu => ih τ u (by omega)
  intro σ l
  exact key _ σ l (Nat.le_refl _)
theorem goL_end (F inn : Nat) (name : List UInt8) : ∀ σ l τ r, goL F inn name σ l = (τ, r) →
    σ.i ≤ τ.i ∧ τ.i ≤ σ.i + l.length ∧
    (match r with
      | .wait => stepF F inn name (decide (2 ≤ τ.br)) (l.drop (τ.i - σ.i)) = .wait
      | .bad n => ∃ k, n = τ.i + k ∧ stepF F inn name (decide (2 ≤ τ.br)) (l.drop (τ.i - σ.i)) = .bad k
      | .ok t n => ∃ k, n = τ.i + k ∧ stepF F inn name (decide (2 ≤ τ.br)) (l.drop (τ.i - σ.i)) = .ok (.tag t) k) := by
  refine goL_ind fun σ l ih τ r h => ?_
  rw [goL_eq] at h
  cases hs : stepF F inn name (decide (2 ≤ σ.br)) l with
  | wait =>
    rw [hs] at h
    cases h
    exact ⟨Nat.le_refl _, by omega, by rw [Nat.sub_self, List.drop_zero]; exact hs⟩
  | bad n =>
    rw [hs] at h
    cases h
    exact ⟨Nat.le_refl _, by omega, n, rfl, by rw [Nat.sub_self, List.drop_zero]; exact hs⟩
  | ok a n =>
    obtain ⟨p1, p2⟩ := step_pos _ _ _ _ _ _ _ hs
    rw [hs] at h
    by_cases ha : ∃ t, a = .tag t
    · obtain ⟨t, rfl⟩ := ha
      cases h
      exact ⟨Nat.le_refl _, by omega, n, rfl, by rw [Nat.sub_self, List.drop_zero]; exact hs⟩
    · have hi := act_i σ a n fun t e => ha ⟨t, e⟩
      have h' : goL F inn name (σ.act a n) (l.drop n) = (τ, r) := by
        cases a <;> first | exact h | exact absurd ⟨_, rfl⟩ ha
      have hlen : (l.drop n).length < l.length := by rw [List.length_drop]; omega
      obtain ⟨i1, i2, i3⟩ := ih _ _ hlen _ _ h'
      rw [hi] at i1 i2 i3
      rw [List.length_drop] at i2
      rw [List.drop_drop, show n + (τ.i - (σ.i + n)) = τ.i - σ.i by omega] at i3
      exact ⟨by omega, by omega, i3⟩
theorem goL_resume (F inn : Nat) (name : List UInt8) (m : List UInt8) : ∀ σ l τ, goL F inn name σ l = (τ, .wait) →
    goL F inn name σ (l ++ m) = goL F inn name τ ((l ++ m).drop (τ.i - σ.i)) := by
  refine goL_ind fun σ l ih τ h => ?_
  rw [goL_eq] at h
  cases hs : stepF F inn name (decide (2 ≤ σ.br)) l with
  | wait =>
    rw [hs] at h
    cases h
    rw [Nat.sub_self, List.drop_zero]
  | bad n => rw [hs] at h; cases h
  | ok a n =>
    obtain ⟨p1, p2⟩ := step_pos _ _ _ _ _ _ _ hs
    rw [hs] at h
    by_cases ha : ∃ t, a = .tag t
    · obtain ⟨t, rfl⟩ := ha; cases h
    · have hi := act_i σ a n fun t e => ha ⟨t, e⟩
      have h' : goL F inn name (σ.act a n) (l.drop n) = (τ, .wait) := by
        cases a <;> first | exact h | exact absurd ⟨_, rfl⟩ ha
      have hlen : (l.drop n).length < l.length := by rw [List.length_drop]; omega
      have h3 := ih _ _ hlen _ h'
      have h4 := (goL_end F inn name _ _ _ _ h').1
      rw [hi] at h3 h4
      have hstep : stepF F inn name (decide (2 ≤ σ.br)) (l ++ m) = .ok a n := by
        have := ((det_step F inn name _).ok _ _ _ hs).2.1 (l.drop n ++ m)
        rw [Nat.add_zero, ← List.append_assoc, List.take_append_drop] at this
        exact this
      rw [goL_eq, hstep]
      have h5 : goL F inn name (σ.act a n) ((l ++ m).drop n) = goL F inn name τ ((l ++ m).drop (τ.i - σ.i)) := by
        rw [List.drop_append_of_le_length p2, h3]
        rw [← List.drop_append_of_le_length p2, List.drop_drop, show n + (τ.i - (σ.i + n)) = τ.i - σ.i by omega]
      cases a <;> first | exact h5 | exact absurd ⟨_, rfl⟩ ha
theorem goL_ok (F inn : Nat) (name : List UInt8) : ∀ σ l τ t n, goL F inn name σ l = (τ, .ok t n) →
    σ.i < n ∧ n ≤ σ.i + l.length ∧ (∀ m, goL F inn name σ (l.take (n - σ.i) ++ m) = (τ, .ok t n)) ∧ ∀ j, j < n - σ.i → (goL F inn name σ (l.take j)).2 = .wait := by
  refine goL_ind fun σ l ih τ t n h => ?_
  rw [goL_eq] at h
  cases hs : stepF F inn name (decide (2 ≤ σ.br)) l with
  | wait => rw [hs] at h; cases h
  | bad k => rw [hs] at h; cases h
  | ok a k =>
    obtain ⟨p1, p2⟩ := step_pos _ _ _ _ _ _ _ hs
    obtain ⟨d1, d2, d3⟩ := (det_step F inn name _).ok _ _ _ hs
    rw [Nat.add_zero] at d2
    rw [hs] at h
    by_cases ha : ∃ t, a = .tag t
    · obtain ⟨t', rfl⟩ := ha
      cases h
      refine ⟨by omega, by omega, fun m => ?_, fun j hj => ?_⟩
      · rw [show σ.i + k - σ.i = k by omega, goL_eq, d2 m]
      · rw [goL_eq, d3 j (by omega)]
    · have hi := act_i σ a k fun t e => ha ⟨t, e⟩
      have h' : goL F inn name (σ.act a k) (l.drop k) = (τ, .ok t n) := by
        cases a <;> first | exact h | exact absurd ⟨_, rfl⟩ ha
      have hlen : (l.drop k).length < l.length := by rw [List.length_drop]; omega
      obtain ⟨i1, i2, i3, i4⟩ := ih _ _ hlen _ _ _ h'
      rw [hi] at i1 i2 i3 i4
      rw [List.length_drop] at i2
      refine ⟨by omega, by omega, fun m => ?_, fun j hj => ?_⟩
      · have hstep : stepF F inn name (decide (2 ≤ σ.br)) (l.take (n - σ.i) ++ m) = .ok a k := by
          rw [show n - σ.i = k + (n - (σ.i + k)) by omega, take_cat]
          exact d2 _
        have h5 : goL F inn name (σ.act a k) ((l.take (n - σ.i) ++ m).drop k) = (τ, .ok t n) := by
          rw [show n - σ.i = k + (n - (σ.i + k)) by omega, drop_cat l k _ m p2]
          exact i3 m
        rw [goL_eq, hstep]
        cases a <;> first | exact h5 | exact absurd ⟨_, rfl⟩ ha
      · by_cases hjk : j < k
        · rw [goL_eq, d3 j (by omega)]
        · have hstep : stepF F inn name (decide (2 ≤ σ.br)) (l.take j) = .ok a k := by
            have := d2 ((l.drop k).take (j - k))
            rw [← List.take_add, show k + (j - k) = j by omega] at this
            exact this
          have h5 : (goL F inn name (σ.act a k) ((l.take j).drop k)).2 = .wait := by
            rw [List.drop_take]
            exact i4 _ (by omega)
          rw [goL_eq, hstep]
          cases a <;> first | exact h5 | exact absurd ⟨_, rfl⟩ ha
theorem goL_bad (F inn : Nat) (name : List UInt8) : ∀ σ l τ n, goL F inn name σ l = (τ, .bad n) →
    σ.i ≤ n ∧ n < σ.i + l.length ∧ (∀ m, goL F inn name σ (l.take (n + 1 - σ.i) ++ m) = (τ, .bad n)) ∧ ∀ j, j ≤ n - σ.i → (goL F inn name σ (l.take j)).2 = .wait := by
  refine goL_ind fun σ l ih τ n h => ?_
  rw [goL_eq] at h
  cases hs : stepF F inn name (decide (2 ≤ σ.br)) l with
  | wait => rw [hs] at h; cases h
  | bad k =>
    obtain ⟨d1, d2, d3⟩ := (det_step F inn name _).bad _ _ hs
    rw [hs] at h
    cases h
    refine ⟨by omega, by omega, fun m => ?_, fun j hj => ?_⟩
    · rw [show σ.i + k + 1 - σ.i = k + 1 by omega, goL_eq, d2 m]
    · rw [goL_eq, d3 j (by omega)]
  | ok a k =>
    obtain ⟨p1, p2⟩ := step_pos _ _ _ _ _ _ _ hs
    obtain ⟨d1, d2, d3⟩ := (det_step F inn name _).ok _ _ _ hs
    rw [Nat.add_zero] at d2
    rw [hs] at h
    by_cases ha : ∃ t, a = .tag t
    · obtain ⟨t', rfl⟩ := ha; cases h
    · have hi := act_i σ a k fun t e => ha ⟨t, e⟩
      have h' : goL F inn name (σ.act a k) (l.drop k) = (τ, .bad n) := by
        cases a <;> first | exact h | exact absurd ⟨_, rfl⟩ ha
      have hlen : (l.drop k).length < l.length := by rw [List.length_drop]; omega
      obtain ⟨i1, i2, i3, i4⟩ := ih _ _ hlen _ _ h'
      rw [hi] at i1 i2 i3 i4
      rw [List.length_drop] at i2
      refine ⟨by omega, by omega, fun m => ?_, fun j hj => ?_⟩
      · have hstep : stepF F inn name (decide (2 ≤ σ.br)) (l.take (n + 1 - σ.i) ++ m) = .ok a k := by
          rw [show n + 1 - σ.i = k + (n + 1 - (σ.i + k)) by omega, take_cat]
          exact d2 _
        have h5 : goL F inn name (σ.act a k) ((l.take (n + 1 - σ.i) ++ m).drop k) = (τ, .bad n) := by
          rw [show n + 1 - σ.i = k + (n + 1 - (σ.i + k)) by omega, drop_cat l k _ m p2]
          exact i3 m
        rw [goL_eq, hstep]
        cases a <;> first | exact h5 | exact absurd ⟨_, rfl⟩ ha
      · by_cases hjk : j < k
        · rw [goL_eq, d3 j (by omega)]
        · have hstep : stepF F inn name (decide (2 ≤ σ.br)) (l.take j) = .ok a k := by
            have := d2 ((l.drop k).take (j - k))
            rw [← List.take_add, show k + (j - k) = j by omega] at this
            exact this
          have h5 : (goL F inn name (σ.act a k) ((l.take j).drop k)).2 = .wait := by
            rw [List.drop_take]
            exact i4 _ (by omega)
          rw [goL_eq, hstep]
          cases a <;> first | exact h5 | exact absurd ⟨_, rfl⟩ ha
end Go.Proofs.YtjdmndpadejegaaDoor

namespace Go.Proofs.YtjdmndpadejegaaDoor
open Go.RowKit

def E1 {α : Type} (x : Nat) (F : List UInt8 → Sc α) (l : List UInt8) : Prop := ∀ a n, F l = .ok a n → 1 ≤ n ∧ ∃ y, l[n - 1]? = some y ∧ y.toNat = x
theorem e_wait {α : Type} {x : Nat} {l : List UInt8} : E1 x (fun _ => (Sc.wait : Sc α)) l := fun _ _ h => by cases h
theorem e_bad {α : Type} {x : Nat} {l : List UInt8} : E1 x (badP : List UInt8 → Sc α) l := fun _ _ h => by rcases l with _ | ⟨y, t⟩ <;> cases h
theorem e_next {α β : Type} {x : Nat} {l : List UInt8} {F : List UInt8 → Sc α} {G : α → List UInt8 → Sc β} (h : ∀ a k, F l = .ok a k → E1 x (G a) (l.drop k)) : E1 x (fun l => (F l).next l G) l := by
  intro b n hn
  cases hf : F l with
  | wait => simp only [hf] at hn; cases hn
  | bad k => simp only [hf] at hn; cases hn
  | ok a k =>
    simp only [hf] at hn
    obtain ⟨j, hj, rfl⟩ := up_ok hn
    obtain ⟨h1, y, h2, h3⟩ := h a k hf b j hj
    refine ⟨by omega, y, ?_, h3⟩
    rw [List.getElem?_drop] at h2
    rw [show k + j - 1 = k + (j - 1) by omega]; exact h2
theorem e_done {α β : Type} {x : Nat} {l : List UInt8} {F : List UInt8 → Sc α} {b : α → β} (h : E1 x F l) : E1 x (fun l => (F l).next l fun a l => doneP (b a) l) l := by
  intro c n hn
  cases hf : F l with
  | wait => simp only [hf] at hn; cases hn
  | bad k => simp only [hf] at hn; cases hn
  | ok a k =>
    simp only [hf] at hn
    have hn : (doneP (b a) (l.drop k)).up k = .ok c n := hn
    obtain ⟨j, hj, rfl⟩ := up_ok hn
    cases hj
    exact h a k hf
theorem e_on1 {β : Type} {x : Nat} {G : List UInt8 → Sc β} {y : UInt8} {t : List UInt8} (h : E1 x G t) : E1 x (on1 G) (y :: t) := by
  intro b n hn
  obtain ⟨j, hj, rfl⟩ := up_ok (show (G t).up 1 = .ok b n from hn)
  obtain ⟨h1, z, h2, h3⟩ := h b j hj
  refine ⟨by omega, z, ?_, h3⟩
  rw [show 1 + j - 1 = (j - 1) + 1 by omega, List.getElem?_cons_succ]; exact h2
theorem e_one {β : Type} {x : Nat} {b : β} {y : UInt8} {t : List UInt8} (h : y.toNat = x) : E1 x (on1 (doneP b)) (y :: t) := by
  intro c n hn
  cases hn
  exact ⟨by omega, y, rfl, h⟩
theorem e_lit (l : List UInt8) : E1 62 (lit [62]) l := by
  intro c n hn
  rcases l with _ | ⟨y, t⟩
  · cases hn
  · by_cases hy : y = 62
    · subst hy
      have : lit [62] (62 :: t) = .ok () 1 := rfl
      rw [this] at hn
      cases hn
      exact ⟨by omega, 62, rfl, rfl⟩
    · have : lit [62] (y :: t) = .bad 0 := by show (if y = 62 then on1 (lit []) (y :: t) else badP (y :: t)) = _; rw [if_neg hy]; rfl
      rw [this] at hn; cases hn
theorem e_end : ∀ f l, E1 62 (endGo f) l
  | 0, _ => e_wait
  | f + 1, [] => fun _ _ h => by cases h
  | f + 1, y :: t => by
    show E1 62 (fun l => endGo (f + 1) l) (y :: t)
    intro a n h
    have h : (if y.toNat = 62 then on1 (doneP ()) (y :: t) else if blankB y = true then on1 (endGo f) (y :: t) else badP (y :: t)) = .ok a n := h
    split at h
    · rename_i hy; exact e_one hy a n h
    · split at h
      · exact e_on1 (e_end f t) a n h
      · exact e_bad a n h
theorem e_tag (F : Nat) : ∀ f gap ats l, E1 62 (tagGo F f gap ats) l
  | 0, _, _, _ => e_wait
  | f + 1, _, _, [] => fun _ _ h => by cases h
  | f + 1, gap, ats, y :: t => by
    intro a n h
    have h : (if blankB y = true then on1 (tagGo F f true ats) (y :: t) else if y.toNat = 47 then on1 (fun l => (lit [62] l).next l fun _ l => doneP (3, ats) l) (y :: t)
      else if y.toNat = 62 then on1 (doneP (1, ats)) (y :: t) else if gap = true then (attrF F (ats.map (·.1)) (y :: t)).next (y :: t) fun a l => tagGo F f false (ats ++ [a]) l else badP (y :: t)) = .ok a n := h
    split at h
    · exact e_on1 (e_tag F f _ _ t) a n h
    · split at h
      · exact e_on1 (e_done (e_lit t)) a n h
      · split at h
        · rename_i hy; exact e_one hy a n h
        · split at h
          · exact e_next (F := attrF F (ats.map (·.1))) (G := fun a l => tagGo F f false (ats ++ [a]) l) (fun _ _ _ => e_tag F f _ _ _) a n h
          · exact e_bad a n h
theorem e_com : ∀ f d l, E1 62 (comGo f d) l
  | 0, _, _ => e_wait
  | f + 1, _, [] => fun _ _ h => by cases h
  | f + 1, d, y :: t => by
    intro a n h
    have h : (if d = 2 then (if y.toNat = 62 then on1 (doneP ()) (y :: t) else badP (y :: t)) else (charL 0 (y :: t)).next (y :: t) fun _ l => comGo f (if y.toNat = 45 then d + 1 else 0) l) = .ok a n := h
    split at h
    · split at h
      · rename_i hy; exact e_one hy a n h
      · exact e_bad a n h
    · exact e_next (F := charL 0) (G := fun _ l => comGo f (if y.toNat = 45 then d + 1 else 0) l) (fun _ _ _ => e_com f _ _) a n h
theorem e_sec : ∀ f cr t l, E1 62 (secGo f cr t) l
  | 0, _, _, _ => e_wait
  | f + 1, cr, t, l => by
    intro a n h
    rw [secGo_eq] at h
    split at h
    · cases h
    · split at h
      · rename_i he
        cases h
        refine ⟨by omega, 62, ?_, rfl⟩
        have := congrArg (fun q : List UInt8 => q[2]?) he
        simp only [List.getElem?_take] at this
        simpa using this
      · split at h
        · cases h
        · exact e_next (F := charL 0) (G := fun r l => secGo f (decide (r = 13)) (putL cr t r) l) (fun _ _ _ => e_sec f _ _ _) a n h
theorem e_bang (F inn : Nat) (l : List UInt8) : E1 62 (bangF F inn) l := by
  rcases l with _ | ⟨y, t⟩
  · intro _ _ h; cases h
  intro a n h
  have h : (if y.toNat = 91 ∧ inn = 1 then (lit [91, 67, 68, 65, 84, 65, 91] (y :: t)).next (y :: t) fun _ l => (secGo F false [] l).next l fun t l => doneP (Mk.sec t) l
    else (lit [45, 45] (y :: t)).next (y :: t) fun _ l => (comGo F 0 l).next l fun _ l => doneP Mk.com l) = .ok a n := h
  split at h
  · exact e_next (F := lit [91, 67, 68, 65, 84, 65, 91]) (G := fun _ l => (secGo F false [] l).next l fun t l => doneP (Mk.sec t) l) (fun _ _ _ => e_done (e_sec F _ _ _)) a n h
  · exact e_next (F := lit [45, 45]) (G := fun _ l => (comGo F 0 l).next l fun _ l => doneP Mk.com l) (fun _ _ _ => e_done (b := fun _ => Mk.com) (e_com F _ _)) a n h
theorem e_endF (F : Nat) (name : List UInt8) (l : List UInt8) : E1 62 (endF F name) l :=
  e_next (F := lit name) (G := fun _ l => (endGo F l).next l fun _ l => doneP (⟨2, name, []⟩ : Tok) l) fun _ _ _ => e_done (b := fun _ => (⟨2, name, []⟩ : Tok)) (e_end F _)
theorem e_open (F : Nat) (l : List UInt8) : E1 62 (openF F) l :=
  e_next (F := wordF F) (G := fun name l => (tagGo F F false [] l).next l fun k l => doneP (⟨k.1, name, k.2⟩ : Tok) l) fun nm _ _ => e_done (b := fun k => (⟨k.1, nm, k.2⟩ : Tok)) (e_tag F _ _ _ _)
theorem e_less (F inn : Nat) (name : List UInt8) (l : List UInt8) : E1 62 (lessF F inn name) l := by
  rcases l with _ | ⟨y, t⟩
  · intro _ _ h; cases h
  intro a n h
  have h : (if y.toNat = 33 then on1 (bangF F inn) (y :: t) else if inn = 2 then badP (y :: t) else if y.toNat = 47 ∧ inn = 1 then on1 (fun l => (endF F name l).next l fun t l => doneP (Mk.tag t) l) (y :: t)
    else (openF F (y :: t)).next (y :: t) fun t l => doneP (Mk.tag t) l) = .ok a n := h
  split at h
  · exact e_on1 (e_bang F inn t) a n h
  · split at h
    · exact e_bad a n h
    · split at h
      · exact e_on1 (e_done (b := Mk.tag) (e_endF F name t)) a n h
      · exact e_done (F := openF F) (b := Mk.tag) (e_open F _) a n h
theorem step_less (F inn : Nat) (name : List UInt8) (two : Bool) (l : List UInt8) (a : Mk) (n : Nat) (h : stepF F inn name two l = .ok a n) (ha : a ≠ .skip ∧ ∀ r w, a ≠ .put r w) :
    2 ≤ n ∧ (∃ t, l = 60 :: t ∧ lessF F inn name t = .ok a (n - 1)) ∧ ∃ y, l[n - 1]? = some y ∧ y.toNat = 62 := by
  rcases l with _ | ⟨y, t⟩
  · cases h
  have h : (if y.toNat = 60 then on1 (lessF F inn name) (y :: t) else if inn ≠ 1 then (if blankB y = true then on1 (doneP .skip) (y :: t) else badP (y :: t))
    else if y.toNat = 38 then (refL (y :: t)).next (y :: t) fun r l => doneP (.put r false) l else if y.toNat = 62 ∧ two = true then badP (y :: t) else (charL 0 (y :: t)).next (y :: t) fun r l => doneP (.put r true) l) = .ok a n := h
  split at h
  · rename_i hy
    obtain ⟨j, hj, rfl⟩ := up_ok (show (lessF F inn name t).up 1 = .ok a n from h)
    obtain ⟨h1, z, h2, h3⟩ := e_less F inn name t a j hj
    refine ⟨by omega, ⟨t, by rw [← byte_of hy]; rfl, by rw [show 1 + j - 1 = j by omega]; exact hj⟩, z, ?_, h3⟩
    rw [show 1 + j - 1 = (j - 1) + 1 by omega, List.getElem?_cons_succ]; exact h2
  · exfalso
    split at h
    · split at h
      · cases h; exact ha.1 rfl
      · cases h
    · split at h
      · cases hr : refL (y :: t) with
        | wait => rw [hr] at h; cases h
        | bad k => rw [hr] at h; cases h
        | ok r k => rw [hr] at h; cases h; exact ha.2 _ _ rfl
      · split at h
        · cases h
        · cases hr : charL 0 (y :: t) with
          | wait => rw [hr] at h; cases h
          | bad k => rw [hr] at h; cases h
          | ok r k => rw [hr] at h; cases h; exact ha.2 _ _ rfl
end Go.Proofs.YtjdmndpadejegaaDoor

namespace Go.Proofs.YtjdmndpadejegaaDoor
open Go.RowKit

theorem go_wait {F inn : Nat} {nm : List UInt8} {σ : St} {l : List UInt8} (h : stepF F inn nm (decide (2 ≤ σ.br)) l = .wait) : goL F inn nm σ l = (σ, .wait) := by rw [goL_eq, h]
theorem go_badS {F inn : Nat} {nm : List UInt8} {σ : St} {l : List UInt8} {n : Nat} (h : stepF F inn nm (decide (2 ≤ σ.br)) l = .bad n) : goL F inn nm σ l = (σ, .bad (σ.i + n)) := by rw [goL_eq, h]
theorem go_tag {F inn : Nat} {nm : List UInt8} {σ : St} {l : List UInt8} {t : Tok} {n : Nat} (h : stepF F inn nm (decide (2 ≤ σ.br)) l = .ok (.tag t) n) : goL F inn nm σ l = (σ, .ok t (σ.i + n)) := by rw [goL_eq, h]
theorem go_act {F inn : Nat} {nm : List UInt8} {σ : St} {l : List UInt8} {m : Mk} {n : Nat} (h : stepF F inn nm (decide (2 ≤ σ.br)) l = .ok m n) (hm : ∀ t, m ≠ .tag t) : goL F inn nm σ l = goL F inn nm (σ.act m n) (l.drop n) := by
  rw [goL_eq, h]
  cases m <;> first | rfl | exact absurd rfl (hm _)
theorem cr_no {l : List UInt8} {i n x : Nat} (h : 1 ≤ n) (hy : ∃ y, (l.drop i)[n - 1]? = some y ∧ y.toNat = x) (hx : x ≠ 13) : crAt l (i + n) = false := by
  obtain ⟨y, h1, h2⟩ := hy
  rw [List.getElem?_drop] at h1
  unfold crAt
  rw [List.getD_eq_getElem?_getD, show i + n - 1 = i + (n - 1) by omega, h1, decide_eq_false_iff_not]
  simp only [Option.getD_some]
  omega
def frBet (xb br : Nat) (t : Array Value) : Array Value := #[slotOf t 0, .pointer (some ⟨xb, 0, none⟩), .int .i64 br, slotOf t 3, slotOf t 4, slotOf t 5, slotOf t 6, slotOf t 7, slotOf t 8, slotOf t 9, slotOf t 10, slotOf t 11, slotOf t 12, slotOf t 13, slotOf t 14, slotOf t 15, slotOf t 16, slotOf t 17, slotOf t 18, slotOf t 19, slotOf t 20, slotOf t 21, slotOf t 22, slotOf t 23, slotOf t 24, slotOf t 25, slotOf t 26, slotOf t 27, slotOf t 28, slotOf t 29, slotOf t 30, slotOf t 31, slotOf t 32, slotOf t 33, slotOf t 34, slotOf t 35, slotOf t 36, slotOf t 37, slotOf t 38, slotOf t 39, slotOf t 40, slotOf t 41, slotOf t 42, slotOf t 43, slotOf t 44, slotOf t 45, slotOf t 46, slotOf t 47, slotOf t 48, slotOf t 49, slotOf t 50, slotOf t 51, slotOf t 52, slotOf t 53, slotOf t 54, slotOf t 55, slotOf t 56, slotOf t 57, slotOf t 58, slotOf t 59, slotOf t 60, slotOf t 61, slotOf t 62, slotOf t 63, slotOf t 64, slotOf t 65, slotOf t 66, slotOf t 67, slotOf t 68, slotOf t 69, slotOf t 70, slotOf t 71, slotOf t 72, slotOf t 73, slotOf t 74, slotOf t 75, slotOf t 76, slotOf t 77, slotOf t 78, slotOf t 79, slotOf t 80, slotOf t 81, slotOf t 82, slotOf t 83, slotOf t 84, slotOf t 85, slotOf t 86, slotOf t 87, slotOf t 88, slotOf t 89, slotOf t 90, slotOf t 91, slotOf t 92, slotOf t 93, slotOf t 94, slotOf t 95]
def BtA (w : World) (cb : Nat) (a : Option Addr) (G n : Nat) (inn : Nat) (l : List UInt8) (v0 : Value) (w' : World) (c' : Cu) (t' : List Nat) (σ : St) : Sc Tok → Prop
  | .wait => c'.how = 1 ∧ c'.out = decide (σ.i = n) ∧ TX G cb a w' c'.mt σ.text ∧ c'.mk' = σ.i ∧ c'.mb = σ.beg ∧ c'.mr = σ.br ∧ c'.mi = 0 ∧ c'.mn = [] ∧ σ.i ≤ n ∧ σ.br ≤ σ.i ∧ σ.text.length ≤ σ.i ∧ (inn = 1 → σ.cr = crAt l σ.i) ∧ (c'.mt.ownBlock = v0.ownBlock ∨ ∃ g, c'.mt.ownBlock = some g ∧ w.heap.size ≤ g)
  | .bad k => c'.how = 2 ∧ c'.i = k
  | .ok t k => c'.how = 0 ∧ c'.i = k ∧ c'.st = σ.i ∧ c'.beg = σ.beg ∧ t' = σ.text ∧ c'.tk = t.kind ∧ c'.tn = t.name ∧ w'.ownsRow w.heap.size 85 2 c'.ta t.attrs.length (atsC t.attrs)
structure BtJ (w : World) (cb : Nat) (a : Option Addr) (bv : Value) (G n : Nat) (inn : Nat) (nm : List UInt8) (l : List UInt8) (v0 : Value) (t0 : List Nat) (F : Nat) (R : St × Sc Tok) (σ : St) (c2 : Cu) (wr : World) : Prop where
  cu : CuAt wr cb bv inn nm c2
  ts : TS G cb a w wr v0 c2.tv t0 σ.text
  how : c2.how = 0
  out : c2.out = false
  i : c2.i = σ.i
  be : c2.beg = σ.beg
  le : σ.i ≤ n
  br : σ.br ≤ σ.i
  len : σ.text.length ≤ σ.i
  cr : inn = 1 → σ.cr = crAt l σ.i
  go : goL F inn nm σ (l.drop σ.i) = R
def JBet (w : World) (cb : Nat) (a : Option Addr) (bv : Value) (G n : Nat) (inn : Nat) (nm : List UInt8) (l : List UInt8) (v0 : Value) (t0 : List Nat) (xb : Nat) (F : Nat) (R : St × Sc Tok) (a' : Act) (wr : World) : Prop :=
  ∃ (σ : St) (c2 : Cu), a' = { tmps := frBet xb σ.br a'.tmps, defers := [] } ∧ BtJ w cb a bv G n inn nm l v0 t0 F R σ c2 wr
theorem sec_len : ∀ (F : Nat) (cr : Bool) (t0 : List Nat) (l : List UInt8) (t : List Nat) (n : Nat), secGo F cr t0 l = .ok t n → t.length ≤ t0.length + n
  | 0, _, _, _, _, _, h => by cases h
  | f + 1, cr, t0, l, t, n, h => by
    rw [secGo_eq] at h
    split at h
    · cases h
    split at h
    · cases h; omega
    split at h
    · cases h
    cases hc : charL 0 l with
    | wait => rw [hc] at h; cases h
    | bad k => rw [hc] at h; cases h
    | ok r k =>
      rw [hc] at h
      obtain ⟨j, hj, rfl⟩ := up_ok (show (secGo f (decide (r = 13)) (putL cr t0 r) (l.drop k)).up k = .ok t n from h)
      have h1 := sec_len f _ _ _ _ _ hj
      have h2 := (putL_len cr t0 r).1
      have h3 := (charL_ok (.inl rfl) hc).1
      omega
theorem bang_sec {F inn : Nat} {l : List UInt8} {t : List Nat} {n : Nat} (h : bangF F inn l = .ok (.sec t) n) : t.length ≤ n := by
  rcases l with _ | ⟨x, u⟩
  · cases h
  have h : (if x.toNat = 91 ∧ inn = 1 then (lit [91, 67, 68, 65, 84, 65, 91] (x :: u)).next (x :: u) fun _ l => (secGo F false [] l).next l fun t l => doneP (Mk.sec t) l
    else (lit [45, 45] (x :: u)).next (x :: u) fun _ l => (comGo F 0 l).next l fun _ l => doneP Mk.com l) = .ok (Mk.sec t) n := h
  split at h
  · cases h1 : lit [91, 67, 68, 65, 84, 65, 91] (x :: u) with
    | wait => rw [h1] at h; cases h
    | bad k => rw [h1] at h; cases h
    | ok y k =>
      rw [h1] at h
      obtain ⟨j, hj, rfl⟩ := up_ok h
      dsimp only at hj
      cases h2 : secGo F false [] ((x :: u).drop k) with
      | wait => rw [h2] at hj; cases hj
      | bad k => rw [h2] at hj; cases hj
      | ok t' k' =>
        rw [h2] at hj
        have := sec_len _ _ _ _ _ _ h2
        simp only [Sc.next, doneP, Sc.up, Sc.ok.injEq, Mk.sec.injEq] at hj
        obtain ⟨e1, e2⟩ := hj
        rw [← e1, ← e2]
        simp only [List.length_nil] at this
        omega
  · cases h1 : lit [45, 45] (x :: u) with
    | wait => rw [h1] at h; cases h
    | bad k => rw [h1] at h; cases h
    | ok y k =>
      rw [h1] at h
      obtain ⟨j, hj, rfl⟩ := up_ok h
      dsimp only at hj
      cases h2 : comGo F 0 ((x :: u).drop k) with
      | wait => rw [h2] at hj; cases hj
      | bad k => rw [h2] at hj; cases hj
      | ok t' k' => rw [h2] at hj; simp [Sc.next, doneP, Sc.up] at hj
theorem less_sec {F inn : Nat} {nm l : List UInt8} {t : List Nat} {n : Nat} (h : lessF F inn nm l = .ok (.sec t) n) : t.length ≤ n := by
  rcases l with _ | ⟨x, u⟩
  · cases h
  have h : (if x.toNat = 33 then on1 (bangF F inn) (x :: u) else if inn = 2 then badP (x :: u) else if x.toNat = 47 ∧ inn = 1 then on1 (fun l => (endF F nm l).next l fun t l => doneP (Mk.tag t) l) (x :: u)
    else (openF F (x :: u)).next (x :: u) fun t l => doneP (Mk.tag t) l) = .ok (Mk.sec t) n := h
  split at h
  · obtain ⟨j, hj, rfl⟩ := up_ok (show (bangF F inn u).up 1 = .ok (.sec t) n from h)
    have := bang_sec hj
    omega
  · exfalso
    split at h
    · cases h
    split at h
    · obtain ⟨j, hj, rfl⟩ := up_ok (show ((endF F nm u).next u fun t l => doneP (Mk.tag t) l).up 1 = .ok (Mk.sec t) n from h)
      cases h2 : endF F nm u with
      | wait => rw [h2] at hj; cases hj
      | bad k => rw [h2] at hj; cases hj
      | ok t' k' => rw [h2] at hj; simp [Sc.next, doneP, Sc.up] at hj
    · cases h2 : openF F (x :: u) with
      | wait => rw [h2] at h; cases h
      | bad k => rw [h2] at h; cases h
      | ok t' k' => rw [h2] at h; simp [Sc.next, doneP, Sc.up] at h
section
variable {w w1 w3 wr w' : World} {cb : Nat} {a : Option Addr} {bv : Value} {n : Nat} {l : List UInt8} {inn : Nat} {nm : List UInt8} {c2 c3 c' : Cu} {G : Nat} {v0 : Value} {t0 t' : List Nat} {F : Nat} {R : St × Sc Tok} {σ σ' : St} {m : Mk} {k : Nat}
theorem bt_box {xb : Nat} {v : Value} {t : List Nat} (h : TS G cb a w1 w' v0 v t0 t) (hx : w1.cell? ⟨xb, 0, none⟩ = some (.pointer (some ⟨cb, 0, none⟩))) (hl : xb < w1.heap.size) (hne : xb ≠ cb) (hv : v0.ownBlock ≠ some xb) : w'.cell? ⟨xb, 0, none⟩ = some (.pointer (some ⟨cb, 0, none⟩)) :=
  (h.kp.cell (p := ⟨xb, 0, none⟩) hl (by rintro (e | e); exact hne e; exact hv e)).trans hx
theorem BtJ.mark (h : BtJ w1 cb a bv G n inn nm l v0 t0 F R σ c2 wr) (hX : TX G cb a w1 v0 t0) (h3 : CuAt w3 cb bv inn nm { c2 with mi := 0, mn := [], mk' := σ.i, mb := σ.beg, mr := σ.br, mt := c2.tv }) (k3 : Kp (· = cb) wr w3) :
    BtJ w1 cb a bv G n inn nm l v0 t0 F R σ { c2 with mi := 0, mn := [], mk' := σ.i, mb := σ.beg, mr := σ.br, mt := c2.tv } w3 :=
  ⟨h3, TS.trans hX h.ts (TS.refl h.ts.tx k3), h.how, h.out, h.i, h.be, h.le, h.br, h.len, h.cr, h.go⟩
theorem BtJ.next (h : BtJ w1 cb a bv G n inn nm l v0 t0 F R σ c2 wr) (hn : n = l.length) (hX : TX G cb a w1 v0 t0) (hs : stepF F inn nm (decide (2 ≤ σ.br)) (l.drop σ.i) = .ok m k) (hm : ∀ t, m ≠ .tag t)
    (hC : CuAt w' cb bv inn nm c') (hT : TS G cb a wr w' c2.tv c'.tv σ.text (σ.act m k).text) (hh : c'.how = 0) (ho : c'.out = false) (hi : c'.i = σ.i + k) (hb : c'.beg = (σ.act m k).beg) (hcr : inn = 1 → (σ.act m k).cr = crAt l (σ.i + k)) :
    BtJ w1 cb a bv G n inn nm l v0 t0 F R (σ.act m k) c' w' ∧ n - (σ.i + k) < n - σ.i := by
  obtain ⟨p1, p2⟩ := step_pos _ _ _ _ _ _ _ hs
  rw [List.length_drop, ← hn] at p2
  have hle := h.le
  have hbr := h.br
  have hlen := h.len
  have hai := act_i σ m k hm
  have e2 : (σ.act m k).br ≤ σ.br + 1 := by
    cases m with
    | put r w => simp only [St.act]; split; exact Nat.zero_le _; simp only []; split <;> omega
    | tag t => exact absurd rfl (hm t)
    | com => exact Nat.zero_le _
    | sec t => exact Nat.zero_le _
    | skip => exact Nat.le_succ _
  have e3 : (σ.act m k).text.length ≤ σ.text.length + k := by
    cases m with
    | put r w => simp only [St.act]; split; simp only []; omega; simp only [List.length_append, List.length_singleton]; omega
    | tag t => exact absurd rfl (hm t)
    | com => exact Nat.le_add_right _ _
    | skip => exact Nat.le_add_right _ _
    | sec t =>
      obtain ⟨_, ⟨u, _, h5⟩, _⟩ := step_less _ _ _ _ _ _ _ hs ⟨by simp, by simp⟩
      have := less_sec h5
      simp only [St.act, List.length_append]
      omega
  refine ⟨⟨hC, TS.trans hX h.ts hT, hh, ho, by rw [hi, hai], hb, by rw [hai]; omega, by rw [hai]; omega, by rw [hai]; omega, fun e => by rw [hai]; exact hcr e, ?_⟩, by omega⟩
  rw [hai, ← List.drop_drop, ← go_act hs hm]; exact h.go
theorem BtJ.wait (h : BtJ w1 cb a bv G n inn nm l v0 t0 F R σ c3 w3) (hX : TX G cb a w1 v0 t0) (hs : stepF F inn nm (decide (2 ≤ σ.br)) (l.drop σ.i) = .wait) (hmk : c3.mk' = σ.i ∧ c3.mb = σ.beg ∧ c3.mr = σ.br ∧ c3.mi = 0 ∧ c3.mn = [] ∧ c3.mt = c3.tv)
    (hC : CuAt w' cb bv inn nm c') (hT : TS G cb a w3 w' c3.tv c'.tv σ.text t') (hh : c'.how = 1) (ho : c'.out = decide (σ.i = n)) (hm : c'.mk' = c3.mk' ∧ c'.mb = c3.mb ∧ c'.mr = c3.mr ∧ c'.mi = c3.mi ∧ c'.mn = c3.mn ∧ c'.mt = c3.mt) :
    ∃ c' t', CuAt w' cb bv inn nm c' ∧ TS G cb a w1 w' v0 c'.tv t0 t' ∧ BtA w1 cb a G n inn l v0 w' c' t' R.1 R.2 := by
  have hR := h.go
  rw [go_wait hs] at hR
  obtain ⟨m1, m2, m3, m4, m5, m6⟩ := hm
  obtain ⟨k1, k2, k3, k4, k5, k6⟩ := hmk
  refine ⟨c', t', hC, TS.trans hX h.ts hT, ?_⟩
  rw [← hR]
  exact ⟨hh, ho, by rw [m6, k6]; exact hT.old, m1.trans k1, m2.trans k2, m3.trans k3, m4.trans k4, m5.trans k5, h.le, h.br, h.len, h.cr, by rw [m6, k6]; exact h.ts.own.imp (fun e => e.block) id⟩
theorem BtJ.bad (h : BtJ w1 cb a bv G n inn nm l v0 t0 F R σ c3 w3) (hX : TX G cb a w1 v0 t0) (hs : stepF F inn nm (decide (2 ≤ σ.br)) (l.drop σ.i) = .bad k)
    (hC : CuAt w' cb bv inn nm c') (hT : TS G cb a w3 w' c3.tv c'.tv σ.text t') (hh : c'.how = 2) (hi : c'.i = σ.i + k) :
    ∃ c' t', CuAt w' cb bv inn nm c' ∧ TS G cb a w1 w' v0 c'.tv t0 t' ∧ BtA w1 cb a G n inn l v0 w' c' t' R.1 R.2 := by
  have hR := h.go
  rw [go_badS hs] at hR
  refine ⟨c', t', hC, TS.trans hX h.ts hT, ?_⟩
  rw [← hR]
  exact ⟨hh, hi⟩
theorem BtJ.tag {t : Tok} (h : BtJ w1 cb a bv G n inn nm l v0 t0 F R σ c3 w3) (hX : TX G cb a w1 v0 t0) (hs : stepF F inn nm (decide (2 ≤ σ.br)) (l.drop σ.i) = .ok (.tag t) k)
    (hC : CuAt w' cb bv inn nm c') (hT : TS G cb a w3 w' c3.tv c'.tv σ.text σ.text) (hh : c'.how = 0) (hi : c'.i = σ.i + k) (hst : c'.st = σ.i) (hb : c'.beg = σ.beg) (hk : c'.tk = t.kind) (hn : c'.tn = t.name) (ho : w'.ownsRow w3.heap.size 85 2 c'.ta t.attrs.length (atsC t.attrs)) :
    ∃ c' t', CuAt w' cb bv inn nm c' ∧ TS G cb a w1 w' v0 c'.tv t0 t' ∧ BtA w1 cb a G n inn l v0 w' c' t' R.1 R.2 := by
  have hR := h.go
  rw [go_tag hs] at hR
  refine ⟨c', _, hC, TS.trans hX h.ts hT, ?_⟩
  rw [← hR]
  exact ⟨hh, hi, hst, hb, rfl, hk, hn, own_base ho h.ts.kp.size⟩
end
end Go.Proofs.YtjdmndpadejegaaDoor

namespace Go.Proofs.YtjdmndpadejegaaDoor
open Go.RowKit

theorem dec_le (l : List UInt8) (h : l ≠ []) : (decL l).2 ≤ l.length := by
  rcases dec_inv l h with ⟨_, k2, k3⟩ | k
  · have := congrArg List.length k2
    rw [List.length_append, show (encU (decL l).1).length = (encN (decL l).1).length by simp [encU]] at this
    omega
  · rw [k]; exact List.length_pos_iff.2 h
theorem enc_high (r : Nat) (h : chr r) (hr : 2 ≤ (encN r).length) : ∀ x ∈ encU r, 128 ≤ x.toNat := by
  unfold chr at h
  intro x hx
  unfold encU at hx
  rw [List.mem_map] at hx
  obtain ⟨n, hn, rfl⟩ := hx
  have hb := encN_byte r (by omega) n hn
  rw [toNat_of n hb]
  unfold encN at hn hr
  split at hn
  · rename_i h1; rw [if_pos h1] at hr; simp at hr
  · split at hn
    · simp only [List.mem_cons, List.not_mem_nil, or_false] at hn; omega
    · split at hn <;> (simp only [List.mem_cons, List.not_mem_nil, or_false] at hn; omega)
def Bnd (u v : List UInt8) : Prop := u = [] ∨ v = [] ∨ (∃ x t, v = x :: t ∧ x.toNat < 128) ∨ ∃ t x, u = t ++ [x] ∧ x.toNat < 128
theorem Bnd.drop {u v : List UInt8} (h : Bnd u v) (k : Nat) : Bnd (u.drop k) v := by
  rcases h with rfl | rfl | h | ⟨t, x, rfl, hx⟩
  · left; simp
  · right; left; rfl
  · exact .inr (.inr (.inl h))
  · by_cases hk : k ≤ t.length
    · rw [List.drop_append_of_le_length hk]
      exact .inr (.inr (.inr ⟨_, x, rfl, hx⟩))
    · left
      exact List.drop_of_length_le (by simp; omega)
theorem dec_bnd (u v : List UInt8) (hu : u ≠ []) (h : Bnd u v) : decL (u ++ v) = decL u := by
  have hne : u ++ v ≠ [] := by simp [hu]
  rcases dec_inv (u ++ v) hne with ⟨k1, k2, k3⟩ | k
  · generalize hr : (decL (u ++ v)).1 = r at k1 k2 k3
    have hlr : (encU r).length = (encN r).length := by simp [encU]
    rw [k3] at k2
    by_cases hl : (encN r).length ≤ u.length
    · have e : u = encU r ++ u.drop (encN r).length := by
        have := congrArg (List.take (encN r).length) k2
        rw [List.take_append_of_le_length hl, List.take_append_of_le_length (by omega), List.take_of_length_le (by omega : (encU r).length ≤ _)] at this
        rw [← this, List.take_append_drop]
      rw [e, dec_enc r k1]
      exact Prod.ext (by rw [← e]; exact hr) (by rw [← e]; exact k3)
    · exfalso
      have hul := List.length_pos_iff.2 hu
      have e1 : u = (encU r).take u.length := by
        have := congrArg (List.take u.length) k2
        rw [List.take_left, List.take_append_of_le_length (by omega)] at this
        exact this
      have e2 : v = (encU r).drop u.length ++ (u ++ v).drop (encN r).length := by
        have := congrArg (List.drop u.length) k2
        rw [List.drop_left, List.drop_append_of_le_length (by omega)] at this
        exact this
      have hh := enc_high r k1 (by omega)
      rcases h with h | h | ⟨x, t, h, hx⟩ | ⟨t, x, h, hx⟩
      · exact hu h
      · subst h
        have := congrArg List.length e2
        rw [List.length_append, List.length_drop, List.length_nil] at this
        omega
      · have hd : ∃ y s, (encU r).drop u.length = y :: s := by
          cases hq : (encU r).drop u.length with
          | nil =>
            have := congrArg List.length hq
            rw [List.length_drop, List.length_nil] at this
            omega
          | cons y s => exact ⟨y, s, rfl⟩
        obtain ⟨y, s, hy⟩ := hd
        rw [hy, h, List.cons_append, List.cons.injEq] at e2
        have := hh y (List.mem_of_mem_drop (i := u.length) (by rw [hy]; simp))
        rw [← e2.1] at this
        omega
      · have : x ∈ encU r := List.mem_of_mem_take (i := u.length) (by rw [← e1, h]; simp)
        have := hh x this
        omega
  · rcases dec_inv u hu with ⟨k1, k2, k3⟩ | k'
    · exfalso
      have := dec_enc (decL u).1 k1 (u.drop (decL u).2 ++ v)
      rw [← List.append_assoc, ← k2, k] at this
      simp only [Prod.mk.injEq] at this
      obtain ⟨h1, h2⟩ := this
      rw [← h1] at h2
      exact absurd h2 (by decide)
    · rw [k, k']

structure Pl where
  byte : Nat
  rune : Nat
  line : Nat
  col : Nat
def Pl.step (p : Pl) (r : Nat) (nl : Bool) : Pl := if r = 10 ∨ (r = 13 ∧ nl = false) then ⟨p.byte, p.rune + 1, p.line + 1, 1⟩ else ⟨p.byte, p.rune + 1, p.line, p.col + 1⟩
def plGo : Nat → List UInt8 → Nat → Pl → Pl
  | 0, _, _, p => p
  | f + 1, l, k, p => if k = 0 then p else plGo f (l.drop (decL (l.take k)).2) (k - (decL (l.take k)).2) (p.step (decL (l.take k)).1 (decide (l[1]? = some 10)))
theorem plGo_zero (f : Nat) (l : List UInt8) (p : Pl) : plGo f l 0 p = p := by cases f <;> simp [plGo]
theorem plGo_fuel : ∀ (f g : Nat) (l : List UInt8) (k : Nat) (p : Pl), k ≤ f → k ≤ g → k ≤ l.length → plGo f l k p = plGo g l k p
  | 0, g, l, k, p, h1, _, _ => by (obtain rfl : k = 0 := by omega); rw [plGo_zero, plGo_zero]
  | f + 1, 0, l, k, p, _, h2, _ => by (obtain rfl : k = 0 := by omega); rw [plGo_zero, plGo_zero]
  | f + 1, g + 1, l, k, p, h1, h2, h3 => by
    simp only [plGo]
    by_cases hk : k = 0
    · rw [if_pos hk, if_pos hk]
    · rw [if_neg hk, if_neg hk]
      have hne : l.take k ≠ [] := by
        intro e
        have := congrArg List.length e
        rw [List.length_take, List.length_nil] at this
        omega
      have := dec_pos _ hne
      have := dec_le _ hne
      rw [List.length_take] at this
      exact plGo_fuel f g _ _ _ (by omega) (by omega) (by rw [List.length_drop]; omega)
def plL (l : List UInt8) (k : Nat) (p : Pl) : Pl := plGo k l k p
theorem plL_zero (l : List UInt8) (p : Pl) : plL l 0 p = p := rfl
theorem plL_step (l : List UInt8) (k : Nat) (p : Pl) (hk : k ≠ 0) (hl : k ≤ l.length) :
    plL l k p = plL (l.drop (decL (l.take k)).2) (k - (decL (l.take k)).2) (p.step (decL (l.take k)).1 (decide (l[1]? = some 10))) := by
  have hne : l.take k ≠ [] := by
    intro e
    have := congrArg List.length e
    rw [List.length_take, List.length_nil] at this
    omega
  have h1 := dec_pos _ hne
  have h2 := dec_le _ hne
  rw [List.length_take] at h2
  unfold plL
  obtain ⟨f, rfl⟩ : ∃ f, k = f + 1 := ⟨k - 1, by omega⟩
  rw [show plGo (f + 1) l (f + 1) p = if f + 1 = 0 then p else plGo f (l.drop (decL (l.take (f + 1))).2) (f + 1 - (decL (l.take (f + 1))).2) (p.step (decL (l.take (f + 1))).1 (decide (l[1]? = some 10))) from rfl, if_neg (by omega)]
  exact plGo_fuel _ _ _ _ _ (by omega) (Nat.le_refl _) (by rw [List.length_drop]; omega)
theorem plL_split : ∀ (n : Nat) (l : List UInt8) (a b : Nat) (p : Pl), a ≤ n → a + b ≤ l.length → Bnd (l.take a) ((l.drop a).take b) → plL l (a + b) p = plL (l.drop a) b (plL l a p) := by
  intro n
  induction n with
  | zero =>
    intro l a b p ha _ _
    obtain rfl : a = 0 := by omega
    rw [Nat.zero_add, List.drop_zero, plL_zero]
  | succ n ih =>
    intro l a b p ha hab hb
    by_cases h0 : a = 0
    · subst h0
      rw [Nat.zero_add, List.drop_zero, plL_zero]
    · have hne : l.take a ≠ [] := by
        intro e
        have := congrArg List.length e
        rw [List.length_take, List.length_nil] at this
        omega
      have h1 := dec_pos _ hne
      have h2 := dec_le _ hne
      rw [List.length_take] at h2
      have hd : decL (l.take (a + b)) = decL (l.take a) := by rw [List.take_add]; exact dec_bnd _ _ hne hb
      rw [plL_step l (a + b) p (by omega) hab, plL_step l a p h0 (by omega), hd]
      generalize (decL (l.take a)).2 = w at *
      generalize p.step _ _ = q
      have hb' := hb.drop w
      rw [List.drop_take] at hb'
      have := ih (l.drop w) (a - w) b q (by omega) (by rw [List.length_drop]; omega) (by rw [List.drop_drop, show w + (a - w) = a by omega]; exact hb')
      rw [show a + b - w = a - w + b by omega, this, List.drop_drop, show w + (a - w) = a by omega]
end Go.Proofs.YtjdmndpadejegaaDoor
