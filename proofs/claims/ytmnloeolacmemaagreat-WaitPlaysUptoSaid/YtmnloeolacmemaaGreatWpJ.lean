/-
  The plain law of layer 22: the nodes that wait, in a map and an order, are the answer's row of nodes.
-/
namespace Go.Proofs.YtmnloeolacmemaaGreat

/-- an event, as far as waiting is concerned; piece: what it adds to a form -/
structure WEv where
  kind : Int
  num : Int
  frm : Int
  to' : Int
  piece : List UInt8
/-- a node that waits, of the program's -/
structure WN where
  truth : Int
  whole : Bool
  frm : Int
  bgn : Nat
  fin : Nat
/-- a node that waits, of the answer's -/
structure RNd where
  num : Int
  frm : Int
  truth : Int
  bgn : Nat
  fin : Nat

def wupd (f : Int → Option WN) (n : Int) (v : Option WN) : Int → Option WN := fun k => if k = n then v else f k
/-- those of the order that are still there -/
def live (f : Int → Option WN) (o : List Int) : List (Int × WN) := o.filterMap (fun k => (f k).map (fun x => (k, x)))
theorem live_nil (f : Int → Option WN) : live f [] = [] := rfl
theorem live_cons (f : Int → Option WN) (k : Int) (o : List Int) : live f (k :: o) = (match f k with | none => live f o | some x => (k, x) :: live f o) := by
  unfold live; cases h : f k <;> simp [h]
theorem live_append (f : Int → Option WN) (o p : List Int) : live f (o ++ p) = live f o ++ live f p := by simp [live]
theorem live_upd_out {f : Int → Option WN} {n : Int} {v : Option WN} {o : List Int} (h : n ∉ o) : live (wupd f n v) o = live f o := by
  induction o with
  | nil => rfl
  | cons k o ih =>
    simp only [List.mem_cons, not_or] at h
    rw [live_cons, live_cons, ih h.2]
    simp [wupd, Ne.symm h.1]
theorem live_find {f : Int → Option WN} {o : List Int} (hnd : o.Nodup) (n : Int) : (live f o).find? (fun p => p.1 == n) = if n ∈ o then (f n).map (fun x => (n, x)) else none := by
  induction o with
  | nil => rfl
  | cons k o ih =>
    rw [List.nodup_cons] at hnd
    have ih := ih hnd.2
    rw [live_cons]
    by_cases e : k = n
    · subst e
      rw [if_neg hnd.1] at ih
      cases h : f k <;> simp [ih]
    · have e' : ¬ n = k := fun h => e h.symm
      cases h : f k <;> simp [ih, e, e']
theorem live_set {f : Int → Option WN} {o : List Int} (hnd : o.Nodup) {n : Int} {x : WN} (hx : f n = some x) (g : WN → WN) : live (wupd f n (some (g x))) o = (live f o).map (fun p => if p.1 = n then (p.1, g p.2) else p) := by
  induction o with
  | nil => rfl
  | cons k o ih =>
    rw [List.nodup_cons] at hnd
    have ih := ih hnd.2
    rw [live_cons, live_cons, ih]
    by_cases e : k = n
    · subst e; simp [wupd, hx]
    · cases h : f k <;> simp [wupd, e, h]
theorem live_erase {f : Int → Option WN} {o : List Int} {n : Int} : live (wupd f n none) o = (live f o).filter (fun p => p.1 != n) := by
  induction o with
  | nil => rfl
  | cons k o ih =>
    rw [live_cons, live_cons, ih]
    by_cases e : k = n
    · subst e; cases h : f k <;> simp [wupd]
    · cases h : f k <;> simp [wupd, e, h]
theorem live_new {f : Int → Option WN} {o : List Int} {n : Int} (h : n ∉ o) (x : WN) : live (wupd f n (some x)) (o ++ [n]) = live f o ++ [(n, x)] := by
  rw [live_append, live_upd_out h]; simp [live, wupd]
theorem live_none {f : Int → Option WN} {o : List Int} : live f o = [] ↔ ∀ k ∈ o, f k = none := by
  simp [live]

/-- what is printed of events -/
def wprn (l : List WEv) : List UInt8 := l.flatMap (·.piece)
def wplace (l : List WEv) (i : Nat) : Nat := (wprn (l.take i)).length
/-- the program's node of an answer's -/
def wconv (l : List WEv) (r : RNd) : Int × WN := (r.num, ⟨r.truth, decide (0 < r.fin), r.frm, wplace l r.bgn, if 0 < r.fin then wplace l r.fin else wplace l (r.bgn + 1)⟩)
structure RGood (l : List WEv) (r : RNd) : Prop where
  bgn : r.bgn < l.length
  fin : r.fin ≤ l.length
  ord : 0 < r.fin → r.bgn < r.fin
theorem wplace_app (l m : List WEv) (i : Nat) (h : i ≤ l.length) : wplace (l ++ m) i = wplace l i := by
  simp [wplace, List.take_append_of_le_length h]
theorem wconv_app {l m : List WEv} {r : RNd} (h : RGood l r) : wconv (l ++ m) r = wconv l r := by
  have := h.bgn; have := h.fin
  simp only [wconv, wplace_app l m r.bgn (by omega), wplace_app l m r.fin h.fin, wplace_app l m (r.bgn + 1) (by omega)]
theorem RGood.app {l m : List WEv} {r : RNd} (h : RGood l r) : RGood (l ++ m) r :=
  ⟨by simp; have := h.bgn; omega, by simp; have := h.fin; omega, h.ord⟩

/-- the piece of a node: cut out of what is printed -/
theorem wcut (l : List WEv) (a b : Nat) (hab : a ≤ b) : ((wprn l).drop (wplace l a)).take (wplace l b - wplace l a) = wprn ((l.take b).drop a) := by
  have h1 : l = l.take a ++ ((l.take b).drop a ++ l.drop b) := by
    have e1 : l.take b = l.take a ++ (l.take b).drop a := by
      have := (List.take_append_drop a (l.take b)).symm
      rwa [List.take_take, Nat.min_eq_left hab] at this
    rw [← List.append_assoc, ← e1, List.take_append_drop]
  have h2 : wprn l = wprn (l.take a) ++ (wprn ((l.take b).drop a) ++ wprn (l.drop b)) := by
    conv => lhs; rw [h1]
    simp [wprn]
  have h3 : wplace l b = wplace l a + (wprn ((l.take b).drop a)).length := by
    have e1 : l.take b = l.take a ++ (l.take b).drop a := by
      have := (List.take_append_drop a (l.take b)).symm
      rwa [List.take_take, Nat.min_eq_left hab] at this
    have : wprn (l.take b) = wprn (l.take a) ++ wprn ((l.take b).drop a) := by
      conv => lhs; rw [e1]
      simp [wprn]
    simp only [wplace, this, List.length_append]
  rw [h3, Nat.add_sub_cancel_left, h2]
  simp [wplace]

/-- the program tells -/
def tellW (cut : Nat → Nat → List UInt8) : (Int → Option WN) → List Int → List (Int × List UInt8) × (Int → Option WN) × List Int
  | f, [] => ([], f, [])
  | f, k :: o => match f k with
    | none => tellW cut f o
    | some x => if x.truth = 2 ∧ x.whole = true then
        let r := tellW cut (wupd f k none) o
        ((k, cut x.bgn x.fin) :: r.1, r.2.1, r.2.2)
      else ([], f, k :: o)
/-- the answer tells -/
def tellR (l : List WEv) : List RNd → List (Int × List UInt8) × List RNd
  | [] => ([], [])
  | r :: rs => if r.truth = 2 ∧ 0 < r.fin then ((r.num, wprn ((l.take r.fin).drop r.bgn)) :: (tellR l rs).1, (tellR l rs).2) else ([], r :: rs)

theorem tell_same (l : List WEv) (cut : Nat → Nat → List UInt8) (hcut : ∀ a b, a ≤ b → b ≤ l.length → cut (wplace l a) (wplace l b) = wprn ((l.take b).drop a)) :
    ∀ (o : List Int) (f : Int → Option WN) (rs : List RNd), o.Nodup → (∀ r ∈ rs, RGood l r) → live f o = rs.map (wconv l) →
      (tellW cut f o).1 = (tellR l rs).1 ∧ live (tellW cut f o).2.1 (tellW cut f o).2.2 = (tellR l rs).2.map (wconv l) ∧ (tellW cut f o).2.2.Sublist o ∧
      (∀ k, (tellW cut f o).2.1 k ≠ none → f k ≠ none) ∧ (∀ k, k ∉ o → (tellW cut f o).2.1 k = f k) ∧ (∀ k, k ∈ o → (tellW cut f o).2.1 k ≠ none → k ∈ (tellW cut f o).2.2) := by
  intro o
  induction o with
  | nil =>
    intro f rs _ _ h
    have : rs = [] := by simpa [live] using h.symm
    subst this
    simp [tellW, tellR, live]
  | cons k o ih =>
    intro f rs hnd hg h
    rw [List.nodup_cons] at hnd
    rw [live_cons] at h
    cases hk : f k with
    | none =>
      rw [hk] at h
      obtain ⟨i1, i2, i3, i4, i5, i6⟩ := ih f rs hnd.2 hg h
      have e : tellW cut f (k :: o) = tellW cut f o := by simp [tellW, hk]
      rw [e]
      refine ⟨i1, i2, i3.cons _, i4, fun j hj => i5 j (fun h' => hj (List.mem_cons_of_mem _ h')), fun j hj hn => ?_⟩
      rcases List.mem_cons.1 hj with rfl | hj
      · exact absurd hk (i4 j hn)
      · exact i6 j hj hn
    | some x =>
      rw [hk] at h
      cases rs with
      | nil => simp at h
      | cons r rs =>
        simp only [List.map_cons, List.cons.injEq] at h
        obtain ⟨h1, h2⟩ := h
        have hr := hg r (List.mem_cons_self ..)
        simp only [wconv, Prod.mk.injEq] at h1
        obtain ⟨rfl, rfl⟩ := h1
        by_cases hc : r.truth = 2 ∧ 0 < r.fin
        · have hl : live (wupd f r.num none) o = rs.map (wconv l) := by rw [live_upd_out hnd.1]; exact h2
          obtain ⟨i1, i2, i3, i4, i5, i6⟩ := ih (wupd f r.num none) rs hnd.2 (fun y hy => hg y (List.mem_cons_of_mem _ hy)) hl
          have e : tellW cut f (r.num :: o) = ((r.num, cut (wplace l r.bgn) (wplace l r.fin)) :: (tellW cut (wupd f r.num none) o).1, (tellW cut (wupd f r.num none) o).2.1, (tellW cut (wupd f r.num none) o).2.2) := by
            simp [tellW, hk, hc]
          have e' : tellR l (r :: rs) = ((r.num, wprn ((l.take r.fin).drop r.bgn)) :: (tellR l rs).1, (tellR l rs).2) := by simp [tellR, hc]
          rw [e, e']
          refine ⟨?_, i2, i3.cons _, fun j hj => ?_, fun j hj => ?_, fun j hj hn => ?_⟩
          · simp only [i1, hcut _ _ (Nat.le_of_lt (hr.ord hc.2)) hr.fin]
          · have := i4 j hj
            intro hf; apply this; unfold wupd; split <;> simp_all
          · simp only [List.mem_cons, not_or] at hj
            rw [i5 j hj.2]; simp [wupd, hj.1]
          · rcases List.mem_cons.1 hj with rfl | hj
            · exfalso; apply i4 _ hn; simp [wupd]
            · exact i6 j hj hn
        · have e : tellW cut f (r.num :: o) = ([], f, r.num :: o) := by
            simp only [tellW, hk]
            rw [if_neg]; simpa using hc
          have e' : tellR l (r :: rs) = ([], r :: rs) := by simp [tellR, hc]
          rw [e, e']
          refine ⟨rfl, ?_, List.Sublist.refl _, fun j hj => hj, fun _ _ => rfl, fun j hj _ => hj⟩
          show live f (r.num :: o) = (r :: rs).map (wconv l)
          rw [live_cons, hk]; simp [wconv, h2]

/-- do the verdicts fit? tr: the truth of each node that waits -/
def gfit (tr : Int → Option Int) (e : WEv) : Option Int → List (Int × Int) → Bool
  | _, [] => true
  | p, v :: l => (match p with | none => true | some q => decide (q < v.1)) &&
      (if e.kind ≠ 2 ∧ v.1 = e.num then decide (v.2 = 1 ∨ v.2 = 2) else match tr v.1 with | none => false | some t => decide (t = 1 ∧ (v.2 = 0 ∨ v.2 = 2))) && gfit tr e (some v.1) l
theorem gfit_inc {tr : Int → Option Int} {e : WEv} : ∀ (l : List (Int × Int)) (p : Option Int), gfit tr e p l = true → (∀ q, p = some q → ∀ v ∈ l, q < v.1) ∧ l.Pairwise (fun a b => a.1 < b.1) := by
  intro l
  induction l with
  | nil => intro p _; simp
  | cons v l ih =>
    intro p h
    simp only [gfit, Bool.and_eq_true] at h
    obtain ⟨i1, i2⟩ := ih (some v.1) h.2
    refine ⟨fun q hq w hw => ?_, List.pairwise_cons.2 ⟨fun w hw => i1 v.1 rfl w hw, i2⟩⟩
    subst hq
    have h1 : q < v.1 := by simpa using h.1.1
    rcases List.mem_cons.1 hw with rfl | hw
    · exact h1
    · exact Int.lt_trans h1 (i1 v.1 rfl w hw)
theorem gfit_each {tr : Int → Option Int} {e : WEv} : ∀ (l : List (Int × Int)) (p : Option Int), gfit tr e p l = true → ∀ v ∈ l, (e.kind ≠ 2 ∧ v.1 = e.num) ∨ (¬ (e.kind ≠ 2 ∧ v.1 = e.num) ∧ tr v.1 ≠ none ∧ (v.2 = 0 ∨ v.2 = 2)) := by
  intro l
  induction l with
  | nil => intro p _ v hv; cases hv
  | cons v l ih =>
    intro p h w hw
    simp only [gfit, Bool.and_eq_true] at h
    rcases List.mem_cons.1 hw with rfl | hw
    · have h1 := h.1.2
      by_cases hc : e.kind ≠ 2 ∧ w.1 = e.num
      · exact .inl hc
      · refine .inr ⟨hc, ?_⟩
        rw [if_neg hc] at h1
        cases ht : tr w.1 with
        | none => rw [ht] at h1; simp at h1
        | some t => rw [ht] at h1; exact ⟨by simp, (by simpa using h1 : t = 1 ∧ _).2⟩
    · exact ih _ h.2 w hw

def wverd (e : WEv) (b n : Nat) (s : (Int → Option WN) × List Int) (v : Int × Int) : (Int → Option WN) × List Int :=
  if e.kind ≠ 2 ∧ v.1 = e.num then (wupd s.1 v.1 (some ⟨v.2, decide (e.kind = 1), e.frm, b, n⟩), s.2 ++ [v.1])
  else if v.2 = 0 then (wupd s.1 v.1 none, s.2)
  else match s.1 v.1 with
    | none => s
    | some x => (wupd s.1 v.1 (some { x with truth := 2 }), s.2)
def rfind (rs : List RNd) (n : Int) : Option RNd := rs.find? (fun r => r.num == n)
def rverd (e : WEv) (at' : Nat) (rs : List RNd) (v : Int × Int) : List RNd :=
  match rfind rs v.1 with
  | none => rs ++ [⟨e.num, e.frm, v.2, at', if e.kind = 1 then at' + 1 else 0⟩]
  | some _ => if v.2 = 2 then rs.map (fun r => if r.num = v.1 then { r with truth := 2 } else r) else rs.filter (fun r => r.num != v.1)

/-- the map and the order are the answer's row; N: the next number -/
structure NSim (f : Int → Option WN) (o : List Int) (rs : List RNd) (l : List WEv) (N : Int) : Prop where
  live : live f o = rs.map (wconv l)
  good : ∀ r ∈ rs, RGood l r
  inc : o.Pairwise (· < ·)
  below : ∀ k ∈ o, k < N
  inO : ∀ k, f k ≠ none → k ∈ o
theorem NSim.nodup {f : Int → Option WN} {o : List Int} {rs : List RNd} {l : List WEv} {N : Int} (h : NSim f o rs l N) : o.Nodup := h.inc.imp (fun {a b} hab => by omega)
theorem NSim.find {f : Int → Option WN} {o : List Int} {rs : List RNd} {l : List WEv} {N : Int} (h : NSim f o rs l N) (n : Int) : (f n).map (fun x => (n, x)) = (rfind rs n).map (wconv l) := by
  have h1 := live_find (f := f) h.nodup n
  have h2 : (if n ∈ o then (f n).map (fun x => (n, x)) else none) = (f n).map (fun x => (n, x)) := by
    split
    · rfl
    · rename_i hn
      cases hf : f n with
      | none => rfl
      | some x => exact absurd (h.inO n (by simp [hf])) hn
  rw [h2, h.live, List.find?_map] at h1
  exact h1.symm
theorem NSim.truth {f : Int → Option WN} {o : List Int} {rs : List RNd} {l : List WEv} {N : Int} (h : NSim f o rs l N) (n : Int) : (f n).map (·.truth) = (rfind rs n).map (·.truth) := by
  have := h.find n
  cases hf : f n <;> cases hr : rfind rs n <;> rw [hf, hr] at this <;> simp [wconv] at this ⊢
  rw [this.2]
theorem NSim.none_iff {f : Int → Option WN} {o : List Int} {rs : List RNd} {l : List WEv} {N : Int} (h : NSim f o rs l N) (n : Int) : f n = none ↔ rfind rs n = none := by
  have := h.find n
  cases hf : f n <;> cases hr : rfind rs n <;> rw [hf, hr] at this <;> simp at this ⊢

/-- one verdict -/
theorem verd_one {f : Int → Option WN} {o : List Int} {rs : List RNd} {l : List WEv} {N : Int} {e : WEv} {v : Int × Int} (h : NSim f o rs (l ++ [e]) N)
    (hv : (e.kind ≠ 2 ∧ v.1 = e.num ∧ v.1 ∉ o ∧ f v.1 = none ∧ e.num = N - 1) ∨ (¬ (e.kind ≠ 2 ∧ v.1 = e.num) ∧ f v.1 ≠ none ∧ (v.2 = 0 ∨ v.2 = 2))) :
    NSim (wverd e (wprn l).length (wprn (l ++ [e])).length (f, o) v).1 (wverd e (wprn l).length (wprn (l ++ [e])).length (f, o) v).2 (rverd e l.length rs v) (l ++ [e]) N := by
  rcases hv with ⟨h1, h2, h3, h4, h5⟩ | ⟨h1, h2, h3⟩
  · have hr := (h.none_iff v.1).1 h4
    have e1 : wverd e (wprn l).length (wprn (l ++ [e])).length (f, o) v = (wupd f v.1 (some ⟨v.2, decide (e.kind = 1), e.frm, (wprn l).length, (wprn (l ++ [e])).length⟩), o ++ [v.1]) := by
      simp only [wverd]; rw [if_pos ⟨h1, h2⟩]
    have e2 : rverd e l.length rs v = rs ++ [⟨e.num, e.frm, v.2, l.length, if e.kind = 1 then l.length + 1 else 0⟩] := by simp only [rverd, hr]
    rw [e1, e2]
    refine ⟨?_, fun r hr => ?_, ?_, fun k hk => ?_, fun k hk => ?_⟩
    · show _root_.Go.Proofs.YtmnloeolacmemaaGreat.live _ _ = _
      rw [live_new h3, h.live, List.map_append]
      congr 1
      simp only [wconv, List.map_cons, List.map_nil, List.cons.injEq, and_true, h2]
      have htk : List.take (l.length + 1) (l ++ [e]) = l ++ [e] := List.take_of_length_le (by simp)
      by_cases hk : e.kind = 1 <;> simp [hk, wplace, htk]
    · rcases List.mem_append.1 hr with hr | hr
      · exact h.good r hr
      · simp only [List.mem_singleton] at hr; subst hr
        refine ⟨by simp, ?_, fun hp => ?_⟩
        · show (if e.kind = 1 then l.length + 1 else 0) ≤ _
          split <;> simp
        · show l.length < (if e.kind = 1 then l.length + 1 else 0)
          have hp' : 0 < (if e.kind = 1 then l.length + 1 else 0) := hp
          split
          · omega
          · rename_i hc; rw [if_neg hc] at hp'; omega
    · show (o ++ [v.1]).Pairwise _
      rw [List.pairwise_append]
      refine ⟨h.inc, by simp, fun a ha b hb => ?_⟩
      simp only [List.mem_singleton] at hb; subst hb
      have := h.below a ha
      have : a ≠ v.1 := fun hh => h3 (hh ▸ ha)
      omega
    · rcases List.mem_append.1 hk with hk | hk
      · exact h.below k hk
      · simp only [List.mem_singleton] at hk; omega
    · show k ∈ o ++ [v.1]
      by_cases hkv : k = v.1
      · simp [hkv]
      · have : f k ≠ none := by simpa [wupd, hkv] using hk
        exact List.mem_append_left _ (h.inO k this)
  · obtain ⟨x, hx⟩ := Option.ne_none_iff_exists'.1 h2
    have hr : rfind rs v.1 ≠ none := fun hh => h2 ((h.none_iff v.1).2 hh)
    obtain ⟨y, hy⟩ := Option.ne_none_iff_exists'.1 hr
    rcases h3 with h3 | h3
    · have e1 : wverd e (wprn l).length (wprn (l ++ [e])).length (f, o) v = (wupd f v.1 none, o) := by
        simp only [wverd]; rw [if_neg h1, if_pos h3]
      have e2 : rverd e l.length rs v = rs.filter (fun r => r.num != v.1) := by simp [rverd, hy, h3]
      rw [e1, e2]
      refine ⟨?_, fun r hr => h.good r (List.mem_filter.1 hr).1, h.inc, h.below, fun k hk => ?_⟩
      · show _root_.Go.Proofs.YtmnloeolacmemaaGreat.live _ _ = _
        rw [live_erase, h.live, List.filter_map]; rfl
      · apply h.inO k
        intro hf; apply hk; unfold wupd; simp [hf]
    · have e1 : wverd e (wprn l).length (wprn (l ++ [e])).length (f, o) v = (wupd f v.1 (some { x with truth := 2 }), o) := by
        simp only [wverd]; rw [if_neg h1, if_neg (by omega)]; simp [hx]
      have e2 : rverd e l.length rs v = rs.map (fun r => if r.num = v.1 then { r with truth := 2 } else r) := by simp [rverd, hy, h3]
      rw [e1, e2]
      refine ⟨?_, fun r hr => ?_, h.inc, h.below, fun k hk => ?_⟩
      · show _root_.Go.Proofs.YtmnloeolacmemaaGreat.live _ _ = _
        rw [live_set h.nodup hx (fun x => { x with truth := 2 }), h.live, List.map_map, List.map_map]
        apply List.map_congr_left
        intro r _
        simp only [Function.comp_apply, wconv]
        split <;> simp_all
      · obtain ⟨r', hr', rfl⟩ := List.mem_map.1 hr
        have := h.good r' hr'
        split
        · exact ⟨this.bgn, this.fin, this.ord⟩
        · exact this
      · by_cases hkv : k = v.1
        · subst hkv; exact h.inO _ h2
        · exact h.inO k (by simpa [wupd, hkv] using hk)

/-- all verdicts -/
theorem verd_all {l : List WEv} {N : Int} {e : WEv} : ∀ (vs : List (Int × Int)) (f : Int → Option WN) (o : List Int) (rs : List RNd), NSim f o rs (l ++ [e]) N →
    (∀ v ∈ vs, (e.kind ≠ 2 ∧ v.1 = e.num ∧ v.1 ∉ o ∧ f v.1 = none ∧ e.num = N - 1) ∨ (¬ (e.kind ≠ 2 ∧ v.1 = e.num) ∧ f v.1 ≠ none ∧ (v.2 = 0 ∨ v.2 = 2))) →
    vs.Pairwise (fun a b => a.1 < b.1) →
    NSim (vs.foldl (wverd e (wprn l).length (wprn (l ++ [e])).length) (f, o)).1 (vs.foldl (wverd e (wprn l).length (wprn (l ++ [e])).length) (f, o)).2 (vs.foldl (rverd e l.length) rs) (l ++ [e]) N := by
  intro vs
  induction vs with
  | nil => intro f o rs h _ _; exact h
  | cons v vs ih =>
    intro f o rs h hv hp
    rw [List.pairwise_cons] at hp
    have h1 := verd_one h (hv v (List.mem_cons_self ..))
    simp only [List.foldl_cons]
    refine ih _ _ _ h1 (fun w hw => ?_) hp.2
    have hlt := hp.1 w hw
    have hne : w.1 ≠ v.1 := by omega
    have hf : (wverd e (wprn l).length (wprn (l ++ [e])).length (f, o) v).1 w.1 = f w.1 := by
      simp only [wverd]; repeat' split
      all_goals simp [wupd, hne]
    have ho : w.1 ∉ o → w.1 ∉ (wverd e (wprn l).length (wprn (l ++ [e])).length (f, o) v).2 := by
      intro hn; simp only [wverd]; repeat' split
      all_goals simp [hn, hne]
    rcases hv w (List.mem_cons_of_mem _ hw) with ⟨a1, a2, a3, a4, a5⟩ | ⟨a1, a2, a3⟩
    · exact .inl ⟨a1, a2, ho a3, hf.trans a4, a5⟩
    · exact .inr ⟨a1, hf ▸ a2, a3⟩

/-- the program's state -/
structure WSt where
  nodes : Int → Option WN
  order : List Int
  opn : List (Int × Int)
  next : Int
  last : Int
  all : List UInt8
/-- the answer's state -/
structure RSt where
  evs : List WEv
  opn : List Nat
  next : Int
  last : Int
  opened : Bool
  nodes : List RNd

def wcomes (s : WSt) (e : WEv) : Bool :=
  if e.frm < 0 ∨ e.to' < e.frm ∨ e.to' < s.last then false
  else if e.kind = 0 then decide (e.num = s.next ∧ (s.opn ≠ [] ∨ s.next = 0))
  else if e.kind = 1 then decide (e.num = s.next ∧ s.opn ≠ [])
  else if e.kind = 2 then (match s.opn.getLast? with | none => false | some x => decide (x = (e.num, e.frm)))
  else false
def rcomes (m : RSt) (e : WEv) : Bool :=
  if e.frm < 0 ∨ e.to' < e.frm ∨ e.to' < m.last then false
  else if e.kind = 0 then decide (e.num = m.next ∧ (m.opn ≠ [] ∨ m.opened = false))
  else if e.kind = 1 then decide (e.num = m.next ∧ m.opn ≠ [])
  else if e.kind = 2 then (match m.opn.getLast? with | none => false | some i => match m.evs[i]? with | none => false | some x => decide ((x.num, x.frm) = (e.num, e.frm)))
  else false
structure WSim (s : WSt) (m : RSt) : Prop where
  next : s.next = m.next
  last : s.last = m.last
  opened : m.opened = decide (m.next ≠ 0)
  nn : 0 ≤ m.next
  some' : m.opn ≠ [] → m.next ≠ 0
  opn : s.opn.map some = m.opn.map (fun i => (m.evs[i]?).map (fun x => (x.num, x.frm)))
  all : s.all = wprn m.evs
  nodes : NSim s.nodes s.order m.nodes m.evs m.next

theorem WSim.opnE {s : WSt} {m : RSt} (h : WSim s m) : (s.opn = []) ↔ (m.opn = []) := by
  have h1 := congrArg List.length h.opn
  simp only [List.length_map] at h1
  rw [← List.length_eq_zero_iff, ← List.length_eq_zero_iff, h1]
theorem WSim.top {s : WSt} {m : RSt} (h : WSim s m) : s.opn.getLast?.map some = m.opn.getLast?.map (fun i => (m.evs[i]?).map (fun x => (x.num, x.frm))) := by
  have h1 := congrArg List.getLast? h.opn
  simpa [List.getLast?_map] using h1
theorem WSim.comes {s : WSt} {m : RSt} (h : WSim s m) (e : WEv) : wcomes s e = rcomes m e := by
  have ho : m.opn = [] ↔ s.opn = [] := h.opnE.symm
  have hz : m.opened = false ↔ m.next = 0 := by rw [h.opened]; simp
  have ht := h.top
  simp only [wcomes, rcomes, h.next, h.last]
  repeat' split
  all_goals first
    | rfl
    | (simp only [ne_eq, ho, hz])
    | (simp_all)

/-- a Close makes its node whole -/
def wwhole (e : WEv) (n : Nat) (f : Int → Option WN) : Int → Option WN :=
  if e.kind = 2 then (match f e.num with | none => f | some x => wupd f e.num (some { x with whole := true, fin := n })) else f
def rwhole (e : WEv) (at' : Nat) (rs : List RNd) : List RNd :=
  if e.kind = 2 then rs.map (fun r => if r.num = e.num then { r with fin := at' + 1 } else r) else rs
theorem whole_same {f : Int → Option WN} {o : List Int} {rs : List RNd} {l : List WEv} {N : Int} {e : WEv} (h : NSim f o rs l N) (N' : Int) (hN : N ≤ N') :
    NSim (wwhole e (wprn (l ++ [e])).length f) o (rwhole e l.length rs) (l ++ [e]) N' := by
  have hl : live f o = rs.map (wconv (l ++ [e])) := by
    rw [h.live]; exact List.map_congr_left (fun r hr => (wconv_app (h.good r hr)).symm)
  have hb : ∀ k ∈ o, k < N' := fun k hk => by have := h.below k hk; omega
  by_cases hk : e.kind = 2
  · simp only [wwhole, rwhole, if_pos hk]
    cases hf : f e.num with
    | none =>
      have hn : ∀ r ∈ rs, r.num ≠ e.num := by
        intro r hr he
        have h1 := (h.none_iff e.num).1 hf
        have := List.find?_eq_none.1 h1 r hr
        simp [he] at this
      have e1 : rs.map (fun r => if r.num = e.num then { r with fin := l.length + 1 } else r) = rs := by
        conv => rhs; rw [← List.map_id rs]
        exact List.map_congr_left (fun r hr => by simp [hn r hr])
      rw [e1]
      exact ⟨hl, fun r hr => (h.good r hr).app, h.inc, hb, h.inO⟩
    | some x =>
      refine ⟨?_, fun r hr => ?_, h.inc, hb, fun k hk' => ?_⟩
      · show _root_.Go.Proofs.YtmnloeolacmemaaGreat.live _ _ = _
        rw [live_set h.nodup hf (fun x => { x with whole := true, fin := (wprn (l ++ [e])).length }), hl, List.map_map, List.map_map]
        apply List.map_congr_left
        intro r _
        have htk : List.take (l.length + 1) (l ++ [e]) = l ++ [e] := List.take_of_length_le (by simp)
        simp only [Function.comp_apply, wconv]
        split <;> simp_all [wplace]
      · obtain ⟨r', hr', rfl⟩ := List.mem_map.1 hr
        have h1 := h.good r' hr'
        have h2 := h1.bgn
        split
        · exact ⟨by simp; omega, by simp, fun _ => by show r'.bgn < l.length + 1; omega⟩
        · exact h1.app
      · by_cases hkv : k = e.num
        · subst hkv; exact h.inO _ (by simp [hf])
        · exact h.inO k (by simpa [wupd, hkv] using hk')
  · simp only [wwhole, rwhole, if_neg hk]
    exact ⟨hl, fun r hr => (h.good r hr).app, h.inc, hb, h.inO⟩
theorem wwhole_some (e : WEv) (n : Nat) (f : Int → Option WN) (k : Int) : wwhole e n f k = none ↔ f k = none := by
  unfold wwhole
  split
  · cases hf : f e.num with
    | none => rfl
    | some x =>
      by_cases hk : k = e.num
      · subst hk; simp [wupd, hf]
      · simp [wupd, hk]
  · rfl

/-- the program's Take; cut: of all that was printed -/
def wtake (s : WSt) (e : WEv) (vs : List (Int × Int)) : (List (Int × List UInt8) × Int) × WSt :=
  if wcomes s e = true ∧ gfit (fun n => (s.nodes n).map (·.truth)) e none vs = true then
    let a := s.all ++ e.piece
    let d := vs.foldl (wverd e s.all.length a.length) (wwhole e a.length s.nodes, s.order)
    let t := tellW (fun x y => (a.drop x).take (y - x)) d.1 d.2
    ((t.1, 0), ⟨t.2.1, t.2.2, if e.kind = 2 then s.opn.dropLast else if e.kind = 0 then s.opn ++ [(e.num, e.frm)] else s.opn, if e.kind = 2 then s.next else s.next + 1, e.to', a⟩)
  else (([], 6), s)
/-- the answer's Take -/
def rtake (m : RSt) (e : WEv) (vs : List (Int × Int)) : (List (Int × List UInt8) × Int) × RSt :=
  if rcomes m e = true ∧ gfit (fun n => (rfind m.nodes n).map (·.truth)) e none vs = true then
    let l := m.evs ++ [e]
    let t := tellR l (vs.foldl (rverd e m.evs.length) (rwhole e m.evs.length m.nodes))
    ((t.1, 0), ⟨l, if e.kind = 2 then m.opn.dropLast else if e.kind = 0 then m.opn ++ [m.evs.length] else m.opn, if e.kind = 2 then m.next else m.next + 1, e.to', m.opened || decide (e.kind = 0), t.2⟩)
  else (([], 6), m)

theorem tellR_mem (l : List WEv) : ∀ (rs : List RNd) (r : RNd), r ∈ (tellR l rs).2 → r ∈ rs := by
  intro rs
  induction rs with
  | nil => intro r h; exact h
  | cons x rs ih =>
    intro r h
    by_cases hc : x.truth = 2 ∧ 0 < x.fin
    · simp only [tellR, if_pos hc] at h; exact List.mem_cons_of_mem _ (ih r h)
    · simp only [tellR, if_neg hc] at h; exact h

theorem wopn_app {p : List (Int × Int)} {q : List Nat} {l : List WEv} (h : p.map some = q.map (fun i => (l[i]?).map (fun x => (x.num, x.frm)))) (e : WEv) :
    p.map some = q.map (fun i => ((l ++ [e])[i]?).map (fun x => (x.num, x.frm))) := by
  rw [h]
  apply List.map_congr_left
  intro i hi
  have h1 : (l[i]?).map (fun x => (x.num, x.frm)) ∈ p.map some := by rw [h]; exact List.mem_map.2 ⟨i, hi, rfl⟩
  obtain ⟨x, _, hx⟩ := List.mem_map.1 h1
  have hlt : i < l.length := by
    rcases Nat.lt_or_ge i l.length with hh | hh
    · exact hh
    · rw [List.getElem?_eq_none hh] at hx; cases hx
  rw [List.getElem?_append_left hlt]

/-- one event: the same answer, and the two are alike behind it -/
theorem take_same {s : WSt} {m : RSt} (h : WSim s m) (e : WEv) (vs : List (Int × Int)) : (wtake s e vs).1 = (rtake m e vs).1 ∧ WSim (wtake s e vs).2 (rtake m e vs).2 := by
  have hc := h.comes e
  have hfe : (fun n => (s.nodes n).map (·.truth)) = (fun n => (rfind m.nodes n).map (·.truth)) := funext h.nodes.truth
  by_cases hg : wcomes s e = true ∧ gfit (fun n => (s.nodes n).map (·.truth)) e none vs = true
  · have hg' : rcomes m e = true ∧ gfit (fun n => (rfind m.nodes n).map (·.truth)) e none vs = true := by rw [← hc, ← hfe]; exact hg
    have hev : wprn (m.evs ++ [e]) = s.all ++ e.piece := by simp [wprn, h.all]
    have hal : s.all.length = (wprn m.evs).length := by rw [h.all]
    have hin := gfit_inc vs none hg.2
    have hea := gfit_each vs none hg.2
    have hkind : e.kind = 0 ∨ e.kind = 1 ∨ e.kind = 2 := by
      have := hg.1
      simp only [wcomes] at this
      repeat' split at this
      all_goals first | omega | simp at this
    have hnum : e.kind ≠ 2 → e.num = m.next := by
      intro hk
      have := hg'.1
      simp only [rcomes] at this
      repeat' split at this
      all_goals first | (simp at this; done) | omega | (simp at this; exact this.1)
    have hN : m.next ≤ (if e.kind = 2 then m.next else m.next + 1) := by split <;> omega
    have n1 := whole_same (e := e) h.nodes (if e.kind = 2 then m.next else m.next + 1) hN
    have n2 := verd_all vs _ _ _ n1 (fun v hv => by
      rcases hea v hv with ⟨a1, a2⟩ | ⟨a1, a2, a3⟩
      · have hn := hnum a1
        have hno : v.1 ∉ s.order := fun hm => by have := h.nodes.below _ hm; omega
        refine .inl ⟨a1, a2, hno, (wwhole_some ..).2 ?_, by rw [if_neg a1]; omega⟩
        cases hf : s.nodes v.1 with
        | none => rfl
        | some x => exact absurd (h.nodes.inO _ (by simp [hf])) hno
      · refine .inr ⟨a1, fun hh => a2 ?_, a3⟩
        simp [(wwhole_some ..).1 hh]) hin.2
    have hcut : ∀ a b, a ≤ b → b ≤ (m.evs ++ [e]).length → (((s.all ++ e.piece).drop (wplace (m.evs ++ [e]) a)).take (wplace (m.evs ++ [e]) b - wplace (m.evs ++ [e]) a)) = wprn (((m.evs ++ [e]).take b).drop a) := by
      intro a b hab _
      rw [← hev]; exact wcut _ a b hab
    have ht := tell_same (m.evs ++ [e]) (fun x y => ((s.all ++ e.piece).drop x).take (y - x)) hcut _ _ _ n2.nodup n2.good n2.live
    rw [hev, ← hal] at ht n2
    obtain ⟨t1, t2, t3, t4, t5, t6⟩ := ht
    simp only [wtake, rtake, if_pos hg, if_pos hg']
    refine ⟨?_, ?_, rfl, ?_, ?_, ?_, ?_, hev.symm, ?_⟩
    · simp only [t1]
    · simp only [h.next]
    · show (m.opened || decide (e.kind = 0)) = decide ((if e.kind = 2 then m.next else m.next + 1) ≠ 0)
      have hnn := h.nn
      have hco := hg'.1
      rw [h.opened]
      rcases hkind with hk | hk | hk
      · simp [hk]; omega
      · have : m.next ≠ 0 := h.some' (by simp [rcomes, hk] at hco; exact hco.2.2)
        simp [hk, this]; omega
      · simp [hk]
    · show 0 ≤ (if e.kind = 2 then m.next else m.next + 1)
      have := h.nn
      split <;> omega
    · show (if e.kind = 2 then m.opn.dropLast else if e.kind = 0 then m.opn ++ [m.evs.length] else m.opn) ≠ [] → (if e.kind = 2 then m.next else m.next + 1) ≠ 0
      intro ho
      have := h.nn
      split
      · rename_i hk
        rw [if_pos hk] at ho
        exact h.some' (fun hh => ho (by rw [hh]; rfl))
      · omega
    · show List.map some (if e.kind = 2 then s.opn.dropLast else if e.kind = 0 then s.opn ++ [(e.num, e.frm)] else s.opn) = List.map (fun i => ((m.evs ++ [e])[i]?).map (fun x => (x.num, x.frm))) (if e.kind = 2 then m.opn.dropLast else if e.kind = 0 then m.opn ++ [m.evs.length] else m.opn)
      have hop := wopn_app h.opn e
      rcases hkind with hk | hk | hk
      · have h0 : ¬ e.kind = 2 := by omega
        rw [if_neg h0, if_neg h0, if_pos hk, if_pos hk, List.map_append, List.map_append, hop]
        simp
      · have h0 : ¬ e.kind = 2 := by omega
        have h1 : ¬ e.kind = 0 := by omega
        rw [if_neg h0, if_neg h0, if_neg h1, if_neg h1, hop]
      · rw [if_pos hk, if_pos hk, List.map_dropLast, List.map_dropLast, hop]
    · refine ⟨t2, fun r hr => n2.good r (tellR_mem _ _ _ hr), n2.inc.sublist t3, fun k hk => n2.below k (t3.subset hk), fun k hk => ?_⟩
      exact t6 k (n2.inO k (t4 k hk)) hk
  · have hg' : ¬ (rcomes m e = true ∧ gfit (fun n => (rfind m.nodes n).map (·.truth)) e none vs = true) := by rw [← hc, ← hfe]; exact hg
    simp only [wtake, rtake, if_neg hg, if_neg hg']
    exact ⟨trivial, h⟩

/-- how many bytes are held, and who waits -/
def wheld (s : WSt) : Int := match live s.nodes s.order with | [] => 0 | p :: _ => s.last - p.2.frm
def rheld (m : RSt) : Int := match m.nodes with | [] => 0 | r :: _ => m.last - r.frm
def wwaiting (s : WSt) : List Int := (live s.nodes s.order).map (·.1)
theorem held_same {s : WSt} {m : RSt} (h : WSim s m) : wheld s = rheld m := by
  have h1 := h.nodes.live
  unfold wheld rheld
  rw [h1]
  cases m.nodes with
  | nil => rfl
  | cons r rs => simp [wconv, h.last]
theorem waiting_same {s : WSt} {m : RSt} (h : WSim s m) : wwaiting s = m.nodes.map (·.num) := by
  unfold wwaiting
  rw [h.nodes.live, List.map_map]; rfl
theorem wsim_new : WSim ⟨fun _ => none, [], [], 0, 0, []⟩ ⟨[], [], 0, 0, false, []⟩ :=
  ⟨rfl, rfl, rfl, Int.le_refl _, fun h => absurd rfl h, rfl, rfl, ⟨rfl, fun _ h => (by cases h), List.Pairwise.nil, fun _ h => (by cases h), fun _ h => absurd rfl h⟩⟩

/-- behind the verdicts, ahead of the telling -/
theorem take_mid {s : WSt} {m : RSt} (h : WSim s m) (e : WEv) (vs : List (Int × Int)) (hg : wcomes s e = true ∧ gfit (fun n => (s.nodes n).map (·.truth)) e none vs = true) :
    NSim (vs.foldl (wverd e s.all.length (s.all ++ e.piece).length) (wwhole e (s.all ++ e.piece).length s.nodes, s.order)).1 (vs.foldl (wverd e s.all.length (s.all ++ e.piece).length) (wwhole e (s.all ++ e.piece).length s.nodes, s.order)).2
      (vs.foldl (rverd e m.evs.length) (rwhole e m.evs.length m.nodes)) (m.evs ++ [e]) (if e.kind = 2 then m.next else m.next + 1) := by
  have hc := h.comes e
  have hg' : rcomes m e = true := by rw [← hc]; exact hg.1
  have hev : wprn (m.evs ++ [e]) = s.all ++ e.piece := by simp [wprn, h.all]
  have hal : s.all.length = (wprn m.evs).length := by rw [h.all]
  have hin := gfit_inc vs none hg.2
  have hea := gfit_each vs none hg.2
  have hnum : e.kind ≠ 2 → e.num = m.next := by
    intro hk
    have := hg'
    simp only [rcomes] at this
    repeat' split at this
    all_goals first | (simp at this; done) | omega | (simp at this; exact this.1)
  have hN : m.next ≤ (if e.kind = 2 then m.next else m.next + 1) := by split <;> omega
  have n1 := whole_same (e := e) h.nodes (if e.kind = 2 then m.next else m.next + 1) hN
  have n2 := verd_all vs _ _ _ n1 (fun v hv => by
    rcases hea v hv with ⟨a1, a2⟩ | ⟨a1, a2, a3⟩
    · have hn := hnum a1
      have hno : v.1 ∉ s.order := fun hm => by have := h.nodes.below _ hm; omega
      refine .inl ⟨a1, a2, hno, (wwhole_some ..).2 ?_, by rw [if_neg a1]; omega⟩
      cases hf : s.nodes v.1 with
      | none => rfl
      | some x => exact absurd (h.nodes.inO _ (by simp [hf])) hno
    · refine .inr ⟨a1, fun hh => a2 ?_, a3⟩
      simp [(wwhole_some ..).1 hh]) hin.2
  rw [hev, ← hal] at n2
  exact n2

theorem wplace_mono (l : List WEv) {a b : Nat} (h : a ≤ b) : wplace l a ≤ wplace l b := by
  have e : l.take b = l.take a ++ (l.take b).drop a := by
    have := (List.take_append_drop a (l.take b)).symm
    rwa [List.take_take, Nat.min_eq_left h] at this
  have : wprn (l.take b) = wprn (l.take a) ++ wprn ((l.take b).drop a) := by
    conv => lhs; rw [e]
    simp [wprn]
  simp only [wplace, this, List.length_append]; omega
theorem wplace_le (l : List WEv) (b : Nat) : wplace l b ≤ (wprn l).length := by
  have h1 := wplace_mono l (a := b) (b := max b l.length) (Nat.le_max_left ..)
  have h2 : wplace l (max b l.length) = (wprn l).length := by simp only [wplace]; rw [List.take_of_length_le (Nat.le_max_right ..)]
  omega

/-- the nodes begin one behind the other, none ahead of F and none behind T -/
def RRow (F T : Nat) (rs : List RNd) : Prop := rs.Pairwise (fun a b => a.bgn ≤ b.bgn) ∧ ∀ r ∈ rs, F ≤ r.bgn ∧ r.bgn ≤ T
theorem RRow.verd {F T : Nat} {rs : List RNd} (e : WEv) (h : RRow F T rs) (hFT : F ≤ T) (v : Int × Int) : RRow F T (rverd e T rs v) := by
  simp only [rverd]
  cases rfind rs v.1 with
  | none =>
    refine ⟨List.pairwise_append.2 ⟨h.1, by simp, fun a ha b hb => ?_⟩, fun r hr => ?_⟩
    · simp only [List.mem_singleton] at hb; subst hb; exact (h.2 a ha).2
    · rcases List.mem_append.1 hr with hr | hr
      · exact h.2 r hr
      · simp only [List.mem_singleton] at hr; subst hr; exact ⟨hFT, Nat.le_refl _⟩
  | some _ =>
    simp only []
    split
    · refine ⟨List.pairwise_map.2 (h.1.imp ?_), fun r hr => ?_⟩
      · intro a b hab; split <;> split <;> exact hab
      · obtain ⟨r', hr', rfl⟩ := List.mem_map.1 hr
        have := h.2 r' hr'
        split <;> exact this
    · exact ⟨h.1.filter _, fun r hr => h.2 r (List.mem_filter.1 hr).1⟩
theorem RRow.verds {F T : Nat} (e : WEv) (hFT : F ≤ T) : ∀ (vs : List (Int × Int)) (rs : List RNd), RRow F T rs → RRow F T (vs.foldl (rverd e T) rs) := by
  intro vs
  induction vs with
  | nil => intro rs h; exact h
  | cons v vs ih => intro rs h; exact ih _ (h.verd e hFT v)
theorem RRow.whole {F T : Nat} {rs : List RNd} (e : WEv) (h : RRow F T rs) (at' : Nat) : RRow F T (rwhole e at' rs) := by
  simp only [rwhole]
  split
  · refine ⟨List.pairwise_map.2 (h.1.imp ?_), fun r hr => ?_⟩
    · intro a b hab; split <;> split <;> exact hab
    · obtain ⟨r', hr', rfl⟩ := List.mem_map.1 hr
      have := h.2 r' hr'
      split <;> exact this
  · exact h
theorem tellR_suffix (l : List WEv) : ∀ (rs : List RNd), (tellR l rs).2 <:+ rs := by
  intro rs
  induction rs with
  | nil => exact List.suffix_refl _
  | cons x rs ih =>
    by_cases hc : x.truth = 2 ∧ 0 < x.fin
    · simp only [tellR, if_pos hc]; exact ih.trans (List.suffix_cons x rs)
    · simp only [tellR, if_neg hc]; exact List.suffix_refl _

/-- the tape's front: the place of an event, and no node that waits begins ahead of it -/
structure WFront (m : RSt) (front : Nat) : Prop where
  row : ∃ F, F ≤ m.evs.length ∧ front = wplace m.evs F ∧ RRow F m.evs.length m.nodes
theorem wfront_new : WFront ⟨[], [], 0, 0, false, []⟩ 0 := ⟨0, Nat.le_refl _, rfl, List.Pairwise.nil, fun _ h => (by cases h)⟩

/-- what may be cut: of each node behind the verdicts -/
theorem take_cuts {s : WSt} {m : RSt} (h : WSim s m) (e : WEv) (vs : List (Int × Int)) {front : Nat} (hf : WFront m front) (hg : wcomes s e = true ∧ gfit (fun n => (s.nodes n).map (·.truth)) e none vs = true) :
    ∀ p ∈ live (vs.foldl (wverd e s.all.length (s.all ++ e.piece).length) (wwhole e (s.all ++ e.piece).length s.nodes, s.order)).1 (vs.foldl (wverd e s.all.length (s.all ++ e.piece).length) (wwhole e (s.all ++ e.piece).length s.nodes, s.order)).2,
      front ≤ p.2.bgn ∧ p.2.bgn ≤ p.2.fin ∧ p.2.fin ≤ (s.all ++ e.piece).length := by
  have n2 := take_mid h e vs hg
  obtain ⟨F, hF, rfl, hrow⟩ := hf
  have hrow2 := RRow.verds e hF vs _ (hrow.whole e m.evs.length)
  have hev : wprn (m.evs ++ [e]) = s.all ++ e.piece := by simp [wprn, h.all]
  intro p hp
  rw [n2.live] at hp
  obtain ⟨r, hr, rfl⟩ := List.mem_map.1 hp
  have h1 := hrow2.2 r hr
  have h2 := n2.good r hr
  have h3 := h2.ord
  rw [← hev]
  refine ⟨?_, ?_, ?_⟩
  · show wplace m.evs F ≤ wplace (m.evs ++ [e]) r.bgn
    rw [← wplace_app m.evs [e] F hF]; exact wplace_mono _ h1.1
  · show wplace (m.evs ++ [e]) r.bgn ≤ if 0 < r.fin then wplace (m.evs ++ [e]) r.fin else wplace (m.evs ++ [e]) (r.bgn + 1)
    split
    · rename_i hh; exact wplace_mono _ (Nat.le_of_lt (h3 hh))
    · exact wplace_mono _ (Nat.le_succ _)
  · show (if 0 < r.fin then wplace (m.evs ++ [e]) r.fin else wplace (m.evs ++ [e]) (r.bgn + 1)) ≤ _
    split <;> exact wplace_le ..

/-- the front behind a Take that went well -/
def wdropped (f : Int → Option WN) (o : List Int) (n front : Nat) : Nat := match live f o with | [] => max front n | p :: _ => max front p.2.bgn
theorem take_front {s : WSt} {m : RSt} (h : WSim s m) (e : WEv) (vs : List (Int × Int)) {front : Nat} (hf : WFront m front) (hg : wcomes s e = true ∧ gfit (fun n => (s.nodes n).map (·.truth)) e none vs = true) :
    WFront (rtake m e vs).2 (wdropped (wtake s e vs).2.nodes (wtake s e vs).2.order (s.all ++ e.piece).length front) := by
  have hsim := (take_same h e vs).2
  have hc := h.comes e
  have hfe : (fun n => (s.nodes n).map (·.truth)) = (fun n => (rfind m.nodes n).map (·.truth)) := funext h.nodes.truth
  have hg' : rcomes m e = true ∧ gfit (fun n => (rfind m.nodes n).map (·.truth)) e none vs = true := by rw [← hc, ← hfe]; exact hg
  obtain ⟨F, hF, rfl, hrow⟩ := hf
  have hev : wprn (m.evs ++ [e]) = s.all ++ e.piece := by simp [wprn, h.all]
  have hrow2 := RRow.verds e hF vs _ (hrow.whole e m.evs.length)
  have hevs : (rtake m e vs).2.evs = m.evs ++ [e] := by simp only [rtake, if_pos hg']
  have hnds : (rtake m e vs).2.nodes = (tellR (m.evs ++ [e]) (vs.foldl (rverd e m.evs.length) (rwhole e m.evs.length m.nodes))).2 := by simp only [rtake, if_pos hg']
  have hsuf := tellR_suffix (m.evs ++ [e]) (vs.foldl (rverd e m.evs.length) (rwhole e m.evs.length m.nodes))
  rw [← hnds] at hsuf
  have hlive := hsim.nodes.live
  rw [hevs] at hlive
  simp only [wdropped, hlive]
  cases hn : (rtake m e vs).2.nodes with
  | nil =>
    refine ⟨(m.evs ++ [e]).length, by rw [hevs]; exact Nat.le_refl _, ?_, ?_⟩
    · rw [hevs, ← hev]
      show max (wplace m.evs F) (wprn (m.evs ++ [e])).length = _
      rw [← wplace_app m.evs [e] F hF]
      have h1 := wplace_le (m.evs ++ [e]) F
      have h2 : wplace (m.evs ++ [e]) (m.evs ++ [e]).length = (wprn (m.evs ++ [e])).length := by simp only [wplace, List.take_length]
      omega
    · rw [hn]; exact ⟨List.Pairwise.nil, fun _ h => (by cases h)⟩
  | cons r rs =>
    rw [hn] at hsuf
    have hmem : ∀ x ∈ r :: rs, F ≤ x.bgn ∧ x.bgn ≤ m.evs.length := fun x hx => hrow2.2 x (hsuf.subset hx)
    have hpw := hrow2.1.sublist hsuf.sublist
    have hr := hmem r (List.mem_cons_self ..)
    refine ⟨r.bgn, by rw [hevs]; simp; omega, ?_, ?_⟩
    · rw [hevs]
      show max (wplace m.evs F) (wplace (m.evs ++ [e]) r.bgn) = _
      rw [← wplace_app m.evs [e] F hF]
      exact Nat.max_eq_right (wplace_mono _ hr.1)
    · rw [hn, hevs]
      refine ⟨hpw, fun x hx => ⟨?_, by have := (hmem x hx).2; simp; omega⟩⟩
      rcases List.mem_cons.1 hx with rfl | hx
      · exact Nat.le_refl _
      · exact (List.pairwise_cons.1 hpw).1 x hx

/-- no number twice -/
theorem NSim.nums {f : Int → Option WN} {o : List Int} {rs : List RNd} {l : List WEv} {N : Int} (h : NSim f o rs l N) : (rs.map (·.num)).Nodup := by
  have h1 : rs.map (·.num) = (_root_.Go.Proofs.YtmnloeolacmemaaGreat.live f o).map (·.1) := by rw [h.live, List.map_map]; rfl
  have h2 : ∀ (o : List Int), ((_root_.Go.Proofs.YtmnloeolacmemaaGreat.live f o).map (·.1)).Sublist o := by
    intro o
    induction o with
    | nil => exact List.Sublist.refl _
    | cons k o ih => rw [live_cons]; cases f k with
      | none => exact ih.cons _
      | some x => exact ih.cons_cons _
  rw [h1]; exact h.nodup.sublist (h2 o)
theorem erase_filter : ∀ {rs : List RNd}, (rs.map (·.num)).Nodup → ∀ {k : Nat} (hk : k < rs.length), rs.eraseIdx k = rs.filter (fun r => r.num != rs[k].num)
  | [], _, _, hk => absurd hk (Nat.not_lt_zero _)
  | r :: rs, hnd, 0, _ => by
    simp only [List.map_cons, List.nodup_cons] at hnd
    simp only [List.eraseIdx_zero, List.tail_cons, List.getElem_cons_zero, List.filter_cons, bne_self_eq_false, Bool.false_eq_true, if_false]
    refine (List.filter_eq_self.2 fun x hx => ?_).symm
    simp only [bne_iff_ne]; exact fun e => hnd.1 (e ▸ List.mem_map.2 ⟨x, hx, rfl⟩)
  | r :: rs, hnd, k + 1, hk => by
    simp only [List.map_cons, List.nodup_cons] at hnd
    have hk' : k < rs.length := by simpa using hk
    have hne : r.num ≠ rs[k].num := fun e => hnd.1 (e ▸ List.mem_map.2 ⟨rs[k], List.getElem_mem hk', rfl⟩)
    have ih := erase_filter hnd.2 hk'
    simp only [List.eraseIdx_cons_succ, List.getElem_cons_succ, List.filter_cons, bne_iff_ne, ne_eq, hne, not_false_eq_true, if_true, ih]
theorem modify_map (g : RNd → RNd) : ∀ {rs : List RNd}, (rs.map (·.num)).Nodup → ∀ {k : Nat} (hk : k < rs.length), rs.modify k g = rs.map (fun r => if r.num = rs[k].num then g r else r)
  | [], _, _, hk => absurd hk (Nat.not_lt_zero _)
  | r :: rs, hnd, 0, _ => by
    simp only [List.map_cons, List.nodup_cons] at hnd
    simp only [List.modify_zero_cons, List.getElem_cons_zero, List.map_cons, if_true]
    congr 1
    conv => lhs; rw [← List.map_id rs]
    refine List.map_congr_left fun x hx => ?_
    have : x.num ≠ r.num := fun e => hnd.1 (e ▸ List.mem_map.2 ⟨x, hx, rfl⟩)
    simp [this]
  | r :: rs, hnd, k + 1, hk => by
    simp only [List.map_cons, List.nodup_cons] at hnd
    have hk' : k < rs.length := by simpa using hk
    have hne : r.num ≠ rs[k].num := fun e => hnd.1 (e ▸ List.mem_map.2 ⟨rs[k], List.getElem_mem hk', rfl⟩)
    have ih := modify_map g hnd.2 hk'
    simp only [List.modify_succ_cons, List.getElem_cons_succ, List.map_cons, hne, if_false, ih]
/-- what find answers -/
def RFound (rs : List RNd) (n k : Int) : Prop := (k = -1 ∧ ∀ r ∈ rs, r.num ≠ n) ∨ ∃ i, ∃ h : i < rs.length, k = (i : Int) ∧ rs[i].num = n
theorem RFound.none' {rs : List RNd} {n k : Int} (h : RFound rs n k) (hk : k < 0) : rfind rs n = none := by
  rcases h with ⟨_, h⟩ | ⟨i, hi, rfl, _⟩
  · exact List.find?_eq_none.2 (fun r hr => by simp [h r hr])
  · omega
theorem RFound.some' {rs : List RNd} {n k : Int} (h : RFound rs n k) (hk : ¬ k < 0) (hnd : (rs.map (·.num)).Nodup) : ∃ i, ∃ hi : i < rs.length, k = (i : Int) ∧ rfind rs n = some rs[i] ∧ rs[i].num = n := by
  rcases h with ⟨rfl, _⟩ | ⟨i, hi, rfl, h⟩
  · omega
  · refine ⟨i, hi, rfl, ?_, h⟩
    cases hr : rfind rs n with
    | none => exact absurd (List.find?_eq_none.1 hr rs[i] (List.getElem_mem hi)) (by simp [h])
    | some y =>
      have h1 : y.num = n := by simpa using List.find?_some hr
      have h2 := List.mem_of_find?_eq_some hr
      obtain ⟨j, hj, rfl⟩ := List.getElem_of_mem h2
      have h3 : (rs.map (·.num))[j]'(by simpa using hj) = (rs.map (·.num))[i]'(by simpa using hi) := by simp [h1, h]
      have h4 : j = i := by
        rcases Nat.lt_trichotomy j i with hlt | heq | hgt
        · exact absurd h3 (List.pairwise_iff_getElem.1 hnd j i (by simpa using hj) (by simpa using hi) hlt)
        · exact heq
        · exact absurd h3.symm (List.pairwise_iff_getElem.1 hnd i j (by simpa using hi) (by simpa using hj) hgt)
      subst h4; rfl

end Go.Proofs.YtmnloeolacmemaaGreat
