/-
  tree.copied: events as new memory.
-/
import Derived.Test.YtopfbngdbhofkaaGreatDoorItI
import Derived.Test.YtopfbngdbhofkaaGreatDoorItH
namespace Go.Proofs.YtopfbngdbhofkaaGreatDoor
open Go.RowKit

/-- several cells are written, one behind the other -/
def setC : World → Nat → Nat → List Value → World
  | w, _, _, [] => w
  | w, g, p, v :: l => setC (w.setCell ⟨g, p, none⟩ v) g (p + 1) l
def setL : List Value → Nat → List Value → List Value
  | cs, _, [] => cs
  | cs, p, v :: l => setL (cs.set p v) (p + 1) l
theorem setL_low : ∀ (l cs : List Value) (p q : Nat), q < p → (setL cs p l)[q]? = cs[q]?
  | [], _, _, _, _ => rfl
  | v :: l, cs, p, q, h => by
    unfold setL
    rw [setL_low l _ _ _ (by omega), List.getElem?_set, if_neg (by omega)]
theorem setL_high : ∀ (l cs : List Value) (p q : Nat), p + l.length ≤ q → (setL cs p l)[q]? = cs[q]?
  | [], _, _, _, _ => rfl
  | v :: l, cs, p, q, h => by
    rw [List.length_cons] at h
    unfold setL
    rw [setL_high l _ _ _ (by omega), List.getElem?_set, if_neg (by omega)]
theorem setL_at : ∀ (l cs : List Value) (p j : Nat), p + l.length ≤ cs.length → j < l.length → (setL cs p l)[p + j]? = l[j]?
  | [], _, _, j, _, h => by simp at h
  | v :: l, cs, p, 0, h, _ => by
    rw [List.length_cons] at h
    unfold setL
    rw [setL_low l _ _ _ (by omega), List.getElem?_set]
    simp; omega
  | v :: l, cs, p, j + 1, h, hj => by
    rw [List.length_cons] at h hj
    unfold setL
    rw [show p + (j + 1) = p + 1 + j by omega, setL_at l _ _ _ (by rw [List.length_set]; omega) (by omega)]
    rfl
theorem setL_length : ∀ (l cs : List Value) (p : Nat), (setL cs p l).length = cs.length
  | [], _, _ => rfl
  | v :: l, cs, p => by unfold setL; rw [setL_length l]; simp
theorem setC_own {base g n cap : Nat} {e : TypeId} {size : Nat} : ∀ (l : List Value) (w : World) (cs : List Value) (p : Nat), w.ownsRow base e size (.slice (some ⟨g, 0, none⟩) n cap) n cs →
    (setC w g p l).ownsRow base e size (.slice (some ⟨g, 0, none⟩) n cap) n (setL cs p l)
  | [], _, _, _, h => h
  | v :: l, _, _, p, h => setC_own l _ _ _ (h.stored p v).1
theorem setC_size : ∀ (l : List Value) (w : World) (g p : Nat), (setC w g p l).heap.size = w.heap.size
  | [], _, _, _ => rfl
  | v :: l, w, g, p => by unfold setC; rw [setC_size l]; simp [World.setCell]
theorem setC_far : ∀ (l : List Value) (w : World) (g p k : Nat), k ≠ g → (setC w g p l).heap[k]? = w.heap[k]?
  | [], _, _, _, _, _ => rfl
  | v :: l, w, g, p, k, h => by unfold setC; rw [setC_far l _ _ _ _ h, Below.heap_setCell _ _ _ _ h]
theorem setC_below {B : Nat} {a : World} : ∀ (l : List Value) (w : World) (g p : Nat), B ≤ g → Below B a w → Below B a (setC w g p l)
  | [], _, _, _, _, hb => hb
  | v :: l, _, g, p, h, hb => setC_below l _ g (p + 1) h (hb.setCell (p := ⟨g, p, none⟩) h v)
/-- an event's cells, read in any later world -/
theorem EvsAt.at8 {w : World} {a : Option Addr} {n : Nat} {evs : List Ev} (h : EvsAt w a n evs) (i : Nat) (hi : i < evs.length) :
    ∃ b o A m c, a = some ⟨b, o, none⟩ ∧ b < w.heap.size ∧ m ≤ c ∧ AttrsAt w A m evs[i].ats ∧ ∀ W, Below w.heap.size w W →
      W.cell? ⟨b, o + i * 8, none⟩ = some (.int .i64 evs[i].kind) ∧ W.cell? ⟨b, o + i * 8 + 1, none⟩ = some (.int .i64 evs[i].num) ∧ W.cell? ⟨b, o + i * 8 + 2, none⟩ = some (.int .i64 evs[i].dep) ∧ W.cell? ⟨b, o + i * 8 + 3, none⟩ = some (.string (strL evs[i].name)) ∧
      W.cell? ⟨b, o + i * 8 + 4, none⟩ = some (.slice A m c) ∧ W.cell? ⟨b, o + i * 8 + 5, none⟩ = some (.string (strL evs[i].text)) ∧ W.cell? ⟨b, o + i * 8 + 6, none⟩ = some (.int .i64 evs[i].fr) ∧ W.cell? ⟨b, o + i * 8 + 7, none⟩ = some (.int .i64 evs[i].tt) := by
  obtain ⟨b, o, A, m, c, e, hb, hmc, hA, hc⟩ := h.2 i hi
  refine ⟨b, o, A, m, c, e, hb, hmc, hA, fun W hW => ?_⟩
  have k := fun j (hj : j < 8) => (hW.cell (p := ⟨b, o + i * 8 + j, none⟩) hb).trans (hc j hj)
  exact ⟨k 0 (by decide), k 1 (by decide), k 2 (by decide), k 3 (by decide), k 4 (by decide), k 5 (by decide), k 6 (by decide), k 7 (by decide)⟩
/-- the cells of events whose attributes lie from block B on -/
def EvRow (w : World) (B k : Nat) (evs : List Ev) (cs : List Value) : Prop :=
  ∀ i, (h : i < evs.length) → i < k → ∃ A m c, m ≤ c ∧ AttrsAt w A m evs[i].ats ∧ (∀ ad, A = some ad → B ≤ ad.block) ∧ ∀ j, j < 8 → cs[i * 8 + j]? = (evL evs[i] A m c)[j]?
theorem own_cell {w : World} {base g n cap size : Nat} {e : TypeId} {xs : List Value} (h : w.ownsRow base e size (.slice (some ⟨g, 0, none⟩) n cap) n xs) (j : Nat) (hj : j < n * size) : ∃ x, w.cell? ⟨g, j, none⟩ = some x := by
  have hl := h.1
  exact ⟨xs[j], by rw [h.cellAt j hj, List.getElem?_eq_getElem (by omega)]⟩
theorem EvRow.step {w w' : World} {B k : Nat} {evs : List Ev} {cs : List Value} (h : EvRow w B k evs cs) (hlen : cs.length = evs.length * 8) (hk : k < evs.length) (hs : w.heap.size ≤ w'.heap.size)
    (hb : ∀ b, B ≤ b → b < w.heap.size → w'.heap[b]? = w.heap[b]?) (A : Option Addr) (m c : Nat) (hmc : m ≤ c) (hA : AttrsAt w' A m evs[k].ats) (hfr : ∀ ad, A = some ad → B ≤ ad.block) :
    EvRow w' B (k + 1) evs (setL cs (k * 8) (evL evs[k] A m c)) := by
  have hel : ∀ (e : Ev) (A : Option Addr) (m c : Nat), (evL e A m c).length = 8 := fun _ _ _ _ => rfl
  intro i hi hik
  by_cases h0 : i = k
  · subst h0
    exact ⟨A, m, c, hmc, hA, hfr, fun j hj => setL_at _ _ _ _ (by rw [hel]; omega) (by rw [hel]; exact hj)⟩
  · obtain ⟨A', m', c', h1, h2, h3, h4⟩ := h i hi (by omega)
    refine ⟨A', m', c', h1, h2.keep hs fun b o e hlt => hb b (h3 _ e) hlt, h3, fun j hj => ?_⟩
    rw [setL_low _ _ _ _ (by omega), h4 j hj]
theorem infoEv : (Tryz.prog.info? 50).map (fun i => (i.zero, i.size, i.bytes)) = some (some (.agg #[.int .i64 0, .int .i64 0, .int .i64 0, .string ⟨#[]⟩, .slice none 0 0, .string ⟨#[]⟩, .int .i64 0, .int .i64 0]), 8, 96) := by kernel_rfl
set_option maxRecDepth 1000000 in
set_option maxHeartbeats 4000000 in
theorem copied_any (a : Option Addr) (n c : Nat) (evs : List Ev) (w : World) (hE : EvsAt w a n evs) (hn : n ≤ 1048576) (hl : ∀ e ∈ evs, e.ats.length ≤ 1048576) :
    Calls Tryz.prog 28 #[.slice a n c] w fun e w' => ∃ cs, e = .returned (.slice (some ⟨w.heap.size, 0, none⟩) n n) ∧ w'.ownsRow w.heap.size 50 8 (.slice (some ⟨w.heap.size, 0, none⟩) n n) n cs ∧ EvRow w' (w.heap.size + 1) n evs cs ∧ Below w.heap.size w w' := by
  obtain ⟨i0, hi, hz0, hz1, hz2⟩ := info_parts infoEv
  have HE := Lib.hid hE
  have HN : Hid (n = evs.length) := Lib.hid hE.1
  have HL := Lib.hid hl
  clear hE hl
  go_enter Tryz.func28, Tryz.ntmps28
  go_wp2_with (at_make; go_must ((refine wpList_make_full _ (by rfl) _ _ 22 (by rfl) w.heap.size 50 i0 _ 8 Tryz.underlying22 hi hz0 hz1 .i64 .i64 (n : Int) (n : Int) n (by rfl) (by rfl) rfl rfl (by rw [hz2]; omega) (by unfold maxLen; omega) (Nat.le_refl _) (fun w1 hown hgr => ?_))))
  have hb1 : Below w.heap.size w w1 := (Below.refl _ w).grown hgr (Nat.le_refl _) (fun k hk => by cases hk)
  generalize (madeCells _ (n * 8)).toList = cs0 at hown
  go_loopw [11] (fun iv wr => ∃ (k : Nat) (cs : List Value), iv = .int .i64 k ∧ k ≤ n ∧ Below w.heap.size w wr ∧ wr.ownsRow w.heap.size 50 8 (.slice (some ⟨w.heap.size, 0, none⟩) n n) n cs ∧ EvRow wr (w.heap.size + 1) k evs cs) (fun iv _ => n - (intOf iv).toNat)
  case atStart => exact ⟨0, cs0, rfl, Nat.zero_le _, hb1, hown, fun i hi h => by omega⟩
  case round =>
    obtain ⟨k, cs, rfl, hk, hbr, hor, hrow⟩ := hrel
    by_cases hkn : k < n
    · have hkl : k < evs.length := by rw [← HN.out]; exact hkn
      obtain ⟨b, o, A, m, c', rfl, hb, hmc, hA, hcells⟩ := HE.out.at8 k hkl
      obtain ⟨e0, e1, e2, e3, e4, e5, e6, e7⟩ := hcells wr hbr
      have hla := HL.out _ (List.getElem_mem hkl)
      have hm : m ≤ 1048576 := by rw [hA.1]; exact hla
      clear hla
      have HONE : Hid (∀ W, Below w.heap.size w W → Calls Tryz.prog 37 #[.agg #[.int .i64 evs[k].kind, .int .i64 evs[k].num, .int .i64 evs[k].dep, .string (strL evs[k].name), .slice A m c', .string (strL evs[k].text), .int .i64 evs[k].fr, .int .i64 evs[k].tt]] W fun e w' => ∃ A' c2, e = .returned (.agg (evC evs[k].kind evs[k].num evs[k].dep evs[k].name A' m c2 evs[k].text evs[k].fr evs[k].tt)) ∧ m ≤ c2 ∧ AttrsAt w' A' m evs[k].ats ∧ (∀ ad, A' = some ad → W.heap.size ≤ ad.block) ∧ Below W.heap.size W w') := Lib.hid fun W hW => one_any _ _ _ _ _ _ _ A m c' _ W (hA.below hW) hm
      have HOR := Lib.hid hor
      have HROW := Lib.hid hrow
      have HBR := Lib.hid hbr
      have HS1 : Hid (w.heap.size < wr.heap.size) := Lib.hid (hor.lt _ rfl).2
      have HB2 : Hid (∀ o, Below w.heap.size w (wr.alloc o)) := Lib.hid fun o => hbr.alloc hbr.size o
      clear hcells hA hor hrow hbr
      go_wp2_with fail
      (with_reducible refine (HONE.out _ (HB2.out _)).mono ?_)
      rintro e w3 ⟨A', c2, rfl, hmc2, hA', hfr, hb3⟩
      unfold evC
      have hkeep : ∀ j, j < wr.heap.size → w3.heap[j]? = wr.heap[j]? := fun j hj => (hb3.block j (by simp; omega)).trans (Below.heap_alloc _ _ _ hj)
      have hsz : wr.heap.size ≤ w3.heap.size := Nat.le_trans (by simp) hb3.size
      have hb4 : Below w.heap.size w w3 := (HB2.out _).trans (hb3.mono (HB2.out _).size)
      have hfr2 : ∀ ad, A' = some ad → w.heap.size + 1 ≤ ad.block := fun ad h => by have := hfr ad h; have := HS1.out; simp at *; omega
      have hor3 := own_block HOR.out (fun j hj => by cases hj; exact hkeep _ HS1.out)
      have HX := Lib.hid (⟨hkeep, hsz, hb4, hfr2, hA', hmc2, hor3⟩ : _ ∧ _ ∧ _ ∧ _ ∧ _ ∧ _ ∧ _)
      obtain ⟨x0, y0⟩ := own_cell hor3 (k * 8) (by omega)
      obtain ⟨x1, y1⟩ := own_cell hor3 (k * 8 + 1) (by omega)
      obtain ⟨x2, y2⟩ := own_cell hor3 (k * 8 + 2) (by omega)
      obtain ⟨x3, y3⟩ := own_cell hor3 (k * 8 + 3) (by omega)
      obtain ⟨x4, y4⟩ := own_cell hor3 (k * 8 + 4) (by omega)
      obtain ⟨x5, y5⟩ := own_cell hor3 (k * 8 + 5) (by omega)
      obtain ⟨x6, y6⟩ := own_cell hor3 (k * 8 + 6) (by omega)
      obtain ⟨x7, y7⟩ := own_cell hor3 (k * 8 + 7) (by omega)
      have z := fun j => hor3.frozenAt j
      clear hkeep hsz hb4 hfr hfr2 hb3 hA' hor3 hmc2
      go_wp2_with fail
      obtain ⟨hkeep, hsz, hb4, hfr2, hA', hmc2, hor3⟩ := HX.out
      have hlen : cs.length = evs.length * 8 := by have := HOR.out.1; have := HN.out; omega
      have hstep := HROW.out.step (w' := setC w3 w.heap.size (k * 8) (evL evs[k] A' m c2)) hlen hkl (by rw [setC_size]; exact hsz) (fun j h1 h2 => by rw [setC_far _ _ _ _ _ (by omega)]; exact hkeep j h2) A' m c2 hmc2 (hA'.keep (by rw [setC_size]; exact Nat.le_refl _) (fun j o' e hlt => setC_far _ _ _ _ _ (by have := hfr2 _ e; simp only at this; omega))) hfr2
      have hown' := setC_own (evL evs[k] A' m c2) w3 cs (k * 8) hor3
      have hbelow' := setC_below (evL evs[k] A' m c2) w3 w.heap.size (k * 8) (Nat.le_refl _) hb4
      go_roundw
      case rel => exact ⟨k + 1, setL cs (k * 8) (evL evs[k] A' m c2), by go_num, by omega, hbelow', hown', hstep⟩
      case measure => simp [intOf]; omega
    · have hk2 : k = n := by omega
      subst hk2
      go_wp2_with fail
      go_ret
      exact ⟨cs, rfl, hor, hrow, hbr⟩
end Go.Proofs.YtopfbngdbhofkaaGreatDoor

/-
  A check of events in memory, and what a call turns of it.
-/
namespace Go.Proofs.YtopfbngdbhofkaaGreatDoor
open Go.RowKit

/-- what a check keeps of an open element -/
def ckRow (x : Int × Int × List UInt8) : List Value := [.int .i64 0, .int .i64 x.1, .int .i64 x.2.1, .string (strL x.2.2), .slice none 0 0, .string ⟨#[]⟩, .int .i64 0, .int .i64 0]
def ckC (l : List (Int × Int × List UInt8)) : List Value := l.reverse.flatMap ckRow
theorem ckC_cons (x : Int × Int × List UInt8) (l : List (Int × Int × List UInt8)) : ckC (x :: l) = ckC l ++ ckRow x := by
  unfold ckC
  rw [List.reverse_cons, List.flatMap_append]
  simp
theorem ckC_length (l : List (Int × Int × List UInt8)) : (ckC l).length = l.length * 8 := by
  induction l with
  | nil => rfl
  | cons x l ih => rw [ckC_cons, List.length_append, ih, List.length_cons]; show _ + 8 = _; omega
theorem ckC_top (x : Int × Int × List UInt8) (l : List (Int × Int × List UInt8)) (j : Nat) (hj : j < 8) : (ckC (x :: l))[l.length * 8 + j]? = (ckRow x)[j]? := by
  rw [ckC_cons, ← ckC_length, List.getElem?_append_right (by omega), Nat.add_sub_cancel_left]
theorem ckRow_one (x : Int × Int × List UInt8) : ∀ u ∈ ckRow x, u.oneCell' = true := by
  intro u hu
  unfold ckRow at hu
  simp only [List.mem_cons, List.not_mem_nil, or_false] at hu
  rcases hu with rfl | rfl | rfl | rfl | rfl | rfl | rfl | rfl <;> rfl
/-- a check at block cb, its row of open elements is v, from block R on -/
structure Chk (w : World) (R cb : Nat) (v : Value) (s : BegS) : Prop where
  lt : cb < R
  le : R ≤ w.heap.size
  at' : w.heap[cb]? = some (.cells #[v, .int .i64 s.next, .bool s.text, .bool (decide (s.opn = [] ∧ s.cnt ≠ 0))] 66 (0, 0))
  own : w.ownsRow R 50 8 v s.opn.length (ckC s.opn)
  fst : s.cnt = 0 → s.next = 0
  sm : s.opn.length ≤ 1048576 ∧ 0 ≤ s.next ∧ s.next ≤ 1048576
/-- nothing has turned but block cb and the row v, which is v' now -/
structure Moved (cb : Nat) (v v' : Value) (w w' : World) : Prop where
  os : w'.os = w.os
  tape : w'.tape = w.tape
  output : w'.output = w.output
  size : w.heap.size ≤ w'.heap.size
  block : ∀ k, k < w.heap.size → k ≠ cb → v.ownBlock ≠ some k → w'.heap[k]? = w.heap[k]?
  own : v'.ownBlock = v.ownBlock ∨ ∀ k, v'.ownBlock = some k → w.heap.size ≤ k
theorem Moved.of {cb : Nat} {v : Value} {w w' : World} (h : Below w.heap.size w w') : Moved cb v v w w' := ⟨h.os, h.tape, h.output, h.size, fun k hk _ _ => h.block k hk, .inl rfl⟩
theorem Moved.trans {cb : Nat} {v1 v2 v3 : Value} {a b c : World} (h : Moved cb v1 v2 a b) (k : Moved cb v2 v3 b c) : Moved cb v1 v3 a c := by
  refine ⟨k.os.trans h.os, k.tape.trans h.tape, k.output.trans h.output, Nat.le_trans h.size k.size, fun i h1 h2 h3 => ?_, ?_⟩
  · refine (k.block i (Nat.lt_of_lt_of_le h1 h.size) h2 (fun e => ?_)).trans (h.block i h1 h2 h3)
    rcases h.own with ho | ho
    · rw [ho] at e; exact h3 e
    · have := ho i e; omega
  · rcases k.own with ho | ho
    · rw [ho]; exact h.own
    · exact .inr fun i hi => Nat.le_trans h.size (ho i hi)
theorem Moved.set {cb : Nat} {v v' : Value} {w w' : World} (h : Moved cb v v' w w') (i : Nat) (u : Value) : Moved cb v v' w (w'.setCell ⟨cb, i, none⟩ u) :=
  ⟨h.os, h.tape, h.output, by simp [World.setCell]; exact h.size, fun k h1 h2 h3 => (Below.heap_setCell _ _ _ _ h2).trans (h.block k h1 h2 h3), h.own⟩
theorem Moved.app {cb : Nat} {v v' : Value} {w w' : World} (h : App w w' v v') : Moved cb v v' w w' :=
  ⟨h.grown.os, h.grown.tape, h.grown.output, h.grown.size, fun k h1 _ h3 => h.keep h1 h3, by
    rcases h.own with e | ⟨g, e, hg⟩
    · exact .inl e
    · exact .inr fun k hk => by rw [e] at hk; cases hk; exact hg⟩
theorem Moved.drewN {cb : Nat} {v v' : Value} {w w' : World} (h : Moved cb v v' w w') (n : Nat) : Moved cb v v' w (w'.drewN n) := ⟨h.os, h.tape, h.output, h.size, h.block, h.own⟩
theorem Moved.below {cb B : Nat} {v v' : Value} {w w' : World} (h : Moved cb v v' w w') (h1 : B ≤ cb) (h2 : B ≤ w.heap.size) (h3 : ∀ k, v.ownBlock = some k → B ≤ k) : Below B w w' :=
  ⟨h.os, h.tape, h.output, h.size, fun k hk => h.block k (by omega) (by omega) (fun e => by have := h3 k e; omega)⟩
theorem Chk.keep {w w' : World} {R cb : Nat} {v : Value} {s : BegS} (h : Chk w R cb v s) (hs : w.heap.size ≤ w'.heap.size) (h1 : w'.heap[cb]? = w.heap[cb]?) (h2 : ∀ k, R ≤ k → k < w.heap.size → v.ownBlock = some k → w'.heap[k]? = w.heap[k]?) : Chk w' R cb v s :=
  ⟨h.lt, Nat.le_trans h.le hs, h1.trans h.at', own_block h.own (fun k hk => h2 k (h.own.lt k hk).1 (h.own.lt k hk).2 hk), h.fst, h.sm⟩
theorem Chk.below {w w' : World} {R cb : Nat} {v : Value} {s : BegS} (h : Chk w R cb v s) (hb : Below w.heap.size w w') : Chk w' R cb v s :=
  h.keep hb.size (hb.block cb (Nat.lt_of_lt_of_le h.lt h.le)) (fun k _ hk _ => hb.block k hk)
/-- append of one element in a region that draws -/
theorem step_app {P : Program} (w : World) {ops : Array Oper} {o : Oper} {a : Act} {K : Act → World → Prop} {Q : Exit → Act → World → Prop} {E : Prop} (hgd : o.guard = none) (s x : Operand) (t : TypeId)
    (ho : o.op = .call { callee := .builtin .append, args := #[s, x], argTypes := #[t, t] })
    (base : Nat) (e : TypeId) (i : TypeInfo) (z : Value) (size bytes : Nat) (ht : P.underlying t = some (.slice e)) (hi : P.info? e = some i) (hz : i.zero = some z)
    (hsize : i.size = size) (hby : i.bytes = bytes) (hzs : z.cells.size = size) (hsz : 0 < size)
    (v : Value) (n : Nat) (xs : List Value) (hs : a.eval s = v) (hown : w.ownsRow base e size v n xs)
    (H : Nat) (c : Nat) (news : List Value) (hx : a.eval x = .slice (some ⟨H, 0, none⟩) 1 c) (hl : news.length = size) (hc : w.heap[H]? = some (.cells news.toArray e (0, 0))) (h1 : ∀ u ∈ news, u.oneCell' = true)
    (hn : n + 1 ≤ 4294967296) (hbb : bytes ≤ 16384) (hbase : base ≤ w.heap.size)
    (h : ∀ v' w', w'.ownsRow base e size v' (n + 1) (xs ++ news) → App w w' v v' → K (a.put o.dst v') w') :
    if Region.wanted o (yielded ops a.tmps) = true then Oper.wp P o a w K Q else E := by
  have hw : Region.wanted o (yielded ops a.tmps) = true := by simp [Region.wanted, hgd]
  rw [if_pos hw]
  have hb : (n + 1) * bytes ≤ 140737488355328 := Nat.le_trans (Nat.mul_le_mul hn hbb) (by decide)
  obtain ⟨v', w', hr, h2, h3, _, h5⟩ := run_append_own_at (P := P) w base t o.type e i z size bytes ht hi hz hsize hby hzs hsz v n xs hown ⟨H, 0, none⟩ 1 c news (by omega) (fun j u hj => by rw [show (⟨H, 0, none⟩ : Addr).add j = ⟨H, j, none⟩ by rw [add_cell, Nat.zero_add], cell_heap hc]; simpa using hj) h1 (by unfold maxLen; omega) hb hbase
  unfold Oper.wp execOp
  simp only [ho, resolve, invoke, builtin, Sem.run_bind, Sem.run_pure, Result.andThen_ok, List.map_toArray, List.map_cons, List.map_nil, hs, hx, hr]
  refine h v' w' h2 ⟨h3, ?_⟩
  rcases h5 with h5 | h5
  · exact .inl h5
  · exact .inr ⟨_, h5, Nat.le_refl _⟩
end Go.Proofs.YtopfbngdbhofkaaGreatDoor

/-
  A tree in the making: what lies in memory behind each event.
-/
namespace Go.Proofs.YtopfbngdbhofkaaGreatDoor
open Go.RowKit

/-- a node's cells -/
def ndL (e : Ev) (x : Nd) (A : Option Addr) (m c : Nat) : List Value := evL e A m c ++ [.int .i64 x.par, .int .i64 x.last, .int .i64 x.pos, .int .i64 x.fin]
theorem ndL_length (e : Ev) (x : Nd) (A : Option Addr) (m c : Nat) : (ndL e x A m c).length = 12 := rfl
theorem ndL_one (e : Ev) (x : Nd) (A : Option Addr) (m c : Nat) : ∀ u ∈ ndL e x A m c, u.oneCell' = true := by
  intro u hu
  unfold ndL evL evC at hu
  simp only [List.cons_append, List.nil_append, List.mem_cons, List.not_mem_nil, or_false] at hu
  rcases hu with rfl | rfl | rfl | rfl | rfl | rfl | rfl | rfl | rfl | rfl | rfl | rfl <;> rfl
/-- the nodes' cells; the events' attributes lie as they lie in world wc, behind block cb -/
def NdRow (wc : World) (cb : Nat) (evs : List Ev) (nds : List Nd) (ncs : List Value) : Prop :=
  ∀ i x, nds[i]? = some x → ∃ (e : Ev) (A : Option Addr) (m c : Nat), evs[x.pos]? = some e ∧ m ≤ c ∧ AttrsAt wc A m e.ats ∧ (∀ ad, A = some ad → cb < ad.block) ∧ ∀ j, j < 12 → ncs[i * 12 + j]? = (ndL e x A m c)[j]?
theorem NdRow.push {wc : World} {cb : Nat} {evs : List Ev} {nds : List Nd} {ncs : List Value} (h : NdRow wc cb evs nds ncs) (hl : ncs.length = nds.length * 12) (x : Nd) (e : Ev) (A : Option Addr) (m c : Nat)
    (h1 : evs[x.pos]? = some e) (h2 : m ≤ c) (h3 : AttrsAt wc A m e.ats) (h4 : ∀ ad, A = some ad → cb < ad.block) : NdRow wc cb evs (nds ++ [x]) (ncs ++ ndL e x A m c) := by
  intro i y hy
  rcases snoc_get hy with ⟨hi, hy⟩ | ⟨hi, rfl⟩
  · obtain ⟨e', A', m', c', g1, g2, g3, g4, g5⟩ := h i y hy
    exact ⟨e', A', m', c', g1, g2, g3, g4, fun j hj => by rw [List.getElem?_append_left (by omega)]; exact g5 j hj⟩
  · exact ⟨e, A, m, c, h1, h2, h3, h4, fun j hj => by rw [List.getElem?_append_right (by omega), show i * 12 + j - ncs.length = j by omega]⟩
theorem NdRow.close {wc : World} {cb : Nat} {evs : List Ev} {nds : List Nd} {ncs : List Value} (h : NdRow wc cb evs nds ncs) (hl : ncs.length = nds.length * 12) (k : Nat) (hk : k < nds.length) (la : Int) (fi : Nat) :
    NdRow wc cb evs (nds.modify k (fun x => ⟨x.pos, x.par, la, fi⟩)) ((ncs.set (k * 12 + 9) (.int .i64 la)).set (k * 12 + 11) (.int .i64 fi)) := by
  intro i y hy
  rw [List.getElem?_modify] at hy
  cases hx : nds[i]? with
  | none => rw [hx] at hy; simp at hy
  | some x =>
    rw [hx] at hy
    obtain ⟨e', A', m', c', g1, g2, g3, g4, g5⟩ := h i x hx
    by_cases hik : k = i
    · subst hik
      simp at hy
      subst hy
      refine ⟨e', A', m', c', g1, g2, g3, g4, fun j hj => ?_⟩
      rw [List.getElem?_set, List.getElem?_set]
      have h11 := g5 j hj
      simp only [List.length_set]
      by_cases j11 : j = 11
      · subst j11
        rw [if_pos rfl, if_pos (by omega)]; rfl
      · rw [if_neg (by omega)]
        by_cases j9 : j = 9
        · subst j9
          rw [if_pos rfl, if_pos (by omega)]; rfl
        · rw [if_neg (by omega), h11]
          match j, hj, j11, j9 with
          | 0, _, _, _ => rfl
          | 1, _, _, _ => rfl
          | 2, _, _, _ => rfl
          | 3, _, _, _ => rfl
          | 4, _, _, _ => rfl
          | 5, _, _, _ => rfl
          | 6, _, _, _ => rfl
          | 7, _, _, _ => rfl
          | 8, _, _, _ => rfl
          | 10, _, _, _ => rfl
          | j + 12, h, _, _ => exact absurd h (by omega)
    · simp [hik] at hy
      subst hy
      refine ⟨e', A', m', c', g1, g2, g3, g4, fun j hj => ?_⟩
      rw [List.getElem?_set, List.getElem?_set, if_neg (by omega), if_neg (by omega)]
      exact g5 j hj
/-- the numbers of the open elements, the root above first -/
def opC (l : List (Int × Int × List UInt8)) : List Value := .int .i64 (-1) :: (l.reverse.map fun x => .int .i64 x.1)
theorem opC_cons (x : Int × Int × List UInt8) (l : List (Int × Int × List UInt8)) : opC (x :: l) = opC l ++ [.int .i64 x.1] := by simp [opC]
theorem opC_length (l : List (Int × Int × List UInt8)) : (opC l).length = l.length + 1 := by simp [opC]
theorem opC_top (l : List (Int × Int × List UInt8)) : (opC l)[l.length]? = some (.int .i64 ((l.head?.map (·.1)).getD (-1))) := by
  cases l with
  | nil => rfl
  | cons x r => rw [opC_cons, List.length_cons, ← opC_length]; simp
/-- two rows of different kinds are not one -/
theorem own_ne {w : World} {B B' n n' size size' : Nat} {e e' : TypeId} {v v' : Value} {xs xs' : List Value} (h : w.ownsRow B e size v n xs) (h' : w.ownsRow B' e' size' v' n' xs') (he : e ≠ e') : ∀ k, v.ownBlock = some k → v'.ownBlock ≠ some k := by
  intro k hk hk'
  rcases h.2 with ⟨rfl, _⟩ | ⟨g, cap, cur, rfl, _, hg, _⟩
  · cases hk
  · cases hk
    rcases h'.2 with ⟨rfl, _⟩ | ⟨g', cap', cur', rfl, _, hg', _⟩
    · cases hk'
    · cases hk'
      rw [hg] at hg'
      cases hg'
      exact he rfl
theorem own_not {w : World} {B n size k : Nat} {e e' : TypeId} {v : Value} {xs : List Value} {c : Array Value} {fz : Nat × Nat} (h : w.ownsRow B e size v n xs) (hk : w.heap[k]? = some (.cells c e' fz)) (he : e ≠ e') : v.ownBlock ≠ some k := by
  intro e
  rcases h.2 with ⟨rfl, _⟩ | ⟨g, cap, cur, rfl, _, hg, _⟩
  · cases e
  · cases e
    rw [hk] at hg
    cases hg
    exact he rfl
theorem beg_le : ∀ (l : List Ev) (s t : BegS), begAll s l = some t → t.opn.length ≤ s.opn.length + l.length ∧ t.next ≤ s.next + l.length ∧ s.next ≤ t.next ∧ t.cnt = s.cnt + l.length := by
  intro l
  induction l with
  | nil => intro s t h; simp only [begAll, Option.some.injEq] at h; subst h; simp
  | cons e l ih =>
    intro s t h
    unfold begAll at h
    split at h
    · have := ih _ _ h
      have h1 : (begNext s e).opn.length ≤ s.opn.length + 1 := by
        unfold begNext
        simp only
        split
        · simp
        · split
          · simp; omega
          · omega
      have h2 : (begNext s e).next ≤ s.next + 1 ∧ s.next ≤ (begNext s e).next := by
        unfold begNext
        simp only
        split <;> omega
      have h3 : (begNext s e).cnt = s.cnt + 1 := rfl
      simp only [List.length_cons]
      omega
    · cases h
/-- a tree in the making: cb the check (of state sC), s the state whose open elements the walk keeps; wc the world in which the events had been copied, to block ge -/
structure BInv (wc : World) (cb ge n : Nat) (evs : List Ev) (sC s : BegS) (nds : List Nd) (vC vN vO : Value) (W : World) : Prop where
  os : W.os = wc.os
  tape : W.tape = wc.tape
  output : W.output = wc.output
  size : wc.heap.size + 2 ≤ W.heap.size
  block : ∀ j, j < wc.heap.size → j ≠ cb → W.heap[j]? = wc.heap[j]?
  chk : Chk W (wc.heap.size + 2) cb vC sC
  tree : W.heap[wc.heap.size]? = some (.cells #[.slice (some ⟨ge, 0, none⟩) n n, vN] 69 (0, 0))
  nds' : ∃ ncs, W.ownsRow (wc.heap.size + 2) 73 12 vN nds.length ncs ∧ NdRow wc cb evs nds ncs
  opn : W.ownsRow (wc.heap.size + 1) 3 1 vO (s.opn.length + 1) (opC s.opn)
variable {wc W W' : World} {cb ge n : Nat} {evs : List Ev} {sC sC' s s' : BegS} {nds nds' : List Nd} {vC vC' vN vN' vO vO' : Value}
theorem BInv.ne (h : BInv wc cb ge n evs sC s nds vC vN vO W) (hcb : cb < wc.heap.size) :
    (∀ k, vC.ownBlock = some k → wc.heap.size + 2 ≤ k ∧ k < W.heap.size) ∧ (∀ k, vN.ownBlock = some k → wc.heap.size + 2 ≤ k ∧ k < W.heap.size) ∧ (∀ k, vO.ownBlock = some k → wc.heap.size + 1 ≤ k ∧ k < W.heap.size) ∧
    (∀ k, vC.ownBlock = some k → vN.ownBlock ≠ some k ∧ vO.ownBlock ≠ some k) ∧ (∀ k, vN.ownBlock = some k → vO.ownBlock ≠ some k) ∧ cb < W.heap.size ∧ wc.heap.size < W.heap.size := by
  obtain ⟨ncs, hn, _⟩ := h.nds'
  have hs := h.size
  exact ⟨fun k hk => h.chk.own.lt k hk, fun k hk => hn.lt k hk, fun k hk => h.opn.lt k hk, fun k hk => ⟨own_ne h.chk.own hn (by decide) k hk, own_ne h.chk.own h.opn (by decide) k hk⟩, fun k hk => own_ne hn h.opn (by decide) k hk, by omega, by omega⟩
theorem BInv.below (h : BInv wc cb ge n evs sC s nds vC vN vO W) (hcb : cb < wc.heap.size) (hb : Below W.heap.size W W') : BInv wc cb ge n evs sC s nds vC vN vO W' := by
  obtain ⟨a1, a2, a3, a4, a5, a6, a7⟩ := h.ne hcb
  obtain ⟨ncs, hn, hr⟩ := h.nds'
  exact ⟨hb.os.trans h.os, hb.tape.trans h.tape, hb.output.trans h.output, Nat.le_trans h.size hb.size, fun j h1 h2 => (hb.block j (by omega)).trans (h.block j h1 h2), h.chk.below hb, (hb.block _ a7).trans h.tree,
    ⟨ncs, own_block hn (fun k hk => hb.block k (a2 k hk).2), hr⟩, own_block h.opn (fun k hk => hb.block k (a3 k hk).2)⟩
theorem BInv.take (h : BInv wc cb ge n evs sC s nds vC vN vO W) (hcb : cb < wc.heap.size) (hm : Moved cb vC vC' W W') (hc : Chk W' (wc.heap.size + 2) cb vC' sC') : BInv wc cb ge n evs sC' s nds vC' vN vO W' := by
  obtain ⟨a1, a2, a3, a4, a5, a6, a7⟩ := h.ne hcb
  obtain ⟨ncs, hn, hr⟩ := h.nds'
  refine ⟨hm.os.trans h.os, hm.tape.trans h.tape, hm.output.trans h.output, Nat.le_trans h.size hm.size, fun j h1 h2 => (hm.block j (by omega) h2 (fun e => by have := a1 j e; omega)).trans (h.block j h1 h2), hc, (hm.block _ a7 (by omega) (fun e => by have := a1 _ e; omega)).trans h.tree,
    ⟨ncs, own_block hn (fun k hk => hm.block k (a2 k hk).2 (fun e => by have := a2 k hk; omega) (fun e => (a4 k e).1 hk)), hr⟩, own_block h.opn (fun k hk => hm.block k (a3 k hk).2 (fun e => by have := a3 k hk; omega) (fun e => (a4 k e).2 hk))⟩
theorem BInv.node (h : BInv wc cb ge n evs sC s nds vC vN vO W) (hcb : cb < wc.heap.size) (hm : Moved wc.heap.size vN vN' W W') (ht : W'.heap[wc.heap.size]? = some (.cells #[.slice (some ⟨ge, 0, none⟩) n n, vN'] 69 (0, 0)))
    (hn' : ∃ ncs, W'.ownsRow (wc.heap.size + 2) 73 12 vN' nds'.length ncs ∧ NdRow wc cb evs nds' ncs) : BInv wc cb ge n evs sC s nds' vC vN' vO W' := by
  obtain ⟨a1, a2, a3, a4, a5, a6, a7⟩ := h.ne hcb
  refine ⟨hm.os.trans h.os, hm.tape.trans h.tape, hm.output.trans h.output, Nat.le_trans h.size hm.size, fun j h1 h2 => (hm.block j (by omega) (by omega) (fun e => by have := a2 j e; omega)).trans (h.block j h1 h2), ?_, ht, hn',
    own_block h.opn (fun k hk => hm.block k (a3 k hk).2 (fun e => by have := a3 k hk; omega) (fun e => a5 k e hk))⟩
  exact h.chk.keep hm.size (hm.block cb a6 (by omega) (fun e => by have := a2 _ e; omega)) (fun k h1 h2 hk => hm.block k h2 (by omega) (fun e => (a4 k hk).1 e))
theorem BInv.open' (h : BInv wc cb ge n evs sC s nds vC vN vO W) (hcb : cb < wc.heap.size) (hm : Moved W.heap.size vO vO' W W') (ho : W'.ownsRow (wc.heap.size + 1) 3 1 vO' (s'.opn.length + 1) (opC s'.opn)) : BInv wc cb ge n evs sC s' nds vC vN vO' W' := by
  obtain ⟨a1, a2, a3, a4, a5, a6, a7⟩ := h.ne hcb
  obtain ⟨ncs, hn, hr⟩ := h.nds'
  refine ⟨hm.os.trans h.os, hm.tape.trans h.tape, hm.output.trans h.output, Nat.le_trans h.size hm.size, fun j h1 h2 => (hm.block j (by omega) (by omega) (fun e => by have := a3 j e; omega)).trans (h.block j h1 h2), ?_, (hm.block _ a7 (by omega) (fun e => by have := a3 _ e; omega)).trans h.tree,
    ⟨ncs, own_block hn (fun k hk => hm.block k (a2 k hk).2 (by have := a2 k hk; omega) (fun e => a5 k hk e)), hr⟩, ho⟩
  exact h.chk.keep hm.size (hm.block cb a6 (by omega) (fun e => by have := a3 _ e; omega)) (fun k h1 h2 hk => hm.block k h2 (by omega) (fun e => (a4 k hk).2 e))
theorem Moved.setOwn {x g : Nat} {v v' : Value} {w w' : World} (h : Moved x v v' w w') (hv : v.ownBlock = some g) (i : Nat) (u : Value) : Moved x v v' w (w'.setCell ⟨g, i, none⟩ u) :=
  ⟨h.os, h.tape, h.output, by simp [World.setCell]; exact h.size, fun k h1 h2 h3 => (Below.heap_setCell _ _ _ _ (fun e => h3 (by rw [hv]; exact congrArg some e.symm))).trans (h.block k h1 h2 h3), h.own⟩
/-- copied events in a world that keeps all blocks but one -/
theorem EvRow.at8 {w W : World} {cb ge B n : Nat} {evs : List Ev} {cs : List Value} (ho : w.ownsRow B 50 8 (.slice (some ⟨ge, 0, none⟩) n n) n cs) (h : EvRow w (ge + 1) n evs cs) (hn : n = evs.length) (i : Nat) (hi : i < n) (hcb : cb < ge) (hW : ∀ j, j < w.heap.size → j ≠ cb → W.heap[j]? = w.heap[j]?) :
    ∃ (e : Ev) (A : Option Addr) (m c : Nat), evs[i]? = some e ∧ m ≤ c ∧ AttrsAt w A m e.ats ∧ (∀ ad, A = some ad → cb < ad.block) ∧
      W.cell? ⟨ge, i * 8, none⟩ = some (.int .i64 e.kind) ∧ W.cell? ⟨ge, i * 8 + 1, none⟩ = some (.int .i64 e.num) ∧ W.cell? ⟨ge, i * 8 + 2, none⟩ = some (.int .i64 e.dep) ∧ W.cell? ⟨ge, i * 8 + 3, none⟩ = some (.string (strL e.name)) ∧
      W.cell? ⟨ge, i * 8 + 4, none⟩ = some (.slice A m c) ∧ W.cell? ⟨ge, i * 8 + 5, none⟩ = some (.string (strL e.text)) ∧ W.cell? ⟨ge, i * 8 + 6, none⟩ = some (.int .i64 e.fr) ∧ W.cell? ⟨ge, i * 8 + 7, none⟩ = some (.int .i64 e.tt) := by
  obtain ⟨A, m, c, hmc, hA, hfr, hc⟩ := h i (by omega) hi
  have hg := (ho.lt ge rfl).2
  have hk := hW ge hg (by omega)
  have hcell : ∀ j, j < 8 → W.cell? ⟨ge, i * 8 + j, none⟩ = (evL evs[i] A m c)[j]? := fun j hj => by
    have e1 : W.cell? ⟨ge, i * 8 + j, none⟩ = w.cell? ⟨ge, i * 8 + j, none⟩ := by simp only [World.cell?, hk]
    rw [e1, ho.cellAt _ (by omega), hc j hj]
  exact ⟨evs[i], A, m, c, List.getElem?_eq_getElem (by omega), hmc, hA, fun ad h => by have := hfr ad h; omega, hcell 0 (by decide), hcell 1 (by decide), hcell 2 (by decide), hcell 3 (by decide), hcell 4 (by decide), hcell 5 (by decide), hcell 6 (by decide), hcell 7 (by decide)⟩
end Go.Proofs.YtopfbngdbhofkaaGreatDoor
