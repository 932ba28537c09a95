/-
  gimletref22 in memory; find, Comes, Held, Waiting.
-/
import Derived.Test.YtmnloeolacmemaaGreatWpQ
import Derived.Test.YtmnloeolacmemaaGreatWpR
namespace Go.Proofs.YtmnloeolacmemaaGreat
open Go.RowKit

/-- an event of the answer's, and where its attributes lie -/
structure ER where
  e : Ev
  A : Option Addr
  m : Nat
  c : Nat
def evRow (l : List ER) : List Value := l.flatMap fun r => evL r.e r.A r.m r.c
def rnV (l : List RNd) : List Value := l.flatMap fun r => [.int .i64 r.num, .int .i64 r.frm, .int .i64 r.truth, .int .i64 (r.bgn : Nat), .int .i64 (r.fin : Nat)]
def natsV (l : List Nat) : List Value := l.map fun i => .int .i64 (i : Nat)
theorem evL_len (e : Ev) (A : Option Addr) (m c : Nat) : (evL e A m c).length = 8 := rfl
theorem evRow_len (l : List ER) : (evRow l).length = l.length * 8 := by
  induction l with
  | nil => rfl
  | cons a l ih => unfold evRow at *; rw [List.flatMap_cons, List.length_append, ih, evL_len, List.length_cons]; omega
theorem rnV_len (l : List RNd) : (rnV l).length = l.length * 5 := by
  induction l with
  | nil => rfl
  | cons a l ih => unfold rnV at *; rw [List.flatMap_cons, List.length_append, ih]; simp; omega
theorem evRow_at (l : List ER) (i : Nat) (h : i < l.length) (j : Nat) (hj : j < 8) : (evRow l)[i * 8 + j]? = (evL l[i].e l[i].A l[i].m l[i].c)[j]? := by
  have h1 : l = l.take i ++ l[i] :: l.drop (i + 1) := by rw [← List.drop_eq_getElem_cons h, List.take_append_drop]
  have h2 : evRow l = evRow (l.take i) ++ (evL l[i].e l[i].A l[i].m l[i].c ++ evRow (l.drop (i + 1))) := by
    refine (congrArg evRow h1).trans ?_
    simp only [evRow, List.flatMap_append, List.flatMap_cons]
  have h3 : (evRow (l.take i)).length = i * 8 := by rw [evRow_len, List.length_take]; omega
  rw [h2, List.getElem?_append_right (by omega), h3, Nat.add_sub_cancel_left, List.getElem?_append_left (by rw [evL_len]; exact hj)]
theorem rnV_at (l : List RNd) (i : Nat) (h : i < l.length) (j : Nat) (hj : j < 5) : (rnV l)[i * 5 + j]? = ([.int .i64 l[i].num, .int .i64 l[i].frm, .int .i64 l[i].truth, .int .i64 (l[i].bgn : Nat), .int .i64 (l[i].fin : Nat)] : List Value)[j]? := by
  have h1 : l = l.take i ++ l[i] :: l.drop (i + 1) := by rw [← List.drop_eq_getElem_cons h, List.take_append_drop]
  have h2 : rnV l = rnV (l.take i) ++ ([.int .i64 l[i].num, .int .i64 l[i].frm, .int .i64 l[i].truth, .int .i64 (l[i].bgn : Nat), .int .i64 (l[i].fin : Nat)] ++ rnV (l.drop (i + 1))) := by
    refine (congrArg rnV h1).trans ?_
    simp only [rnV, List.flatMap_append, List.flatMap_cons]
  have h3 : (rnV (l.take i)).length = i * 5 := by rw [rnV_len, List.length_take]; omega
  rw [h2, List.getElem?_append_right (by omega), h3, Nat.add_sub_cancel_left, List.getElem?_append_left (by simpa using hj)]
/-- the answer's Wait in block mb -/
structure RAt (C : Nat → Nat) (w : World) (mb : Nat) (ev ov nv : Value) (l : List ER) (m : RSt) : Prop where
  top : ∀ k, w.heap.size ≤ k → C k = 0
  blk : w.heap[mb]? = some (.cells #[ev, ov, .int .i64 m.next, .int .i64 m.last, .bool m.opened, nv] 31 (0, 0))
  cm : C mb = 7
  evs : QRow w 36 8 ev l.length (evRow l)
  ce : ∀ k, ev.ownBlock = some k → C k = 8
  opn : QRow w 3 1 ov m.opn.length (natsV m.opn)
  co : ∀ k, ov.ownBlock = some k → C k = 9
  nds : QRow w 80 5 nv m.nodes.length (rnV m.nodes)
  cn : ∀ k, nv.ownBlock = some k → C k = 10
  ats : ∀ r ∈ l, AttrsAt w r.A r.m r.e.ats ∧ r.m ≤ r.c ∧ (r.e.ats ≠ [] → ∀ ad, r.A = some ad → C ad.block = 0)
  evm : m.evs = l.map fun r => wOf r.e
section
variable {C C' : Nat → Nat} {w w' : World} {mb : Nat} {ev ov nv : Value} {l : List ER} {m : RSt}
theorem RAt.lt0 (h : RAt C w mb ev ov nv l m) {k : Nat} (hk : C k ≠ 0) : k < w.heap.size := by
  rcases Nat.lt_or_ge k w.heap.size with h1 | h1
  · exact h1
  · exact absurd (h.top k h1) hk
/-- attributes stay where their blocks, of no colour, stay -/
theorem ats_keep {A : Option Addr} {n : Nat} {ats : List (List UInt8 × List UInt8)} (h1 : AttrsAt w A n ats) (h3 : ats ≠ [] → ∀ ad, A = some ad → C ad.block = 0) (hp : Paint C C' w w') (hs : w.heap.size ≤ w'.heap.size) (hb : ∀ k, k < w.heap.size → C k = 0 → w'.heap[k]? = w.heap[k]?) :
    AttrsAt w' A n ats ∧ (ats ≠ [] → ∀ ad, A = some ad → C' ad.block = 0) := by
  refine ⟨⟨h1.1, fun i hi => ?_⟩, fun hne ad ha => ?_⟩
  · obtain ⟨b, o, e, hl, k1, k2⟩ := h1.2 i hi
    have hne : ats ≠ [] := fun e0 => by rw [e0] at hi; simp at hi
    have hbb := hb b hl (h3 hne _ e)
    exact ⟨b, o, e, Nat.lt_of_lt_of_le hl hs, (World.cell?_of_block (a := ⟨b, o + i * 2, none⟩) hbb).trans k1, (World.cell?_of_block (a := ⟨b, o + i * 2 + 1, none⟩) hbb).trans k2⟩
  · have hlen : 0 < ats.length := List.length_pos_iff.2 hne
    obtain ⟨b, o, e, hl, _⟩ := h1.2 0 hlen
    rw [ha] at e; injection e with e
    have := h3 hne ad ha
    rw [e] at this ⊢
    exact (hp.old b hl).trans this
theorem RAt.keepAts (h : RAt C w mb ev ov nv l m) (hp : Paint C C' w w') (hs : w.heap.size ≤ w'.heap.size) (hb : ∀ k, k < w.heap.size → C k = 0 → w'.heap[k]? = w.heap[k]?) : ∀ r ∈ l, AttrsAt w' r.A r.m r.e.ats ∧ r.m ≤ r.c ∧ (r.e.ats ≠ [] → ∀ ad, r.A = some ad → C' ad.block = 0) := by
  intro r hr
  obtain ⟨h1, h2, h3⟩ := h.ats r hr
  obtain ⟨k1, k2⟩ := ats_keep h1 h3 hp hs hb
  exact ⟨k1, h2, k2⟩
/-- a row of another colour stays -/
theorem RAt.keepQ (h : RAt C w mb ev ov nv l m) {e : TypeId} {sz n : Nat} {v : Value} {xs : List Value} {c : Nat} (hq : QRow w e sz v n xs) (hc : ∀ k, v.ownBlock = some k → C k = c) (hp : Paint C C' w w') (h0 : c ≠ 0) (hb : ∀ k, k < w.heap.size → C k = c → w'.heap[k]? = w.heap[k]?) :
    QRow w' e sz v n xs ∧ ∀ k, v.ownBlock = some k → C' k = c :=
  ⟨hq.keep (fun k hk => hb k (h.lt0 (by rw [hc k hk]; exact h0)) (hc k hk)), fun k hk => (hp.old k (h.lt0 (by rw [hc k hk]; exact h0))).trans (hc k hk)⟩
theorem RAt.turn8 (h : RAt C w mb ev ov nv l m) (hp : Paint C C' w w') (hs : w.heap.size ≤ w'.heap.size) (hb : ∀ j, j < w.heap.size → C j ≠ 7 → C j ≠ 8 → w'.heap[j]? = w.heap[j]?) {ev' : Value} {m' : RSt} {r : ER}
    (hblk : w'.heap[mb]? = some (.cells #[ev', ov, .int .i64 m'.next, .int .i64 m'.last, .bool m'.opened, nv] 31 (0, 0))) (hev : QRow w' 36 8 ev' (l.length + 1) (evRow l ++ evL r.e r.A r.m r.c)) (hce : ∀ k, ev'.ownBlock = some k → C' k = 8)
    (h1 : m'.opn = m.opn) (h2 : m'.nodes = m.nodes) (h3 : m'.evs = m.evs ++ [wOf r.e]) (har : AttrsAt w' r.A r.m r.e.ats ∧ r.m ≤ r.c ∧ (r.e.ats ≠ [] → ∀ ad, r.A = some ad → C' ad.block = 0)) : RAt C' w' mb ev' ov nv (l ++ [r]) m' := by
  have q9 := h.keepQ h.opn h.co hp (by decide) (fun k hk hc => hb k hk (by omega) (by omega))
  have q10 := h.keepQ h.nds h.cn hp (by decide) (fun k hk hc => hb k hk (by omega) (by omega))
  refine ⟨hp.top, hblk, (hp.old mb (h.lt0 (by rw [h.cm]; decide))).trans h.cm, ?_, hce, by rw [h1]; exact q9.1, q9.2, by rw [h2]; exact q10.1, q10.2, fun x hx => ?_, by rw [h3, h.evm, List.map_append]; rfl⟩
  · have e2 : evRow (l ++ [r]) = evRow l ++ evL r.e r.A r.m r.c := by simp [evRow]
    rw [List.length_append, e2]; exact hev
  · rcases List.mem_append.1 hx with hx | hx
    · exact h.keepAts hp hs (fun k hk hc => hb k hk (by omega) (by omega)) x hx
    · rw [List.mem_singleton.1 hx]; exact har
theorem RAt.turn9 (h : RAt C w mb ev ov nv l m) (hp : Paint C C' w w') (hs : w.heap.size ≤ w'.heap.size) (hb : ∀ j, j < w.heap.size → C j ≠ 7 → C j ≠ 9 → w'.heap[j]? = w.heap[j]?) {ov' : Value} {m' : RSt}
    (hblk : w'.heap[mb]? = some (.cells #[ev, ov', .int .i64 m'.next, .int .i64 m'.last, .bool m'.opened, nv] 31 (0, 0))) (ho : QRow w' 3 1 ov' m'.opn.length (natsV m'.opn)) (hco : ∀ k, ov'.ownBlock = some k → C' k = 9)
    (h2 : m'.nodes = m.nodes) (h3 : m'.evs = m.evs) : RAt C' w' mb ev ov' nv l m' := by
  have q8 := h.keepQ h.evs h.ce hp (by decide) (fun k hk hc => hb k hk (by omega) (by omega))
  have q10 := h.keepQ h.nds h.cn hp (by decide) (fun k hk hc => hb k hk (by omega) (by omega))
  exact ⟨hp.top, hblk, (hp.old mb (h.lt0 (by rw [h.cm]; decide))).trans h.cm, q8.1, q8.2, ho, hco, by rw [h2]; exact q10.1, q10.2, h.keepAts hp hs (fun k hk hc => hb k hk (by omega) (by omega)), by rw [h3]; exact h.evm⟩
theorem RAt.turn10 (h : RAt C w mb ev ov nv l m) (hp : Paint C C' w w') (hs : w.heap.size ≤ w'.heap.size) (hb : ∀ j, j < w.heap.size → C j ≠ 7 → C j ≠ 10 → w'.heap[j]? = w.heap[j]?) {nv' : Value} {m' : RSt}
    (hblk : w'.heap[mb]? = some (.cells #[ev, ov, .int .i64 m'.next, .int .i64 m'.last, .bool m'.opened, nv'] 31 (0, 0))) (hn : QRow w' 80 5 nv' m'.nodes.length (rnV m'.nodes)) (hcn : ∀ k, nv'.ownBlock = some k → C' k = 10)
    (h2 : m'.opn = m.opn) (h3 : m'.evs = m.evs) : RAt C' w' mb ev ov nv' l m' := by
  have q8 := h.keepQ h.evs h.ce hp (by decide) (fun k hk hc => hb k hk (by omega) (by omega))
  have q9 := h.keepQ h.opn h.co hp (by decide) (fun k hk hc => hb k hk (by omega) (by omega))
  exact ⟨hp.top, hblk, (hp.old mb (h.lt0 (by rw [h.cm]; decide))).trans h.cm, q8.1, q8.2, by rw [h2]; exact q9.1, q9.2, hn, hcn, h.keepAts hp hs (fun k hk hc => hb k hk (by omega) (by omega)), by rw [h3]; exact h.evm⟩
theorem RAt.keep (h : RAt C w mb ev ov nv l m) (hp : Paint C C' w w') (hs : w.heap.size ≤ w'.heap.size) (hb : ∀ j, j < w.heap.size → C j = 0 ∨ (7 ≤ C j ∧ C j < 11) → w'.heap[j]? = w.heap[j]?) : RAt C' w' mb ev ov nv l m := by
  have q9 := h.keepQ h.opn h.co hp (by decide) (fun k hk hc => hb k hk (by omega))
  have q10 := h.keepQ h.nds h.cn hp (by decide) (fun k hk hc => hb k hk (by omega))
  have q8 := h.keepQ h.evs h.ce hp (by decide) (fun k hk hc => hb k hk (by omega))
  exact ⟨hp.top, (hb mb (h.lt0 (by rw [h.cm]; decide)) (by rw [h.cm]; omega)).trans h.blk, (hp.old mb (h.lt0 (by rw [h.cm]; decide))).trans h.cm, q8.1, q8.2, q9.1, q9.2, q10.1, q10.2, h.keepAts hp hs (fun k hk hc => hb k hk (.inl hc)), h.evm⟩
theorem RAt.below (h : RAt C w mb ev ov nv l m) (hb : Below w.heap.size w w') : RAt C w' mb ev ov nv l m := h.keep (Paint.refl h.top hb.size) hb.size (fun j hj _ => hb.block j hj)
theorem RAt.mv (h : RAt C w mb ev ov nv l m) (hm : Mv C 1 7 w w') (hp : Paint C C' w w') : RAt C' w' mb ev ov nv l m := h.keep hp hm.size (fun j hj hc => hm.block j hj (by omega))
theorem RAt.eqv (h : RAt C w mb ev ov nv l m) {W : World} (hq : Eqv w W) : RAt C W mb ev ov nv l m := h.below hq.below
/-- a cell of the block -/
theorem RAt.setB (h : RAt C w mb ev ov nv l m) (i : Nat) (v : Value) (m' : RSt) (hblk : ∀ w' : World, w'.heap[mb]? = some (.cells ((#[ev, ov, .int .i64 m.next, .int .i64 m.last, .bool m.opened, nv] : Array Value).setIfInBounds i v) 31 (0, 0)) → w'.heap[mb]? = some (.cells #[ev, ov, .int .i64 m'.next, .int .i64 m'.last, .bool m'.opened, nv] 31 (0, 0)))
    (h1 : m'.opn = m.opn) (h2 : m'.nodes = m.nodes) (h3 : m'.evs = m.evs) : RAt C (w.setCell ⟨mb, i, none⟩ v) mb ev ov nv l m' ∧ Mv C 7 11 w (w.setCell ⟨mb, i, none⟩ v) := by
  have hsz : (w.setCell ⟨mb, i, none⟩ v).heap.size = w.heap.size := by simp [World.setCell]
  have ob : ∀ j, j < w.heap.size → C j ≠ 7 → (w.setCell ⟨mb, i, none⟩ v).heap[j]? = w.heap[j]? := fun j _ hc => Below.heap_setCell _ _ _ _ (fun e => hc (by have e' : j = mb := e; rw [e', h.cm]))
  refine ⟨h.turn9 (Paint.refl h.top (by omega)) (by omega) (fun j hj h7 _ => ob j hj h7) (hblk _ (setCell_heap h.blk v)) ?_ h.co h2 h3, (Mv.refl C 7 11 w).set (by rw [h.cm]; decide) i v⟩
  rw [h1]
  exact h.opn.keep (fun k hk => ob k (h.lt0 (by rw [h.co k hk]; decide)) (by rw [h.co k hk]; decide))
/-- behind an append to a row of the colour c0, ahead of the store -/
theorem RAt.appC (h : RAt C w mb ev ov nv l m) {o : Obj} {v v' : Value} (hap : App (w.alloc o) w' v v') (c0 : Nat) (hv : ∀ k, v.ownBlock = some k → C k = c0) (hc1 : 7 ≤ c0) (hc7 : c0 < 11) :
    (∀ j, j < w.heap.size → C j ≠ c0 → w'.heap[j]? = w.heap[j]?) ∧ Paint C (paint C w w' c0) w w' ∧ (∀ j, v'.ownBlock = some j → j < w'.heap.size → paint C w w' c0 j = c0) ∧ Mv C 7 11 w w' := by
  have hg := hap.grown
  have hs : w.heap.size ≤ w'.heap.size := Nat.le_trans (by simp) hg.size
  have hb : ∀ j, j < w.heap.size → C j ≠ c0 → w'.heap[j]? = w.heap[j]? := fun j hj hc => (hg.block j (by simp; omega) (fun e => hc (hv j e.symm))).trans (heap_alloc_old _ _ hj)
  refine ⟨hb, Paint.mk' c0 h.top hs, fun j hj hl => ?_, ⟨hg.os, hg.tape, hg.output, hs, fun j hj hn => hb j hj (fun e => hn (by omega))⟩⟩
  rcases hap.own with e | ⟨g, e, hge⟩
  · rw [e] at hj
    have := hv j hj
    rw [paint_old C w w' c0 (h.lt0 (by omega))]; exact this
  · rw [e] at hj; injection hj with hj
    simp at hge
    exact paint_new C w w' c0 (by omega) hl
theorem RAt.cells (h : RAt C w mb ev ov nv l m) : w.cell? ⟨mb, 0, none⟩ = some ev ∧ w.cell? ⟨mb, 1, none⟩ = some ov ∧ w.cell? ⟨mb, 2, none⟩ = some (.int .i64 m.next) ∧ w.cell? ⟨mb, 3, none⟩ = some (.int .i64 m.last) ∧ w.cell? ⟨mb, 4, none⟩ = some (.bool m.opened) ∧ w.cell? ⟨mb, 5, none⟩ = some nv := by
  simp only [cell_heap h.blk]
  exact ⟨rfl, rfl, rfl, rfl, rfl, rfl⟩
theorem RAt.froz (h : RAt C w mb ev ov nv l m) (i : Nat) : w.frozen? ⟨mb, i, none⟩ = false := frozen_heap h.blk
end
/-- the cells of a node of the answer's -/
theorem RAt.node5 {C : Nat → Nat} {w : World} {mb : Nat} {ev ov nv : Value} {l : List ER} {m : RSt} (h : RAt C w mb ev ov nv l m) : ∃ a c, nv = .slice a m.nodes.length c ∧ m.nodes.length ≤ c ∧ ∀ i (hi : i < m.nodes.length), ∃ g off, a = some ⟨g, off, none⟩ ∧ g < w.heap.size ∧ C g = 10 ∧ (∀ i, w.frozen? ⟨g, i, none⟩ = false) ∧
    w.cell? ⟨g, off + i * 5, none⟩ = some (.int .i64 m.nodes[i].num) ∧ w.cell? ⟨g, off + i * 5 + 1, none⟩ = some (.int .i64 m.nodes[i].frm) ∧ w.cell? ⟨g, off + i * 5 + 2, none⟩ = some (.int .i64 m.nodes[i].truth) ∧ w.cell? ⟨g, off + i * 5 + 3, none⟩ = some (.int .i64 (m.nodes[i].bgn : Nat)) ∧ w.cell? ⟨g, off + i * 5 + 4, none⟩ = some (.int .i64 (m.nodes[i].fin : Nat)) := by
  have hq := h.nds
  have hc := h.cn
  rcases Nat.eq_zero_or_pos m.nodes.length with hn | hn
  · have hq' := hq
    rw [hn] at hq'
    obtain ⟨a, c, rfl, h1⟩ := hq'.slice
    exact ⟨a, c, by rw [hn], by omega, fun i hi => by omega⟩
  · obtain ⟨k, hk⟩ : ∃ k, m.nodes.length = k + 1 := ⟨m.nodes.length - 1, by omega⟩
    have hq' := hq
    rw [hk] at hq'
    obtain ⟨g, off, c, rfl, h1, h2, h3, h4⟩ := hq'.here
    refine ⟨_, c, by rw [hk], by omega, fun i hi => ⟨g, off, rfl, h2, hc g rfl, h3, ?_⟩⟩
    have k5 := fun j (hj : j < 5) => rnV_at m.nodes i hi j hj
    have e0 := h4 (i * 5) _ (k5 0 (by decide))
    have e1 := h4 (i * 5 + 1) _ (k5 1 (by decide))
    have e2 := h4 (i * 5 + 2) _ (k5 2 (by decide))
    have e3 := h4 (i * 5 + 3) _ (k5 3 (by decide))
    have e4 := h4 (i * 5 + 4) _ (k5 4 (by decide))
    exact ⟨e0, e1, e2, e3, e4⟩
set_option maxRecDepth 1000000 in
set_option maxHeartbeats 4000000 in
theorem find_any {C : Nat → Nat} {w : World} {mb : Nat} {ev ov nv : Value} {l : List ER} {m : RSt} (h : RAt C w mb ev ov nv l m) (y : Int) (hl : m.nodes.length ≤ 1048576) :
    Calls Tryz.prog 25 #[.pointer (some ⟨mb, 0, none⟩), .int .i64 y] w fun r w' => ∃ k, r = .returned (.int .i64 k) ∧ RFound m.nodes y k ∧ w' = w := by
  obtain ⟨_, _, _, _, _, m5⟩ := h.cells
  obtain ⟨a, c, rfl, hc, hcell⟩ := h.node5
  obtain ⟨N, hN⟩ : ∃ N, m.nodes.length = N := ⟨_, rfl⟩
  rw [hN] at m5 hc hl
  have HC := Lib.hid hcell
  have HN := Lib.hid hN
  clear h hcell hN
  go_enter Tryz.func25, Tryz.ntmps25
  go_wp2_with fail
  go_loopw [5] (fun iv wr => ∃ i : Nat, iv = .int .i64 i ∧ i ≤ N ∧ wr = w ∧ Hid (∀ j, (hj : j < m.nodes.length) → j < i → m.nodes[j].num ≠ y)) (fun iv _ => N - (intOf iv).toNat)
  case atStart => exact ⟨0, rfl, Nat.zero_le _, by first | rfl | trivial, Lib.hid (fun j _ h => absurd h (Nat.not_lt_zero _))⟩
  case round =>
    obtain ⟨i, rfl, hi', rfl, HR⟩ := hrel
    by_cases hin : i < N
    · have hil : i < m.nodes.length := by rw [HN.out]; exact hin
      obtain ⟨g, off, rfl, _, _, _, k0, _⟩ := HC.out i hil
      have i1 : (0 : Int) ≤ (i : Int) := by omega
      have i2 : (i : Int) < (N : Int) := by omega
      have ew : IntKind.i64.wrap ((i : Int) + 1) = (i : Int) + 1 := IntWalk.i64_in _ (by omega)
      have HEQ : Hid (∀ z, m.nodes[i].num = z → z = m.nodes[i].num) := Lib.hid fun z h => h.symm
      by_cases hy : m.nodes[i].num = y
      · have HY := Lib.hid hy
        rw [hy] at k0
        clear hy HEQ
        go_wp2_with fail
        go_ret
        exact ⟨(i : Int), rfl, .inr ⟨i, hil, rfl, HY.out⟩, rfl⟩
      · have ht : (m.nodes[i].num == y) = false := by simp [hy]
        have HY := Lib.hid hy
        clear hy HEQ
        generalize hz : m.nodes[i].num = z at *
        have HZ := Lib.hid hz
        clear hz
        go_wp2_with fail
        go_roundw
        case rel =>
          refine ⟨i + 1, by go_num, by omega, by first | rfl | trivial, Lib.hid (fun j hj hji => ?_)⟩
          by_cases e : j = i
          · subst e; rw [HZ.out]; exact HY.out
          · exact HR.out j hj (by omega)
        case measure => simp [intOf]; omega
    · have hik : i = N := by omega
      subst hik
      go_wp2_with fail
      go_ret
      refine ⟨-1, rfl, .inl ⟨rfl, fun r hr => ?_⟩, rfl⟩
      obtain ⟨j, hj, rfl⟩ := List.getElem_of_mem hr
      exact HR.out j hj (by rw [← HN.out]; exact hj)
set_option maxRecDepth 1000000 in
set_option maxHeartbeats 4000000 in
theorem rheld_any {C : Nat → Nat} {w : World} {mb : Nat} {ev ov nv : Value} {l : List ER} {m : RSt} (h : RAt C w mb ev ov nv l m) (hl : m.nodes.length ≤ 1048576) :
    Calls Tryz.prog 16 #[.pointer (some ⟨mb, 0, none⟩)] w fun r w' => r = .returned (.int .i64 (IntKind.i64.wrap (rheld m))) ∧ Eqv w w' := by
  obtain ⟨_, _, _, m3, _, m5⟩ := h.cells
  obtain ⟨a, c, rfl, hc, hcell⟩ := h.node5
  obtain ⟨R, hR⟩ : ∃ R, IntKind.i64.wrap (rheld m) = R := ⟨_, rfl⟩
  rw [hR]
  cases hn : m.nodes with
  | nil =>
    have hR0 : R = 0 := by rw [← hR]; unfold rheld; rw [hn]; rfl
    have hl0 : m.nodes.length = 0 := by rw [hn]; rfl
    rw [hl0] at m5
    subst hR0
    clear h hcell hR hn hl0
    go_enter Tryz.func16, Tryz.ntmps16
    go_wp2_with fail
    go_ret
    exact ⟨rfl, Eqv.refl _⟩
  | cons r rs =>
    have hl0 : 0 < m.nodes.length := by rw [hn]; simp
    obtain ⟨g, off, rfl, _, _, _, _, k1, _⟩ := hcell 0 hl0
    have hr0 : m.nodes[0] = r := by simp [hn]
    rw [hr0] at k1
    have hRR : IntKind.i64.wrap (m.last - r.frm) = R := by rw [← hR]; unfold rheld; rw [hn]
    obtain ⟨N, hN⟩ : ∃ N, m.nodes.length = N := ⟨_, rfl⟩
    rw [hN] at m5 hl0
    simp only [Nat.zero_mul, Nat.add_zero] at k1
    have i0 : (0 : Int) < (N : Int) := by omega
    have hne : ((N : Int) == 0) = false := by simp; omega
    clear h hcell hR hn hr0 hN
    generalize m.last = la at *
    generalize r.frm = rf at *
    go_enter Tryz.func16, Tryz.ntmps16
    go_wp2_with fail
    go_quiet (fail)
    go_wp2_with fail
    go_ret
    exact ⟨rfl, ⟨_, rfl⟩⟩
set_option maxRecDepth 1000000 in
set_option maxHeartbeats 4000000 in
theorem rwaiting_any {C : Nat → Nat} {w : World} {mb : Nat} {ev ov nv : Value} {l : List ER} {m : RSt} (h : RAt C w mb ev ov nv l m) (hl : m.nodes.length ≤ 1048576) :
    Calls Tryz.prog 15 #[.pointer (some ⟨mb, 0, none⟩)] w fun r w' => ∃ a k c, r = .returned (.slice a k c) ∧ k = (m.nodes.map (·.num)).length ∧ IntsNew w w' (.slice a k c) (m.nodes.map (·.num)) := by
  obtain ⟨i0, hi, hz0, hz1, hz2⟩ := info_parts infoInt
  obtain ⟨_, _, _, _, _, m5⟩ := h.cells
  obtain ⟨a, c, rfl, hc, hcell⟩ := h.node5
  obtain ⟨N, hN⟩ : ∃ N, m.nodes.length = N := ⟨_, rfl⟩
  rw [hN] at m5 hc hl
  have hml := heap_lt h.blk
  have HC := Lib.hid hcell
  have HN := Lib.hid hN
  have HM5 := Lib.hid m5
  clear h hcell hN
  go_enter Tryz.func15, Tryz.ntmps15
  go_wp2_with fail
  clear m5
  go_loopw [3, 4] (fun ov iv wr => ∃ (i : Nat) (xa : Option Addr) (xc k : Nat), iv = .int .i64 i ∧ i ≤ N ∧ ov = .slice xa k xc ∧ k = i ∧ Hid (IntsNew w wr (.slice xa k xc) ((m.nodes.map (·.num)).take i))) (fun _ iv _ => N - (intOf iv).toNat)
  case atStart => exact ⟨0, none, 0, 0, rfl, Nat.zero_le _, rfl, rfl, Lib.hid ⟨World.ownsRow_nil _ _ _ _, Below.refl _ _⟩⟩
  case round =>
    obtain ⟨i, xa, xc, k, rfl, hi', rfl, hki, HR⟩ := hrel
    have HKI := Lib.hid hki
    have hbr := HR.out.2
    have m5 := (hbr.cell (p := ⟨mb, 5, none⟩) hml).trans HM5.out
    by_cases hin : i < N
    · have hil : i < m.nodes.length := by rw [HN.out]; exact hin
      obtain ⟨g, off, rfl, hgl, _, _, k0, _⟩ := HC.out i hil
      have k0' := (hbr.cell (p := ⟨g, off + i * 5, none⟩) hgl).trans k0
      have i1 : (0 : Int) ≤ (i : Int) := by omega
      have i2 : (i : Int) < (N : Int) := by omega
      have ew : IntKind.i64.wrap ((i : Int) + 1) = (i : Int) + 1 := IntWalk.i64_in _ (by omega)
      have hst : (m.nodes.map (·.num)).take (i + 1) = (m.nodes.map (·.num)).take i ++ [m.nodes[i].num] := by rw [List.take_succ_eq_append_getElem (by simpa using hil), List.getElem_map]
      have hlt : ((m.nodes.map (·.num)).take i).length = i := by rw [List.length_take, List.length_map]; omega
      generalize m.nodes[i].num = y at *
      have HST := Lib.hid (⟨hst, hlt⟩ : _ ∧ _)
      have HOW : Hid (wr.ownsRow w.heap.size 3 1 (.slice xa k xc) ((m.nodes.map (·.num)).take i).length (((m.nodes.map (·.num)).take i).map (.int .i64)) ∧ ((m.nodes.map (·.num)).take i).length + 1 ≤ 4294967296) := Lib.hid ⟨HR.out.1, by omega⟩
      clear k0 hst hlt hbr hki
      go_wp2_with (at_builtin; go_must ((refine wpList_app wr (by rfl) _ _ 28 (by rfl) w.heap.size 3 i0 (.int .i64 0) 1 8 Tryz.underlying28 hi hz0 hz1 hz2 (by rfl) (by decide) (.slice xa k xc) _ _ (by rfl) HOW.out.1 _ rfl 1 [.int .i64 y] (by rfl) (by rfl) (by intro u hu; simp only [List.mem_cons, List.not_mem_nil, or_false] at hu; subst hu; rfl) HOW.out.2 (by decide) HR.out.2.size (fun v7 w7 hown7 hap7 => ?_))))
      have hb7 : Below w.heap.size w w7 := (HR.out.2.alloc HR.out.2.size _).trans (hap7.below (by have := HR.out.2.size; simp; omega) (fun j hj' => (HOW.out.1.lt j hj').1))
      rw [HST.out.2] at hown7
      obtain ⟨a7, c7, rfl, _, _, _⟩ := own_slice hown7
      have HN8 : Hid (IntsNew w w7 (.slice a7 (i + 1) c7) ((m.nodes.map (·.num)).take (i + 1))) := Lib.hid ⟨by rw [HST.out.1, List.length_append, HST.out.2, List.map_append]; exact hown7, hb7⟩
      clear hb7 hown7 hap7
      go_wp2_with fail
      go_roundw
      case rel => exact ⟨i + 1, a7, c7, i + 1, by go_num, by omega, rfl, rfl, HN8⟩
      case measure => simp [intOf]; omega
    · have hik : i = N := by omega
      subst hik
      have HTK : Hid ((m.nodes.map (·.num)).take i = m.nodes.map (·.num)) := Lib.hid (List.take_of_length_le (by rw [List.length_map, HN.out]; exact Nat.le_refl _))
      clear hbr hki
      go_wp2_with fail
      go_ret
      exact ⟨xa, k, xc, rfl, by first | exact HKI.out.trans HN.out.symm | (rw [List.length_map, HN.out]; exact HKI.out), by have := HR.out; rw [HTK.out] at this; exact this⟩
end Go.Proofs.YtmnloeolacmemaaGreat
