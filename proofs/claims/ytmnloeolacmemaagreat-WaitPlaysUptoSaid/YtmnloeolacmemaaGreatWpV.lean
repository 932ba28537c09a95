/-
  Rows that may begin anywhere: append of a whole row, wherever it lies. No program is named here.
-/
import Derived.Test.YtmnloeolacmemaaGreatWpI
import Derived.Deep.Upon
import Derived.Test.YtmnloeolacmemaaGreatWpT
import Derived.Test.YtmnloeolacmemaaGreatWpU
namespace Go.Proofs.YtmnloeolacmemaaGreat
open Go.RowKit

section
variable {P : Program} {w : World} {e : TypeId} {size : Nat} {v : Value} {n : Nat} {xs : List Value}
theorem run_qappend_row (t ty : TypeId) (i : TypeInfo) (z : Value) (bytes : Nat) (ht : P.underlying t = Option.some (.slice e)) (hi : P.info? e = Option.some i) (hz : i.zero = Option.some z)
    (hsize : i.size = size) (hby : i.bytes = bytes) (hzs : z.cells.size = size) (hsz : 0 < size) (h : QRow w e size v n xs)
    (A : Option Addr) (m c : Nat) (news : List Value) (hl : news.length = m * size) (hc : ∀ ad, A = some ad → ∀ j u, news[j]? = some u → w.cell? (ad.add j) = some u) (hA : A = none → m = 0) (h1 : ∀ u ∈ news, u.oneCell' = true)
    (h63 : n + m ≤ maxLen) (hbytes : (n + m) * bytes ≤ 140737488355328) :
    ∃ v' w', (Builtin.append_ #[t, t] ty #[v, .slice A m c]).run P w = .ok v' w' ∧ QRow w' e size v' (n + m) (xs ++ news) ∧ w.grownBy w' v.ownBlock ∧ (v'.ownBlock = v.ownBlock ∨ ∃ g, v'.ownBlock = some g ∧ w.heap.size ≤ g ∧ g < w'.heap.size) := by
  rcases Nat.eq_zero_or_pos m with hm | hm
  · subst hm
    have hnews : news = [] := List.eq_nil_of_length_eq_zero (by omega)
    subst hnews
    obtain ⟨a, cv, rfl, hle⟩ := h.slice
    have hsrc : Src P i.size t (.slice A 0 c) 0 [] w := by
      cases A with
      | none => exact Src.ofNil (P := P) (size := i.size) w ht c
      | some ad => exact Src.ofSlice (P := P) (size := i.size) w ht ad 0 c [] (by simp) (by intro j u hj; simp at hj) (by simp)
    exact ⟨_, _, run_append_nothing (P := P) w t t ty e i ht hi a n cv hle _ hsrc, by simpa using h, ⟨rfl, rfl, rfl, Nat.le_refl _, fun _ _ _ => rfl⟩, .inl rfl⟩
  · cases A with
    | none => have := hA rfl; omega
    | some ad =>
      have hnews := hc ad rfl
      have hown : ∀ v' w', w'.ownsRow w.heap.size e size v' (n + m) (xs ++ news) → w.grownBy w' none → QRow w' e size v' (n + m) (xs ++ news) ∧ w.grownBy w' v.ownBlock ∧ (v'.ownBlock = v.ownBlock ∨ ∃ g, v'.ownBlock = Option.some g ∧ w.heap.size ≤ g ∧ g < w'.heap.size) := by
        intro v' w' r1 r2
        have hl1 := r1.lt
        refine ⟨QRow.own r1, ⟨r2.os, r2.tape, r2.output, r2.size, fun k hk _ => r2.block k hk (by simp)⟩, .inr ?_⟩
        rcases r1.2 with ⟨_, h0⟩ | ⟨g, cap, cur, rfl, hg, _⟩
        · omega
        · exact ⟨g, rfl, hg, (hl1 g rfl).2⟩
      rcases h.2 with ⟨A, rfl, rfl⟩ | ⟨g, off, cap, cur, rfl, hh, h5, h6, h7, h8⟩
      · have hx : xs = [] := List.eq_nil_of_length_eq_zero (by have := h.1; omega)
        subst hx
        cases A with
        | none =>
          obtain ⟨v', w', hr, r1, r2, _⟩ := run_append_own (P := P) w w.heap.size t ty e i z size bytes ht hi hz hsize hby hzs hsz (.slice none 0 0) 0 [] (World.ownsRow_nil w _ e size) ad m c news hl hnews h1 h63 hbytes (Nat.le_refl _)
          exact ⟨v', w', hr, hown v' w' r1 r2⟩
        | some a' =>
          obtain ⟨v', w', hr, r1, r2⟩ := run_append_arg_grows (P := P) w t ty e i z size bytes ht hi hz hsize hby hzs hsz a' 0 0 [] (by simp) (by intro _ _ h'; simp at h') ad m c news hl hnews (by omega) h63 hbytes
          exact ⟨v', w', hr, hown v' w' r1 r2⟩
      · by_cases hroom : n + m ≤ cap
        · have hfit : off + n * size + m * size ≤ cur.toList.length := by
            have := Nat.mul_le_mul_right size hroom
            rw [Nat.add_mul] at this
            rw [Array.length_toList, h7]; omega
          obtain ⟨pa, pb, pc, pd, e1, e2, e3, e4, e5⟩ := cut3 cur.toList off (n * size) (m * size) hfit
          have hcur : cur = (pa ++ (pb ++ (pc ++ pd))).toArray := by rw [← e1]
          have hb' : pb = xs := by rw [e5, h8]
          have hlen0 : (pa ++ pb).length = off + n * i.size := by rw [List.length_append, e2, e3, hsize]
          have hh2 : w.heap[g]? = Option.some (.cells ((pa ++ pb) ++ (pc ++ pd)).toArray e (0, 0)) := by rw [hh, hcur, List.append_assoc]
          have hcell : ∀ j, j < news.length → (w.cell? ⟨g, off + n * i.size + j, none⟩).isSome = true := fun j hj => by
            rw [cell_heap hh2, ← hlen0]
            simp only [List.getElem?_toArray]
            rw [List.getElem?_append_right (by omega), Nat.add_sub_cancel_left, List.getElem?_append_left (by omega)]
            rw [List.getElem?_eq_getElem (by omega)]; rfl
          have hr := run_append_room_cells (P := P) w t ty e i ht hi g off n cap ad m c news (by rw [hsize]; exact hl) hnews h1 hroom hcell (fun j _ => frozen_heap hh)
          obtain ⟨g1, g2, g3, g4, g5, g6⟩ := setCells_mid g e pd news w (pa ++ pb) pc hh2 (by omega)
          rw [hlen0] at g1 g2 g3 g4 g5 g6
          refine ⟨_, _, hr, ⟨by rw [List.length_append, h.1, hl, Nat.add_mul], .inr ⟨g, off, cap, _, rfl, g1, hroom, h6, ?_, ?_⟩⟩, ⟨g4, g5, g6, Nat.le_of_eq g3.symm, fun k _ hk => g2 k (fun e => hk (by rw [e]; rfl))⟩, .inl rfl⟩
          · have hs : cur.size = (pa ++ (pb ++ (pc ++ pd))).length := by rw [hcur]; simp
            rw [h7] at hs
            simp only [List.size_toArray, List.length_append] at hs ⊢
            omega
          · have hx : (((pa ++ pb) ++ (news ++ pd)).toArray.toList.drop off) = (xs ++ news) ++ pd := by
              rw [List.toList_toArray, List.append_assoc, ← e2, List.drop_left, hb', List.append_assoc]
            rw [hx, List.take_left']
            rw [List.length_append, h.1, hl, Nat.add_mul]
        · have holds : ∀ j u, xs[j]? = Option.some u → w.cell? ((⟨g, off, none⟩ : Addr).add j) = Option.some u := by
            intro j u hj
            rw [Addr.add_lit, cell_heap hh]
            rw [← h8, List.getElem?_take] at hj
            split at hj
            · simpa using hj
            · cases hj
          obtain ⟨v', w', hr, r1, r2⟩ := run_append_arg_grows (P := P) w t ty e i z size bytes ht hi hz hsize hby hzs hsz ⟨g, off, none⟩ n cap xs h.1 holds ad m c news hl hnews (by omega) h63 hbytes
          exact ⟨v', w', hr, hown v' w' r1 r2⟩
end
theorem wpList_qrow {P : Program} (w : World) {ops : Array Oper} {rest : List Oper} {o : Oper} {a : Act} {Q : Exit → Act → World → Prop} (hgd : o.guard = none) (s x : Operand) (t : TypeId)
    (ho : o.op = .call { callee := .builtin .append, args := #[s, x], argTypes := #[t, t] })
    (e : TypeId) (i : TypeInfo) (z : Value) (size bytes : Nat) (ht : P.underlying t = some (.slice e)) (hi : P.info? e = some i) (hz : i.zero = some z)
    (hsize : i.size = size) (hby : i.bytes = bytes) (hzs : z.cells.size = size) (hsz : 0 < size)
    (v : Value) (n : Nat) (xs : List Value) (hs : a.eval s = v) (hown : QRow w e size v n xs)
    (A : Option Addr) (m c : Nat) (news : List Value) (hx : a.eval x = .slice A m c) (hl : news.length = m * size) (hc : ∀ ad, A = some ad → ∀ j u, news[j]? = some u → w.cell? (ad.add j) = some u) (hA : A = none → m = 0) (h1 : ∀ u ∈ news, u.oneCell' = true)
    (hn : n + m ≤ 4294967296) (hbb : bytes ≤ 16384)
    (h : ∀ v' w', QRow w' e size v' (n + m) (xs ++ news) → App w w' v v' → ((∀ k, v.ownBlock = some k → k < w.heap.size) → ∀ k, v'.ownBlock = some k → k < w'.heap.size) → wpList P ops Q rest (a.put o.dst v') w') :
    wpList P ops Q (o :: rest) a w := by
  have hb : (n + m) * bytes ≤ 140737488355328 := Nat.le_trans (Nat.mul_le_mul hn hbb) (by decide)
  refine wpList_plain hgd fun K hK => ?_
  obtain ⟨v', w', hr, r1, r2, r3⟩ := run_qappend_row (P := P) (w := w) t o.type i z bytes ht hi hz hsize hby hzs hsz hown A m c news hl hc hA h1 (by unfold maxLen; omega) hb
  unfold Oper.wp execOp
  simp only [ho, resolve, invoke, builtin, Sem.run_bind, Sem.run_pure, Result.andThen_ok, List.map_toArray, List.map_cons, List.map_nil, hs, hx, hr]
  exact hK _ _ (h v' w' r1 ⟨r2, r3.imp id (fun ⟨g, e1, e2, _⟩ => ⟨g, e1, e2⟩)⟩ (fun hv k hk => by
    rcases r3 with e0 | ⟨g, e1, _, e3⟩
    · exact Nat.lt_of_lt_of_le (hv k (e0 ▸ hk)) r2.size
    · rw [e1] at hk; injection hk with hk; omega))
theorem step_qrow {P : Program} {ops : Array Oper} {o : Oper} {a : Act} {w : World} {K : Act → World → Prop} {Q : Exit → Act → World → Prop} {E : Prop} (hgd : o.guard = none) (s x : Operand) (t : TypeId)
    (ho : o.op = .call { callee := .builtin .append, args := #[s, x], argTypes := #[t, t] })
    (e : TypeId) (i : TypeInfo) (z : Value) (size bytes : Nat) (ht : P.underlying t = some (.slice e)) (hi : P.info? e = some i) (hz : i.zero = some z)
    (hsize : i.size = size) (hby : i.bytes = bytes) (hzs : z.cells.size = size) (hsz : 0 < size)
    (v : Value) (n : Nat) (xs : List Value) (hs : a.eval s = v) (hown : QRow w e size v n xs)
    (A : Option Addr) (m c : Nat) (news : List Value) (hx : a.eval x = .slice A m c) (hl : news.length = m * size) (hc : ∀ ad, A = some ad → ∀ j u, news[j]? = some u → w.cell? (ad.add j) = some u) (hA : A = none → m = 0) (h1 : ∀ u ∈ news, u.oneCell' = true)
    (hn : n + m ≤ 4294967296) (hbb : bytes ≤ 16384)
    (h : ∀ v' w', QRow w' e size v' (n + m) (xs ++ news) → App w w' v v' → ((∀ k, v.ownBlock = some k → k < w.heap.size) → ∀ k, v'.ownBlock = some k → k < w'.heap.size) → K (a.put o.dst v') w') :
    if Region.wanted o (yielded ops a.tmps) = true then Oper.wp P o a w K Q else E := by
  have hw : Region.wanted o (yielded ops a.tmps) = true := by simp [Region.wanted, hgd]
  rw [if_pos hw]
  have hb : (n + m) * bytes ≤ 140737488355328 := Nat.le_trans (Nat.mul_le_mul hn hbb) (by decide)
  obtain ⟨v', w', hr, r1, r2, r3⟩ := run_qappend_row (P := P) (w := w) t o.type i z bytes ht hi hz hsize hby hzs hsz hown A m c news hl hc hA h1 (by unfold maxLen; omega) hb
  unfold Oper.wp execOp
  simp only [ho, resolve, invoke, builtin, Sem.run_bind, Sem.run_pure, Result.andThen_ok, List.map_toArray, List.map_cons, List.map_nil, hs, hx, hr]
  exact h v' w' r1 ⟨r2, r3.imp id (fun ⟨g, e1, e2, _⟩ => ⟨g, e1, e2⟩)⟩ (fun hv k hk => by
    rcases r3 with e0 | ⟨g, e1, _, e3⟩
    · exact Nat.lt_of_lt_of_le (hv k (e0 ▸ hk)) r2.size
    · rw [e1] at hk; injection hk with hk; omega)
end Go.Proofs.YtmnloeolacmemaaGreat

/-
  gimletref22 in memory: what its parts' turning comes to.
-/
namespace Go.Proofs.YtmnloeolacmemaaGreat
open Go.RowKit

section
variable {C C' : Nat → Nat} {w w' : World} {mb : Nat} {ev ov nv : Value} {l : List ER} {m : RSt}
theorem RAt.setNd (h : RAt C w mb ev ov nv l m) (hp : Paint C C' w w') (hm : Mv C 7 11 w w') (ob : ∀ j, j < w.heap.size → C j ≠ 10 → w'.heap[j]? = w.heap[j]?) {v' : Value} {nodes' : List RNd} (hq : QRow w' 80 5 v' nodes'.length (rnV nodes')) (hc : ∀ k, v'.ownBlock = some k → C' k = 10) :
    RAt C' (w'.setCell ⟨mb, 5, none⟩ v') mb ev ov v' l { m with nodes := nodes' } ∧ Mv C 7 11 w (w'.setCell ⟨mb, 5, none⟩ v') ∧ Paint C C' w (w'.setCell ⟨mb, 5, none⟩ v') := by
  have hsz : (w'.setCell ⟨mb, 5, none⟩ v').heap.size = w'.heap.size := by simp [World.setCell]
  have hs := hm.size
  have hmb := h.lt0 (k := mb) (by rw [h.cm]; decide)
  have hp' : Paint C C' w (w'.setCell ⟨mb, 5, none⟩ v') := ⟨hp.old, fun k hk => hp.top k (by omega)⟩
  have hcm : C' mb = 7 := (hp.old mb hmb).trans h.cm
  refine ⟨h.turn10 hp' (by omega) (fun j hj h7 h10 => (Below.heap_setCell _ _ _ _ (fun e => h7 (by have e' : j = mb := e; rw [e', h.cm]))).trans (ob j hj h10)) (setCell_heap ((ob mb hmb (by rw [h.cm]; decide)).trans h.blk) v') ?_ hc rfl rfl, hm.set (by rw [h.cm]; decide) 5 v', hp'⟩
  exact hq.keep (fun k hk => Below.heap_setCell _ _ _ _ (fun e => by have e' : k = mb := e; have := hc k hk; rw [e', hcm] at this; omega))
theorem RAt.setOp (h : RAt C w mb ev ov nv l m) (hp : Paint C C' w w') (hm : Mv C 7 11 w w') (ob : ∀ j, j < w.heap.size → C j ≠ 9 → w'.heap[j]? = w.heap[j]?) {v' : Value} {o' : List Nat} (hq : QRow w' 3 1 v' o'.length (natsV o')) (hc : ∀ k, v'.ownBlock = some k → C' k = 9) :
    RAt C' (w'.setCell ⟨mb, 1, none⟩ v') mb ev v' nv l { m with opn := o' } ∧ Mv C 7 11 w (w'.setCell ⟨mb, 1, none⟩ v') ∧ Paint C C' w (w'.setCell ⟨mb, 1, none⟩ v') := by
  have hsz : (w'.setCell ⟨mb, 1, none⟩ v').heap.size = w'.heap.size := by simp [World.setCell]
  have hs := hm.size
  have hmb := h.lt0 (k := mb) (by rw [h.cm]; decide)
  have hp' : Paint C C' w (w'.setCell ⟨mb, 1, none⟩ v') := ⟨hp.old, fun k hk => hp.top k (by omega)⟩
  have hcm : C' mb = 7 := (hp.old mb hmb).trans h.cm
  refine ⟨h.turn9 hp' (by omega) (fun j hj h7 h10 => (Below.heap_setCell _ _ _ _ (fun e => h7 (by have e' : j = mb := e; rw [e', h.cm]))).trans (ob j hj h10)) (setCell_heap ((ob mb hmb (by rw [h.cm]; decide)).trans h.blk) v') ?_ hc rfl rfl, hm.set (by rw [h.cm]; decide) 1 v', hp'⟩
  exact hq.keep (fun k hk => Below.heap_setCell _ _ _ _ (fun e => by have e' : k = mb := e; have := hc k hk; rw [e', hcm] at this; omega))
theorem RAt.setEv (h : RAt C w mb ev ov nv l m) (hp : Paint C C' w w') (hm : Mv C 7 11 w w') (ob : ∀ j, j < w.heap.size → C j ≠ 8 → w'.heap[j]? = w.heap[j]?) {v' : Value} {r : ER} (hq : QRow w' 36 8 v' (l.length + 1) (evRow l ++ evL r.e r.A r.m r.c)) (hc : ∀ k, v'.ownBlock = some k → C' k = 8)
    (h1 : AttrsAt w r.A r.m r.e.ats) (h2 : r.m ≤ r.c) (h3 : r.e.ats ≠ [] → ∀ ad, r.A = some ad → C ad.block = 0) :
    RAt C' (w'.setCell ⟨mb, 0, none⟩ v') mb v' ov nv (l ++ [r]) { m with evs := m.evs ++ [wOf r.e] } ∧ Mv C 7 11 w (w'.setCell ⟨mb, 0, none⟩ v') ∧ Paint C C' w (w'.setCell ⟨mb, 0, none⟩ v') := by
  have hsz : (w'.setCell ⟨mb, 0, none⟩ v').heap.size = w'.heap.size := by simp [World.setCell]
  have hs := hm.size
  have hmb := h.lt0 (k := mb) (by rw [h.cm]; decide)
  have hp' : Paint C C' w (w'.setCell ⟨mb, 0, none⟩ v') := ⟨hp.old, fun k hk => hp.top k (by omega)⟩
  have hcm : C' mb = 7 := (hp.old mb hmb).trans h.cm
  have ob' : ∀ j, j < w.heap.size → C j ≠ 7 → C j ≠ 8 → (w'.setCell ⟨mb, 0, none⟩ v').heap[j]? = w.heap[j]? := fun j hj h7 h10 => (Below.heap_setCell _ _ _ _ (fun e => h7 (by have e' : j = mb := e; rw [e', h.cm]))).trans (ob j hj h10)
  have ha := ats_keep h1 h3 hp' (by omega) (fun k hk hc => ob' k hk (by omega) (by omega))
  refine ⟨h.turn8 hp' (by omega) ob' (setCell_heap ((ob mb hmb (by rw [h.cm]; decide)).trans h.blk) v') ?_ hc rfl rfl rfl ⟨ha.1, h2, ha.2⟩, hm.set (by rw [h.cm]; decide) 0 v', hp'⟩
  exact hq.keep (fun k hk => Below.heap_setCell _ _ _ _ (fun e => by have e' : k = mb := e; have := hc k hk; rw [e', hcm] at this; omega))
/-- a cell of a node -/
theorem RAt.nodeSet (h : RAt C w mb ev ov nv l m) {g off c : Nat} (hnv : nv = .slice (some ⟨g, off, none⟩) m.nodes.length c) (hn : 0 < m.nodes.length) (j : Nat) (u : Value) {nodes' : List RNd} (hl : nodes'.length = m.nodes.length) (hv : rnV nodes' = (rnV m.nodes).set j u) :
    RAt C (w.setCell ⟨g, off + j, none⟩ u) mb ev ov nv l { m with nodes := nodes' } ∧ Mv C 7 11 w (w.setCell ⟨g, off + j, none⟩ u) := by
  have hg : C g = 10 := h.cn g (by rw [hnv]; rfl)
  have hq := h.nds
  rw [hnv] at hq
  have hsz : (w.setCell ⟨g, off + j, none⟩ u).heap.size = w.heap.size := by simp [World.setCell]
  have ob : ∀ j', j' < w.heap.size → C j' ≠ 10 → (w.setCell ⟨g, off + j, none⟩ u).heap[j']? = w.heap[j']? := fun j' _ hc => Below.heap_setCell _ _ _ _ (fun e => hc (by have e' : j' = g := e; rw [e', hg]))
  have hmb := h.lt0 (k := mb) (by rw [h.cm]; decide)
  refine ⟨h.turn10 (Paint.refl h.top (by omega)) (by omega) (fun j' hj _ h10 => ob j' hj h10) ((ob mb hmb (by rw [h.cm]; decide)).trans h.blk) ?_ h.cn rfl rfl, (Mv.refl C 7 11 w).set (by rw [hg]; decide) _ u⟩
  have := hq.set hn j u
  rw [← hv, ← hnv] at this
  show QRow _ _ _ _ nodes'.length (rnV nodes')
  rw [hl]; exact this
theorem rnV_set : ∀ (l : List RNd) (i : Nat) (hi : i < l.length) (r : RNd) (j : Nat) (u : Value), j < 5 → ([.int .i64 r.num, .int .i64 r.frm, .int .i64 r.truth, .int .i64 (r.bgn : Nat), .int .i64 (r.fin : Nat)] : List Value) = ([.int .i64 l[i].num, .int .i64 l[i].frm, .int .i64 l[i].truth, .int .i64 (l[i].bgn : Nat), .int .i64 (l[i].fin : Nat)] : List Value).set j u → rnV (l.set i r) = (rnV l).set (i * 5 + j) u
  | x :: l, 0, _, r, j, u, hj, h => by
    have e1 : rnV (x :: l) = ([.int .i64 x.num, .int .i64 x.frm, .int .i64 x.truth, .int .i64 (x.bgn : Nat), .int .i64 (x.fin : Nat)] : List Value) ++ rnV l := rfl
    have e2 : rnV ((x :: l).set 0 r) = ([.int .i64 r.num, .int .i64 r.frm, .int .i64 r.truth, .int .i64 (r.bgn : Nat), .int .i64 (r.fin : Nat)] : List Value) ++ rnV l := rfl
    rw [e1, e2, h, List.set_append_left _ _ (by simp; omega)]
    simp
  | x :: l, i + 1, hi, r, j, u, hj, h => by
    have e1 : rnV (x :: l) = ([.int .i64 x.num, .int .i64 x.frm, .int .i64 x.truth, .int .i64 (x.bgn : Nat), .int .i64 (x.fin : Nat)] : List Value) ++ rnV l := rfl
    have e2 : rnV ((x :: l).set (i + 1) r) = ([.int .i64 x.num, .int .i64 x.frm, .int .i64 x.truth, .int .i64 (x.bgn : Nat), .int .i64 (x.fin : Nat)] : List Value) ++ rnV (l.set i r) := rfl
    have ih := rnV_set l i (by simpa using hi) r j u hj (by simpa using h)
    rw [e1, e2, ih, List.set_append_right _ _ (by simp; omega)]
    congr 2
    simp; omega
theorem rnV_one (l : List RNd) : ∀ u ∈ rnV l, u.oneCell' = true := by
  intro u hu
  obtain ⟨p, _, h⟩ := List.mem_flatMap.1 hu
  simp only [List.mem_cons, List.not_mem_nil, or_false] at h
  rcases h with rfl | rfl | rfl | rfl | rfl <;> rfl
theorem rnV_app (a b : List RNd) : rnV (a ++ b) = rnV a ++ rnV b := by simp [rnV]
end
theorem modify_set (g : RNd → RNd) : ∀ (l : List RNd) (i : Nat) (hi : i < l.length), l.modify i g = l.set i (g l[i])
  | x :: l, 0, _ => by simp
  | x :: l, i + 1, hi => by
    have := modify_set g l i (by simpa using hi)
    simp only [List.modify_succ_cons, List.set_cons_succ, List.getElem_cons_succ, this]
theorem nodup_modify (rs : List RNd) (g : RNd → RNd) (hg : ∀ r, (g r).num = r.num) (y : Int) : (rs.map (fun r => if r.num = y then g r else r)).map (·.num) = rs.map (·.num) := by
  rw [List.map_map]
  exact List.map_congr_left (fun r _ => by simp only [Function.comp_apply]; split <;> simp [hg])
end Go.Proofs.YtmnloeolacmemaaGreat

/-
  The law's numbers and items, of rows that are alike; the answer's Take of what does not fit.
-/
namespace Go.Proofs.YtmnloeolacmemaaGreat
open Go.RowKit

/-- a slice of numbers -/
structure IntsAt (w : World) (a : Option Addr) (n : Nat) (l : List Int) : Prop where
  len : n = l.length
  at' : ∀ i, (h : i < l.length) → ∃ b o, a = some ⟨b, o, none⟩ ∧ b < w.heap.size ∧ w.cell? ⟨b, o + i, none⟩ = some (.int .i64 l[i])
theorem IntsAt.below {w w' : World} {a : Option Addr} {n : Nat} {l : List Int} (h : IntsAt w a n l) (hb : Below w.heap.size w w') : IntsAt w' a n l :=
  ⟨h.len, fun i hi => by
    obtain ⟨b, o, e, hlt, hc⟩ := h.at' i hi
    exact ⟨b, o, e, Nat.lt_of_lt_of_le hlt hb.size, (hb.cell (p := ⟨b, o + i, none⟩) hlt).trans hc⟩⟩
theorem own_ints {w : World} {base n c : Nat} {e : TypeId} {a : Option Addr} {l : List Int} (h : w.ownsRow base e 1 (.slice a n c) n (l.map (Value.int .i64))) : IntsAt w a n l := by
  have hn : n = l.length := by have := h.1; simp at this; omega
  obtain ⟨a', c', e1, h1, h2, h3⟩ := own_slice h
  injection e1 with e1 _ _
  subst e1
  refine ⟨hn, fun i hi => ?_⟩
  cases a with
  | none => have := h2 rfl; omega
  | some ad =>
    obtain ⟨g, rfl, hg, hl, _, hc⟩ := h3 _ rfl
    exact ⟨g, 0, rfl, hl, by rw [Nat.zero_add]; exact hc _ _ (by simp [hi])⟩
set_option maxRecDepth 1000000 in
set_option maxHeartbeats 4000000 in
theorem numbers_any (a b : Option Addr) (n m c d : Nat) (l : List Int) (w : World) (h1 : IntsAt w a n l) (h2 : IntsAt w b m l) (hn : n ≤ 1048576) :
    Calls Tryz.prog 14 #[.slice a n c, .slice b m d] w fun e w' => e = .returned (.bool true) ∧ Below w.heap.size w w' := by
  have hnm : m = n := by rw [h1.len, h2.len]
  subst hnm
  have HN : Hid (l.length = m) := Lib.hid h1.len.symm
  have H1 := Lib.hid h1.at'
  have H2 := Lib.hid h2.at'
  clear h1 h2
  go_enter Tryz.func14, Tryz.ntmps14
  go_wp2_with fail
  go_loopw [5] (fun iv wr => ∃ i : Nat, iv = .int .i64 i ∧ i ≤ m ∧ Below w.heap.size w wr) (fun iv _ => m - (intOf iv).toNat)
  case atStart => exact ⟨0, rfl, Nat.zero_le _, Below.refl _ _⟩
  case round =>
    obtain ⟨i, rfl, hi, hbr⟩ := hrel
    by_cases hin : i < m
    · obtain ⟨b1, o1, rfl, hb1, hc1⟩ := H1.out i (by rw [HN.out]; exact hin)
      obtain ⟨b2, o2, rfl, hb2, hc2⟩ := H2.out i (by rw [HN.out]; exact hin)
      have e1 := (hbr.cell (p := ⟨b1, o1 + i, none⟩) hb1).trans hc1
      have e2 := (hbr.cell (p := ⟨b2, o2 + i, none⟩) hb2).trans hc2
      have i1 : (0 : Int) ≤ (i : Int) := by omega
      have i2 : (i : Int) < (m : Int) := by omega
      have ew : IntKind.i64.wrap ((i : Int) + 1) = (i : Int) + 1 := IntWalk.i64_in _ (by omega)
      obtain ⟨x, hx⟩ : ∃ x, l[i]'(by rw [HN.out]; exact hin) = x := ⟨_, rfl⟩
      rw [hx] at e1 e2
      have HB := Lib.hid (hbr.drew)
      clear hc1 hc2 hx hbr
      go_wp2_with fail
      go_quiet (fail)
      go_wp2_with fail
      go_roundw
      case rel => exact ⟨i + 1, by go_num, by omega, by first | exact HB.out | exact Below.drewN ‹_› _ | (have := HB.out; exact ⟨this.os, this.tape, this.output, this.size, this.block⟩)⟩
      case measure => simp [intOf]; omega
    · go_wp2_with fail
      go_ret
      exact ⟨rfl, hbr⟩
/-- a slice of items -/
structure ItAt (w : World) (a : Option Addr) (n : Nat) (l : List (Int × List UInt8)) : Prop where
  len : n = l.length
  at' : ∀ i, (h : i < l.length) → ∃ b o, a = some ⟨b, o, none⟩ ∧ b < w.heap.size ∧ w.cell? ⟨b, o + i * 2, none⟩ = some (.int .i64 l[i].1) ∧ w.cell? ⟨b, o + i * 2 + 1, none⟩ = some (.string (strL l[i].2))
theorem itemsV_at (l : List (Int × List UInt8)) (i : Nat) (h : i < l.length) : (itemsV l)[i * 2]? = some (.int .i64 l[i].1) ∧ (itemsV l)[i * 2 + 1]? = some (.string (strL l[i].2)) := by
  induction l generalizing i with
  | nil => simp at h
  | cons p l ih =>
    have e : itemsV (p :: l) = .int .i64 p.1 :: .string (strL p.2) :: itemsV l := rfl
    cases i with
    | zero => rw [e]; exact ⟨rfl, rfl⟩
    | succ i =>
      rw [e, show (i + 1) * 2 = i * 2 + 1 + 1 by omega]
      simpa using ih i (by simpa using h)
theorem ItAt.ofQ {w : World} {e : TypeId} {a : Option Addr} {c : Nat} {l : List (Int × List UInt8)} (h : QRow w e 2 (.slice a l.length c) l.length (itemsV l)) : ItAt w a l.length l := by
  refine ⟨rfl, fun i hi => ?_⟩
  obtain ⟨k, hk⟩ : ∃ k, l.length = k + 1 := ⟨l.length - 1, by omega⟩
  rw [hk] at h
  obtain ⟨g, off, c', e1, _, hg, _, hc⟩ := h.here
  injection e1 with e1 _ _
  subst e1
  obtain ⟨h1, h2⟩ := itemsV_at l i hi
  exact ⟨g, off, rfl, hg, hc _ _ h1, by have := hc _ _ h2; rw [← Nat.add_assoc] at this; exact this⟩
theorem ItAt.below {w w' : World} {a : Option Addr} {n : Nat} {l : List (Int × List UInt8)} (h : ItAt w a n l) (hb : Below w.heap.size w w') : ItAt w' a n l :=
  ⟨h.len, fun i hi => by
    obtain ⟨b, o, e, hlt, h1, h2⟩ := h.at' i hi
    exact ⟨b, o, e, Nat.lt_of_lt_of_le hlt hb.size, (hb.cell (p := ⟨b, o + i * 2, none⟩) hlt).trans h1, (hb.cell (p := ⟨b, o + i * 2 + 1, none⟩) hlt).trans h2⟩⟩
set_option maxRecDepth 1000000 in
set_option maxHeartbeats 4000000 in
theorem items_any (a b : Option Addr) (n m c d : Nat) (l : List (Int × List UInt8)) (w : World) (h1 : ItAt w a n l) (h2 : ItAt w b m l) (hn : n ≤ 1048576) :
    Calls Tryz.prog 13 #[.slice a n c, .slice b m d] w fun e w' => e = .returned (.bool true) ∧ Below w.heap.size w w' := by
  have hnm : m = n := by rw [h1.len, h2.len]
  subst hnm
  have HN : Hid (l.length = m) := Lib.hid h1.len.symm
  have H1 := Lib.hid h1.at'
  have H2 := Lib.hid h2.at'
  clear h1 h2
  go_enter Tryz.func13, Tryz.ntmps13
  go_wp2_with fail
  go_loopw [5] (fun iv wr => ∃ i : Nat, iv = .int .i64 i ∧ i ≤ m ∧ Below w.heap.size w wr) (fun iv _ => m - (intOf iv).toNat)
  case atStart => exact ⟨0, rfl, Nat.zero_le _, Below.refl _ _⟩
  case round =>
    obtain ⟨i, rfl, hi, hbr⟩ := hrel
    by_cases hin : i < m
    · obtain ⟨b1, o1, rfl, hb1, hc1, hc1'⟩ := H1.out i (by rw [HN.out]; exact hin)
      obtain ⟨b2, o2, rfl, hb2, hc2, hc2'⟩ := H2.out i (by rw [HN.out]; exact hin)
      have e1 := (hbr.cell (p := ⟨b1, o1 + i * 2, none⟩) hb1).trans hc1
      have e1' := (hbr.cell (p := ⟨b1, o1 + i * 2 + 1, none⟩) hb1).trans hc1'
      have e2 := (hbr.cell (p := ⟨b2, o2 + i * 2, none⟩) hb2).trans hc2
      have e2' := (hbr.cell (p := ⟨b2, o2 + i * 2 + 1, none⟩) hb2).trans hc2'
      have i1 : (0 : Int) ≤ (i : Int) := by omega
      have i2 : (i : Int) < (m : Int) := by omega
      have ew : IntKind.i64.wrap ((i : Int) + 1) = (i : Int) + 1 := IntWalk.i64_in _ (by omega)
      generalize strL (l[i]'(by rw [HN.out]; exact hin)).2 = x2 at *
      generalize (l[i]'(by rw [HN.out]; exact hin)).1 = x1 at *
      have HB := Lib.hid (hbr.drew)
      clear hc1 hc2 hc1' hc2' hbr
      go_wp2_with fail
      go_region
      go_wp2_with fail
      go_roundw
      case rel => exact ⟨i + 1, by go_num, by omega, HB.out⟩
      case measure => simp [intOf]; omega
    · go_wp2_with fail
      go_ret
      exact ⟨rfl, hbr⟩
end Go.Proofs.YtmnloeolacmemaaGreat
