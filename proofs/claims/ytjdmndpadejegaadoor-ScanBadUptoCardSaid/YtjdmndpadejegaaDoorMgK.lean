/-
  Rows that are owned and may begin anywhere in their block: append of one, the first left out, a cell set. No program is named here.
-/
import Derived.Test.YtjdmndpadejegaaDoorMgJ
import Derived.ArgAppend
import Derived.Test.YtjdmndpadejegaaDoorMgA
import Derived.Test.YtjdmndpadejegaaDoorProg
import Derived.Lib.RuneBytes
import Derived.Shelf.Utf8.AppendRune
namespace Go.Proofs.YtjdmndpadejegaaDoor
open Go.RowKit

def QRow (w : World) (e : TypeId) (size : Nat) (v : Value) (n : Nat) (xs : List Value) : Prop :=
  xs.length = n * size ∧ ((∃ A, v = .slice A 0 0 ∧ n = 0) ∨
    ∃ g off cap cur, v = .slice (some ⟨g, off, none⟩) n cap ∧ w.heap[g]? = some (.cells cur e (0, 0)) ∧ n ≤ cap ∧ cap ≤ maxLen ∧ cur.size = off + cap * size ∧ (cur.toList.drop off).take (n * size) = xs)

section
variable {P : Program} {w : World} {e : TypeId} {size : Nat} {v : Value} {n : Nat} {xs : List Value}
theorem QRow.nil (w : World) (e : TypeId) (size : Nat) (A : Option Addr) : QRow w e size (.slice A 0 0) 0 [] := ⟨by simp, .inl ⟨A, rfl, rfl⟩⟩
theorem QRow.own {base : Nat} (h : w.ownsRow base e size v n xs) : QRow w e size v n xs := by
  obtain ⟨h1, h2⟩ := h
  refine ⟨h1, ?_⟩
  rcases h2 with ⟨rfl, rfl⟩ | ⟨g, cap, cur, rfl, _, hh, h5, h6, h7, h8⟩
  · exact .inl ⟨_, rfl, rfl⟩
  · exact .inr ⟨g, 0, cap, cur, rfl, hh, h5, h6, by omega, by simpa using h8⟩
theorem QRow.keep {w' : World} (h : QRow w e size v n xs) (hk : ∀ k, v.ownBlock = some k → w'.heap[k]? = w.heap[k]?) : QRow w' e size v n xs := by
  obtain ⟨h1, h2⟩ := h
  refine ⟨h1, ?_⟩
  rcases h2 with h2 | ⟨g, off, cap, cur, rfl, hh, r⟩
  · exact .inl h2
  · exact .inr ⟨g, off, cap, cur, rfl, by rw [hk g rfl]; exact hh, r⟩
theorem QRow.slice (h : QRow w e size v n xs) : ∃ a c, v = .slice a n c ∧ n ≤ c := by
  rcases h.2 with ⟨A, rfl, rfl⟩ | ⟨g, off, cap, cur, rfl, _, h5, _⟩
  · exact ⟨_, _, rfl, Nat.le_refl _⟩
  · exact ⟨_, _, rfl, h5⟩
theorem QRow.here (h : QRow w e size v (n + 1) xs) : ∃ g off c, v = .slice (some ⟨g, off, none⟩) (n + 1) c ∧ n + 1 ≤ c ∧ g < w.heap.size ∧ (∀ i, w.frozen? ⟨g, i, none⟩ = false) ∧ ∀ j u, xs[j]? = some u → w.cell? ⟨g, off + j, none⟩ = some u := by
  obtain ⟨h1, h2⟩ := h
  rcases h2 with ⟨A, _, h2⟩ | ⟨g, off, cap, cur, rfl, hh, h5, h6, h7, h8⟩
  · omega
  · refine ⟨g, off, cap, rfl, h5, heap_lt hh, fun i => frozen_heap hh, fun j u hj => ?_⟩
    rw [cell_heap hh]
    rw [← h8] at hj
    rw [List.getElem?_take] at hj
    split at hj
    · simpa using hj
    · cases hj
theorem setCells_mid (b : Nat) (t : TypeId) (post : List Value) (vs : List Value) : ∀ (w : World) (pre old : List Value), w.heap[b]? = some (.cells (pre ++ (old ++ post)).toArray t (0, 0)) → old.length = vs.length →
    (w.setCells b pre.length vs).heap[b]? = some (.cells (pre ++ (vs ++ post)).toArray t (0, 0)) ∧ (∀ j, j ≠ b → (w.setCells b pre.length vs).heap[j]? = w.heap[j]?) ∧ (w.setCells b pre.length vs).heap.size = w.heap.size ∧ (w.setCells b pre.length vs).os = w.os ∧ (w.setCells b pre.length vs).tape = w.tape ∧ (w.setCells b pre.length vs).output = w.output := by
  induction vs with
  | nil =>
    intro w pre old hb hl
    obtain rfl : old = [] := by simpa using hl
    exact ⟨hb, fun _ _ => rfl, rfl, rfl, rfl, rfl⟩
  | cons v vs ih =>
    intro w pre old hb hl
    cases old with
    | nil => simp at hl
    | cons u old =>
      have h1 := setCell_heap (i := pre.length) hb v
      have h2 : (pre ++ (u :: old ++ post)).toArray.setIfInBounds pre.length v = ((pre ++ [v]) ++ (old ++ post)).toArray := by
        rw [List.cons_append, setIfInBounds_pre pre (old ++ post) v u]; simp
      rw [h2] at h1
      have h3 := ih (w.setCell ⟨b, pre.length, none⟩ v) (pre ++ [v]) old h1 (by simpa using hl)
      rw [List.length_append, List.length_singleton] at h3
      rw [World.setCells]
      obtain ⟨a1, a2, a3, a4, a5, a6⟩ := h3
      refine ⟨by simpa using a1, fun j hj => (a2 j hj).trans (Below.heap_setCell _ _ _ _ hj), a3.trans (by simp [World.setCell]), a4, a5, a6⟩
theorem cut3 (l : List Value) (o k m : Nat) (h : o + k + m ≤ l.length) : ∃ a b c d, l = a ++ (b ++ (c ++ d)) ∧ a.length = o ∧ b.length = k ∧ c.length = m ∧ b = (l.drop o).take k := by
  refine ⟨l.take o, (l.drop o).take k, ((l.drop o).drop k).take m, ((l.drop o).drop k).drop m, ?_, ?_, ?_, ?_, rfl⟩
  · rw [List.take_append_drop, List.take_append_drop, List.take_append_drop]
  · simp; omega
  · simp; omega
  · simp; omega
theorem run_qappend (t ty : TypeId) (i : TypeInfo) (z : Value) (bytes : Nat) (ht : P.underlying t = Option.some (.slice e)) (hi : P.info? e = Option.some i) (hz : i.zero = Option.some z)
    (hsize : i.size = size) (hby : i.bytes = bytes) (hzs : z.cells.size = size) (hsz : 0 < size) (h : QRow w e size v n xs)
    (ad : Addr) (c : Nat) (news : List Value) (hl : news.length = 1 * size) (hnews : ∀ j u, news[j]? = Option.some u → w.cell? (ad.add j) = Option.some u) (h1 : ∀ u ∈ news, u.oneCell' = true)
    (h63 : n + 1 ≤ maxLen) (hbytes : (n + 1) * bytes ≤ 140737488355328) :
    ∃ v' w', (Builtin.append_ #[t, t] ty #[v, .slice (Option.some ad) 1 c]).run P w = .ok v' w' ∧ QRow w' e size v' (n + 1) (xs ++ news) ∧ w.grownBy w' v.ownBlock ∧ (v'.ownBlock = v.ownBlock ∨ ∃ g, v'.ownBlock = Option.some g ∧ w.heap.size ≤ g) := by
  have hown : ∀ v' w', w'.ownsRow w.heap.size e size v' (n + 1) (xs ++ news) → w.grownBy w' none → QRow w' e size v' (n + 1) (xs ++ news) ∧ w.grownBy w' v.ownBlock ∧ (v'.ownBlock = v.ownBlock ∨ ∃ g, v'.ownBlock = Option.some g ∧ w.heap.size ≤ g) := by
    intro v' w' r1 r2
    refine ⟨QRow.own r1, ⟨r2.os, r2.tape, r2.output, r2.size, fun k hk _ => r2.block k hk (by simp)⟩, .inr ?_⟩
    have hlt := r1.lt
    rcases r1.2 with ⟨_, h0⟩ | ⟨g, cap, cur, rfl, hg, _⟩
    · omega
    · exact ⟨g, rfl, hg⟩
  rcases h.2 with ⟨A, rfl, rfl⟩ | ⟨g, off, cap, cur, rfl, hh, h5, h6, h7, h8⟩
  · have hx : xs = [] := List.eq_nil_of_length_eq_zero (by have := h.1; omega)
    subst hx
    cases A with
    | none =>
      obtain ⟨v', w', hr, r1, r2, _⟩ := run_append_own (P := P) w w.heap.size t ty e i z size bytes ht hi hz hsize hby hzs hsz (.slice none 0 0) 0 [] (World.ownsRow_nil w _ e size) ad 1 c news hl hnews h1 h63 hbytes (Nat.le_refl _)
      exact ⟨v', w', hr, hown v' w' r1 r2⟩
    | some a' =>
      obtain ⟨v', w', hr, r1, r2⟩ := run_append_arg_grows (P := P) w t ty e i z size bytes ht hi hz hsize hby hzs hsz a' 0 0 [] (by simp) (by intro _ _ h'; simp at h') ad 1 c news hl hnews (by omega) h63 hbytes
      exact ⟨v', w', hr, hown v' w' r1 r2⟩
  · by_cases hroom : n + 1 ≤ cap
    · have hfit : off + n * size + 1 * size ≤ cur.toList.length := by
        have := Nat.mul_le_mul_right size hroom
        rw [Nat.add_mul] at this
        rw [Array.length_toList, h7]; omega
      obtain ⟨pa, pb, pc, pd, e1, e2, e3, e4, e5⟩ := cut3 cur.toList off (n * size) (1 * size) hfit
      have hcur : cur = (pa ++ (pb ++ (pc ++ pd))).toArray := by rw [← e1]
      have hb' : pb = xs := by rw [e5, h8]
      have hlen0 : (pa ++ pb).length = off + n * i.size := by rw [List.length_append, e2, e3, hsize]
      have hh2 : w.heap[g]? = Option.some (.cells ((pa ++ pb) ++ (pc ++ pd)).toArray e (0, 0)) := by rw [hh, hcur, List.append_assoc]
      have hcell : ∀ j, j < news.length → (w.cell? ⟨g, off + n * i.size + j, none⟩).isSome = true := fun j hj => by
        rw [cell_heap hh2, ← hlen0]
        simp only [List.getElem?_toArray]
        rw [List.getElem?_append_right (by omega), Nat.add_sub_cancel_left, List.getElem?_append_left (by omega)]
        rw [List.getElem?_eq_getElem (by omega)]; rfl
      have hr := run_append_room_cells (P := P) w t ty e i ht hi g off n cap ad 1 c news (by rw [hsize]; exact hl) hnews h1 hroom hcell (fun j _ => frozen_heap hh)
      obtain ⟨g1, g2, g3, g4, g5, g6⟩ := setCells_mid g e pd news w (pa ++ pb) pc hh2 (by omega)
      rw [hlen0] at g1 g2 g3 g4 g5 g6
      refine ⟨_, _, hr, ⟨by rw [List.length_append, h.1, hl, Nat.add_mul], .inr ⟨g, off, cap, _, rfl, g1, hroom, h6, ?_, ?_⟩⟩, ⟨g4, g5, g6, Nat.le_of_eq g3.symm, fun k _ hk => g2 k (fun e => hk (by rw [e]; rfl))⟩, .inl rfl⟩
      · have hs : cur.size = (pa ++ (pb ++ (pc ++ pd))).length := by rw [hcur]; simp
        rw [h7] at hs
        simp only [List.size_toArray, List.length_append] at hs ⊢
        omega
      · have hx : (((pa ++ pb) ++ (news ++ pd)).toArray.toList.drop off) = (xs ++ news) ++ pd := by
          rw [List.toList_toArray, List.append_assoc, ← e2, List.drop_left, hb', List.append_assoc]
        rw [hx, List.take_left']
        rw [List.length_append, h.1, hl, Nat.add_mul]
    · have holds : ∀ j u, xs[j]? = Option.some u → w.cell? ((⟨g, off, none⟩ : Addr).add j) = Option.some u := by
        intro j u hj
        rw [Addr.add_lit, cell_heap hh]
        rw [← h8, List.getElem?_take] at hj
        split at hj
        · simpa using hj
        · cases hj
      obtain ⟨v', w', hr, r1, r2⟩ := run_append_arg_grows (P := P) w t ty e i z size bytes ht hi hz hsize hby hzs hsz ⟨g, off, none⟩ n cap xs h.1 holds ad 1 c news hl hnews (by omega) h63 hbytes
      exact ⟨v', w', hr, hown v' w' r1 r2⟩
theorem QRow.tail {g off c : Nat} {ys : List Value} (h : QRow w e size (.slice (Option.some ⟨g, off, none⟩) (n + 1) c) (n + 1) (ys ++ xs)) (hy : ys.length = size) (hc : c ≠ 1) : QRow w e size (.slice (Option.some ⟨g, off + size, none⟩) n (c - 1)) n xs := by
  obtain ⟨h1, h2⟩ := h
  rcases h2 with ⟨A, h0, h2⟩ | ⟨g', off', cap', cur, hv, hh, h5, h6, h7, h8⟩
  · omega
  · cases hv
    rw [List.length_append, Nat.add_mul, hy] at h1
    have hx : xs.length = n * size := by omega
    obtain ⟨d, rfl⟩ : ∃ d, c = d + 1 := ⟨c - 1, by omega⟩
    refine ⟨hx, .inr ⟨g, off + size, d, cur, rfl, hh, by omega, by omega, by rw [h7, Nat.add_mul]; omega, ?_⟩⟩
    have h9 : (cur.toList.drop (off + size)).take (n * size) = ((cur.toList.drop off).take ((n + 1) * size)).drop size := by
      rw [List.drop_take, List.drop_drop, Nat.add_mul]
      congr 1
      omega
    rw [h9, h8, ← hy, List.drop_left]
theorem QRow.set {g off c : Nat} (h : QRow w e size (.slice (Option.some ⟨g, off, none⟩) n c) n xs) (hn : 0 < n) (j : Nat) (u : Value) : QRow (w.setCell ⟨g, off + j, none⟩ u) e size (.slice (Option.some ⟨g, off, none⟩) n c) n (xs.set j u) := by
  obtain ⟨h1, h2⟩ := h
  rcases h2 with ⟨A, h0, h2⟩ | ⟨g', off', cap', cur, hv, hh, h5, h6, h7, h8⟩
  · omega
  · cases hv
    refine ⟨by simpa using h1, .inr ⟨g, off, c, _, rfl, setCell_heap hh u, h5, h6, by simpa using h7, ?_⟩⟩
    rw [← h8, Array.toList_setIfInBounds, List.drop_set, if_neg (by omega), Nat.add_sub_cancel_left, List.take_set]
end
theorem wpList_qapp {P : Program} (w : World) {ops : Array Oper} {rest : List Oper} {o : Oper} {a : Act} {Q : Exit → Act → World → Prop} (hgd : o.guard = none) (s x : Operand) (t : TypeId)
    (ho : o.op = .call { callee := .builtin .append, args := #[s, x], argTypes := #[t, t] })
    (e : TypeId) (i : TypeInfo) (z : Value) (size bytes : Nat) (ht : P.underlying t = some (.slice e)) (hi : P.info? e = some i) (hz : i.zero = some z)
    (hsize : i.size = size) (hby : i.bytes = bytes) (hzs : z.cells.size = size) (hsz : 0 < size)
    (v : Value) (n : Nat) (xs : List Value) (hs : a.eval s = v) (hown : QRow w e size v n xs) (hlt : ∀ k, v.ownBlock = some k → k < w.heap.size)
    (H : Nat) (hH : w.heap.size = H) (c : Nat) (news : List Value) (hx : a.eval x = .slice (some ⟨H, 0, none⟩) 1 c) (hl : news.length = size) (h1 : ∀ u ∈ news, u.oneCell' = true)
    (hn : n + 1 ≤ 4294967296) (hbb : bytes ≤ 16384)
    (h : ∀ v' w', QRow w' e size v' (n + 1) (xs ++ news) → App (w.alloc (.cells news.toArray e)) w' v v' → wpList P ops Q rest (a.put o.dst v') w') :
    wpList P ops Q (o :: rest) a (w.alloc (.cells news.toArray e)) := by
  subst hH
  have hb : (n + 1) * bytes ≤ 140737488355328 := Nat.le_trans (Nat.mul_le_mul hn hbb) (by decide)
  refine wpList_plain hgd fun K hK => ?_
  obtain ⟨v', w', hr, r1, r2, r3⟩ := run_qappend (P := P) (w := w.alloc (.cells news.toArray e)) t o.type i z bytes ht hi hz hsize hby hzs hsz (hown.keep (fun k hk => heap_alloc_old _ _ (hlt k hk))) ⟨w.heap.size, 0, none⟩ c news (by omega) (by
    intro j u hj
    have hc : (w.alloc (.cells news.toArray e)).cell? ⟨w.heap.size, j, none⟩ = some u := by
      simp only [World.cell?]
      rw [heap_alloc_new w _]
      simpa using hj
    unfold Addr.add
    split
    · rename_i h0; subst h0; exact hc
    · simpa using hc) h1 (by unfold maxLen; omega) hb
  unfold Oper.wp execOp
  simp only [ho, resolve, invoke, builtin, Sem.run_bind, Sem.run_pure, Result.andThen_ok, List.map_toArray, List.map_cons, List.map_nil, hs, hx, hr]
  exact hK _ _ (h v' w' r1 ⟨r2, r3⟩)
end Go.Proofs.YtjdmndpadejegaaDoor

namespace Go.Proofs.YtjdmndpadejegaaDoor
open Go.RowKit

theorem next_cons {α β : Type} (s : Sc α) (x : UInt8) (u : List UInt8) (G : α → List UInt8 → Sc β) : (s.up 1).next (x :: u) G = (s.next u G).up 1 := by
  cases s with
  | wait => rfl
  | bad n => rfl
  | ok a n =>
    show (G a ((x :: u).drop (1 + n))).up (1 + n) = ((G a (u.drop n)).up n).up 1
    rw [Sc.up_up, Nat.add_comm 1 n, List.drop_succ_cons]
def AftT (c c' : Cu) (ta : Value) : Sc Tok → Prop
  | .wait => ∃ i, c' = { c with i := i, how := 1 }
  | .bad k => c' = { c with i := c.i + k, how := 2 }
  | .ok t k => c' = { c with i := c.i + k, how := 0, tk := t.kind, tn := t.name, ta := ta }
section
variable {w0 w : World} {cb : Nat} {a : Option Addr} {n cap : Nat} {l : List UInt8} {inn : Nat} {nm : List UInt8} {c : Cu} {bv : Value}
def tokC (k : Nat) (q : List UInt8) (ta : Value) : List Value := [.int .i64 k, .string (strL q), ta, .string (strL []), .int .i64 0, .int .i64 0, .int .i64 0, .int .i64 0, .int .i64 0, .int .i64 0, .int .i64 0, .int .i64 0]
theorem tok_set (hC : CuAt w cb bv inn nm c) (k : Nat) (q : List UInt8) (ta : Value) : CuAt (w.setCells cb 6 (tokC k q ta)) cb bv inn nm { c with tk := k, tn := q, ta := ta } ∧ Kp (· = cb) w (w.setCells cb 6 (tokC k q ta)) := by
  obtain ⟨h1, h2, h3, h4, h5, h6⟩ := setCells_mid cb 77 [.int .i64 c.st, c.tv, .int .i64 c.beg, .int .i64 c.mi, .string (strL c.mn), .int .i64 c.mk', .int .i64 c.mb, .int .i64 c.mr, c.mt] (tokC k q ta) w
    [bv, .int .i64 c.i, .int .i64 inn, .string (strL nm), .int .i64 c.how, .bool c.out] (tokC c.tk c.tn c.ta) hC rfl
  exact ⟨h1, ⟨h4, h5, h6, Nat.le_of_eq h3.symm, fun j _ hj => h2 j hj⟩⟩
theorem tok_there (hC : CuAt w cb bv inn nm c) : w.there cb 6 12 := by
  intro j hj
  refine ⟨?_, hC.fz _⟩
  rw [cell_heap hC]
  have : 6 + j < (cuC bv inn nm c).size := by show 6 + j < 27; omega
  rw [Array.getElem?_eq_getElem this]; rfl
theorem tokOne : (Tryd.prog.info? 41).map (·.size) = some 12 := by kernel_rfl
theorem wpList_store_tok {ops : Array Oper} {rest : List Oper} {o : Oper} {ac : Act} {Q : Exit → Act → World → Prop} (hgd : o.guard = none) (x y : Operand) (ho : o.op = .store 41 x y) (k : Nat) (q : List UInt8) (ta : Value) (h1 : ta.oneCell' = true)
    (hx : ac.eval x = .pointer (some ⟨cb, 6, none⟩)) (hy : ac.eval y = .agg (tokC k q ta).toArray) (hC : CuAt w cb bv inn nm c)
    (h : ∀ w3, CuAt w3 cb bv inn nm { c with tk := k, tn := q, ta := ta } → Kp (· = cb) w w3 → wpList Tryd.prog ops Q rest (ac.put o.dst undef) w3) : wpList Tryd.prog ops Q (o :: rest) ac w := by
  obtain ⟨g1, g2⟩ := tok_set hC k q ta
  refine wpList_store_mid hgd 41 x y ho cb 6 (tokC k q ta).toArray hx hy (tok_there hC) tokOne ?_ (h _ g1 g2)
  refine all_oneCell_toArray fun v hv => ?_
  simp only [tokC, List.mem_cons, List.not_mem_nil, or_false] at hv
  rcases hv with rfl | rfl | rfl | rfl | rfl | rfl | rfl | rfl | rfl | rfl | rfl | rfl <;> first | rfl | exact h1
set_option maxRecDepth 100000 in
set_option maxHeartbeats 4000000 in
theorem end_any (hE : CE w0 w cb a n cap l) (hC : CuAt w cb (.slice a n cap) inn nm c) (hnm : nm.length ≤ 1099511627776) (F : Nat) (hF : (l.drop c.i).length < F) :
    Calls Tryd.prog 43 #[.pointer (some ⟨cb, 0, none⟩)] w fun e w' => e = .returned (.tuple #[]) ∧ ∃ c', AftT c c' (.slice none 0 0) (endF F nm (l.drop c.i)) ∧ CuAt w' cb (.slice a n cap) inn nm c' ∧ Kp (· = cb) w w' := by
  have HE := Lib.hid hE
  have HC := Lib.hid hC
  have hcb := hC.lt
  obtain ⟨S, hS⟩ : ∃ S, endF F nm (l.drop c.i) = S := ⟨_, rfl⟩
  rw [hS]
  have hsm := hE.small
  have HLEN := Lib.hid hE.len
  have HLI := Lib.hid (literal_any hE hC nm hnm)
  have hcnm := hC.c_nm
  obtain ⟨i, hii⟩ : ∃ i, c.i = i := ⟨_, rfl⟩
  rw [hii] at hF
  cases hq : lit nm (l.drop c.i) with
  | wait =>
    rw [hq] at HLI
    have HS : Hid (S = .wait) := by show _ = _; rw [← hS]; unfold endF; rw [hq]; rfl
    clear hS hE hC hq hF
    go_enter Tryd.func43, Tryd.ntmps43
    go_wp2_with (go_at_call 56; (with_reducible refine HLI.out.mono ?_); rintro e w1 ⟨rfl, c1, ha1, h1, h2⟩)
    refine bodyPost_ret (results_none rfl _ _ _) rfl ?_
    exact ⟨rfl, c1, by rw [HS.out]; exact ha1, h1, h2⟩
  | bad k =>
    rw [hq] at HLI
    have HS : Hid (S = .bad k) := by show _ = _; rw [← hS]; unfold endF; rw [hq]; rfl
    clear hS hE hC hq hF
    go_enter Tryd.func43, Tryd.ntmps43
    go_wp2_with (go_at_call 56; (with_reducible refine HLI.out.mono ?_); rintro e w1 ⟨rfl, c1, ha1, h1, h2⟩)
    refine bodyPost_ret (results_none rfl _ _ _) rfl ?_
    exact ⟨rfl, c1, by rw [HS.out]; exact ha1, h1, h2⟩
  | ok u k0 =>
    rw [hq] at HLI
    have HS0 : Hid (((endGo F (l.drop (i + k0))).next (l.drop (i + k0)) fun _ l => doneP (⟨2, nm, []⟩ : Tok) l).up k0 = S) := by
      show _ = _
      rw [← hS]; unfold endF; rw [hq, hii]
      show _ = ((endGo F ((l.drop i).drop k0)).next ((l.drop i).drop k0) fun _ l => doneP (⟨2, nm, []⟩ : Tok) l).up k0
      rw [List.drop_drop]
    have hn1 : (lit nm (l.drop c.i)) = .ok u k0 := hq
    have hk0 := (det_lit nm).ok _ _ _ hn1
    have hk0' : k0 ≤ n - i := by have := hk0.1; rw [List.length_drop, ← HLEN.out, hii] at this; omega
    have HI := Lib.hid hii
    clear hS hE hC hq hn1 hk0
    have hF2 : n - i < F := by rw [List.length_drop, ← HLEN.out] at hF; exact hF
    clear hF hii
    go_enter Tryd.func43, Tryd.ntmps43
    go_wp2_with (go_at_call 56; (with_reducible refine HLI.out.mono ?_); rintro e w1 ⟨he, c1, ha1, h1, h2⟩; obtain rfl : e = .returned (.bool true) := he; have HA1 := Lib.hid ha1; have H1 := Lib.hid h1; have H2 := Lib.hid h2; clear ha1 h1 h2)
    go_loopw [2] (fun _ wr => ∃ (j f : Nat) (c2 : Cu), c2 = { c with i := j } ∧ i ≤ j ∧ Hid (CuAt wr cb (.slice a n cap) inn nm c2 ∧ Kp (· = cb) w wr ∧ n - j < f ∧ ((endGo f (l.drop j)).next (l.drop j) fun _ l => doneP (⟨2, nm, []⟩ : Tok) l).up (j - i) = S)) (fun _ wr => muI n cb wr)
    case atStart =>
      have hA : c1 = { c with i := c.i + k0 } := HA1.out
      exact ⟨i + k0, F, c1, by rw [hA, HI.out], by omega, H1.out, H2.out, by omega, by rw [show i + k0 - i = k0 by omega]; exact HS0.out⟩
    case round =>
      obtain ⟨j, f, c2, hc2, hij, hh⟩ := hrel
      obtain ⟨hC2, hK2, hf2, hs2⟩ := hh.out
      obtain ⟨f, rfl⟩ : ∃ g, f = g + 1 := ⟨f - 1, by omega⟩
      have hE2 := HE.out.keep1 hK2
      have HC2 := Lib.hid hC2
      have HK2 := Lib.hid hK2
      have hcb2 := hC2.lt
      have hj2 : c2.i = j := by rw [hc2]
      have hci2 := hC2.c_i
      have hcnm2 := hC2.c_nm
      have hfz2 := hC2.fz 1
      rw [hj2] at hci2
      have HC2E := Lib.hid hc2
      have hmu := muI_eq (n := n) hC2
      rw [hj2] at hmu
      have HMU := Lib.hid hmu
      have HF2 := Lib.hid hf2
      cases hx : l.drop j with
      | nil =>
        have HB := Lib.hid (byte_none hE2 hC2 (by rw [hj2]; exact hx))
        rw [hx] at hs2
        have HS2 : Hid (S = .wait) := hs2.symm
        clear hh hC2 hK2 hE2 hs2 hx hc2 hj2 hf2 hmu
        go_wp2_with (go_at_call 28; (with_reducible refine HB.out.mono ?_); rintro e w2 ⟨rfl, h1, h2⟩)
        refine bodyPost_ret (results_none rfl _ _ _) rfl ?_
        refine ⟨rfl, _, ?_, h1, HK2.out.trans h2 fun k e => .inl e⟩
        rw [HS2.out]
        exact ⟨j, by rw [HC2E.out]⟩
      | cons x u =>
        have hlt := hE2.lt_of hx
        have ht := drop_tail hx
        have hs3 : ((if x.toNat = 62 then on1 (doneP ()) (x :: u) else if blankB x = true then on1 (endGo f) (x :: u) else badP (x :: u)).next (x :: u) fun _ l => doneP (⟨2, nm, []⟩ : Tok) l).up (j - i) = S := by rw [← hs2, hx]; rfl
        have HB := Lib.hid (byte_some hE2 hC2 x u (by rw [hj2]; exact hx))
        have HBL := Lib.hid (fun W => blank_any x W)
        have hx256 := x.toNat_lt
        by_cases hx62 : x.toNat = 62
        · have hxe : ((x.toNat : Int) == 62) = true := by simp; omega
          rw [if_pos hx62] at hs3
          have HS2 : Hid (S = .ok ⟨2, nm, []⟩ (j - i + (1 + 0))) := hs3.symm
          have hf4 := hC2.fz 4
          have hcw := hC2.c_how
          clear hh hC2 hK2 hE2 hs2 hs3 hx hc2 hj2 hf2 hmu ht hx62
          go_wp2_with (first | (go_at_call 28; (with_reducible refine HB.out.mono ?_); rintro e w2 ⟨rfl, hb2⟩; have d1 := (hb2.cell (p := ⟨cb, 1, none⟩) hcb2).trans hci2; have d3 := (hb2.cell (p := ⟨cb, 3, none⟩) hcb2).trans hcnm2; have f1 := (hb2.frozen (p := ⟨cb, 1, none⟩) hcb2).trans hfz2; have hcb4 := Nat.lt_of_lt_of_le hcb2 hb2.size) | (refine wpList_store_tok rfl (.tmp 36) (.tmp 34) rfl 2 nm (.slice none 0 0) rfl (by rfl) (by rfl) ((HC2.out.below hb2).set_iz ((j : Int) + 1) (j + 1) (by simp)) ?_; intro w3 g1 g2; have e4 := g1.c_how; have f4 := g1.fz 4; have G1 := Lib.hid g1; have G2 := Lib.hid g2; clear g1 g2))
          refine bodyPost_ret (results_none rfl _ _ _) rfl ?_
          refine ⟨rfl, _, ?_, G1.out.set_how 0, (((HK2.out.on hb2).set (.inl rfl) _ _).trans G2.out fun k e => .inl e).set (.inl rfl) _ _⟩
          rw [HS2.out]
          show _ = _
          rw [HC2E.out, HI.out, show i + (j - i + (1 + 0)) = j + 1 by omega]
        · have hxe : ((x.toNat : Int) == 62) = false := by simp; omega
          rw [if_neg hx62] at hs3
          obtain ⟨bl, hbl⟩ : ∃ bl, blankB x = bl := ⟨_, rfl⟩
          rw [hbl] at hs3 HBL
          cases bl with
          | false =>
            have HS2 : Hid (S = .bad (j - i)) := hs3.symm
            have HW := Lib.hid (fun W (hb : Below wr.heap.size wr W) => wrong_any (hC2.below hb))
            clear hh hC2 hK2 hE2 hs2 hs3 hx hc2 hj2 hf2 hmu ht hx62 hbl
            go_wp2_with (first | (go_at_call 28; (with_reducible refine HB.out.mono ?_); rintro e w2 ⟨rfl, hb2⟩) | (go_at_call 30; (with_reducible refine (HBL.out _).mono ?_); rintro e w4 ⟨rfl, rfl⟩) | (go_at_call 31; (with_reducible refine (HW.out _ hb2).mono ?_); rintro e w3 ⟨rfl, h1, h2⟩))
            refine bodyPost_ret (results_none rfl _ _ _) rfl ?_
            refine ⟨rfl, _, ?_, h1, (HK2.out.on hb2).trans h2 fun k e => .inl e⟩
            rw [HS2.out]
            show _ = _
            rw [HC2E.out, HI.out, show i + (j - i) = j by omega]
          | true =>
            have hs4 : ((endGo f (l.drop (j + 1))).next (l.drop (j + 1)) fun _ l => doneP (⟨2, nm, []⟩ : Tok) l).up (j + 1 - i) = S := by
              rw [← hs3, ← ht]
              simp only [if_true]
              show _ = (((endGo f u).up 1).next (x :: u) fun _ l => doneP (⟨2, nm, []⟩ : Tok) l).up (j - i)
              rw [next_cons, Sc.up_up, show j - i + 1 = j + 1 - i by omega]
            have HS4 := Lib.hid hs4
            clear hh hC2 hK2 hE2 hs2 hs3 hs4 hx hc2 hj2 hf2 hmu ht hx62 hbl
            go_wp2_with (first | (go_at_call 28; (with_reducible refine HB.out.mono ?_); rintro e w2 ⟨rfl, hb2⟩; have d1 := (hb2.cell (p := ⟨cb, 1, none⟩) hcb2).trans hci2; have f1 := (hb2.frozen (p := ⟨cb, 1, none⟩) hcb2).trans hfz2; have hcb4 := Nat.lt_of_lt_of_le hcb2 hb2.size) | (go_at_call 30; (with_reducible refine (HBL.out _).mono ?_); rintro e w4 ⟨rfl, rfl⟩))
            go_roundw
            case rel =>
              exact ⟨j + 1, f, { c2 with i := j + 1 }, by rw [HC2E.out], by omega, (HC2.out.below hb2).set_iz _ _ (by simp), (HK2.out.on hb2).set (.inl rfl) _ _, by have := HF2.out; omega, HS4.out⟩
            case measure =>
              rw [muI_eq ((HC2.out.below hb2).set_iz ((j : Int) + 1) (j + 1) (by simp)), HMU.out]
              show n - (j + 1) < n - j
              omega
end
end Go.Proofs.YtjdmndpadejegaaDoor

namespace Go.Proofs.YtjdmndpadejegaaDoor
open Go.RowKit

def App2 (w w' : World) (v v' : Value) (n k : Nat) : Prop :=
  (∃ g cp, v = .slice (some ⟨g, 0, none⟩) n cp ∧ v' = .slice (some ⟨g, 0, none⟩) (n + k) cp ∧ w.grownBy w' (some g)) ∨ (w.grownBy w' none ∧ ∃ g, v'.ownBlock = some g ∧ w.heap.size ≤ g)
section
variable {P : Program} {w : World} {e : TypeId} {size : Nat} {v : Value} {n : Nat} {xs : List Value}
theorem own_base {base base' : Nat} (h : w.ownsRow base e size v n xs) (hb : base' ≤ base) : w.ownsRow base' e size v n xs := by
  obtain ⟨h1, h2⟩ := h
  refine ⟨h1, ?_⟩
  rcases h2 with h2 | ⟨g, cap, cur, hv, hg, r⟩
  · exact .inl h2
  · exact .inr ⟨g, cap, cur, hv, by omega, r⟩
theorem run_app2 (base : Nat) (t ty : TypeId) (i : TypeInfo) (z : Value) (bytes : Nat) (ht : P.underlying t = Option.some (.slice e)) (hi : P.info? e = Option.some i) (hz : i.zero = Option.some z)
    (hsize : i.size = size) (hby : i.bytes = bytes) (hzs : z.cells.size = size) (hsz : 0 < size) (h : w.ownsRow base e size v n xs) (hbase : base ≤ w.heap.size)
    (ad : Addr) (m c : Nat) (hm : 0 < m) (news : List Value) (hl : news.length = m * size) (hnews : ∀ j u, news[j]? = Option.some u → w.cell? (ad.add j) = Option.some u) (h1 : ∀ u ∈ news, u.oneCell' = true)
    (h63 : n + m ≤ maxLen) (hbytes : (n + m) * bytes ≤ 140737488355328) :
    ∃ v' w', (Builtin.append_ #[t, t] ty #[v, .slice (Option.some ad) m c]).run P w = .ok v' w' ∧ w'.ownsRow base e size v' (n + m) (xs ++ news) ∧ App2 w w' v v' n m := by
  have hown : ∀ v' w', w'.ownsRow w.heap.size e size v' (n + m) (xs ++ news) → w.grownBy w' none → w'.ownsRow base e size v' (n + m) (xs ++ news) ∧ App2 w w' v v' n m := by
    intro v' w' r1 r2
    refine ⟨own_base r1 hbase, .inr ⟨r2, ?_⟩⟩
    rcases r1.2 with ⟨_, h0⟩ | ⟨g, cap, cur, rfl, hg, _⟩
    · omega
    · exact ⟨g, rfl, hg⟩
  rcases h.2 with ⟨rfl, rfl⟩ | ⟨g, cap, cur, rfl, hg, hh, h5, h6, h7, h8⟩
  · have hx : xs = [] := List.eq_nil_of_length_eq_zero (by have := h.1; omega)
    subst hx
    obtain ⟨v', w', hr, r1, r2, _⟩ := run_append_own (P := P) w w.heap.size t ty e i z size bytes ht hi hz hsize hby hzs hsz (.slice none 0 0) 0 [] (World.ownsRow_nil w _ e size) ad m c news hl hnews h1 h63 hbytes (Nat.le_refl _)
    exact ⟨v', w', hr, hown v' w' r1 r2⟩
  · by_cases hroom : n + m ≤ cap
    · have hfit : 0 + n * size + m * size ≤ cur.toList.length := by
        have := Nat.mul_le_mul_right size hroom
        rw [Nat.add_mul] at this
        rw [Array.length_toList, h7]; omega
      obtain ⟨pa, pb, pc, pd, e1, e2, e3, e4, e5⟩ := cut3 cur.toList 0 (n * size) (m * size) hfit
      have hpa : pa = [] := List.eq_nil_of_length_eq_zero e2
      subst hpa
      rw [List.nil_append] at e1
      rw [List.drop_zero] at e5
      have hcur : cur = (pb ++ (pc ++ pd)).toArray := by rw [← e1]
      have hb' : pb = xs := by rw [e5, h8]
      have hlen0 : pb.length = 0 + n * i.size := by rw [e3, hsize]; omega
      have hh2 : w.heap[g]? = Option.some (.cells (pb ++ (pc ++ pd)).toArray e (0, 0)) := by rw [hh, hcur]
      have hcell : ∀ j, j < news.length → (w.cell? ⟨g, 0 + n * i.size + j, none⟩).isSome = true := fun j hj => by
        rw [cell_heap hh2, ← hlen0]
        simp only [List.getElem?_toArray]
        rw [List.getElem?_append_right (by omega), Nat.add_sub_cancel_left, List.getElem?_append_left (by omega)]
        rw [List.getElem?_eq_getElem (by omega)]; rfl
      have hr := run_append_room_cells (P := P) w t ty e i ht hi g 0 n cap ad m c news (by rw [hsize]; exact hl) hnews h1 hroom hcell (fun j _ => frozen_heap hh)
      obtain ⟨g1, g2, g3, g4, g5, g6⟩ := setCells_mid g e pd news w pb pc hh2 (by omega)
      rw [hlen0] at g1 g2 g3 g4 g5 g6
      refine ⟨_, _, hr, ⟨by rw [List.length_append, h.1, hl, Nat.add_mul], .inr ⟨g, cap, _, rfl, hg, g1, hroom, h6, ?_, ?_⟩⟩, .inl ⟨g, cap, rfl, rfl, ⟨g4, g5, g6, Nat.le_of_eq g3.symm, fun k _ hk => g2 k (fun e => hk (by rw [e]))⟩⟩⟩
      · have hs : cur.size = (pb ++ (pc ++ pd)).length := by rw [hcur]; simp
        rw [h7] at hs
        simp only [List.size_toArray, List.length_append] at hs ⊢
        omega
      · rw [List.toList_toArray, hb', ← List.append_assoc, List.take_left']
        rw [List.length_append, h.1, hl, Nat.add_mul]
    · have holds : ∀ j u, xs[j]? = Option.some u → w.cell? ((⟨g, 0, none⟩ : Addr).add j) = Option.some u := by
        intro j u hj
        rw [Addr.add_lit, cell_heap hh, Nat.zero_add]
        rw [← h8, List.getElem?_take] at hj
        split at hj
        · simpa using hj
        · cases hj
      obtain ⟨v', w', hr, r1, r2⟩ := run_append_arg_grows (P := P) w t ty e i z size bytes ht hi hz hsize hby hzs hsz ⟨g, 0, none⟩ n cap xs h.1 holds ad m c news hl hnews (by omega) h63 hbytes
      exact ⟨v', w', hr, hown v' w' r1 r2⟩
end
theorem wpList_app2 {P : Program} (w : World) {ops : Array Oper} {rest : List Oper} {o : Oper} {a : Act} {Q : Exit → Act → World → Prop} (hgd : o.guard = none) (s x : Operand) (t : TypeId)
    (ho : o.op = .call { callee := .builtin .append, args := #[s, x], argTypes := #[t, t] })
    (base : Nat) (e : TypeId) (i : TypeInfo) (z : Value) (size bytes : Nat) (ht : P.underlying t = some (.slice e)) (hi : P.info? e = some i) (hz : i.zero = some z)
    (hsize : i.size = size) (hby : i.bytes = bytes) (hzs : z.cells.size = size) (hsz : 0 < size)
    (v : Value) (n : Nat) (xs : List Value) (hs : a.eval s = v) (hown : w.ownsRow base e size v n xs)
    (ad : Addr) (m c : Nat) (hm : 0 < m) (news : List Value) (hx : a.eval x = .slice (some ad) m c) (hl : news.length = m * size) (hnews : ∀ j u, news[j]? = some u → w.cell? (ad.add j) = some u) (h1 : ∀ u ∈ news, u.oneCell' = true)
    (h63 : n + m ≤ maxLen) (hbytes : (n + m) * bytes ≤ 140737488355328) (hbase : base ≤ w.heap.size)
    (h : ∀ v' w', w'.ownsRow base e size v' (n + m) (xs ++ news) → App2 w w' v v' n m → wpList P ops Q rest (a.put o.dst v') w') :
    wpList P ops Q (o :: rest) a w := by
  refine wpList_plain hgd fun K hK => ?_
  obtain ⟨v', w', hr, r1, r2⟩ := run_app2 (P := P) (w := w) base t o.type i z bytes ht hi hz hsize hby hzs hsz hown hbase ad m c hm news hl hnews h1 h63 hbytes
  unfold Oper.wp execOp
  simp only [ho, resolve, invoke, builtin, Sem.run_bind, Sem.run_pure, Result.andThen_ok, List.map_toArray, List.map_cons, List.map_nil, hs, hx, hr]
  exact hK _ _ (h v' w' r1 r2)
theorem own_pre {w : World} {base : Nat} {e : TypeId} {size : Nat} {g cp n k : Nat} {xs ys : List Value} (h : w.ownsRow base e size (.slice (some ⟨g, 0, none⟩) (n + k) cp) (n + k) (xs ++ ys)) (hx : xs.length = n * size) : w.ownsRow base e size (.slice (some ⟨g, 0, none⟩) n cp) n xs := by
  obtain ⟨h1, h2⟩ := h
  rcases h2 with ⟨h0, _⟩ | ⟨g', cap', cur, hv, hg, hh, hn, hcap, hsz, htake⟩
  · cases h0
  · cases hv
    refine ⟨hx, .inr ⟨g, cp, cur, rfl, hg, hh, by omega, hcap, hsz, ?_⟩⟩
    have h3 : (cur.toList.take ((n + k) * size)).take (n * size) = (xs ++ ys).take (n * size) := by rw [htake]
    rw [List.take_take, Nat.min_eq_left (Nat.mul_le_mul_right _ (by omega))] at h3
    rw [h3, ← hx, List.take_left']
    rfl
end Go.Proofs.YtjdmndpadejegaaDoor

namespace Go.Proofs.YtjdmndpadejegaaDoor
open Go.RowKit

theorem infoU8r : (Tryd.prog.info? 5).map (fun i => (i.zero, i.size, i.bytes)) = some (some (.int .u8 0), 1, 1) := by kernel_rfl
structure AppR (B : Nat) (v : Value) (n : Nat) (xs : List Value) (r : Nat) (w : World) (e : Ending) (w' : World) : Prop where
  ex : ∃ v', e = .returned v' ∧ w'.ownsRow B 5 1 v' (n + (encN r).length) (xs ++ u8s (encU r)) ∧ ∃ o, App2 (w.alloc o) w' v v' n (encN r).length

set_option maxHeartbeats 4000000 in
set_option maxRecDepth 100000 in
theorem arn_two (B : Nat) (v : Value) (n : Nat) (xs : List Value) (r : Nat) (h0 : 128 ≤ r) (h1 : r ≤ 2047) (w : World) (hown : w.ownsRow B 5 1 v n xs) (hlen : n + 4 ≤ 140737488355328) (hBw : B ≤ w.heap.size) :
    Calls Tryd.prog 63 #[v, .int .i32 r] w fun e w' => AppR B v n xs r w e w' := by
  obtain ⟨i0, hi, h3⟩ := Option.map_eq_some_iff.1 infoU8r
  simp only [Prod.mk.injEq] at h3
  obtain ⟨hz0, hz1, hz2⟩ := h3
  have he : u8s (encU r) = [.int .u8 (192 + (r : Int) / 64), .int .u8 (128 + (r : Int) % 64)] ∧ (encN r).length = 2 := by
    unfold u8s encU encN
    rw [if_neg (by omega), if_pos (by omega)]
    simp only [List.map_cons, List.map_nil, List.length_cons, List.length_nil, and_true]
    repeat rw [toNat_of _ (by omega)]
    simp
  obtain ⟨he1, he2⟩ := he
  have g0 : (128 : Int) ≤ (r : Int) := by omega
  have g1 : (r : Int) ≤ 2047 := by omega
  clear h0 h1
  generalize (r : Int) = z at *
  go_enter Tryd.func63, Tryd.ntmps63
  go_wp2_with (at_builtin; refine wpList_app2 _ rfl _ _ 26 rfl B 5 i0 (.int .u8 0) 1 1 Tryd.underlying26 hi hz0 hz1 hz2 rfl (by decide) _ _ _ rfl (hown.alloc _) ⟨w.heap.size, 0, none⟩ 2 2 (by decide) [.int .u8 (192 + z / 64), .int .u8 (128 + z % 64)] rfl rfl ?c1 ?c2 ?c3 ?c4 ?c5 ?_)
  case c1 =>
    intro j u hj
    match j, hj with
    | 0, hj => simp at hj; subst hj; simp [Addr.add]
    | 1, hj => simp at hj; subst hj; simp [Addr.add]
    | (j + 2), hj => simp at hj
  case c2 => intro u hu; simp at hu; rcases hu with rfl | rfl <;> rfl
  case c3 => unfold maxLen; omega
  case c4 => omega
  case c5 => simp; omega
  intro v' w2 hown' hgrow
  go_wp2
  go_ret
  exact ⟨v', rfl, by rw [he1, he2]; exact hown', _, by rw [he2]; exact hgrow⟩

set_option maxHeartbeats 4000000 in
set_option maxRecDepth 100000 in
theorem arn_lo (B : Nat) (v : Value) (n : Nat) (xs : List Value) (r : Nat) (h0 : 2048 ≤ r) (h1 : r < 55296) (w : World) (hown : w.ownsRow B 5 1 v n xs) (hlen : n + 4 ≤ 140737488355328) (hBw : B ≤ w.heap.size) :
    Calls Tryd.prog 63 #[v, .int .i32 r] w fun e w' => AppR B v n xs r w e w' := by
  obtain ⟨i0, hi, h3⟩ := Option.map_eq_some_iff.1 infoU8r
  simp only [Prod.mk.injEq] at h3
  obtain ⟨hz0, hz1, hz2⟩ := h3
  have he : u8s (encU r) = [.int .u8 (224 + (r : Int) / 4096), .int .u8 (128 + (r : Int) / 64 % 64), .int .u8 (128 + (r : Int) % 64)] ∧ (encN r).length = 3 := by
    unfold u8s encU encN
    rw [if_neg (by omega), if_neg (by omega), if_pos (by omega)]
    simp only [List.map_cons, List.map_nil, List.length_cons, List.length_nil, and_true]
    repeat rw [toNat_of _ (by omega)]
    simp
  obtain ⟨he1, he2⟩ := he
  have g0 : (2048 : Int) ≤ (r : Int) := by omega
  have g1 : (r : Int) < 55296 := by omega
  clear h0 h1
  generalize (r : Int) = z at *
  go_enter Tryd.func63, Tryd.ntmps63
  go_wp2_with (at_builtin; refine wpList_app2 _ rfl _ _ 26 rfl B 5 i0 (.int .u8 0) 1 1 Tryd.underlying26 hi hz0 hz1 hz2 rfl (by decide) _ _ _ rfl (hown.alloc _) ⟨w.heap.size, 0, none⟩ 3 3 (by decide) [.int .u8 (224 + z / 4096), .int .u8 (128 + z / 64 % 64), .int .u8 (128 + z % 64)] rfl rfl ?c1 ?c2 ?c3 ?c4 ?c5 ?_)
  case c1 =>
    intro j u hj
    match j, hj with
    | 0, hj => simp at hj; subst hj; simp [Addr.add]
    | 1, hj => simp at hj; subst hj; simp [Addr.add]
    | 2, hj => simp at hj; subst hj; simp [Addr.add]
    | (j + 3), hj => simp at hj
  case c2 => intro u hu; simp at hu; rcases hu with rfl | rfl | rfl <;> rfl
  case c3 => unfold maxLen; omega
  case c4 => omega
  case c5 => simp; omega
  intro v' w2 hown' hgrow
  go_wp2
  go_ret
  exact ⟨v', rfl, by rw [he1, he2]; exact hown', _, by rw [he2]; exact hgrow⟩

set_option maxHeartbeats 4000000 in
set_option maxRecDepth 100000 in
theorem arn_hi (B : Nat) (v : Value) (n : Nat) (xs : List Value) (r : Nat) (h0 : 57343 < r) (h1 : r ≤ 65535) (w : World) (hown : w.ownsRow B 5 1 v n xs) (hlen : n + 4 ≤ 140737488355328) (hBw : B ≤ w.heap.size) :
    Calls Tryd.prog 63 #[v, .int .i32 r] w fun e w' => AppR B v n xs r w e w' := by
  obtain ⟨i0, hi, h3⟩ := Option.map_eq_some_iff.1 infoU8r
  simp only [Prod.mk.injEq] at h3
  obtain ⟨hz0, hz1, hz2⟩ := h3
  have he : u8s (encU r) = [.int .u8 (224 + (r : Int) / 4096), .int .u8 (128 + (r : Int) / 64 % 64), .int .u8 (128 + (r : Int) % 64)] ∧ (encN r).length = 3 := by
    unfold u8s encU encN
    rw [if_neg (by omega), if_neg (by omega), if_pos (by omega)]
    simp only [List.map_cons, List.map_nil, List.length_cons, List.length_nil, and_true]
    repeat rw [toNat_of _ (by omega)]
    simp
  obtain ⟨he1, he2⟩ := he
  have g0 : (57343 : Int) < (r : Int) := by omega
  have g1 : (r : Int) ≤ 65535 := by omega
  clear h0 h1
  generalize (r : Int) = z at *
  go_enter Tryd.func63, Tryd.ntmps63
  go_wp2_with (at_builtin; refine wpList_app2 _ rfl _ _ 26 rfl B 5 i0 (.int .u8 0) 1 1 Tryd.underlying26 hi hz0 hz1 hz2 rfl (by decide) _ _ _ rfl (hown.alloc _) ⟨w.heap.size, 0, none⟩ 3 3 (by decide) [.int .u8 (224 + z / 4096), .int .u8 (128 + z / 64 % 64), .int .u8 (128 + z % 64)] rfl rfl ?c1 ?c2 ?c3 ?c4 ?c5 ?_)
  case c1 =>
    intro j u hj
    match j, hj with
    | 0, hj => simp at hj; subst hj; simp [Addr.add]
    | 1, hj => simp at hj; subst hj; simp [Addr.add]
    | 2, hj => simp at hj; subst hj; simp [Addr.add]
    | (j + 3), hj => simp at hj
  case c2 => intro u hu; simp at hu; rcases hu with rfl | rfl | rfl <;> rfl
  case c3 => unfold maxLen; omega
  case c4 => omega
  case c5 => simp; omega
  intro v' w2 hown' hgrow
  go_wp2
  go_ret
  exact ⟨v', rfl, by rw [he1, he2]; exact hown', _, by rw [he2]; exact hgrow⟩

set_option maxHeartbeats 4000000 in
set_option maxRecDepth 100000 in
theorem arn_four (B : Nat) (v : Value) (n : Nat) (xs : List Value) (r : Nat) (h0 : 65536 ≤ r) (h1 : r ≤ 1114111) (w : World) (hown : w.ownsRow B 5 1 v n xs) (hlen : n + 4 ≤ 140737488355328) (hBw : B ≤ w.heap.size) :
    Calls Tryd.prog 63 #[v, .int .i32 r] w fun e w' => AppR B v n xs r w e w' := by
  obtain ⟨i0, hi, h3⟩ := Option.map_eq_some_iff.1 infoU8r
  simp only [Prod.mk.injEq] at h3
  obtain ⟨hz0, hz1, hz2⟩ := h3
  have he : u8s (encU r) = [.int .u8 (240 + (r : Int) / 262144), .int .u8 (128 + (r : Int) / 4096 % 64), .int .u8 (128 + (r : Int) / 64 % 64), .int .u8 (128 + (r : Int) % 64)] ∧ (encN r).length = 4 := by
    unfold u8s encU encN
    rw [if_neg (by omega), if_neg (by omega), if_neg (by omega)]
    simp only [List.map_cons, List.map_nil, List.length_cons, List.length_nil, and_true]
    repeat rw [toNat_of _ (by omega)]
    simp
  obtain ⟨he1, he2⟩ := he
  have g0 : (65536 : Int) ≤ (r : Int) := by omega
  have g1 : (r : Int) ≤ 1114111 := by omega
  clear h0 h1
  generalize (r : Int) = z at *
  go_enter Tryd.func63, Tryd.ntmps63
  go_wp2_with (at_builtin; refine wpList_app2 _ rfl _ _ 26 rfl B 5 i0 (.int .u8 0) 1 1 Tryd.underlying26 hi hz0 hz1 hz2 rfl (by decide) _ _ _ rfl (hown.alloc _) ⟨w.heap.size, 0, none⟩ 4 4 (by decide) [.int .u8 (240 + z / 262144), .int .u8 (128 + z / 4096 % 64), .int .u8 (128 + z / 64 % 64), .int .u8 (128 + z % 64)] rfl rfl ?c1 ?c2 ?c3 ?c4 ?c5 ?_)
  case c1 =>
    intro j u hj
    match j, hj with
    | 0, hj => simp at hj; subst hj; simp [Addr.add]
    | 1, hj => simp at hj; subst hj; simp [Addr.add]
    | 2, hj => simp at hj; subst hj; simp [Addr.add]
    | 3, hj => simp at hj; subst hj; simp [Addr.add]
    | (j + 4), hj => simp at hj
  case c2 => intro u hu; simp at hu; rcases hu with rfl | rfl | rfl | rfl <;> rfl
  case c3 => unfold maxLen; omega
  case c4 => omega
  case c5 => simp; omega
  intro v' w2 hown' hgrow
  go_wp2
  go_ret
  exact ⟨v', rfl, by rw [he1, he2]; exact hown', _, by rw [he2]; exact hgrow⟩

set_option maxHeartbeats 4000000 in
set_option maxRecDepth 100000 in
theorem appRune_any (B : Nat) (v : Value) (n : Nat) (xs : List Value) (r : Nat) (hr : chr r) (w : World) (hown : w.ownsRow B 5 1 v n xs) (hlen : n + 4 ≤ 140737488355328) (hBw : B ≤ w.heap.size) :
    Calls Tryd.prog 46 #[v, .int .i32 r] w fun e w' => AppR B v n xs r w e w' := by
  by_cases hc : r < 128
  · obtain ⟨i0, hi, h3⟩ := Option.map_eq_some_iff.1 infoU8r
    simp only [Prod.mk.injEq] at h3
    obtain ⟨hz0, hz1, hz2⟩ := h3
    have he : u8s (encU r) = [.int .u8 (r : Int)] ∧ (encN r).length = 1 := by
      unfold u8s encU encN
      rw [if_pos hc]
      simp only [List.map_cons, List.map_nil, List.length_cons, List.length_nil, and_true]
      rw [toNat_of _ (by omega)]
    obtain ⟨he1, he2⟩ := he
    have hr0 : (0 : Int) ≤ (r : Int) := by omega
    have hr1 : (r : Int) ≤ 127 := by omega
    go_enter Tryd.func46, Tryd.ntmps46
    go_wp2_with (at_builtin; refine wpList_app2 _ rfl _ _ 26 rfl B 5 i0 (.int .u8 0) 1 1 Tryd.underlying26 hi hz0 hz1 hz2 rfl (by decide) _ _ _ rfl (hown.alloc _) ⟨w.heap.size, 0, none⟩ 1 1 (by decide) [.int .u8 (r : Int)] rfl rfl ?c1 ?c2 ?c3 ?c4 ?c5 ?_)
    case c1 =>
      intro j u hj
      match j, hj with
      | 0, hj => simp at hj; subst hj; simp [Addr.add]
      | (j + 1), hj => simp at hj
    case c2 => intro u hu; simp at hu; subst hu; rfl
    case c3 => unfold maxLen; omega
    case c4 => omega
    case c5 => simp; omega
    intro v' w2 hown' hgrow
    go_wp2
    go_ret
    exact ⟨v', rfl, by rw [he1, he2]; exact hown', _, by rw [he2]; exact hgrow⟩
  · have H : Hid (Calls Tryd.prog 63 #[v, .int .i32 r] w fun e w' => AppR B v n xs r w e w') := by
      unfold chr at hr
      by_cases h1 : r ≤ 2047
      · exact arn_two B v n xs r (by omega) h1 w hown hlen hBw
      · by_cases h2 : r < 55296
        · exact arn_lo B v n xs r (by omega) h2 w hown hlen hBw
        · by_cases h3 : r ≤ 65535
          · exact arn_hi B v n xs r (by omega) h3 w hown hlen hBw
          · exact arn_four B v n xs r (by omega) (by omega) w hown hlen hBw
    have hr0 : (127 : Int) < (r : Int) := by omega
    have hru : (r : Int) ≤ 2147483647 := by unfold chr at hr; omega
    clear hown hlen hBw hc hr
    go_enter Tryd.func46, Tryd.ntmps46
    go_wp2_with (go_at_call 63; (with_reducible refine H.out.mono ?_); rintro e w1 ⟨v', rfl, hx⟩)
    go_ret
    exact ⟨v', rfl, hx⟩
end Go.Proofs.YtjdmndpadejegaaDoor
