/-
  Along's iterator, for every body of a loop that keeps the tree: what it hands to it.
-/
import Derived.Test.YtekoflcioooncaaDoorMxN
namespace Go.Proofs.YtekoflcioooncaaDoor
open Go.RowKit Go.Shelf

attribute [local go_sem] Oper.semAt_some

theorem stepsF_at {g : Nat → Nat} {hi m k : Nat} (h : k < hi) (hm : hi ≤ k + m) : stepsF g hi m k = (k : Int) :: stepsF g hi (m - 1) (g k) := by
  cases m with
  | zero => omega
  | succ m => show (if k < hi then (k : Int) :: stepsF g hi m (g k) else []) = _; rw [if_pos h]; rfl
theorem stepsF_end {g : Nat → Nat} {hi m k : Nat} (h : hi ≤ k) : stepsF g hi m k = [] := by
  cases m with
  | zero => rfl
  | succ m => show (if k < hi then (k : Int) :: stepsF g hi m (g k) else []) = _; rw [if_neg (by omega)]
structure BoxT (W : World) (G : Nat → Prop) (B0 B1 B2 tb L : Nat) (f : Nat → Nat) (v a : Int) : Prop where
  b0 : Boxed W B0 27 (.pointer (some ⟨tb, 0, none⟩))
  b1 : Boxed W B1 3 (.int .i64 v)
  b2 : Boxed W B2 53 (.int .i64 a)
  g0 : G B0
  g1 : G B1
  g2 : G B2
  tree : LastAt W G tb L f
theorem BoxT.keep {A B : World} {G : Nat → Prop} {B0 B1 B2 tb L : Nat} {f : Nat → Nat} {v a : Int} (h : BoxT A G B0 B1 B2 tb L f v a) (hk : ∀ k, G k → B.heap[k]? = A.heap[k]?) : BoxT B G B0 B1 B2 tb L f v a :=
  ⟨(hk _ h.g0).trans h.b0, (hk _ h.g1).trans h.b1, (hk _ h.g2).trans h.b2, h.g0, h.g1, h.g2, h.tree.keep hk⟩
theorem lastv {W : World} {G : Nat → Prop} {tb L : Nat} {f : Nat → Nat} (h : LastAt W G tb L f) (hL : L ≤ 1048576) (v : Int) (hv : v < L) :
    Calls Tryd.prog 86 #[.pointer (some ⟨tb, 0, none⟩), .int .i64 v] W fun e w' => e = .returned (.int .i64 ((hiOf L f v : Nat) - 1 : Int)) ∧ w' = W := by
  by_cases h0 : v < 0
  · have := last_top h hL v h0
    unfold hiOf
    rw [if_pos h0]
    exact this
  · obtain ⟨i, rfl⟩ : ∃ i : Nat, v = (i : Int) := ⟨v.toNat, by omega⟩
    have := last_at h i (by omega)
    unfold hiOf
    rw [if_neg h0, Int.toNat_natCast, Int.natCast_add, show ((f i : Nat) : Int) + ((1 : Nat) : Int) - 1 = (f i : Nat) by omega]
    exact this

set_option maxRecDepth 1000000 in
set_option maxHeartbeats 4000000 in
theorem along1_out (n : Nat) (hn : 1 ≤ n) (l B0 B1 B2 tb L : Nat) (f : Nat → Nat) (G : Nat → Prop) (Kp : World → World → Prop) (_hKp : ∀ {A B : World} {k : Nat}, Kp A B → G k → B.heap[k]? = A.heap[k]?) (v a : Int) (xs : List Int) (hxs : xs = alongM L f v a)
    (hv : v < -1 ∨ (L : Int) ≤ v) (_hL : L ≤ 1048576) (_hf : ∀ i, i < L → i ≤ f i ∧ f i < L) (J Jx : List Int → World → Prop)
    (_hY : ∀ pre x W, J pre W → pre.length < xs.length → (pre ++ [x]) <+: xs → YieldAt Fence.wide (n - 1) Tryd.prog l #[.int .i64 x] W fun e W' => (e = .returned (.bool true) ∧ J (pre ++ [x]) W' ∧ Kp W W') ∨ (e = .returned (.bool false) ∧ Jx (pre ++ [x]) W'))
    (W : World) (hT : BoxT W G B0 B1 B2 tb L f v a) (h0 : J [] W) :
    CallsIn Fence.wide n Tryd.prog 84 #[.func (.yield l) #[] #[], .pointer (some ⟨B0, 0, none⟩), .pointer (some ⟨B1, 0, none⟩), .pointer (some ⟨B2, 0, none⟩)] W fun e W' => (∃ v, e = .returned v) ∧
      ((∃ ys, ys = xs ∧ J ys W') ∨ (∃ pre, pre <+: xs ∧ Jx pre W')) := by
  have hro : Fence.wide.round = none := rfl
  have HREF : Hid (Calls Tryd.prog 85 #[.pointer (some ⟨tb, 0, none⟩), .int .i64 v, .int .i64 (-1)] W fun e w' => e = .returned (.int .i64 2) ∧ w' = W) := Lib.hid (by
    by_cases h : v < -1
    · exact refuses_low hT.tree v (-1) h
    · exact refuses_high hT.tree v (-1) (by omega) (by omega))
  have c0 := hT.b0.cell
  have c1 := hT.b1.cell
  have c2 := hT.b2.cell
  clear hT _hY _hKp _hf
  refine callsIn_of_wp Tryd.func84 rfl trivial ?_ hro
  simp only [Tryd.ntmps84, List.size_toArray, List.length_cons, List.length_nil, Nat.reduceAdd, Nat.reduceSub, Array.replicate_succ, Array.replicate_zero, List.push_toArray, List.append_toArray, List.nil_append, List.cons_append]
  gi_wp2_with (refine ⟨trivial, ?_⟩; gi_at_call 85; refine (callsIn_wide.2 HREF.out).mono ?_; rintro e w' ⟨rfl, hw⟩; subst w')
  refine bodyPost_ret (results_none rfl _ _ _) rfl ?_
  exact ⟨⟨_, rfl⟩, .inl ⟨[], by rw [hxs]; unfold alongM; rw [if_pos (by omega)], h0⟩⟩
set_option maxRecDepth 1000000 in
set_option maxHeartbeats 4000000 in
theorem along1_low (n : Nat) (hn : 1 ≤ n) (l B0 B1 B2 tb L : Nat) (f : Nat → Nat) (G : Nat → Prop) (Kp : World → World → Prop) (_hKp : ∀ {A B : World} {k : Nat}, Kp A B → G k → B.heap[k]? = A.heap[k]?) (v a : Int) (xs : List Int) (hxs : xs = alongM L f v a)
    (hv : -1 ≤ v) (hv2 : v < L) (ha : a < 0) (_hL : L ≤ 1048576) (_hf : ∀ i, i < L → i ≤ f i ∧ f i < L) (J Jx : List Int → World → Prop)
    (_hY : ∀ pre x W, J pre W → pre.length < xs.length → (pre ++ [x]) <+: xs → YieldAt Fence.wide (n - 1) Tryd.prog l #[.int .i64 x] W fun e W' => (e = .returned (.bool true) ∧ J (pre ++ [x]) W' ∧ Kp W W') ∨ (e = .returned (.bool false) ∧ Jx (pre ++ [x]) W'))
    (W : World) (hT : BoxT W G B0 B1 B2 tb L f v a) (h0 : J [] W) :
    CallsIn Fence.wide n Tryd.prog 84 #[.func (.yield l) #[] #[], .pointer (some ⟨B0, 0, none⟩), .pointer (some ⟨B1, 0, none⟩), .pointer (some ⟨B2, 0, none⟩)] W fun e W' => (∃ v, e = .returned v) ∧
      ((∃ ys, ys = xs ∧ J ys W') ∨ (∃ pre, pre <+: xs ∧ Jx pre W')) := by
  have hro : Fence.wide.round = none := rfl
  have HREF : Hid (Calls Tryd.prog 85 #[.pointer (some ⟨tb, 0, none⟩), .int .i64 v, .int .i64 (-1)] W fun e w' => e = .returned (.int .i64 0) ∧ w' = W) := Lib.hid (refuses_in hT.tree v (-1) hv hv2)
  have c0 := hT.b0.cell
  have c1 := hT.b1.cell
  have c2 := hT.b2.cell
  clear hT _hY _hKp _hf
  refine callsIn_of_wp Tryd.func84 rfl trivial ?_ hro
  simp only [Tryd.ntmps84, List.size_toArray, List.length_cons, List.length_nil, Nat.reduceAdd, Nat.reduceSub, Array.replicate_succ, Array.replicate_zero, List.push_toArray, List.append_toArray, List.nil_append, List.cons_append]
  gi_wp2_with (refine ⟨trivial, ?_⟩; gi_at_call 85; refine (callsIn_wide.2 HREF.out).mono ?_; rintro e w' ⟨rfl, hw⟩; subst w')
  refine bodyPost_ret (results_none rfl _ _ _) rfl ?_
  exact ⟨⟨_, rfl⟩, .inl ⟨[], by rw [hxs]; unfold alongM; rw [if_pos (by omega)], h0⟩⟩
set_option maxRecDepth 1000000 in
set_option maxHeartbeats 4000000 in
theorem along1_high (n : Nat) (hn : 1 ≤ n) (l B0 B1 B2 tb L : Nat) (f : Nat → Nat) (G : Nat → Prop) (Kp : World → World → Prop) (_hKp : ∀ {A B : World} {k : Nat}, Kp A B → G k → B.heap[k]? = A.heap[k]?) (v a : Int) (xs : List Int) (hxs : xs = alongM L f v a)
    (hv : -1 ≤ v) (hv2 : v < L) (ha0 : 0 ≤ a) (ha : 3 < a) (_hL : L ≤ 1048576) (_hf : ∀ i, i < L → i ≤ f i ∧ f i < L) (J Jx : List Int → World → Prop)
    (_hY : ∀ pre x W, J pre W → pre.length < xs.length → (pre ++ [x]) <+: xs → YieldAt Fence.wide (n - 1) Tryd.prog l #[.int .i64 x] W fun e W' => (e = .returned (.bool true) ∧ J (pre ++ [x]) W' ∧ Kp W W') ∨ (e = .returned (.bool false) ∧ Jx (pre ++ [x]) W'))
    (W : World) (hT : BoxT W G B0 B1 B2 tb L f v a) (h0 : J [] W) :
    CallsIn Fence.wide n Tryd.prog 84 #[.func (.yield l) #[] #[], .pointer (some ⟨B0, 0, none⟩), .pointer (some ⟨B1, 0, none⟩), .pointer (some ⟨B2, 0, none⟩)] W fun e W' => (∃ v, e = .returned v) ∧
      ((∃ ys, ys = xs ∧ J ys W') ∨ (∃ pre, pre <+: xs ∧ Jx pre W')) := by
  have hro : Fence.wide.round = none := rfl
  have HREF : Hid (Calls Tryd.prog 85 #[.pointer (some ⟨tb, 0, none⟩), .int .i64 v, .int .i64 (-1)] W fun e w' => e = .returned (.int .i64 0) ∧ w' = W) := Lib.hid (refuses_in hT.tree v (-1) hv hv2)
  have c0 := hT.b0.cell
  have c1 := hT.b1.cell
  have c2 := hT.b2.cell
  clear hT _hY _hKp _hf
  refine callsIn_of_wp Tryd.func84 rfl trivial ?_ hro
  simp only [Tryd.ntmps84, List.size_toArray, List.length_cons, List.length_nil, Nat.reduceAdd, Nat.reduceSub, Array.replicate_succ, Array.replicate_zero, List.push_toArray, List.append_toArray, List.nil_append, List.cons_append]
  gi_wp2_with (refine ⟨trivial, ?_⟩; gi_at_call 85; refine (callsIn_wide.2 HREF.out).mono ?_; rintro e w' ⟨rfl, hw⟩; subst w')
  refine bodyPost_ret (results_none rfl _ _ _) rfl ?_
  exact ⟨⟨_, rfl⟩, .inl ⟨[], by rw [hxs]; unfold alongM; rw [if_pos (by omega)], h0⟩⟩
set_option maxRecDepth 1000000 in
set_option maxHeartbeats 4000000 in
theorem along1_0 (n : Nat) (hn : 1 ≤ n) (l B0 B1 B2 tb L : Nat) (f : Nat → Nat) (G : Nat → Prop) (Kp : World → World → Prop) (hKp : ∀ {A B : World} {k : Nat}, Kp A B → G k → B.heap[k]? = A.heap[k]?) (v : Int) (xs : List Int) (hxs : xs = alongM L f v 0)
    (hv : -1 ≤ v) (hv2 : v < L) (hL : L ≤ 1048576) (hf : ∀ i, i < L → i ≤ f i ∧ f i < L) (J Jx : List Int → World → Prop)
    (hY : ∀ pre x W, J pre W → pre.length < xs.length → (pre ++ [x]) <+: xs → YieldAt Fence.wide (n - 1) Tryd.prog l #[.int .i64 x] W fun e W' => (e = .returned (.bool true) ∧ J (pre ++ [x]) W' ∧ Kp W W') ∨ (e = .returned (.bool false) ∧ Jx (pre ++ [x]) W'))
    (W : World) (hT : BoxT W G B0 B1 B2 tb L f v 0) (h0 : J [] W) :
    CallsIn Fence.wide n Tryd.prog 84 #[.func (.yield l) #[] #[], .pointer (some ⟨B0, 0, none⟩), .pointer (some ⟨B1, 0, none⟩), .pointer (some ⟨B2, 0, none⟩)] W fun e W' => (∃ v, e = .returned v) ∧
      ((∃ ys, ys = xs ∧ J ys W') ∨ (∃ pre, pre <+: xs ∧ Jx pre W')) := by
  have hro : Fence.wide.round = none := rfl
  have HREF : Hid (Calls Tryd.prog 85 #[.pointer (some ⟨tb, 0, none⟩), .int .i64 v, .int .i64 (-1)] W fun e w' => e = .returned (.int .i64 0) ∧ w' = W) := Lib.hid (refuses_in hT.tree v (-1) hv hv2)
  have HT := Lib.hid hT
  have hhi : hiOf L f v ≤ L := by
    unfold hiOf
    split
    · exact Nat.le_refl _
    · have := (hf v.toNat (by omega)).2; omega
  have ew0 : IntKind.i64.wrap (v + 1) = v + 1 := IntWalk.i64_in _ (by omega)
  have c0 := hT.b0.cell
  have c1 := hT.b1.cell
  have c2 := hT.b2.cell
  clear hT
  have hxs0 : xs = [] ++ stepsF (nextOf f 0) (hiOf L f v) L (v + 1).toNat := by
    rw [hxs]; unfold alongM; rw [if_neg (by omega), if_neg (by omega), if_neg (by omega)]
  refine callsIn_of_wp Tryd.func84 rfl trivial ?_ hro
  simp only [Tryd.ntmps84, List.size_toArray, List.length_cons, List.length_nil, Nat.reduceAdd, Nat.reduceSub, Array.replicate_succ, Array.replicate_zero, List.push_toArray, List.append_toArray, List.nil_append, List.cons_append]
  gi_wp2_with (refine ⟨trivial, ?_⟩; gi_at_call 85; refine (callsIn_wide.2 HREF.out).mono ?_; rintro e w' ⟨rfl, hw⟩; subst w')
  refine ⟨fun _ h => (by cases h), ?_⟩
  gi_wp2
  gi_loopw [5] (fun iv wr => ∃ (pre : List Int) (k m : Nat), iv = .int .i64 k ∧ hiOf L f v ≤ k + m ∧ Hid (xs = pre ++ stepsF (nextOf f 0) (hiOf L f v) m k) ∧ J pre wr ∧ Hid (∀ k, G k → wr.heap[k]? = W.heap[k]?)) (fun iv _ => hiOf L f v - (intOf iv).toNat)
  case atStart => exact ⟨[], (v + 1).toNat, L, by rw [Int.toNat_of_nonneg (by omega)], by omega, Lib.hid hxs0, h0, Lib.hid (fun _ _ => rfl)⟩
  case round =>
    obtain ⟨pre, k, m, rfl, hm, hxe, hJs, hgk⟩ := hrel
    have hTr := Lib.hid (HT.out.keep hgk.out)
    have d0 := hTr.out.b0.cell
    have d1 := hTr.out.b1.cell
    have HLA := Lib.hid (lastv hTr.out.tree hL v hv2)
    by_cases hlt : k < hiOf L f v
    · have hkL : k < L := by omega
      have hk1 : (k : Int) ≤ (hiOf L f v : Nat) - 1 := by omega
      have hxe2 := hxe.out
      rw [stepsF_at hlt hm] at hxe2
      obtain ⟨fn, tmps, assign, body, hy, hR⟩ := hY pre (k : Int) wr hJs (by rw [hxe2]; simp) ⟨_, by rw [hxe2, List.append_assoc]; rfl⟩
      have ew : IntKind.i64.wrap ((k : Int) + 1) = (k : Int) + 1 := IntWalk.i64_in _ (by omega)
      gi_wp2_with (refine ⟨trivial, ?_⟩; gi_at_call 86; refine (callsIn_wide.2 HLA.out).mono ?_; rintro e w' ⟨rfl, hw⟩; subst w')
      refine hR.mono ?_
      rintro e W3 (⟨rfl, hJ3, hk3⟩ | ⟨rfl, hJx3⟩)
      · have hg3 : ∀ k, G k → W3.heap[k]? = W.heap[k]? := fun k hk => (hKp hk3 hk).trans (hgk.out k hk)
        have hT3 := Lib.hid (HT.out.keep hg3)
        have f0 := hT3.out.b0.cell
        have f2 := hT3.out.b2.cell
        have HLK := Lib.hid (last_at hT3.out.tree k hkL)
        have hfk := hf k hkL
        have ew2 : IntKind.i64.wrap ((f k : Int) + 1) = (f k : Int) + 1 := IntWalk.i64_in _ (by omega)
        gi_wp2_with (refine ⟨trivial, ?_⟩; gi_at_call 86; refine (callsIn_wide.2 HLK.out).mono ?_; rintro e w' ⟨rfl, hw⟩; subst w')
        go_roundw
        case rel => exact ⟨pre ++ [(k : Int)], f k + 1, m - 1, by go_num, by omega, Lib.hid (by rw [hxe2, List.append_assoc]; rfl), hJ3, Lib.hid hg3⟩
        case measure => simp [intOf]; omega
      · gi_wp2
        refine bodyPost_ret (results_none rfl _ _ _) rfl ?_
        exact ⟨⟨_, rfl⟩, .inr ⟨pre ++ [(k : Int)], ⟨_, by rw [hxe2, List.append_assoc]; rfl⟩, hJx3⟩⟩
    · have hk1 : (hiOf L f v : Nat) - 1 < (k : Int) := by omega
      have hxe2 := hxe.out
      rw [stepsF_end (by omega), List.append_nil] at hxe2
      gi_wp2_with (refine ⟨trivial, ?_⟩; gi_at_call 86; refine (callsIn_wide.2 HLA.out).mono ?_; rintro e w' ⟨rfl, hw⟩; subst w')
      go_end0
      exact ⟨⟨_, rfl⟩, .inl ⟨pre, hxe2.symm, hJs⟩⟩
set_option maxRecDepth 1000000 in
set_option maxHeartbeats 4000000 in
theorem along1_1 (n : Nat) (hn : 1 ≤ n) (l B0 B1 B2 tb L : Nat) (f : Nat → Nat) (G : Nat → Prop) (Kp : World → World → Prop) (hKp : ∀ {A B : World} {k : Nat}, Kp A B → G k → B.heap[k]? = A.heap[k]?) (v : Int) (xs : List Int) (hxs : xs = alongM L f v 1)
    (hv : -1 ≤ v) (hv2 : v < L) (hL : L ≤ 1048576) (hf : ∀ i, i < L → i ≤ f i ∧ f i < L) (J Jx : List Int → World → Prop)
    (hY : ∀ pre x W, J pre W → pre.length < xs.length → (pre ++ [x]) <+: xs → YieldAt Fence.wide (n - 1) Tryd.prog l #[.int .i64 x] W fun e W' => (e = .returned (.bool true) ∧ J (pre ++ [x]) W' ∧ Kp W W') ∨ (e = .returned (.bool false) ∧ Jx (pre ++ [x]) W'))
    (W : World) (hT : BoxT W G B0 B1 B2 tb L f v 1) (h0 : J [] W) :
    CallsIn Fence.wide n Tryd.prog 84 #[.func (.yield l) #[] #[], .pointer (some ⟨B0, 0, none⟩), .pointer (some ⟨B1, 0, none⟩), .pointer (some ⟨B2, 0, none⟩)] W fun e W' => (∃ v, e = .returned v) ∧
      ((∃ ys, ys = xs ∧ J ys W') ∨ (∃ pre, pre <+: xs ∧ Jx pre W')) := by
  have hro : Fence.wide.round = none := rfl
  have HREF : Hid (Calls Tryd.prog 85 #[.pointer (some ⟨tb, 0, none⟩), .int .i64 v, .int .i64 (-1)] W fun e w' => e = .returned (.int .i64 0) ∧ w' = W) := Lib.hid (refuses_in hT.tree v (-1) hv hv2)
  have HT := Lib.hid hT
  have hhi : hiOf L f v ≤ L := by
    unfold hiOf
    split
    · exact Nat.le_refl _
    · have := (hf v.toNat (by omega)).2; omega
  have ew0 : IntKind.i64.wrap (v + 1) = v + 1 := IntWalk.i64_in _ (by omega)
  have c0 := hT.b0.cell
  have c1 := hT.b1.cell
  have c2 := hT.b2.cell
  clear hT
  have hxs0 : xs = [] ++ stepsF (nextOf f 1) (hiOf L f v) L (v + 1).toNat := by
    rw [hxs]; unfold alongM; rw [if_neg (by omega), if_neg (by omega), if_neg (by omega)]
  refine callsIn_of_wp Tryd.func84 rfl trivial ?_ hro
  simp only [Tryd.ntmps84, List.size_toArray, List.length_cons, List.length_nil, Nat.reduceAdd, Nat.reduceSub, Array.replicate_succ, Array.replicate_zero, List.push_toArray, List.append_toArray, List.nil_append, List.cons_append]
  gi_wp2_with (refine ⟨trivial, ?_⟩; gi_at_call 85; refine (callsIn_wide.2 HREF.out).mono ?_; rintro e w' ⟨rfl, hw⟩; subst w')
  refine ⟨fun _ h => (by cases h), ?_⟩
  gi_wp2
  gi_loopw [5] (fun iv wr => ∃ (pre : List Int) (k m : Nat), iv = .int .i64 k ∧ hiOf L f v ≤ k + m ∧ Hid (xs = pre ++ stepsF (nextOf f 1) (hiOf L f v) m k) ∧ J pre wr ∧ Hid (∀ k, G k → wr.heap[k]? = W.heap[k]?)) (fun iv _ => hiOf L f v - (intOf iv).toNat)
  case atStart => exact ⟨[], (v + 1).toNat, L, by rw [Int.toNat_of_nonneg (by omega)], by omega, Lib.hid hxs0, h0, Lib.hid (fun _ _ => rfl)⟩
  case round =>
    obtain ⟨pre, k, m, rfl, hm, hxe, hJs, hgk⟩ := hrel
    have hTr := Lib.hid (HT.out.keep hgk.out)
    have d0 := hTr.out.b0.cell
    have d1 := hTr.out.b1.cell
    have HLA := Lib.hid (lastv hTr.out.tree hL v hv2)
    by_cases hlt : k < hiOf L f v
    · have hkL : k < L := by omega
      have hk1 : (k : Int) ≤ (hiOf L f v : Nat) - 1 := by omega
      have hxe2 := hxe.out
      rw [stepsF_at hlt hm] at hxe2
      obtain ⟨fn, tmps, assign, body, hy, hR⟩ := hY pre (k : Int) wr hJs (by rw [hxe2]; simp) ⟨_, by rw [hxe2, List.append_assoc]; rfl⟩
      have ew : IntKind.i64.wrap ((k : Int) + 1) = (k : Int) + 1 := IntWalk.i64_in _ (by omega)
      gi_wp2_with (refine ⟨trivial, ?_⟩; gi_at_call 86; refine (callsIn_wide.2 HLA.out).mono ?_; rintro e w' ⟨rfl, hw⟩; subst w')
      refine hR.mono ?_
      rintro e W3 (⟨rfl, hJ3, hk3⟩ | ⟨rfl, hJx3⟩)
      · have hg3 : ∀ k, G k → W3.heap[k]? = W.heap[k]? := fun k hk => (hKp hk3 hk).trans (hgk.out k hk)
        have hT3 := Lib.hid (HT.out.keep hg3)
        have f0 := hT3.out.b0.cell
        have f2 := hT3.out.b2.cell
        gi_wp2
        go_roundw
        case rel => exact ⟨pre ++ [(k : Int)], k + 1, m - 1, by go_num, by omega, Lib.hid (by rw [hxe2, List.append_assoc]; rfl), hJ3, Lib.hid hg3⟩
        case measure => simp [intOf]; omega
      · gi_wp2
        refine bodyPost_ret (results_none rfl _ _ _) rfl ?_
        exact ⟨⟨_, rfl⟩, .inr ⟨pre ++ [(k : Int)], ⟨_, by rw [hxe2, List.append_assoc]; rfl⟩, hJx3⟩⟩
    · have hk1 : (hiOf L f v : Nat) - 1 < (k : Int) := by omega
      have hxe2 := hxe.out
      rw [stepsF_end (by omega), List.append_nil] at hxe2
      gi_wp2_with (refine ⟨trivial, ?_⟩; gi_at_call 86; refine (callsIn_wide.2 HLA.out).mono ?_; rintro e w' ⟨rfl, hw⟩; subst w')
      go_end0
      exact ⟨⟨_, rfl⟩, .inl ⟨pre, hxe2.symm, hJs⟩⟩
set_option maxRecDepth 1000000 in
set_option maxHeartbeats 4000000 in
theorem along1_2 (n : Nat) (hn : 1 ≤ n) (l B0 B1 B2 tb L : Nat) (f : Nat → Nat) (G : Nat → Prop) (Kp : World → World → Prop) (hKp : ∀ {A B : World} {k : Nat}, Kp A B → G k → B.heap[k]? = A.heap[k]?) (v : Int) (xs : List Int) (hxs : xs = alongM L f v 2)
    (hv : -1 ≤ v) (hv2 : v < L) (hL : L ≤ 1048576) (hf : ∀ i, i < L → i ≤ f i ∧ f i < L) (J Jx : List Int → World → Prop)
    (hY : ∀ pre x W, J pre W → pre.length < xs.length → (pre ++ [x]) <+: xs → YieldAt Fence.wide (n - 1) Tryd.prog l #[.int .i64 x] W fun e W' => (e = .returned (.bool true) ∧ J (pre ++ [x]) W' ∧ Kp W W') ∨ (e = .returned (.bool false) ∧ Jx (pre ++ [x]) W'))
    (W : World) (hT : BoxT W G B0 B1 B2 tb L f v 2) (h0 : J [] W) :
    CallsIn Fence.wide n Tryd.prog 84 #[.func (.yield l) #[] #[], .pointer (some ⟨B0, 0, none⟩), .pointer (some ⟨B1, 0, none⟩), .pointer (some ⟨B2, 0, none⟩)] W fun e W' => (∃ v, e = .returned v) ∧
      ((∃ ys, ys = xs ∧ J ys W') ∨ (∃ pre, pre <+: xs ∧ Jx pre W')) := by
  have hro : Fence.wide.round = none := rfl
  have HREF : Hid (Calls Tryd.prog 85 #[.pointer (some ⟨tb, 0, none⟩), .int .i64 v, .int .i64 (-1)] W fun e w' => e = .returned (.int .i64 0) ∧ w' = W) := Lib.hid (refuses_in hT.tree v (-1) hv hv2)
  have HT := Lib.hid hT
  have hhi : hiOf L f v ≤ L := by
    unfold hiOf
    split
    · exact Nat.le_refl _
    · have := (hf v.toNat (by omega)).2; omega
  have ew0 : IntKind.i64.wrap (v + 1) = v + 1 := IntWalk.i64_in _ (by omega)
  have c0 := hT.b0.cell
  have c1 := hT.b1.cell
  have c2 := hT.b2.cell
  clear hT
  have hxs0 : xs = [v] ++ stepsF (nextOf f 2) (hiOf L f v) L (v + 1).toNat := by
    rw [hxs]; unfold alongM; rw [if_neg (by omega), if_pos (by omega), if_neg (by omega)]
  obtain ⟨fn, tmps, assign, body, hy, hR⟩ := hY [] v W h0 (by rw [hxs0]; simp) ⟨_, hxs0.symm⟩
  refine callsIn_of_wp Tryd.func84 rfl trivial ?_ hro
  simp only [Tryd.ntmps84, List.size_toArray, List.length_cons, List.length_nil, Nat.reduceAdd, Nat.reduceSub, Array.replicate_succ, Array.replicate_zero, List.push_toArray, List.append_toArray, List.nil_append, List.cons_append]
  gi_wp2_with (refine ⟨trivial, ?_⟩; gi_at_call 85; refine (callsIn_wide.2 HREF.out).mono ?_; rintro e w' ⟨rfl, hw⟩; subst w')
  refine hR.mono ?_
  rintro e W2 (⟨rfl, hJ2, hk2⟩ | ⟨rfl, hJx2⟩)
  · have hg2 : ∀ k, G k → W2.heap[k]? = W.heap[k]? := fun k hk => hKp hk2 hk
    have hT2 := Lib.hid (HT.out.keep hg2)
    have a1 := hT2.out.b1.cell
    have a2 := hT2.out.b2.cell
    gi_wp2
    gi_loopw [5] (fun iv wr => ∃ (pre : List Int) (k m : Nat), iv = .int .i64 k ∧ hiOf L f v ≤ k + m ∧ Hid (xs = pre ++ stepsF (nextOf f 2) (hiOf L f v) m k) ∧ J pre wr ∧ Hid (∀ k, G k → wr.heap[k]? = W.heap[k]?)) (fun iv _ => hiOf L f v - (intOf iv).toNat)
    case atStart => exact ⟨[v], (v + 1).toNat, L, by rw [Int.toNat_of_nonneg (by omega)], by omega, Lib.hid hxs0, hJ2, Lib.hid hg2⟩
    case round =>
      obtain ⟨pre, k, m, rfl, hm, hxe, hJs, hgk⟩ := hrel
      have hTr := Lib.hid (HT.out.keep hgk.out)
      have d0 := hTr.out.b0.cell
      have d1 := hTr.out.b1.cell
      have HLA := Lib.hid (lastv hTr.out.tree hL v hv2)
      by_cases hlt : k < hiOf L f v
      · have hkL : k < L := by omega
        have hk1 : (k : Int) ≤ (hiOf L f v : Nat) - 1 := by omega
        have hxe2 := hxe.out
        rw [stepsF_at hlt hm] at hxe2
        obtain ⟨fn, tmps, assign, body, hy, hR⟩ := hY pre (k : Int) wr hJs (by rw [hxe2]; simp) ⟨_, by rw [hxe2, List.append_assoc]; rfl⟩
        have ew : IntKind.i64.wrap ((k : Int) + 1) = (k : Int) + 1 := IntWalk.i64_in _ (by omega)
        gi_wp2_with (refine ⟨trivial, ?_⟩; gi_at_call 86; refine (callsIn_wide.2 HLA.out).mono ?_; rintro e w' ⟨rfl, hw⟩; subst w')
        refine hR.mono ?_
        rintro e W3 (⟨rfl, hJ3, hk3⟩ | ⟨rfl, hJx3⟩)
        · have hg3 : ∀ k, G k → W3.heap[k]? = W.heap[k]? := fun k hk => (hKp hk3 hk).trans (hgk.out k hk)
          have hT3 := Lib.hid (HT.out.keep hg3)
          have f0 := hT3.out.b0.cell
          have f2 := hT3.out.b2.cell
          gi_wp2
          go_roundw
          case rel => exact ⟨pre ++ [(k : Int)], k + 1, m - 1, by go_num, by omega, Lib.hid (by rw [hxe2, List.append_assoc]; rfl), hJ3, Lib.hid hg3⟩
          case measure => simp [intOf]; omega
        · gi_wp2
          refine bodyPost_ret (results_none rfl _ _ _) rfl ?_
          exact ⟨⟨_, rfl⟩, .inr ⟨pre ++ [(k : Int)], ⟨_, by rw [hxe2, List.append_assoc]; rfl⟩, hJx3⟩⟩
      · have hk1 : (hiOf L f v : Nat) - 1 < (k : Int) := by omega
        have hxe2 := hxe.out
        rw [stepsF_end (by omega), List.append_nil] at hxe2
        gi_wp2_with (refine ⟨trivial, ?_⟩; gi_at_call 86; refine (callsIn_wide.2 HLA.out).mono ?_; rintro e w' ⟨rfl, hw⟩; subst w')
        go_end0
        exact ⟨⟨_, rfl⟩, .inl ⟨pre, hxe2.symm, hJs⟩⟩
  · gi_wp2
    refine bodyPost_ret (results_none rfl _ _ _) rfl ?_
    exact ⟨⟨_, rfl⟩, .inr ⟨[v], ⟨_, hxs0.symm⟩, hJx2⟩⟩
set_option maxRecDepth 1000000 in
set_option maxHeartbeats 4000000 in
theorem along1_3 (n : Nat) (hn : 1 ≤ n) (l B0 B1 B2 tb L : Nat) (f : Nat → Nat) (G : Nat → Prop) (Kp : World → World → Prop) (hKp : ∀ {A B : World} {k : Nat}, Kp A B → G k → B.heap[k]? = A.heap[k]?) (v : Int) (xs : List Int) (hxs : xs = alongM L f v 3)
    (hv : -1 ≤ v) (hv2 : v < L) (hL : L ≤ 1048576) (hf : ∀ i, i < L → i ≤ f i ∧ f i < L) (J Jx : List Int → World → Prop)
    (hY : ∀ pre x W, J pre W → pre.length < xs.length → (pre ++ [x]) <+: xs → YieldAt Fence.wide (n - 1) Tryd.prog l #[.int .i64 x] W fun e W' => (e = .returned (.bool true) ∧ J (pre ++ [x]) W' ∧ Kp W W') ∨ (e = .returned (.bool false) ∧ Jx (pre ++ [x]) W'))
    (W : World) (hT : BoxT W G B0 B1 B2 tb L f v 3) (h0 : J [] W) :
    CallsIn Fence.wide n Tryd.prog 84 #[.func (.yield l) #[] #[], .pointer (some ⟨B0, 0, none⟩), .pointer (some ⟨B1, 0, none⟩), .pointer (some ⟨B2, 0, none⟩)] W fun e W' => (∃ v, e = .returned v) ∧
      ((∃ ys, ys = xs ∧ J ys W') ∨ (∃ pre, pre <+: xs ∧ Jx pre W')) := by
  have hro : Fence.wide.round = none := rfl
  have HREF : Hid (Calls Tryd.prog 85 #[.pointer (some ⟨tb, 0, none⟩), .int .i64 v, .int .i64 (-1)] W fun e w' => e = .returned (.int .i64 0) ∧ w' = W) := Lib.hid (refuses_in hT.tree v (-1) hv hv2)
  have HT := Lib.hid hT
  have hhi : hiOf L f v ≤ L := by
    unfold hiOf
    split
    · exact Nat.le_refl _
    · have := (hf v.toNat (by omega)).2; omega
  have ew0 : IntKind.i64.wrap (v + 1) = v + 1 := IntWalk.i64_in _ (by omega)
  have c0 := hT.b0.cell
  have c1 := hT.b1.cell
  have c2 := hT.b2.cell
  clear hT
  have hxs0 : xs = [v] := by
    rw [hxs]; unfold alongM; rw [if_neg (by omega), if_pos (by omega), if_pos (by omega)]; rfl
  obtain ⟨fn, tmps, assign, body, hy, hR⟩ := hY [] v W h0 (by rw [hxs0]; simp) ⟨[], by rw [hxs0]; rfl⟩
  refine callsIn_of_wp Tryd.func84 rfl trivial ?_ hro
  simp only [Tryd.ntmps84, List.size_toArray, List.length_cons, List.length_nil, Nat.reduceAdd, Nat.reduceSub, Array.replicate_succ, Array.replicate_zero, List.push_toArray, List.append_toArray, List.nil_append, List.cons_append]
  gi_wp2_with (refine ⟨trivial, ?_⟩; gi_at_call 85; refine (callsIn_wide.2 HREF.out).mono ?_; rintro e w' ⟨rfl, hw⟩; subst w')
  refine hR.mono ?_
  rintro e W2 (⟨rfl, hJ2, hk2⟩ | ⟨rfl, hJx2⟩)
  · have hg2 : ∀ k, G k → W2.heap[k]? = W.heap[k]? := fun k hk => hKp hk2 hk
    have hT2 := Lib.hid (HT.out.keep hg2)
    have a1 := hT2.out.b1.cell
    have a2 := hT2.out.b2.cell
    gi_wp2
    refine bodyPost_ret (results_none rfl _ _ _) rfl ?_
    exact ⟨⟨_, rfl⟩, .inl ⟨[v], hxs0.symm, hJ2⟩⟩
  · gi_wp2
    refine bodyPost_ret (results_none rfl _ _ _) rfl ?_
    exact ⟨⟨_, rfl⟩, .inr ⟨[v], ⟨[], by rw [hxs0]; rfl⟩, hJx2⟩⟩

set_option maxRecDepth 1000000 in
set_option maxHeartbeats 4000000 in
theorem along_stops_nil (n : Nat) (hn : 1 ≤ n) (B0 B1 B2 : Nat) (Kp : World → World → Prop) (v a : Int) (w : World) (hb0 : Boxed w B0 27 (.pointer none)) (hb1 : Boxed w B1 3 (.int .i64 v)) (hb2 : Boxed w B2 53 (.int .i64 a)) :
    SeqStopsK Fence.wide n Tryd.prog 84 #[.pointer (some ⟨B0, 0, none⟩), .pointer (some ⟨B1, 0, none⟩), .pointer (some ⟨B2, 0, none⟩)] (fun x : Int => #[Value.int .i64 x]) Kp (fun ys => ys = []) (fun pre => pre <+: []) 0 w := fun l J Jx W hW _ _ _ h0 => by
  have hro : Fence.wide.round = none := rfl
  have HREF : Hid (Calls Tryd.prog 85 #[.pointer none, .int .i64 v, .int .i64 (-1)] W fun e w' => e = .returned (.int .i64 1) ∧ w' = W) := Lib.hid (refuses_nil W v (-1))
  have c0 := (hW.cell (p := ⟨B0, 0, none⟩) hb0.lt).trans hb0.cell
  have c1 := (hW.cell (p := ⟨B1, 0, none⟩) hb1.lt).trans hb1.cell
  have c2 := (hW.cell (p := ⟨B2, 0, none⟩) hb2.lt).trans hb2.cell
  clear hW hb0 hb1 hb2
  refine callsIn_of_wp Tryd.func84 rfl trivial ?_ hro
  simp only [Tryd.ntmps84, List.size_toArray, List.length_cons, List.length_nil, Nat.reduceAdd, Nat.reduceSub, Array.replicate_succ, Array.replicate_zero, List.push_toArray, List.append_toArray, List.nil_append, List.cons_append]
  gi_wp2_with (refine ⟨trivial, ?_⟩; gi_at_call 85; refine (callsIn_wide.2 HREF.out).mono ?_; rintro e w' ⟨rfl, hw⟩; subst w')
  refine bodyPost_ret (results_none rfl _ _ _) rfl ?_
  exact ⟨⟨_, rfl⟩, .inl ⟨[], rfl, h0⟩⟩

theorem along_rounds (n : Nat) (hn : 1 ≤ n) (B0 B1 B2 tb L : Nat) (f : Nat → Nat) (G : Nat → Prop) (Kp : World → World → Prop) (hKp : ∀ {A B : World} {k : Nat}, Kp A B → G k → B.heap[k]? = A.heap[k]?) (v a : Int)
    (hL : L ≤ 1048576) (hf : ∀ i, i < L → i ≤ f i ∧ f i < L) (w : World) (hG : ∀ k, G k → k < w.heap.size) (hT : BoxT w G B0 B1 B2 tb L f v a) (l : Nat) (J Jx : List Int → World → Prop) (W : World) (hW : Below w.heap.size w W)
    (hY : ∀ pre x W, J pre W → pre.length < (alongM L f v a).length → (pre ++ [x]) <+: alongM L f v a → YieldAt Fence.wide (n - 1) Tryd.prog l #[.int .i64 x] W fun e W' => (e = .returned (.bool true) ∧ J (pre ++ [x]) W' ∧ Kp W W') ∨ (e = .returned (.bool false) ∧ Jx (pre ++ [x]) W')) (h0 : J [] W) :
    CallsIn Fence.wide n Tryd.prog 84 #[.func (.yield l) #[] #[], .pointer (some ⟨B0, 0, none⟩), .pointer (some ⟨B1, 0, none⟩), .pointer (some ⟨B2, 0, none⟩)] W fun e W' => (∃ v, e = .returned v) ∧
      ((∃ ys, ys = alongM L f v a ∧ J ys W') ∨ (∃ pre, pre <+: alongM L f v a ∧ Jx pre W')) := by
  have hT2 := hT.keep (B := W) (fun k hk => hW.block k (hG k hk))
  by_cases hv : v < -1 ∨ (L : Int) ≤ v
  · exact along1_out n hn l B0 B1 B2 tb L f G Kp hKp v a _ rfl hv hL hf J Jx hY W hT2 h0
  have hv1 : -1 ≤ v := by omega
  have hv2 : v < L := by omega
  by_cases ha : a < 0
  · exact along1_low n hn l B0 B1 B2 tb L f G Kp hKp v a _ rfl hv1 hv2 ha hL hf J Jx hY W hT2 h0
  by_cases ha2 : 3 < a
  · exact along1_high n hn l B0 B1 B2 tb L f G Kp hKp v a _ rfl hv1 hv2 (by omega) ha2 hL hf J Jx hY W hT2 h0
  obtain rfl | rfl | rfl | rfl : a = 0 ∨ a = 1 ∨ a = 2 ∨ a = 3 := by omega
  · exact along1_0 n hn l B0 B1 B2 tb L f G Kp hKp v _ rfl hv1 hv2 hL hf J Jx hY W hT2 h0
  · exact along1_1 n hn l B0 B1 B2 tb L f G Kp hKp v _ rfl hv1 hv2 hL hf J Jx hY W hT2 h0
  · exact along1_2 n hn l B0 B1 B2 tb L f G Kp hKp v _ rfl hv1 hv2 hL hf J Jx hY W hT2 h0
  · exact along1_3 n hn l B0 B1 B2 tb L f G Kp hKp v _ rfl hv1 hv2 hL hf J Jx hY W hT2 h0
theorem along_stops (n : Nat) (hn : 1 ≤ n) (B0 B1 B2 tb L : Nat) (f : Nat → Nat) (G : Nat → Prop) (Kp : World → World → Prop) (hKp : ∀ {A B : World} {k : Nat}, Kp A B → G k → B.heap[k]? = A.heap[k]?) (v a : Int)
    (hL : L ≤ 1048576) (hf : ∀ i, i < L → i ≤ f i ∧ f i < L) (w : World) (hG : ∀ k, G k → k < w.heap.size) (hT : BoxT w G B0 B1 B2 tb L f v a) :
    SeqStopsK Fence.wide n Tryd.prog 84 #[.pointer (some ⟨B0, 0, none⟩), .pointer (some ⟨B1, 0, none⟩), .pointer (some ⟨B2, 0, none⟩)] (fun x : Int => #[Value.int .i64 x]) Kp (fun ys => ys = alongM L f v a) (fun pre => pre <+: alongM L f v a) (alongM L f v a).length w := fun l J Jx W hW _ _ hY h0 =>
  along_rounds n hn B0 B1 B2 tb L f G Kp hKp v a hL hf w hG hT l J Jx W hW (fun pre x W h1 h2 _ => hY pre x W h1 h2) h0
abbrev NodeN (L : Nat) := { x : Int // -1 ≤ x ∧ x < (L : Int) }
theorem along_nodes (n : Nat) (hn : 1 ≤ n) (B0 B1 B2 tb L : Nat) (f : Nat → Nat) (G : Nat → Prop) (Kp : World → World → Prop) (hKp : ∀ {A B : World} {k : Nat}, Kp A B → G k → B.heap[k]? = A.heap[k]?) (v a : Int)
    (hL : L ≤ 1048576) (hf : ∀ i, i < L → i ≤ f i ∧ f i < L) (w : World) (hG : ∀ k, G k → k < w.heap.size) (hT : BoxT w G B0 B1 B2 tb L f v a) (hin : ∀ x ∈ alongM L f v a, -1 ≤ x ∧ x < (L : Int)) :
    SeqStopsK Fence.wide n Tryd.prog 84 #[.pointer (some ⟨B0, 0, none⟩), .pointer (some ⟨B1, 0, none⟩), .pointer (some ⟨B2, 0, none⟩)] (fun x : NodeN L => #[Value.int .i64 x.1]) Kp (fun ys => ys.map (·.1) = alongM L f v a) (fun pre => pre.map (·.1) <+: alongM L f v a) (alongM L f v a).length w := fun l J Jx W hW _ _ hY h0 => by
  refine (along_rounds n hn B0 B1 B2 tb L f G Kp hKp v a hL hf w hG hT l (fun pre W => ∃ p : List (NodeN L), p.map (·.1) = pre ∧ J p W) (fun pre W => ∃ p : List (NodeN L), p.map (·.1) = pre ∧ Jx p W) W hW ?_ ⟨[], rfl, h0⟩).mono ?_
  · rintro pre x W1 ⟨p, rfl, hJ⟩ hlt hp
    have hx := hin x (hp.subset (by simp))
    obtain ⟨fn, tmps, assign, body, hy, hR⟩ := hY p ⟨x, hx⟩ W1 hJ (by rwa [List.length_map] at hlt)
    refine ⟨fn, tmps, assign, body, hy, hR.mono ?_⟩
    rintro e W' (⟨h1, h2, h3⟩ | ⟨h1, h2⟩)
    · exact .inl ⟨h1, ⟨p ++ [⟨x, hx⟩], by simp, h2⟩, h3⟩
    · exact .inr ⟨h1, ⟨p ++ [⟨x, hx⟩], by simp, h2⟩⟩
  · rintro e W' ⟨h1, (⟨ys, rfl, p, h2, h3⟩ | ⟨pre, h2, p, rfl, h3⟩)⟩
    · exact ⟨h1, .inl ⟨p, h2, h3⟩⟩
    · exact ⟨h1, .inr ⟨p, h2, h3⟩⟩
end Go.Proofs.YtekoflcioooncaaDoor
