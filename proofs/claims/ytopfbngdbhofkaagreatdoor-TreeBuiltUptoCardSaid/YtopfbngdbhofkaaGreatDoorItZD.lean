/-
  gimletlaw09.TreeIterators is true.
-/
import Derived.Test.YtopfbngdbhofkaaGreatDoorItZB
import Derived.Test.YtopfbngdbhofkaaGreatDoorItZC
namespace Go.Proofs.YtopfbngdbhofkaaGreatDoor
open Go.RowKit Go.Shelf

attribute [local go_sem] Oper.semAt_some
/-- but for a box nothing of a world has turned; the box holds a bool -/
structure SKP (B : Nat) (A W : World) : Prop where
  kp : KpX (fun k => k = B) A.heap.size A W
  bx : ∃ b, Boxed W B 4 (.bool b)
theorem SKP.below {B : Nat} {A W W' : World} (h : SKP B A W) (hb : Below W.heap.size W W') : SKP B A W' := by
  obtain ⟨h1, b, h2⟩ := h
  exact ⟨h1.trans ((KpX.of_below (X := fun _ => False) hb).weak h1.size (fun k _ h => h.elim)), b, (hb.block _ h2.lt).trans h2⟩
theorem SKP.set {B : Nat} {A W : World} (h : SKP B A W) (b : Bool) : SKP B A (W.setCell ⟨B, 0, none⟩ (.bool b)) := by
  obtain ⟨h1, c, h2⟩ := h
  exact ⟨h1.set rfl _ _, b, h2.set _⟩
theorem own_ints2 {w : World} {base n : Nat} {e : TypeId} {a : Option Addr} {c : Nat} {l : List Int} (h : w.ownsRow base e 1 (.slice a n c) n (l.map (Value.int .i64))) : n ≤ c ∧ IntsAt w a n l := by
  obtain ⟨a', c', e', h1, h2⟩ := own_ints h
  cases e'
  exact ⟨h1, h2⟩
theorem IntsAt.take {w : World} {a : Option Addr} {n : Nat} {l : List Int} (h : IntsAt w a n l) (k : Nat) (hk : k ≤ n) : IntsAt w a k (l.take k) := by
  have hn := h.len
  refine ⟨by rw [List.length_take]; omega, fun i hi => ?_⟩
  rw [List.length_take] at hi
  obtain ⟨b, o, h1, h2, h3⟩ := h.at' i (by omega)
  exact ⟨b, o, h1, h2, by rw [List.getElem_take]; exact h3⟩
theorem steps_all (hi : Nat) (f : Nat → Nat) : ∀ m k, hi ≤ k + m → stepsF (nextOf f 2) hi m k = (List.range' k (hi - k)).map (fun (i : Nat) => (i : Int))
  | 0, k, h => by rw [show hi - k = 0 by omega]; rfl
  | m + 1, k, h => by
    by_cases hk : k < hi
    · rw [stepsF_at hk h, show hi - k = (hi - (k + 1)) + 1 by omega, List.range'_succ, List.map_cons]
      congr 1
      exact steps_all hi f m (k + 1) (by omega)
    · rw [stepsF_end (by omega), show hi - k = 0 by omega]; rfl
theorem alongM_all (L : Nat) (f : Nat → Nat) : alongM L f (-1) 2 = (List.range (L + 1)).map (fun (i : Nat) => (i : Int) - 1) := by
  unfold alongM hiOf
  rw [if_neg (by omega), if_pos (by omega), if_neg (by omega), if_pos (by omega), steps_all _ _ _ _ (by simp), List.range_succ_eq_map, List.map_cons, List.map_map]
  show [(-1 : Int)] ++ (List.range' 0 (L - 0)).map (fun (i : Nat) => (i : Int)) = _
  rw [Nat.sub_zero, ← List.range_eq_range']
  refine congrArg (List.cons (-1)) (List.map_congr_left fun i _ => ?_)
  show (i : Int) = ((i + 1 : Nat) : Int) - 1
  omega
theorem pre_at (L : Nat) {pre : List Int} {y : Int} (h : (pre ++ [y]) <+: (List.range (L + 1)).map (fun (i : Nat) => (i : Int) - 1)) : y = (pre.length : Int) - 1 := by
  obtain ⟨r, hr⟩ := h
  have h1 : ((List.range (L + 1)).map (fun (i : Nat) => (i : Int) - 1))[pre.length]? = some y := by rw [← hr]; simp
  rw [List.getElem?_map] at h1
  cases h2 : (List.range (L + 1))[pre.length]? with
  | none => rw [h2] at h1; cases h1
  | some z =>
    rw [h2] at h1
    obtain ⟨hz1, hz2⟩ := List.getElem?_eq_some_iff.1 h2
    simp at hz2 h1
    omega
theorem alongM_all_length (L : Nat) (f : Nat → Nat) : (alongM L f (-1) 2).length = L + 1 := by rw [alongM_all]; simp
theorem run_store_func {P : Program} {w : World} {a : Addr} {m : Mode} (f : Fn) (u v : Array Value) : (store a (.func f u v) m).run P w = stored P w a (.func f u v) m := run_store P w a _ m rfl
attribute [local go_sem] run_store_func
theorem evRow_at {w : World} {b B n : Nat} {e : TypeId} {evs : List Ev} {cs : List Value} {base : Nat} (h : w.ownsRow base e 8 (.slice (some ⟨b, 0, none⟩) n n) n cs) (hn : n = evs.length) (hr : EvRow w B n evs cs) : EvsAt w (some ⟨b, 0, none⟩) n evs := by
  refine ⟨hn, fun i hi => ?_⟩
  obtain ⟨A, m, c, h1, h2, _, h4⟩ := hr i hi (by omega)
  exact ⟨b, 0, A, m, c, rfl, (h.lt b rfl).2, h1, h2, fun j hj => by
    rw [Nat.zero_add, h.cellAt _ (by omega), h4 j hj]⟩
set_option pp.deepTerms true in
set_option pp.deepTerms.threshold 100000 in
set_option maxRecDepth 1000000 in
set_option maxHeartbeats 4000000 in
theorem treeIter_any (a : Option Addr) (n c : Nat) (evs : List Ev) (stop : Int) (w : World) (hE : EvsAt w a n evs) (hw : wtEs evs ≤ 1048576) (hR : RangesAt w 2) (hT : Lib.Utf8Tabs 0 1 w) :
    Calls Tryz.prog 3 #[.slice a n c, .int .i64 stop] w fun e w' => e = .returned (.bool true) ∧ Below w.heap.size w w' := by
  have hn : n ≤ 1048576 := by have := wtEs_length evs; have := hE.1; omega
  have hne := hE.1
  have hsm : ∀ e ∈ evs, EvSm e := fun e he => by
    obtain ⟨i, hi, rfl⟩ := List.getElem_of_mem he
    have h1 := Nat.le_trans (wtEs_mem evs i hi) hw
    unfold wtE at h1
    refine ⟨by omega, by omega, by have := wtA_length evs[i].ats; omega, fun p hp => ?_⟩
    have := wtA_mem evs[i].ats p hp
    omega
  have HRT : Hid (∀ W, Below w.heap.size w W → RangesAt W 2 ∧ Lib.Utf8Tabs 0 1 W) := Lib.hid fun W hW => ⟨hR.below hW, Utf8Tabs_below hT hW⟩
  have HAW : Hid (∀ W, Below w.heap.size w W → Calls Tryz.prog 7 #[] W fun e w' => e = .returned (.bool true) ∧ Below W.heap.size W w') := Lib.hid fun W hW => awake_any W (HRT.out W hW).1 (HRT.out W hW).2
  have HCP : Hid (∀ W, Below w.heap.size w W → Calls Tryz.prog 9 #[.slice a n c] W fun e w' => ∃ ge, e = .returned (.slice (some ⟨ge, 0, none⟩) n n) ∧ EvsAt w' (some ⟨ge, 0, none⟩) n evs ∧ Below W.heap.size W w') := Lib.hid fun W hW =>
    (lawCopied_any a n c evs W (hE.below hW) hn (fun e he => (hsm e he).2.2.1)).mono fun e w' ⟨cs, h1, h2, h3, h4⟩ => ⟨_, h1, evRow_at h2 hne h3, h4⟩
  have HBD : Hid (∀ W ge, Below w.heap.size w W → EvsAt W (some ⟨ge, 0, none⟩) n evs → Calls Tryz.prog 8 #[.slice (some ⟨ge, 0, none⟩) n n] W fun e w' => ((wholeB evs = true ∧ ∃ tb, e = .returned (.tuple #[.pointer (some ⟨tb, 0, none⟩), .int .i64 0]) ∧ TreeAt w' W.heap.size tb evs) ∨ (wholeB evs = false ∧ e = .returned (.tuple #[.pointer none, .int .i64 6]))) ∧ Below W.heap.size W w') := Lib.hid fun W ge hW hE2 =>
    treeBuild_any _ n n evs W hE2 hn hsm (HRT.out W hW).1 (HRT.out W hW).2
  have HB0 : Hid (∀ o, Below w.heap.size w (w.alloc o) ∧ (w.alloc o).heap[w.heap.size]? = some o ∧ (w.alloc o).heap.size = w.heap.size + 1) := Lib.hid fun o => ⟨(Below.refl _ _).alloc (Nat.le_refl _) _, heap_alloc_new w o, by simp⟩
  clear hE hw hR hT hsm hne
  refine (callsIn_wide (n := 9)).1 ?_
  refine callsIn_of_wp_marks Tryz.func3 rfl trivial ?_ rfl
  simp only [Tryz.ntmps3, List.size_toArray, List.length_cons, List.length_nil, Nat.reduceAdd, Nat.reduceSub, Array.replicate_succ, Array.replicate_zero, List.push_toArray, List.append_toArray, List.nil_append, List.cons_append]
  refine wpIn_wide.2 ?_
  go_wp2_with fail
  (with_reducible refine (HAW.out _ (HB0.out _).1).mono ?_)
  rintro e w1 ⟨rfl, hb1⟩
  have HB1 := Lib.hid ((HB0.out (.cells #[.bool false] 4)).1.trans (hb1.mono (HB0.out _).1.size))
  have HRB : Hid (Boxed w1 w.heap.size 4 (.bool false)) := Lib.hid ((hb1.block w.heap.size (by rw [(HB0.out _).2.2]; omega)).trans (HB0.out _).2.1)
  clear hb1
  go_wp2_with fail
  (with_reducible refine (HCP.out _ HB1.out).mono ?_)
  rintro e w2 ⟨ge, rfl, hE2, hb2⟩
  have HBD2 := Lib.hid (HBD.out w2 ge (HB1.out.trans (hb2.mono HB1.out.size)) hE2)
  have HB2 := Lib.hid (HB1.out.trans (hb2.mono HB1.out.size))
  have HRB2 : Hid (Boxed w2 w.heap.size 4 (.bool false)) := Lib.hid ((hb2.block _ HRB.out.lt).trans HRB.out)
  clear hb2 hE2
  go_wp2_with fail
  (with_reducible refine HBD2.out.mono ?_)
  rintro e w3 ⟨hor, hb3⟩
  have HB3 := Lib.hid (HB2.out.trans (hb3.mono HB2.out.size))
  have HB23 := Lib.hid hb3.size
  have HRB3 : Hid (Boxed w3 w.heap.size 4 (.bool false)) := Lib.hid ((hb3.block _ HRB2.out.lt).trans HRB2.out)
  clear hb3
  rcases hor with ⟨hwh, tb, rfl, ht⟩ | ⟨_, rfl⟩
  rotate_left
  · have c4 := HRB3.out.cell
    have f4 := HRB3.out.frozen
    go_wp2_with fail
    refine ⟨.bool true, ?_, rfl, HB3.out.setCell (p := ⟨w.heap.size, 0, none⟩) (Nat.le_refl _) _⟩
    rw [results_cell1 rfl]
    go_simp
  have htl := treeLast ht hwh
  have HLEN := Lib.hid (len_any htl)
  have hrng := lastN_rng (wholeB_some hwh).choose_spec.1
  have HTL := Lib.hid htl
  have HRNG := Lib.hid hrng
  clear ht hwh htl hrng
  generalize lastN evs = f at *
  generalize (nodesB evs).length = L at *
  have c4 := HRB3.out.cell
  have f4 := HRB3.out.frozen
  by_cases hL60 : L ≤ 60
  rotate_left
  · have hL : (60 : Int) < (L : Int) := by omega
    go_wp2_with (first | (go_at_call 10; (with_reducible refine HLEN.out.mono ?_); rintro e w' ⟨rfl, hw'⟩; subst w'))
    refine ⟨.bool true, ?_, rfl, HB3.out.setCell (p := ⟨w.heap.size, 0, none⟩) (Nat.le_refl _) _⟩
    rw [results_cell1 rfl]
    go_simp
  have hL : (L : Int) ≤ 60 := by omega
  go_wp2_with (first | (go_at_call 10; (with_reducible refine HLEN.out.mono ?_); rintro e w' ⟨rfl, hw'⟩; subst w') | (go_at_call 11; (with_reducible refine (along_makes _ _ _ _).mono ?_); rintro e w' ⟨rfl, hw'⟩; subst w'))
  try simp only [Nat.add_assoc, Nat.reduceAdd]
  have b0 := ((((((Boxed.new w3 24 (.pointer (some ⟨tb, 0, none⟩))).alloc (.cells #[.int .i64 (-1)] 3)).alloc (.cells #[.int .i64 2] 33)).alloc (.cells #[.func (.func 31) #[] #[.pointer (some ⟨w3.heap.size, 0, none⟩), .pointer (some ⟨w3.heap.size + 1, 0, none⟩), .pointer (some ⟨w3.heap.size + 2, 0, none⟩)]] 31)).alloc (.cells #[.slice none 0 0] 34)).alloc (.cells #[.slice none 0 0] 34)).alloc (.cells #[.slice none 0 0] 34)
  have b1 := (((((Boxed.new (w3.alloc (.cells #[.pointer (some ⟨tb, 0, none⟩)] 24)) 3 (.int .i64 (-1))).alloc (.cells #[.int .i64 2] 33)).alloc (.cells #[.func (.func 31) #[] #[.pointer (some ⟨w3.heap.size, 0, none⟩), .pointer (some ⟨w3.heap.size + 1, 0, none⟩), .pointer (some ⟨w3.heap.size + 2, 0, none⟩)]] 31)).alloc (.cells #[.slice none 0 0] 34)).alloc (.cells #[.slice none 0 0] 34)).alloc (.cells #[.slice none 0 0] 34)
  have b2 := ((((Boxed.new ((w3.alloc (.cells #[.pointer (some ⟨tb, 0, none⟩)] 24)).alloc (.cells #[.int .i64 (-1)] 3)) 33 (.int .i64 2)).alloc (.cells #[.func (.func 31) #[] #[.pointer (some ⟨w3.heap.size, 0, none⟩), .pointer (some ⟨w3.heap.size + 1, 0, none⟩), .pointer (some ⟨w3.heap.size + 2, 0, none⟩)]] 31)).alloc (.cells #[.slice none 0 0] 34)).alloc (.cells #[.slice none 0 0] 34)).alloc (.cells #[.slice none 0 0] 34)
  have b3 := (((Boxed.new (((w3.alloc (.cells #[.pointer (some ⟨tb, 0, none⟩)] 24)).alloc (.cells #[.int .i64 (-1)] 3)).alloc (.cells #[.int .i64 2] 33)) 31 (.func (.func 31) #[] #[.pointer (some ⟨w3.heap.size, 0, none⟩), .pointer (some ⟨w3.heap.size + 1, 0, none⟩), .pointer (some ⟨w3.heap.size + 2, 0, none⟩)])).alloc (.cells #[.slice none 0 0] 34)).alloc (.cells #[.slice none 0 0] 34)).alloc (.cells #[.slice none 0 0] 34)
  have b4 := ((Boxed.new ((((w3.alloc (.cells #[.pointer (some ⟨tb, 0, none⟩)] 24)).alloc (.cells #[.int .i64 (-1)] 3)).alloc (.cells #[.int .i64 2] 33)).alloc (.cells #[.func (.func 31) #[] #[.pointer (some ⟨w3.heap.size, 0, none⟩), .pointer (some ⟨w3.heap.size + 1, 0, none⟩), .pointer (some ⟨w3.heap.size + 2, 0, none⟩)]] 31)) 34 (.slice none 0 0)).alloc (.cells #[.slice none 0 0] 34)).alloc (.cells #[.slice none 0 0] 34)
  have b5 := (Boxed.new (((((w3.alloc (.cells #[.pointer (some ⟨tb, 0, none⟩)] 24)).alloc (.cells #[.int .i64 (-1)] 3)).alloc (.cells #[.int .i64 2] 33)).alloc (.cells #[.func (.func 31) #[] #[.pointer (some ⟨w3.heap.size, 0, none⟩), .pointer (some ⟨w3.heap.size + 1, 0, none⟩), .pointer (some ⟨w3.heap.size + 2, 0, none⟩)]] 31)).alloc (.cells #[.slice none 0 0] 34)) 34 (.slice none 0 0)).alloc (.cells #[.slice none 0 0] 34)
  have b6 := Boxed.new ((((((w3.alloc (.cells #[.pointer (some ⟨tb, 0, none⟩)] 24)).alloc (.cells #[.int .i64 (-1)] 3)).alloc (.cells #[.int .i64 2] 33)).alloc (.cells #[.func (.func 31) #[] #[.pointer (some ⟨w3.heap.size, 0, none⟩), .pointer (some ⟨w3.heap.size + 1, 0, none⟩), .pointer (some ⟨w3.heap.size + 2, 0, none⟩)]] 31)).alloc (.cells #[.slice none 0 0] 34)).alloc (.cells #[.slice none 0 0] 34)) 34 (.slice none 0 0)
  simp only [World.size_alloc, Nat.add_assoc, Nat.reduceAdd] at b1 b2 b3 b4 b5 b6
  have hsz : (((((((w3.alloc (.cells #[.pointer (some ⟨tb, 0, none⟩)] 24)).alloc (.cells #[.int .i64 (-1)] 3)).alloc (.cells #[.int .i64 2] 33)).alloc (.cells #[.func (.func 31) #[] #[.pointer (some ⟨w3.heap.size, 0, none⟩), .pointer (some ⟨w3.heap.size + 1, 0, none⟩), .pointer (some ⟨w3.heap.size + 2, 0, none⟩)]] 31)).alloc (.cells #[.slice none 0 0] 34)).alloc (.cells #[.slice none 0 0] 34)).alloc (.cells #[.slice none 0 0] 34)).heap.size = w3.heap.size + 7 := by simp
  have hBW : Below w3.heap.size w3 (((((((w3.alloc (.cells #[.pointer (some ⟨tb, 0, none⟩)] 24)).alloc (.cells #[.int .i64 (-1)] 3)).alloc (.cells #[.int .i64 2] 33)).alloc (.cells #[.func (.func 31) #[] #[.pointer (some ⟨w3.heap.size, 0, none⟩), .pointer (some ⟨w3.heap.size + 1, 0, none⟩), .pointer (some ⟨w3.heap.size + 2, 0, none⟩)]] 31)).alloc (.cells #[.slice none 0 0] 34)).alloc (.cells #[.slice none 0 0] 34)).alloc (.cells #[.slice none 0 0] 34)) := ((((((((Below.refl _ w3).alloc (by simp) _).alloc (by simp; try omega) _).alloc (by simp; try omega) _).alloc (by simp; try omega) _).alloc (by simp; try omega) _).alloc (by simp; try omega) _).alloc (by simp; try omega) _)
  obtain ⟨W0, hW0⟩ : ∃ W0, (((((((w3.alloc (.cells #[.pointer (some ⟨tb, 0, none⟩)] 24)).alloc (.cells #[.int .i64 (-1)] 3)).alloc (.cells #[.int .i64 2] 33)).alloc (.cells #[.func (.func 31) #[] #[.pointer (some ⟨w3.heap.size, 0, none⟩), .pointer (some ⟨w3.heap.size + 1, 0, none⟩), .pointer (some ⟨w3.heap.size + 2, 0, none⟩)]] 31)).alloc (.cells #[.slice none 0 0] 34)).alloc (.cells #[.slice none 0 0] 34)).alloc (.cells #[.slice none 0 0] 34)) = W0 := ⟨_, rfl⟩
  rw [hW0] at b0 b1 b2 b3 b4 b5 b6 hsz hBW ⊢
  clear hW0
  have hrb0 : Boxed W0 w.heap.size 4 (.bool false) := (hBW.block _ HRB3.out.lt).trans HRB3.out
  have hrbs := HRB2.out.lt
  have hs23 : w2.heap.size ≤ w3.heap.size := HB23.out
  have hT0 : BoxT W0 (fun k => w.heap.size < k ∧ k < w3.heap.size + 4) w3.heap.size (w3.heap.size + 1) (w3.heap.size + 2) tb L f (-1) 2 :=
    ⟨b0, b1, b2, by omega, by omega, by omega, (HTL.out.keep fun k hk => hBW.block k hk.2).mono fun k hk => by omega⟩
  have HT0 := Lib.hid hT0
  have HX := Lib.hid (alongM_all L f)
  have hxl : (alongM L f (-1) 2).length = L + 1 := alongM_all_length L f
  obtain ⟨xs, hxs⟩ : ∃ xs, alongM L f (-1) 2 = xs := ⟨_, rfl⟩
  rw [hxs] at hxl HX
  have HXS := Lib.hid hxs
  have hSTOPS : ∀ (Kp : World → World → Prop) (W : World), (∀ {A B : World} {k : Nat}, Kp A B → (w.heap.size < k ∧ k < w3.heap.size + 4) → B.heap[k]? = A.heap[k]?) → W0.heap.size ≤ W.heap.size → (∀ k, w.heap.size < k → k < w3.heap.size + 4 → W.heap[k]? = W0.heap[k]?) → ∀ n, 1 ≤ n → SeqStopsK Fence.wide n Tryz.prog 31 #[.pointer (some ⟨w3.heap.size, 0, none⟩), .pointer (some ⟨w3.heap.size + 1, 0, none⟩), .pointer (some ⟨w3.heap.size + 2, 0, none⟩)] (fun x : Int => #[Value.int .i64 x]) Kp (fun ys => ys = xs) (fun pre => pre <+: xs) xs.length W := fun Kp W hKp hs hk n hn => by
    have := along_stops n hn w3.heap.size (w3.heap.size + 1) (w3.heap.size + 2) tb L f (fun k => w.heap.size < k ∧ k < w3.heap.size + 4) Kp hKp (-1) 2 (by omega) HRNG.out W (fun k hk => by omega) (HT0.out.keep fun k hk' => hk k hk'.1 hk'.2)
    rw [HXS.out] at this
    exact this
  have HST := Lib.hid hSTOPS
  clear hSTOPS hT0 hxs
  obtain ⟨i0, hi, hz0, hz1, hz2⟩ := info_parts infoInt
  have HALL : Hid (Boxed W0 (w3.heap.size + 3) 31 (.func (.func 31) #[] #[.pointer (some ⟨w3.heap.size, 0, none⟩), .pointer (some ⟨w3.heap.size + 1, 0, none⟩), .pointer (some ⟨w3.heap.size + 2, 0, none⟩)])) := Lib.hid b3
  have HW0 : Hid (Below w.heap.size w W0) := Lib.hid (HB3.out.trans (hBW.mono HB3.out.size))
  have HB5 := Lib.hid (⟨b5, b6⟩ : _ ∧ _)
  have HRB0 := Lib.hid hrb0
  clear b0 b1 b2 b3 b5 b6 hBW c4 f4
  refine (wpIn_wide (n := 9)).1 ?_
  refine wpIn_rangeFunc_ownH rfl (by decide) (gf := 31) (lb := #[.pointer (some ⟨w3.heap.size, 0, none⟩), .pointer (some ⟨w3.heap.size + 1, 0, none⟩), .pointer (some ⟨w3.heap.size + 2, 0, none⟩)]) rfl trivial (enters_of Tryz.func31 (by kernel_rfl) rfl)
    (HST.out (KpX (fun k => k = w3.heap.size + 4) (w3.heap.size + 7)) W0 (fun h hk => h.block _ (by omega) (by omega)) (Nat.le_refl _) (fun _ _ _ => rfl) 8 (by decide)) KpX.trans (kpX_b (by omega)) (Below.refl _ _) (fun _ => rfl)
    (fun pre W => (∃ r, Boxed W (w3.heap.size + 4) 34 r ∧ W.ownsRow (w3.heap.size + 7) 3 1 r pre.length (pre.map (Value.int .i64)) ∧ True) ∧ KpX (fun k => k = w3.heap.size + 4) (w3.heap.size + 7) W0 W)
    (fun _ _ _ => False)
    (OwnFrom.and (Own.from (holdsRow_own (w3.heap.size + 7) (w3.heap.size + 4) 34 3 1 (fun pre : List Int => pre.length) (fun pre => pre.map (Value.int .i64)) (fun _ _ => True)) _) (ownFrom_kpX (by omega) (by omega)))
    (fun _ _ _ _ _ hs _ _ => hs)
    ⟨⟨_, b4, World.ownsRow_nil _ _ _ _, trivial⟩, KpX.refl _ _ _⟩
    (fun x a' _ => a' = { tmps := #[.slice a n c, .int .i64 stop, undef, undef, .pointer (some ⟨w.heap.size, 0, none⟩), .pointer (some ⟨tb, 0, none⟩), .int .i64 0, .pointer (some ⟨w3.heap.size + 3, 0, none⟩), .pointer (some ⟨w3.heap.size + 4, 0, none⟩), .pointer (some ⟨w3.heap.size + 5, 0, none⟩), .pointer (some ⟨w3.heap.size + 6, 0, none⟩), .int .i64 x, undef, undef, undef, undef, undef, .bool true, .bool false, .tuple #[.pointer (some ⟨tb, 0, none⟩), .int .i64 0], .slice a n c, .slice (some ⟨ge, 0, none⟩) n n, .tuple #[.pointer (some ⟨tb, 0, none⟩), .int .i64 0], .pointer (some ⟨tb, 0, none⟩), .int .i64 0, .int .i64 0, .bool false, .bool false, .pointer (some ⟨tb, 0, none⟩), .int .i64 (L : Nat), .bool (decide ((60 : Int) < (L : Int))), .bool (decide ((60 : Int) < (L : Int))), .pointer (some ⟨tb, 0, none⟩), .func (.func 31) #[] #[.pointer (some ⟨w3.heap.size, 0, none⟩), .pointer (some ⟨w3.heap.size + 1, 0, none⟩), .pointer (some ⟨w3.heap.size + 2, 0, none⟩)], .func (.func 31) #[] #[.pointer (some ⟨w3.heap.size, 0, none⟩), .pointer (some ⟨w3.heap.size + 1, 0, none⟩), .pointer (some ⟨w3.heap.size + 2, 0, none⟩)], .int .i64 x, undef, undef, undef, undef, undef, undef, undef, undef, undef, undef, undef, undef, undef, undef, undef, undef, undef, undef, undef, undef, undef, undef, undef, undef, undef, undef, undef, undef, undef, undef, undef, undef, undef, undef, undef, undef, undef, undef, undef, undef, undef, undef, undef, undef, undef, undef, undef, undef, undef, undef, undef, undef, undef, undef, undef, undef, undef, undef, undef, undef, undef], defers := [] })
    (fun _ _ _ _ _ _ hs _ _ => hs)
    ?assign ?body ?done ?stop
  case assign =>
    rintro l pre x W K hi' hK
    gi_wp2
    exact hK _ _ (KeepsFrom.refl _ _) (KpX.refl _ _ _) hi' rfl
  case stop =>
    rintro D c pre W _ _ h _
    exact h.elim
  case body =>
    rintro l pre x a' W hl ⟨r0, hr0⟩ ⟨⟨r, hv, hrow, _⟩, hK⟩ rfl hlt
    have hsW := hK.size
    obtain ⟨oa, oc, rfl, _, _, _⟩ := own_slice hrow
    have hc := hv.cell
    have hall := ((hK.block _ (by omega) (by omega)).trans HALL.out : Boxed W (w3.heap.size + 3) 31 _)
    gi_wp2_with (gi_at_builtin; go_must (refine wpListIn_append_own _ rfl _ _ 34 rfl (w3.heap.size + 7) 3 i0 (.int .i64 0) 1 8 Tryz.underlying34 hi hz0 hz1 hz2 rfl (by decide) _ _ _ rfl (hrow.alloc _) ⟨W.heap.size, 0, none⟩ 1 1 [.int .i64 x] rfl rfl (cell_one_new _ _ _) (by simp [Value.oneCell']) (by unfold maxLen; omega) (by omega) (by simp; omega) ?_; intro v' w5 hown' hgrow _; obtain ⟨g', cap', rfl⟩ := ownsRow_succ hown'; obtain ⟨hv1, hv2, hr2, hk2, hb2⟩ := boxApp (X := (fun k => k = w3.heap.size + 4)) hv hrow (by omega) rfl (by omega) hown' hgrow; have hc1 := hv1.cell; have hf1 := hv1.frozen; have hall5 : ∀ o, ((w5.setCell ⟨w3.heap.size + 4, 0, none⟩ (.slice (some ⟨g', 0, none⟩) (pre.length + 1) cap')).alloc o).cell? ⟨w3.heap.size + 3, 0, none⟩ = some (.func (.func 31) #[] #[.pointer (some ⟨w3.heap.size, 0, none⟩), .pointer (some ⟨w3.heap.size + 1, 0, none⟩), .pointer (some ⟨w3.heap.size + 2, 0, none⟩)]) := (fun o => Boxed.cell (t := 31) (((hb2.alloc (by have := hb2.size; omega) o).block (w3.heap.size + 3) (by omega) (by omega)).trans hall))))

    have hsz5 : (w5.setCell ⟨w3.heap.size + 4, 0, none⟩ (.slice (some ⟨g', 0, none⟩) (pre.length + 1) cap')).heap.size = w5.heap.size := by simp [World.setCell]
    have hs5 := hb2.size
    rw [hsz5] at hs5
    have bk := Boxed.new (w5.setCell ⟨w3.heap.size + 4, 0, none⟩ (.slice (some ⟨g', 0, none⟩) (pre.length + 1) cap')) 3 (.int .i64 0)
    rw [hsz5] at bk
    have hkoi := hk2.trans (KeepsOthers.alloc _ (.cells #[.int .i64 0] 3))
    have hkpi := hb2.alloc (by rw [hsz5]; omega) (.cells #[.int .i64 0] 3)
    have hvi := hv2.alloc (.cells #[.int .i64 0] 3)
    have hri := hr2.alloc (.cells #[.int .i64 0] 3)
    have hszi : ((w5.setCell ⟨w3.heap.size + 4, 0, none⟩ (.slice (some ⟨g', 0, none⟩) (pre.length + 1) cap')).alloc (.cells #[.int .i64 0] 3)).heap.size = w5.heap.size + 1 := by rw [World.size_alloc, hsz5]
    have hgl : g' < w5.heap.size := by have := (hr2.lt g' rfl).2; rw [hsz5] at this; exact this
    obtain ⟨Wi, hWi⟩ : ∃ Wi, (w5.setCell ⟨w3.heap.size + 4, 0, none⟩ (.slice (some ⟨g', 0, none⟩) (pre.length + 1) cap')).alloc (.cells #[.int .i64 0] 3) = Wi := ⟨_, rfl⟩
    rw [hWi] at bk hkoi hkpi hvi hri hszi ⊢
    have hrbi : Boxed Wi w.heap.size 4 (.bool false) := (hkpi.block _ (by omega) (by omega)).trans ((hK.block _ (by omega) (by omega)).trans HRB0.out)
    have hr' : Wi.heap[l]? = some (.loop r0) := hkoi.same l _ hr0 rfl
    clear hWi hall5 hc1 hf1 hv1 hv2 hr2 hown' hgrow hc hall
    refine wpIn_rangeFunc_ownN (l₀ := l) (r₀ := r0) rfl hr' (by decide) (gf := 31) (lb := #[.pointer (some ⟨w3.heap.size, 0, none⟩), .pointer (some ⟨w3.heap.size + 1, 0, none⟩), .pointer (some ⟨w3.heap.size + 2, 0, none⟩)]) rfl trivial (enters_of Tryz.func31 (by kernel_rfl) rfl)
      ((HST.out (KpX (fun k => k = w5.heap.size) Wi.heap.size) Wi (fun h hk => h.block _ (by omega) (by omega)) (by have := hkpi.size; omega) (fun k h1 h2 => (hkpi.block k (by omega) (by omega)).trans (hK.block k (by omega) (by omega))) 6 (by decide)).inRound l) KpX.trans (kpX_b (Nat.le_refl _)) (Below.refl _ _) (fun _ => rfl)
      (fun pre' W' => Boxed W' w5.heap.size 3 (.int .i64 (pre'.length : Nat)) ∧ (KpX (fun k => k = w5.heap.size) Wi.heap.size Wi W' ∧ KeepsFrom W0.heap.size Wi W'))
      (fun _ pre' _ => ¬ pre' <+: xs)
      (OwnFrom.and (Own.from (boxed_own _ _ _) _) (OwnFrom.and (ownFrom_kpX (Nat.le_refl _) (Nat.le_refl _)) (ownFrom_keepsFrom (Nat.le_refl _))))
      (fun _ _ _ _ _ hs _ _ => hs)
      ⟨bk, KpX.refl _ _ _, KeepsFrom.refl _ _⟩
      (fun y a'' _ => a'' = { tmps := #[.slice a n c, .int .i64 stop, undef, undef, .pointer (some ⟨w.heap.size, 0, none⟩), .pointer (some ⟨tb, 0, none⟩), .int .i64 0, .pointer (some ⟨w3.heap.size + 3, 0, none⟩), .pointer (some ⟨w3.heap.size + 4, 0, none⟩), .pointer (some ⟨w3.heap.size + 5, 0, none⟩), .pointer (some ⟨w3.heap.size + 6, 0, none⟩), .int .i64 x, .pointer (some ⟨w5.heap.size, 0, none⟩), .int .i64 y, undef, undef, undef, .bool true, .bool false, .tuple #[.pointer (some ⟨tb, 0, none⟩), .int .i64 0], .slice a n c, .slice (some ⟨ge, 0, none⟩) n n, .tuple #[.pointer (some ⟨tb, 0, none⟩), .int .i64 0], .pointer (some ⟨tb, 0, none⟩), .int .i64 0, .int .i64 0, .bool false, .bool false, .pointer (some ⟨tb, 0, none⟩), .int .i64 (L : Nat), .bool (decide ((60 : Int) < (L : Int))), .bool (decide ((60 : Int) < (L : Int))), .pointer (some ⟨tb, 0, none⟩), .func (.func 31) #[] #[.pointer (some ⟨w3.heap.size, 0, none⟩), .pointer (some ⟨w3.heap.size + 1, 0, none⟩), .pointer (some ⟨w3.heap.size + 2, 0, none⟩)], .func (.func 31) #[] #[.pointer (some ⟨w3.heap.size, 0, none⟩), .pointer (some ⟨w3.heap.size + 1, 0, none⟩), .pointer (some ⟨w3.heap.size + 2, 0, none⟩)], .int .i64 x, .slice oa pre.length oc, .int .i64 x, .slice (some ⟨W.heap.size, 0, none⟩) 1 1, .slice (some ⟨g', 0, none⟩) (pre.length + 1) cap', .func (.func 31) #[] #[.pointer (some ⟨w3.heap.size, 0, none⟩), .pointer (some ⟨w3.heap.size + 1, 0, none⟩), .pointer (some ⟨w3.heap.size + 2, 0, none⟩)], .int .i64 y, undef, undef, undef, undef, undef, undef, undef, undef, undef, undef, undef, undef, undef, undef, undef, undef, undef, undef, undef, undef, undef, undef, undef, undef, undef, undef, undef, undef, undef, undef, undef, undef, undef, undef, undef, undef, undef, undef, undef, undef, undef, undef, undef, undef, undef, undef, undef, undef, undef, undef, undef, undef, undef, undef, undef], defers := [] })
      (fun _ _ _ _ _ _ hs _ _ => hs)
      ?assign2 ?body2 ?done2 ?stop2
    case assign2 =>
      rintro l2 pre' y W' K hi2 hK2
      gi_wp2
      exact hK2 _ _ (KeepsFrom.refl _ _) (KpX.refl _ _ _) hi2 rfl
    case stop2 =>
      rintro c2 pre' W' h1 h2
      exact absurd h1 h2
    case body2 =>
      rintro l2 pre' y a'' W' _ _ ⟨hbk, hkp, hkf⟩ rfl hlt2
      have ck := hbk.cell
      have fk := hbk.frozen
      have hrb' : Boxed W' w.heap.size 4 (.bool false) := (hkp.block _ (by omega) (by omega)).trans hrbi
      have cr := hrb'.cell
      have fr := hrb'.frozen
      have ew : IntKind.i64.wrap ((pre'.length : Int) - 1) = (pre'.length : Int) - 1 := IntWalk.i64_in _ (by omega)
      have ew2 : IntKind.i64.wrap ((pre'.length : Int) + 1) = (pre'.length : Int) + 1 := IntWalk.i64_in _ (by omega)
      have h100 : (pre'.length : Int) ≤ 100 := by omega
      by_cases hy : y = (pre'.length : Int) - 1
      · subst hy
        gi_wp2
        refine ⟨(KeepsOthers.setCell _ _ _).from _, KpX.set (X := fun k => k = w5.heap.size) (KpX.refl _ _ _) rfl _ _, ?_, KpX.set (X := fun k => k = w5.heap.size) hkp rfl _ _, hkf.trans ((KeepsOthers.setCell _ _ _).from _)⟩
        have := hbk.set (.int .i64 ((pre'.length : Int) + 1))
        simpa using this
      · have hd : (y != (pre'.length : Int) - 1) = true := by simpa using hy
        have hnot : ¬ (pre' ++ [y]) <+: xs := fun hp => hy (pre_at L (HX.out ▸ hp))
        gi_wp2
        exact ⟨(KeepsOthers.setCell _ _ _).from _, hnot⟩
    case done2 =>
      rintro ys W' rfl ⟨hbk, hkp, hkf⟩
      have hv' : Boxed W' (w3.heap.size + 4) 34 _ := (hkp.block _ (by omega) (by omega)).trans hvi
      have hr3 := own_block hri (fun k hk => by
        have hk' : g' = k := Option.some.inj hk
        exact hkp.block k (by omega) (by omega))
      have cv := hv'.cell
      have h101 : (pre.length : Int) + 1 ≤ 100 := by omega
      gi_wp2
      exact ⟨(hkoi.from _).trans hkf, hkpi.trans (hkp.weak (by omega) (fun k h1 h2 => by omega)), ⟨_, hv', by simpa using hr3, trivial⟩, (hK.trans hkpi).trans (hkp.weak (by omega) (fun k h1 h2 => by omega))⟩
  case done =>
    rintro D1 zs W1 hD1 rfl ⟨⟨r1, hv1, hrow1, _⟩, hK1⟩ hKD1
    have hs1 := hK1.size
    have hall1 : Boxed W1 (w3.heap.size + 3) 31 _ := (hK1.block _ (by omega) (by omega)).trans HALL.out
    have call1 := hall1.cell
    have b51 : Boxed W1 (w3.heap.size + 5) 34 (.slice none 0 0) := (hK1.block _ (by omega) (by omega)).trans HB5.out.1
    have hd1 := (Array.getElem?_eq_some_iff.1 hKD1).1
    gi_wp2
    go_wp2_with fail
    refine (wpIn_wide (n := 9)).1 ?_
    refine wpIn_rangeFunc_ownG rfl (by decide) (gf := 31) (lb := #[.pointer (some ⟨w3.heap.size, 0, none⟩), .pointer (some ⟨w3.heap.size + 1, 0, none⟩), .pointer (some ⟨w3.heap.size + 2, 0, none⟩)]) rfl trivial (enters_of Tryz.func31 (by kernel_rfl) rfl)
      (HST.out (KpX (fun k => k = w3.heap.size + 5) W1.heap.size) W1 (fun h hk => h.block _ (by omega) (by omega)) hs1 (fun k h1 h2 => hK1.block k (by omega) (by omega)) 8 (by decide)) KpX.trans (kpX_b (Nat.le_refl _)) (Below.refl _ _) (fun _ => rfl)
      (fun pre W => (∃ r, Boxed W (w3.heap.size + 5) 34 r ∧ W.ownsRow W1.heap.size 3 1 r pre.length (pre.map (Value.int .i64)) ∧ True) ∧ KpX (fun k => k = w3.heap.size + 5) W1.heap.size W1 W)
      (fun _ _ _ => False)
      (OwnFrom.and (Own.from (holdsRow_own W1.heap.size (w3.heap.size + 5) 34 3 1 (fun pre : List Int => pre.length) (fun pre => pre.map (Value.int .i64)) (fun _ _ => True)) _) (ownFrom_kpX (Nat.le_refl _) (Nat.le_refl _)))
      (fun _ _ _ _ _ hs _ _ => hs)
      ⟨⟨_, b51, World.ownsRow_nil _ _ _ _, trivial⟩, KpX.refl _ _ _⟩
      (fun x => { tmps := #[.slice a n c, .int .i64 stop, undef, undef, .pointer (some ⟨w.heap.size, 0, none⟩), .pointer (some ⟨tb, 0, none⟩), .int .i64 0, .pointer (some ⟨w3.heap.size + 3, 0, none⟩), .pointer (some ⟨w3.heap.size + 4, 0, none⟩), .pointer (some ⟨w3.heap.size + 5, 0, none⟩), .pointer (some ⟨w3.heap.size + 6, 0, none⟩), undef, undef, undef, .int .i64 x, undef, undef, .bool true, .bool false, .tuple #[.pointer (some ⟨tb, 0, none⟩), .int .i64 0], .slice a n c, .slice (some ⟨ge, 0, none⟩) n n, .tuple #[.pointer (some ⟨tb, 0, none⟩), .int .i64 0], .pointer (some ⟨tb, 0, none⟩), .int .i64 0, .int .i64 0, .bool false, .bool false, .pointer (some ⟨tb, 0, none⟩), .int .i64 (L : Nat), .bool (decide ((60 : Int) < (L : Int))), .bool (decide ((60 : Int) < (L : Int))), .pointer (some ⟨tb, 0, none⟩), .func (.func 31) #[] #[.pointer (some ⟨w3.heap.size, 0, none⟩), .pointer (some ⟨w3.heap.size + 1, 0, none⟩), .pointer (some ⟨w3.heap.size + 2, 0, none⟩)], .func (.func 31) #[] #[.pointer (some ⟨w3.heap.size, 0, none⟩), .pointer (some ⟨w3.heap.size + 1, 0, none⟩), .pointer (some ⟨w3.heap.size + 2, 0, none⟩)], undef, undef, undef, undef, undef, undef, undef, undef, undef, undef, undef, undef, undef, undef, undef, undef, undef, undef, undef, undef, .func (.func 31) #[] #[.pointer (some ⟨w3.heap.size, 0, none⟩), .pointer (some ⟨w3.heap.size + 1, 0, none⟩), .pointer (some ⟨w3.heap.size + 2, 0, none⟩)], .int .i64 x, undef, undef, undef, undef, undef, undef, undef, undef, undef, undef, undef, undef, undef, undef, undef, undef, undef, undef, undef, undef, undef, undef, undef, undef, undef, undef, undef, undef, undef, undef, undef, undef, undef, undef, undef, undef, undef, undef, undef, undef], defers := [] })
      ?assign3 ?body3 ?done3 ?stop3
    case assign3 =>
      intro l x W K hK
      gi_wp2
      exact hK
    case stop3 =>
      rintro D c pre W _ _ h _
      exact h.elim
    case body3 =>
      rintro l pre x W ⟨⟨r, hv, hrow, _⟩, hK⟩ hlt
      have hsW := hK.size
      obtain ⟨oa, oc, rfl, _, _, _⟩ := own_slice hrow
      have hc := hv.cell
      have hp : (pre.length : Int) ≤ 100 := by omega
      gi_wp2_with (gi_at_builtin; go_must (refine wpListIn_append_own _ rfl _ _ 34 rfl W1.heap.size 3 i0 (.int .i64 0) 1 8 Tryz.underlying34 hi hz0 hz1 hz2 rfl (by decide) _ _ _ rfl (hrow.alloc _) ⟨W.heap.size, 0, none⟩ 1 1 [.int .i64 x] rfl rfl (cell_one_new _ _ _) (by simp [Value.oneCell']) (by unfold maxLen; omega) (by omega) (by simp; omega) ?_; intro v' w5 hown' hgrow _; obtain ⟨g', cap', rfl⟩ := ownsRow_succ hown'; obtain ⟨hv1', hv2, hr2, hk2, hb2⟩ := boxApp (X := (fun k => k = w3.heap.size + 5)) hv hrow (by omega) rfl (by omega) hown' hgrow; have hc1 := hv1'.cell; have hf1 := hv1'.frozen))
      exact ⟨hk2.from _, hb2, ⟨_, hv2, by simpa using hr2, trivial⟩, hK.trans hb2⟩
    case done3 =>
      rintro D2 zs W2 hD2 rfl ⟨⟨r2, hv2, hrow2, _⟩, hK2⟩ hKD2
      have hs2 := hK2.size
      have hall2 : Boxed W2 (w3.heap.size + 3) 31 _ := (hK2.block _ (by omega) (by omega)).trans hall1
      have hd2 := (Array.getElem?_eq_some_iff.1 hKD2).1
      have hv12 : Boxed W2 (w3.heap.size + 4) 34 r1 := (hK2.block _ (by omega) (by omega)).trans hv1
      have hrow12 : W2.ownsRow (w3.heap.size + 7) 3 1 r1 zs.length (zs.map (Value.int .i64)) := own_block hrow1 (fun k hk => hK2.block k (hrow1.lt k hk).2 (by have := (hrow1.lt k hk).1; omega))
      have b62 : Boxed W2 (w3.heap.size + 6) 34 (.slice none 0 0) := (hK2.block _ (by omega) (by omega)).trans ((hK1.block _ (by omega) (by omega)).trans HB5.out.2)
      have hKD12 : W2.heap[D1]? = some (.deferred (some [])) := (hK2.block _ hd1 (by omega)).trans hKD1
      have hrb2 : Boxed W2 w.heap.size 4 (.bool false) := (hK2.block _ (by omega) (by omega)).trans ((hK1.block _ (by omega) (by omega)).trans HRB0.out)
      have HBW2 : Hid (Below w.heap.size w W2) := Lib.hid (HW0.out.trans ((hK1.below (by omega) (fun k h1 h2 => by omega)).trans (hK2.below (by omega) (fun k h1 h2 => by omega))))
      obtain ⟨oa1, oc1, rfl, _, _, _⟩ := own_slice hrow12
      have hc12 := hv12.cell
      have hall2c : ∀ o, (W2.alloc o).cell? ⟨w3.heap.size + 3, 0, none⟩ = some (.func (.func 31) #[] #[.pointer (some ⟨w3.heap.size, 0, none⟩), .pointer (some ⟨w3.heap.size + 1, 0, none⟩), .pointer (some ⟨w3.heap.size + 2, 0, none⟩)]) := fun o => (hall2.alloc o).cell
      have hc12a : ∀ o, (W2.alloc o).cell? ⟨w3.heap.size + 4, 0, none⟩ = some (.slice oa1 zs.length oc1) := fun o => (hv12.alloc o).cell
      have hlz : zs.length = L + 1 := hxl
      have hk20 : ∀ o k, w.heap.size < k → k < w3.heap.size + 4 → (W2.alloc o).heap[k]? = W0.heap[k]? := fun o k h1 h2 => (Below.heap_alloc W2 o k (by omega)).trans ((hK2.block k (by omega) (by omega)).trans (hK1.block k (by omega) (by omega)))
      have HBW20 : Hid (∀ o, Below w.heap.size w (W2.alloc o)) := Lib.hid fun o => HBW2.out.alloc (by omega) o
      by_cases hst : stop ≤ 0
      · gi_wp2
        go_wp2_with fail
        refine (wpIn_wide (n := 9)).1 ?_
        have bN := Boxed.new W2 3 (.int .i64 0)
        have b620 := b62.alloc (.cells #[.int .i64 0] 3)
        have hv120 := hv12.alloc (.cells #[.int .i64 0] 3)
        have hv220 := hv2.alloc (.cells #[.int .i64 0] 3)
        have hrow120 := hrow12.alloc (.cells #[.int .i64 0] 3)
        have hrow220 := hrow2.alloc (.cells #[.int .i64 0] 3)
        have hrb20 := hrb2.alloc (.cells #[.int .i64 0] 3)
        have hD120 := (Below.heap_alloc W2 (.cells #[.int .i64 0] 3) D1 (Array.getElem?_eq_some_iff.1 hKD12).1).trans hKD12
        have hD220 := (Below.heap_alloc W2 (.cells #[.int .i64 0] 3) D2 hd2).trans hKD2
        have hk20' := hk20 (.cells #[.int .i64 0] 3)
        have HBW := Lib.hid (HBW20.out (.cells #[.int .i64 0] 3))
        have hsz20 : (W2.alloc (.cells #[.int .i64 0] 3)).heap.size = W2.heap.size + 1 := by simp
        obtain ⟨W20, hW20⟩ : ∃ W20, W2.alloc (.cells #[.int .i64 0] 3) = W20 := ⟨_, rfl⟩
        rw [hW20] at bN b620 hv120 hv220 hrow120 hrow220 hrb20 hD120 hD220 hk20' HBW hsz20 ⊢
        clear hW20 hall2c hc12a hk20 HBW20
        refine wpIn_rangeFunc_ownG rfl (by decide) (gf := 31) (lb := #[.pointer (some ⟨w3.heap.size, 0, none⟩), .pointer (some ⟨w3.heap.size + 1, 0, none⟩), .pointer (some ⟨w3.heap.size + 2, 0, none⟩)]) rfl trivial (enters_of Tryz.func31 (by kernel_rfl) rfl)
          (HST.out (KpX (fun k => k = w3.heap.size + 6) W20.heap.size) W20 (fun h hk => h.block _ (by omega) (by omega)) (by omega) hk20' 8 (by decide)) KpX.trans (kpX_b (Nat.le_refl _)) (Below.refl _ _) (fun _ => rfl)
          (fun pre W => (∃ r, Boxed W (w3.heap.size + 6) 34 r ∧ W.ownsRow W20.heap.size 3 1 r pre.length (pre.map (Value.int .i64)) ∧ pre.length ≤ 0) ∧ KpX (fun k => k = w3.heap.size + 6) W20.heap.size W20 W)
          (fun c pre W => (c = .exit 6 ∧ pre ≠ [] ∧ pre.dropLast.length = 0) ∧ (∃ r, Boxed W (w3.heap.size + 6) 34 r ∧ W.ownsRow W20.heap.size 3 1 r pre.dropLast.length (pre.dropLast.map (Value.int .i64)) ∧ True) ∧ KpX (fun k => k = w3.heap.size + 6) W20.heap.size W20 W)
          (OwnFrom.and (Own.from (holdsRow_own W20.heap.size (w3.heap.size + 6) 34 3 1 (fun pre : List Int => pre.length) (fun pre => pre.map (Value.int .i64)) (fun pre _ => pre.length ≤ 0)) _) (ownFrom_kpX (Nat.le_refl _) (Nat.le_refl _)))
          (fun c => OwnFrom.and (ownFrom_pure _ (fun pre : List Int => c = .exit 6 ∧ pre ≠ [] ∧ pre.dropLast.length = 0)) (OwnFrom.and (Own.from (holdsRow_own W20.heap.size (w3.heap.size + 6) 34 3 1 (fun pre : List Int => pre.dropLast.length) (fun pre => pre.dropLast.map (Value.int .i64)) (fun _ _ => True)) _) (ownFrom_kpX (Nat.le_refl _) (Nat.le_refl _))))
          ⟨⟨_, b620, World.ownsRow_nil _ _ _ _, Nat.zero_le _⟩, KpX.refl _ _ _⟩
          (fun x => { tmps := #[.slice a n c, .int .i64 stop, undef, undef, .pointer (some ⟨w.heap.size, 0, none⟩), .pointer (some ⟨tb, 0, none⟩), .int .i64 0, .pointer (some ⟨w3.heap.size + 3, 0, none⟩), .pointer (some ⟨w3.heap.size + 4, 0, none⟩), .pointer (some ⟨w3.heap.size + 5, 0, none⟩), .pointer (some ⟨w3.heap.size + 6, 0, none⟩), undef, undef, undef, undef, .pointer (some ⟨W2.heap.size, 0, none⟩), .int .i64 x, .bool true, .bool false, .tuple #[.pointer (some ⟨tb, 0, none⟩), .int .i64 0], .slice a n c, .slice (some ⟨ge, 0, none⟩) n n, .tuple #[.pointer (some ⟨tb, 0, none⟩), .int .i64 0], .pointer (some ⟨tb, 0, none⟩), .int .i64 0, .int .i64 0, .bool false, .bool false, .pointer (some ⟨tb, 0, none⟩), .int .i64 (L : Nat), .bool (decide ((60 : Int) < (L : Int))), .bool (decide ((60 : Int) < (L : Int))), .pointer (some ⟨tb, 0, none⟩), .func (.func 31) #[] #[.pointer (some ⟨w3.heap.size, 0, none⟩), .pointer (some ⟨w3.heap.size + 1, 0, none⟩), .pointer (some ⟨w3.heap.size + 2, 0, none⟩)], .func (.func 31) #[] #[.pointer (some ⟨w3.heap.size, 0, none⟩), .pointer (some ⟨w3.heap.size + 1, 0, none⟩), .pointer (some ⟨w3.heap.size + 2, 0, none⟩)], undef, undef, undef, undef, undef, undef, undef, undef, undef, undef, undef, undef, undef, undef, undef, undef, undef, undef, undef, undef, .func (.func 31) #[] #[.pointer (some ⟨w3.heap.size, 0, none⟩), .pointer (some ⟨w3.heap.size + 1, 0, none⟩), .pointer (some ⟨w3.heap.size + 2, 0, none⟩)], undef, undef, undef, undef, undef, undef, undef, undef, .int .i64 stop, .bool (decide (0 < stop)), undef, undef, undef, undef, undef, .func (.func 31) #[] #[.pointer (some ⟨w3.heap.size, 0, none⟩), .pointer (some ⟨w3.heap.size + 1, 0, none⟩), .pointer (some ⟨w3.heap.size + 2, 0, none⟩)], .int .i64 x, undef, undef, undef, undef, undef, undef, undef, undef, undef, undef, undef, undef, undef, undef, undef, undef, undef, undef, undef, undef, undef, undef, undef, undef], defers := [] })
          ?assign4 ?body4 ?done4 ?stop4
        case assign4 =>
          intro l x W K hK
          gi_wp2
          exact hK
        case body4 =>
          rintro l pre x W ⟨⟨r, hv, hrow, hpn⟩, hK⟩ hlt
          have hsW := hK.size
          obtain ⟨oa, oc, rfl, _, _, _⟩ := own_slice hrow
          have hc := hv.cell
          have hbN : Boxed W W2.heap.size 3 (.int .i64 0) := (hK.block _ (by omega) (by omega)).trans bN
          have hcN := hbN.cell
          by_cases hpe : pre.length = 0
          · have he : ((pre.length : Int) == 0) = true := by simp [hpe]
            gi_wp2
            exact ⟨KeepsFrom.refl _ _, ⟨rfl, by simp, by simp [hpe]⟩, ⟨_, hv, by simpa using hrow, trivial⟩, hK⟩
          · exact absurd (by omega) hpe
        case done4 =>
          rintro D3 ys W3 hD3 hys ⟨⟨r3, hv3, hrow3, hle3⟩, hK3⟩ hKD3
          subst ys
          obtain ⟨fl, hfl⟩ : ∃ fl : List Int, fl = zs := ⟨_, rfl⟩
          have hfn : fl.length = 0 ∧ fl = zs.take 0 := by rw [hfl]; exact ⟨by omega, (List.take_of_length_le (by omega)).symm⟩
          rw [← hfl] at hrow3
          have hs3 := hK3.size
          have hv13 : Boxed W3 (w3.heap.size + 4) 34 (.slice oa1 zs.length oc1) := (hK3.block _ (by omega) (by omega)).trans hv120
          have hv23 : Boxed W3 (w3.heap.size + 5) 34 r2 := (hK3.block _ (by omega) (by omega)).trans hv220
          have hrow13 : W3.ownsRow (w3.heap.size + 7) 3 1 (.slice oa1 zs.length oc1) zs.length (zs.map (Value.int .i64)) := own_block hrow120 (fun k hk => hK3.block k (hrow120.lt k hk).2 (by have := (hrow120.lt k hk).1; omega))
          have hrow23 : W3.ownsRow W1.heap.size 3 1 r2 zs.length (zs.map (Value.int .i64)) := own_block hrow220 (fun k hk => hK3.block k (hrow220.lt k hk).2 (by have := (hrow220.lt k hk).1; omega))
          have hbN3 : Boxed W3 W2.heap.size 3 (.int .i64 0) := (hK3.block _ (by omega) (by omega)).trans bN
          have hrb3 : Boxed W3 w.heap.size 4 (.bool false) := (hK3.block _ (by omega) (by omega)).trans hrb20
          have hD13 : W3.heap[D1]? = some (.deferred (some [])) := (hK3.block _ (by omega) (by omega)).trans hD120
          have hD23 : W3.heap[D2]? = some (.deferred (some [])) := (hK3.block _ (by omega) (by omega)).trans hD220
          have HBW3 : Hid (Below w.heap.size w W3) := Lib.hid (HBW.out.trans (hK3.below (by omega) (fun k h1 h2 => by omega)))
          obtain ⟨oa2, oc2, rfl, _, _, _⟩ := own_slice hrow23
          obtain ⟨oa3, oc3, rfl, _, _, _⟩ := own_slice hrow3
          rw [hlz] at hv13 hv23 hrow13 hrow23
          rw [hfn.1] at hv3 hrow3
          have HC12 : Hid (∀ W, SKP w.heap.size W3 W → Calls Tryz.prog 12 #[.slice oa1 (L + 1) oc1, .slice oa2 (L + 1) oc2] W fun e w' => e = .returned (.bool true) ∧ SKP w.heap.size W3 w') := Lib.hid fun W hW => by
            have g1 := (own_ints2 (own_block hrow13 (fun k hk => hW.kp.block k (hrow13.lt k hk).2 (by have := (hrow13.lt k hk).1; omega)))).2
            have g2 := (own_ints2 (own_block hrow23 (fun k hk => hW.kp.block k (hrow23.lt k hk).2 (by have := (hrow23.lt k hk).1; omega)))).2
            refine (lawInts_any oa1 oa2 (L + 1) (L + 1) oc1 oc2 zs zs W g1 g2 (by omega)).mono ?_
            rintro e w' ⟨rfl, hb⟩
            exact ⟨by simp, hW.below hb⟩
          have HC3 : Hid (∀ W, SKP w.heap.size W3 W → Calls Tryz.prog 12 #[.slice oa3 0 oc3, .slice oa1 0 oc1] W fun e w' => e = .returned (.bool true) ∧ SKP w.heap.size W3 w') := Lib.hid fun W hW => by
            have g1 := ((own_ints2 (own_block hrow13 (fun k hk => hW.kp.block k (hrow13.lt k hk).2 (by have := (hrow13.lt k hk).1; omega)))).2).take 0 (by omega)
            have g3 := (own_ints2 (own_block hrow3 (fun k hk => hW.kp.block k (hrow3.lt k hk).2 (by have := (hrow3.lt k hk).1; omega)))).2
            refine (lawInts_any oa3 oa1 0 0 oc3 oc1 fl (zs.take 0) W g3 g1 (by omega)).mono ?_
            rintro e w' ⟨rfl, hb⟩
            exact ⟨by rw [decide_eq_true hfn.2], hW.below hb⟩
          have hcap : L + 1 ≤ oc1 := (own_ints2 hrow13).1
          have u0 : (0 : Int) ≤ 0 := by omega
          have u1 : 0 ≤ (oc1 : Int) := by omega
          have HID := Lib.hid (⟨hrb3, hD13, hD23, hKD3⟩ : _ ∧ _ ∧ _ ∧ _)
          have HS : Hid (∀ W, SKP w.heap.size W3 W → W.cell? ⟨w3.heap.size + 4, 0, none⟩ = some (.slice oa1 (L + 1) oc1) ∧ W.cell? ⟨w3.heap.size + 5, 0, none⟩ = some (.slice oa2 (L + 1) oc2) ∧ W.cell? ⟨w3.heap.size + 6, 0, none⟩ = some (.slice oa3 0 oc3) ∧ W.cell? ⟨W2.heap.size, 0, none⟩ = some (.int .i64 0) ∧ SKP w.heap.size W3 W) := Lib.hid fun W hW =>
            ⟨Boxed.cell (t := 34) ((hW.kp.block _ hv13.lt (by omega)).trans hv13), Boxed.cell (t := 34) ((hW.kp.block _ hv23.lt (by omega)).trans hv23), Boxed.cell (t := 34) ((hW.kp.block _ hv3.lt (by omega)).trans hv3), Boxed.cell (t := 3) ((hW.kp.block _ hbN3.lt (by omega)).trans hbN3), hW⟩
          obtain ⟨q1, q2, q3, q4, q5⟩ := HS.out W3 ⟨KpX.refl _ _ _, _, hrb3⟩
          have HDR : SKP w.heap.size W3 W3.drew := q5.below (Below.refl _ _).drew
          clear hrow13 hrow23 hrow3 hv13 hv23 hv3 hbN3 hrb3 hD13 hD23
          gi_wp2
          go_wp2_with fail
          go_region_held3 (fun w' => w'.cell? ⟨w3.heap.size + 4, 0, none⟩ = some (.slice oa1 (L + 1) oc1) ∧ w'.cell? ⟨w3.heap.size + 5, 0, none⟩ = some (.slice oa2 (L + 1) oc2) ∧ w'.cell? ⟨w3.heap.size + 6, 0, none⟩ = some (.slice oa3 0 oc3) ∧ w'.cell? ⟨W2.heap.size, 0, none⟩ = some (.int .i64 0) ∧ SKP w.heap.size W3 w') (first | exact HS.out _ ‹_› | exact HS.out _ HDR | (refine HS.out _ (SKP.set ?_ _); assumption)) (first | (go_at_call 12; (with_reducible refine (HC12.out _ ‹_›).mono ?_); rintro e w5 ⟨rfl, hb5⟩) | (go_at_call 12; (with_reducible refine (HC3.out _ ‹_›).mono ?_); rintro e w6 ⟨rfl, hb6⟩; obtain ⟨bb, hB6⟩ := hb6.bx; have d6 := hB6.cell; have z6 := hB6.frozen))
          (first | go_wp2_with fail | gi_wp2)
          have hfin := SKP.set hb6 true
          have hbx := hB6.set (.bool true)
          obtain ⟨WF, hWF⟩ : ∃ WF, w6.setCell ⟨w.heap.size, 0, none⟩ (.bool true) = WF := ⟨_, rfl⟩
          rw [hWF] at hfin hbx ⊢
          clear hWF
          obtain ⟨f0, f1, f2, f3⟩ := HID.out
          have l1 := (Array.getElem?_eq_some_iff.1 f1).1
          have l2 := (Array.getElem?_eq_some_iff.1 f2).1
          have l3 := (Array.getElem?_eq_some_iff.1 f3).1
          have lF := hfin.kp.size
          have g3 : WF.heap[D3]? = some (.deferred (some [])) := (hfin.kp.block D3 l3 (by omega)).trans f3
          have g2 : (WF.putObj D3 (.deferred none)).heap[D2]? = some (.deferred (some [])) := (World.putObj_heap_other (by omega)).trans ((hfin.kp.block D2 l2 (by omega)).trans f2)
          have g1 : ((WF.putObj D3 (.deferred none)).putObj D2 (.deferred none)).heap[D1]? = some (.deferred (some [])) := (World.putObj_heap_other (by omega)).trans ((World.putObj_heap_other (by omega)).trans ((hfin.kp.block D1 l1 (by omega)).trans f1))
          have gb : (((WF.putObj D3 (.deferred none)).putObj D2 (.deferred none)).putObj D1 (.deferred none)).heap[w.heap.size]? = _ := (World.putObj_heap_other (by omega)).trans ((World.putObj_heap_other (by omega)).trans ((World.putObj_heap_other (by omega)).trans hbx))
          have cb := Boxed.cell (t := 4) gb
          refine ⟨by simp, .inl ⟨_, _, rfl, run_takeDeferred g3, ⟨by simp, .inl ⟨_, _, rfl, run_takeDeferred g2, ⟨by simp, .inl ⟨_, _, rfl, run_takeDeferred g1, ?_⟩⟩⟩⟩⟩⟩
          refine ⟨.bool true, ?_, rfl, ?_⟩
          · rw [results_cell1 rfl]
            go_simp
          · exact ((((HBW3.out.trans (hfin.kp.below (by omega) (fun k h1 h2 => by omega))).trans (belowK_b (w := w) (Nat.le_refl _) _ D3 _ _ (by omega) g3 rfl rfl)).trans (belowK_b (w := w) (Nat.le_refl _) _ D2 _ _ (by omega) g2 rfl rfl)).trans (belowK_b (w := w) (Nat.le_refl _) _ D1 _ _ (by omega) g1 rfl rfl))
        case stop4 =>
          rintro D3 c pre W3 hD3 hpre ⟨⟨rfl, hpne, hpl⟩, ⟨r3, hv3, hrow3, _⟩, hK3⟩ hKD3
          obtain ⟨fl, hfl⟩ : ∃ fl : List Int, fl = pre.dropLast := ⟨_, rfl⟩
          have hfn : fl.length = 0 ∧ fl = zs.take 0 := by
            rw [hfl]
            refine ⟨hpl, ?_⟩
            rw [← hpl]
            exact (List.prefix_iff_eq_take.1 ((List.dropLast_prefix pre).trans hpre))
          rw [← hfl] at hrow3
          have hs3 := hK3.size
          have hv13 : Boxed W3 (w3.heap.size + 4) 34 (.slice oa1 zs.length oc1) := (hK3.block _ (by omega) (by omega)).trans hv120
          have hv23 : Boxed W3 (w3.heap.size + 5) 34 r2 := (hK3.block _ (by omega) (by omega)).trans hv220
          have hrow13 : W3.ownsRow (w3.heap.size + 7) 3 1 (.slice oa1 zs.length oc1) zs.length (zs.map (Value.int .i64)) := own_block hrow120 (fun k hk => hK3.block k (hrow120.lt k hk).2 (by have := (hrow120.lt k hk).1; omega))
          have hrow23 : W3.ownsRow W1.heap.size 3 1 r2 zs.length (zs.map (Value.int .i64)) := own_block hrow220 (fun k hk => hK3.block k (hrow220.lt k hk).2 (by have := (hrow220.lt k hk).1; omega))
          have hbN3 : Boxed W3 W2.heap.size 3 (.int .i64 0) := (hK3.block _ (by omega) (by omega)).trans bN
          have hrb3 : Boxed W3 w.heap.size 4 (.bool false) := (hK3.block _ (by omega) (by omega)).trans hrb20
          have hD13 : W3.heap[D1]? = some (.deferred (some [])) := (hK3.block _ (by omega) (by omega)).trans hD120
          have hD23 : W3.heap[D2]? = some (.deferred (some [])) := (hK3.block _ (by omega) (by omega)).trans hD220
          have HBW3 : Hid (Below w.heap.size w W3) := Lib.hid (HBW.out.trans (hK3.below (by omega) (fun k h1 h2 => by omega)))
          obtain ⟨oa2, oc2, rfl, _, _, _⟩ := own_slice hrow23
          obtain ⟨oa3, oc3, rfl, _, _, _⟩ := own_slice hrow3
          rw [hlz] at hv13 hv23 hrow13 hrow23
          rw [hfn.1] at hv3 hrow3
          have HC12 : Hid (∀ W, SKP w.heap.size W3 W → Calls Tryz.prog 12 #[.slice oa1 (L + 1) oc1, .slice oa2 (L + 1) oc2] W fun e w' => e = .returned (.bool true) ∧ SKP w.heap.size W3 w') := Lib.hid fun W hW => by
            have g1 := (own_ints2 (own_block hrow13 (fun k hk => hW.kp.block k (hrow13.lt k hk).2 (by have := (hrow13.lt k hk).1; omega)))).2
            have g2 := (own_ints2 (own_block hrow23 (fun k hk => hW.kp.block k (hrow23.lt k hk).2 (by have := (hrow23.lt k hk).1; omega)))).2
            refine (lawInts_any oa1 oa2 (L + 1) (L + 1) oc1 oc2 zs zs W g1 g2 (by omega)).mono ?_
            rintro e w' ⟨rfl, hb⟩
            exact ⟨by simp, hW.below hb⟩
          have HC3 : Hid (∀ W, SKP w.heap.size W3 W → Calls Tryz.prog 12 #[.slice oa3 0 oc3, .slice oa1 0 oc1] W fun e w' => e = .returned (.bool true) ∧ SKP w.heap.size W3 w') := Lib.hid fun W hW => by
            have g1 := ((own_ints2 (own_block hrow13 (fun k hk => hW.kp.block k (hrow13.lt k hk).2 (by have := (hrow13.lt k hk).1; omega)))).2).take 0 (by omega)
            have g3 := (own_ints2 (own_block hrow3 (fun k hk => hW.kp.block k (hrow3.lt k hk).2 (by have := (hrow3.lt k hk).1; omega)))).2
            refine (lawInts_any oa3 oa1 0 0 oc3 oc1 fl (zs.take 0) W g3 g1 (by omega)).mono ?_
            rintro e w' ⟨rfl, hb⟩
            exact ⟨by rw [decide_eq_true hfn.2], hW.below hb⟩
          have hcap : L + 1 ≤ oc1 := (own_ints2 hrow13).1
          have u0 : (0 : Int) ≤ 0 := by omega
          have u1 : 0 ≤ (oc1 : Int) := by omega
          have HID := Lib.hid (⟨hrb3, hD13, hD23, hKD3⟩ : _ ∧ _ ∧ _ ∧ _)
          have HS : Hid (∀ W, SKP w.heap.size W3 W → W.cell? ⟨w3.heap.size + 4, 0, none⟩ = some (.slice oa1 (L + 1) oc1) ∧ W.cell? ⟨w3.heap.size + 5, 0, none⟩ = some (.slice oa2 (L + 1) oc2) ∧ W.cell? ⟨w3.heap.size + 6, 0, none⟩ = some (.slice oa3 0 oc3) ∧ W.cell? ⟨W2.heap.size, 0, none⟩ = some (.int .i64 0) ∧ SKP w.heap.size W3 W) := Lib.hid fun W hW =>
            ⟨Boxed.cell (t := 34) ((hW.kp.block _ hv13.lt (by omega)).trans hv13), Boxed.cell (t := 34) ((hW.kp.block _ hv23.lt (by omega)).trans hv23), Boxed.cell (t := 34) ((hW.kp.block _ hv3.lt (by omega)).trans hv3), Boxed.cell (t := 3) ((hW.kp.block _ hbN3.lt (by omega)).trans hbN3), hW⟩
          obtain ⟨q1, q2, q3, q4, q5⟩ := HS.out W3 ⟨KpX.refl _ _ _, _, hrb3⟩
          have HDR : SKP w.heap.size W3 W3.drew := q5.below (Below.refl _ _).drew
          clear hrow13 hrow23 hrow3 hv13 hv23 hv3 hbN3 hrb3 hD13 hD23
          gi_wp2
          go_wp2_with fail
          go_region_held3 (fun w' => w'.cell? ⟨w3.heap.size + 4, 0, none⟩ = some (.slice oa1 (L + 1) oc1) ∧ w'.cell? ⟨w3.heap.size + 5, 0, none⟩ = some (.slice oa2 (L + 1) oc2) ∧ w'.cell? ⟨w3.heap.size + 6, 0, none⟩ = some (.slice oa3 0 oc3) ∧ w'.cell? ⟨W2.heap.size, 0, none⟩ = some (.int .i64 0) ∧ SKP w.heap.size W3 w') (first | exact HS.out _ ‹_› | exact HS.out _ HDR | (refine HS.out _ (SKP.set ?_ _); assumption)) (first | (go_at_call 12; (with_reducible refine (HC12.out _ ‹_›).mono ?_); rintro e w5 ⟨rfl, hb5⟩) | (go_at_call 12; (with_reducible refine (HC3.out _ ‹_›).mono ?_); rintro e w6 ⟨rfl, hb6⟩; obtain ⟨bb, hB6⟩ := hb6.bx; have d6 := hB6.cell; have z6 := hB6.frozen))
          (first | go_wp2_with fail | gi_wp2)
          have hfin := SKP.set hb6 true
          have hbx := hB6.set (.bool true)
          obtain ⟨WF, hWF⟩ : ∃ WF, w6.setCell ⟨w.heap.size, 0, none⟩ (.bool true) = WF := ⟨_, rfl⟩
          rw [hWF] at hfin hbx ⊢
          clear hWF
          obtain ⟨f0, f1, f2, f3⟩ := HID.out
          have l1 := (Array.getElem?_eq_some_iff.1 f1).1
          have l2 := (Array.getElem?_eq_some_iff.1 f2).1
          have l3 := (Array.getElem?_eq_some_iff.1 f3).1
          have lF := hfin.kp.size
          have g3 : WF.heap[D3]? = some (.deferred (some [])) := (hfin.kp.block D3 l3 (by omega)).trans f3
          have g2 : (WF.putObj D3 (.deferred none)).heap[D2]? = some (.deferred (some [])) := (World.putObj_heap_other (by omega)).trans ((hfin.kp.block D2 l2 (by omega)).trans f2)
          have g1 : ((WF.putObj D3 (.deferred none)).putObj D2 (.deferred none)).heap[D1]? = some (.deferred (some [])) := (World.putObj_heap_other (by omega)).trans ((World.putObj_heap_other (by omega)).trans ((hfin.kp.block D1 l1 (by omega)).trans f1))
          have gb : (((WF.putObj D3 (.deferred none)).putObj D2 (.deferred none)).putObj D1 (.deferred none)).heap[w.heap.size]? = _ := (World.putObj_heap_other (by omega)).trans ((World.putObj_heap_other (by omega)).trans ((World.putObj_heap_other (by omega)).trans hbx))
          have cb := Boxed.cell (t := 4) gb
          refine ⟨by simp, .inl ⟨_, _, rfl, run_takeDeferred g3, ⟨by simp, .inl ⟨_, _, rfl, run_takeDeferred g2, ⟨by simp, .inl ⟨_, _, rfl, run_takeDeferred g1, ?_⟩⟩⟩⟩⟩⟩
          refine ⟨.bool true, ?_, rfl, ?_⟩
          · rw [results_cell1 rfl]
            go_simp
          · exact ((((HBW3.out.trans (hfin.kp.below (by omega) (fun k h1 h2 => by omega))).trans (belowK_b (w := w) (Nat.le_refl _) _ D3 _ _ (by omega) g3 rfl rfl)).trans (belowK_b (w := w) (Nat.le_refl _) _ D2 _ _ (by omega) g2 rfl rfl)).trans (belowK_b (w := w) (Nat.le_refl _) _ D1 _ _ (by omega) g1 rfl rfl))
      · have hst' : 0 < stop := by omega
        gi_wp2
        go_wp2_with fail
        obtain ⟨nn, hnn⟩ : ∃ nn : Nat, stop % ((L : Int) + 1 + 1) = nn := ⟨(stop % ((L : Int) + 1 + 1)).toNat, by rw [Int.toNat_of_nonneg (Int.emod_nonneg _ (by omega))]⟩
        have hnle : nn ≤ L + 1 := by
          have := Int.emod_lt_of_pos stop (show (0 : Int) < (L : Int) + 1 + 1 by omega)
          omega
        rw [hnn]
        refine (wpIn_wide (n := 9)).1 ?_
        have bN := Boxed.new W2 3 (.int .i64 (nn : Nat))
        have b620 := b62.alloc (.cells #[.int .i64 (nn : Nat)] 3)
        have hv120 := hv12.alloc (.cells #[.int .i64 (nn : Nat)] 3)
        have hv220 := hv2.alloc (.cells #[.int .i64 (nn : Nat)] 3)
        have hrow120 := hrow12.alloc (.cells #[.int .i64 (nn : Nat)] 3)
        have hrow220 := hrow2.alloc (.cells #[.int .i64 (nn : Nat)] 3)
        have hrb20 := hrb2.alloc (.cells #[.int .i64 (nn : Nat)] 3)
        have hD120 := (Below.heap_alloc W2 (.cells #[.int .i64 (nn : Nat)] 3) D1 (Array.getElem?_eq_some_iff.1 hKD12).1).trans hKD12
        have hD220 := (Below.heap_alloc W2 (.cells #[.int .i64 (nn : Nat)] 3) D2 hd2).trans hKD2
        have hk20' := hk20 (.cells #[.int .i64 (nn : Nat)] 3)
        have HBW := Lib.hid (HBW20.out (.cells #[.int .i64 (nn : Nat)] 3))
        have hsz20 : (W2.alloc (.cells #[.int .i64 (nn : Nat)] 3)).heap.size = W2.heap.size + 1 := by simp
        obtain ⟨W20, hW20⟩ : ∃ W20, W2.alloc (.cells #[.int .i64 (nn : Nat)] 3) = W20 := ⟨_, rfl⟩
        rw [hW20] at bN b620 hv120 hv220 hrow120 hrow220 hrb20 hD120 hD220 hk20' HBW hsz20 ⊢
        clear hW20 hall2c hc12a hk20 HBW20
        refine wpIn_rangeFunc_ownG rfl (by decide) (gf := 31) (lb := #[.pointer (some ⟨w3.heap.size, 0, none⟩), .pointer (some ⟨w3.heap.size + 1, 0, none⟩), .pointer (some ⟨w3.heap.size + 2, 0, none⟩)]) rfl trivial (enters_of Tryz.func31 (by kernel_rfl) rfl)
          (HST.out (KpX (fun k => k = w3.heap.size + 6) W20.heap.size) W20 (fun h hk => h.block _ (by omega) (by omega)) (by omega) hk20' 8 (by decide)) KpX.trans (kpX_b (Nat.le_refl _)) (Below.refl _ _) (fun _ => rfl)
          (fun pre W => (∃ r, Boxed W (w3.heap.size + 6) 34 r ∧ W.ownsRow W20.heap.size 3 1 r pre.length (pre.map (Value.int .i64)) ∧ pre.length ≤ nn) ∧ KpX (fun k => k = w3.heap.size + 6) W20.heap.size W20 W)
          (fun c pre W => (c = .exit 6 ∧ pre ≠ [] ∧ pre.dropLast.length = nn) ∧ (∃ r, Boxed W (w3.heap.size + 6) 34 r ∧ W.ownsRow W20.heap.size 3 1 r pre.dropLast.length (pre.dropLast.map (Value.int .i64)) ∧ True) ∧ KpX (fun k => k = w3.heap.size + 6) W20.heap.size W20 W)
          (OwnFrom.and (Own.from (holdsRow_own W20.heap.size (w3.heap.size + 6) 34 3 1 (fun pre : List Int => pre.length) (fun pre => pre.map (Value.int .i64)) (fun pre _ => pre.length ≤ nn)) _) (ownFrom_kpX (Nat.le_refl _) (Nat.le_refl _)))
          (fun c => OwnFrom.and (ownFrom_pure _ (fun pre : List Int => c = .exit 6 ∧ pre ≠ [] ∧ pre.dropLast.length = nn)) (OwnFrom.and (Own.from (holdsRow_own W20.heap.size (w3.heap.size + 6) 34 3 1 (fun pre : List Int => pre.dropLast.length) (fun pre => pre.dropLast.map (Value.int .i64)) (fun _ _ => True)) _) (ownFrom_kpX (Nat.le_refl _) (Nat.le_refl _))))
          ⟨⟨_, b620, World.ownsRow_nil _ _ _ _, Nat.zero_le _⟩, KpX.refl _ _ _⟩
          (fun x => { tmps := #[.slice a n c, .int .i64 stop, undef, undef, .pointer (some ⟨w.heap.size, 0, none⟩), .pointer (some ⟨tb, 0, none⟩), .int .i64 0, .pointer (some ⟨w3.heap.size + 3, 0, none⟩), .pointer (some ⟨w3.heap.size + 4, 0, none⟩), .pointer (some ⟨w3.heap.size + 5, 0, none⟩), .pointer (some ⟨w3.heap.size + 6, 0, none⟩), undef, undef, undef, undef, .pointer (some ⟨W2.heap.size, 0, none⟩), .int .i64 x, .bool true, .bool false, .tuple #[.pointer (some ⟨tb, 0, none⟩), .int .i64 0], .slice a n c, .slice (some ⟨ge, 0, none⟩) n n, .tuple #[.pointer (some ⟨tb, 0, none⟩), .int .i64 0], .pointer (some ⟨tb, 0, none⟩), .int .i64 0, .int .i64 0, .bool false, .bool false, .pointer (some ⟨tb, 0, none⟩), .int .i64 (L : Nat), .bool (decide ((60 : Int) < (L : Int))), .bool (decide ((60 : Int) < (L : Int))), .pointer (some ⟨tb, 0, none⟩), .func (.func 31) #[] #[.pointer (some ⟨w3.heap.size, 0, none⟩), .pointer (some ⟨w3.heap.size + 1, 0, none⟩), .pointer (some ⟨w3.heap.size + 2, 0, none⟩)], .func (.func 31) #[] #[.pointer (some ⟨w3.heap.size, 0, none⟩), .pointer (some ⟨w3.heap.size + 1, 0, none⟩), .pointer (some ⟨w3.heap.size + 2, 0, none⟩)], undef, undef, undef, undef, undef, undef, undef, undef, undef, undef, undef, undef, undef, undef, undef, undef, undef, undef, undef, undef, .func (.func 31) #[] #[.pointer (some ⟨w3.heap.size, 0, none⟩), .pointer (some ⟨w3.heap.size + 1, 0, none⟩), .pointer (some ⟨w3.heap.size + 2, 0, none⟩)], undef, undef, undef, undef, undef, undef, undef, undef, .int .i64 stop, .bool true, .int .i64 stop, .slice oa1 (L + 1) oc1, .int .i64 ((L : Int) + 1), .int .i64 ((L : Int) + 1 + 1), .int .i64 (nn : Nat), .func (.func 31) #[] #[.pointer (some ⟨w3.heap.size, 0, none⟩), .pointer (some ⟨w3.heap.size + 1, 0, none⟩), .pointer (some ⟨w3.heap.size + 2, 0, none⟩)], .int .i64 x, undef, undef, undef, undef, undef, undef, undef, undef, undef, undef, undef, undef, undef, undef, undef, undef, undef, undef, undef, undef, undef, undef, undef, undef], defers := [] })
          ?assign4 ?body4 ?done4 ?stop4
        case assign4 =>
          intro l x W K hK
          gi_wp2
          exact hK
        case body4 =>
          rintro l pre x W ⟨⟨r, hv, hrow, hpn⟩, hK⟩ hlt
          have hsW := hK.size
          obtain ⟨oa, oc, rfl, _, _, _⟩ := own_slice hrow
          have hc := hv.cell
          have hbN : Boxed W W2.heap.size 3 (.int .i64 (nn : Nat)) := (hK.block _ (by omega) (by omega)).trans bN
          have hcN := hbN.cell
          by_cases hpe : pre.length = nn
          · have he : ((pre.length : Int) == (nn : Nat)) = true := by simp [hpe]
            gi_wp2
            exact ⟨KeepsFrom.refl _ _, ⟨rfl, by simp, by simp [hpe]⟩, ⟨_, hv, by simpa using hrow, trivial⟩, hK⟩
          · have he : ((pre.length : Int) == (nn : Nat)) = false := by simp; omega
            gi_wp2_with (gi_at_builtin; go_must (refine wpListIn_append_own _ rfl _ _ 34 rfl W20.heap.size 3 i0 (.int .i64 0) 1 8 Tryz.underlying34 hi hz0 hz1 hz2 rfl (by decide) _ _ _ rfl (hrow.alloc _) ⟨W.heap.size, 0, none⟩ 1 1 [.int .i64 x] rfl rfl (cell_one_new _ _ _) (by simp [Value.oneCell']) (by unfold maxLen; omega) (by omega) (by simp; omega) ?_; intro v' w5 hown' hgrow _; obtain ⟨g', cap', rfl⟩ := ownsRow_succ hown'; obtain ⟨hv1', hv2', hr2', hk2', hb2'⟩ := boxApp (X := (fun k => k = w3.heap.size + 6)) hv hrow (by omega) rfl (by omega) hown' hgrow; have hc1 := hv1'.cell; have hf1 := hv1'.frozen))
            exact ⟨hk2'.from _, hb2', ⟨_, hv2', by simpa using hr2', by simp; omega⟩, hK.trans hb2'⟩
        case done4 =>
          rintro D3 ys W3 hD3 hys ⟨⟨r3, hv3, hrow3, hle3⟩, hK3⟩ hKD3
          subst ys
          obtain ⟨fl, hfl⟩ : ∃ fl : List Int, fl = zs := ⟨_, rfl⟩
          have hfn : fl.length = nn ∧ fl = zs.take nn := by rw [hfl]; exact ⟨by omega, (List.take_of_length_le (by omega)).symm⟩
          rw [← hfl] at hrow3
          have hs3 := hK3.size
          have hv13 : Boxed W3 (w3.heap.size + 4) 34 (.slice oa1 zs.length oc1) := (hK3.block _ (by omega) (by omega)).trans hv120
          have hv23 : Boxed W3 (w3.heap.size + 5) 34 r2 := (hK3.block _ (by omega) (by omega)).trans hv220
          have hrow13 : W3.ownsRow (w3.heap.size + 7) 3 1 (.slice oa1 zs.length oc1) zs.length (zs.map (Value.int .i64)) := own_block hrow120 (fun k hk => hK3.block k (hrow120.lt k hk).2 (by have := (hrow120.lt k hk).1; omega))
          have hrow23 : W3.ownsRow W1.heap.size 3 1 r2 zs.length (zs.map (Value.int .i64)) := own_block hrow220 (fun k hk => hK3.block k (hrow220.lt k hk).2 (by have := (hrow220.lt k hk).1; omega))
          have hbN3 : Boxed W3 W2.heap.size 3 (.int .i64 (nn : Nat)) := (hK3.block _ (by omega) (by omega)).trans bN
          have hrb3 : Boxed W3 w.heap.size 4 (.bool false) := (hK3.block _ (by omega) (by omega)).trans hrb20
          have hD13 : W3.heap[D1]? = some (.deferred (some [])) := (hK3.block _ (by omega) (by omega)).trans hD120
          have hD23 : W3.heap[D2]? = some (.deferred (some [])) := (hK3.block _ (by omega) (by omega)).trans hD220
          have HBW3 : Hid (Below w.heap.size w W3) := Lib.hid (HBW.out.trans (hK3.below (by omega) (fun k h1 h2 => by omega)))
          obtain ⟨oa2, oc2, rfl, _, _, _⟩ := own_slice hrow23
          obtain ⟨oa3, oc3, rfl, _, _, _⟩ := own_slice hrow3
          rw [hlz] at hv13 hv23 hrow13 hrow23
          rw [hfn.1] at hv3 hrow3
          have HC12 : Hid (∀ W, SKP w.heap.size W3 W → Calls Tryz.prog 12 #[.slice oa1 (L + 1) oc1, .slice oa2 (L + 1) oc2] W fun e w' => e = .returned (.bool true) ∧ SKP w.heap.size W3 w') := Lib.hid fun W hW => by
            have g1 := (own_ints2 (own_block hrow13 (fun k hk => hW.kp.block k (hrow13.lt k hk).2 (by have := (hrow13.lt k hk).1; omega)))).2
            have g2 := (own_ints2 (own_block hrow23 (fun k hk => hW.kp.block k (hrow23.lt k hk).2 (by have := (hrow23.lt k hk).1; omega)))).2
            refine (lawInts_any oa1 oa2 (L + 1) (L + 1) oc1 oc2 zs zs W g1 g2 (by omega)).mono ?_
            rintro e w' ⟨rfl, hb⟩
            exact ⟨by simp, hW.below hb⟩
          have HC3 : Hid (∀ W, SKP w.heap.size W3 W → Calls Tryz.prog 12 #[.slice oa3 nn oc3, .slice oa1 nn oc1] W fun e w' => e = .returned (.bool true) ∧ SKP w.heap.size W3 w') := Lib.hid fun W hW => by
            have g1 := ((own_ints2 (own_block hrow13 (fun k hk => hW.kp.block k (hrow13.lt k hk).2 (by have := (hrow13.lt k hk).1; omega)))).2).take nn (by omega)
            have g3 := (own_ints2 (own_block hrow3 (fun k hk => hW.kp.block k (hrow3.lt k hk).2 (by have := (hrow3.lt k hk).1; omega)))).2
            refine (lawInts_any oa3 oa1 nn nn oc3 oc1 fl (zs.take nn) W g3 g1 (by omega)).mono ?_
            rintro e w' ⟨rfl, hb⟩
            exact ⟨by rw [decide_eq_true hfn.2], hW.below hb⟩
          have hcap : L + 1 ≤ oc1 := (own_ints2 hrow13).1
          have u0 : (0 : Int) ≤ (nn : Nat) := by omega
          have u1 : (nn : Nat) ≤ (oc1 : Int) := by omega
          have HID := Lib.hid (⟨hrb3, hD13, hD23, hKD3⟩ : _ ∧ _ ∧ _ ∧ _)
          have HS : Hid (∀ W, SKP w.heap.size W3 W → W.cell? ⟨w3.heap.size + 4, 0, none⟩ = some (.slice oa1 (L + 1) oc1) ∧ W.cell? ⟨w3.heap.size + 5, 0, none⟩ = some (.slice oa2 (L + 1) oc2) ∧ W.cell? ⟨w3.heap.size + 6, 0, none⟩ = some (.slice oa3 nn oc3) ∧ W.cell? ⟨W2.heap.size, 0, none⟩ = some (.int .i64 (nn : Nat)) ∧ SKP w.heap.size W3 W) := Lib.hid fun W hW =>
            ⟨Boxed.cell (t := 34) ((hW.kp.block _ hv13.lt (by omega)).trans hv13), Boxed.cell (t := 34) ((hW.kp.block _ hv23.lt (by omega)).trans hv23), Boxed.cell (t := 34) ((hW.kp.block _ hv3.lt (by omega)).trans hv3), Boxed.cell (t := 3) ((hW.kp.block _ hbN3.lt (by omega)).trans hbN3), hW⟩
          obtain ⟨q1, q2, q3, q4, q5⟩ := HS.out W3 ⟨KpX.refl _ _ _, _, hrb3⟩
          have HDR : SKP w.heap.size W3 W3.drew := q5.below (Below.refl _ _).drew
          clear hrow13 hrow23 hrow3 hv13 hv23 hv3 hbN3 hrb3 hD13 hD23
          gi_wp2
          go_wp2_with fail
          go_region_held3 (fun w' => w'.cell? ⟨w3.heap.size + 4, 0, none⟩ = some (.slice oa1 (L + 1) oc1) ∧ w'.cell? ⟨w3.heap.size + 5, 0, none⟩ = some (.slice oa2 (L + 1) oc2) ∧ w'.cell? ⟨w3.heap.size + 6, 0, none⟩ = some (.slice oa3 nn oc3) ∧ w'.cell? ⟨W2.heap.size, 0, none⟩ = some (.int .i64 (nn : Nat)) ∧ SKP w.heap.size W3 w') (first | exact HS.out _ ‹_› | exact HS.out _ HDR | (refine HS.out _ (SKP.set ?_ _); assumption)) (first | (go_at_call 12; (with_reducible refine (HC12.out _ ‹_›).mono ?_); rintro e w5 ⟨rfl, hb5⟩) | (go_at_call 12; (with_reducible refine (HC3.out _ ‹_›).mono ?_); rintro e w6 ⟨rfl, hb6⟩; obtain ⟨bb, hB6⟩ := hb6.bx; have d6 := hB6.cell; have z6 := hB6.frozen))
          (first | go_wp2_with fail | gi_wp2)
          have hfin := SKP.set hb6 true
          have hbx := hB6.set (.bool true)
          obtain ⟨WF, hWF⟩ : ∃ WF, w6.setCell ⟨w.heap.size, 0, none⟩ (.bool true) = WF := ⟨_, rfl⟩
          rw [hWF] at hfin hbx ⊢
          clear hWF
          obtain ⟨f0, f1, f2, f3⟩ := HID.out
          have l1 := (Array.getElem?_eq_some_iff.1 f1).1
          have l2 := (Array.getElem?_eq_some_iff.1 f2).1
          have l3 := (Array.getElem?_eq_some_iff.1 f3).1
          have lF := hfin.kp.size
          have g3 : WF.heap[D3]? = some (.deferred (some [])) := (hfin.kp.block D3 l3 (by omega)).trans f3
          have g2 : (WF.putObj D3 (.deferred none)).heap[D2]? = some (.deferred (some [])) := (World.putObj_heap_other (by omega)).trans ((hfin.kp.block D2 l2 (by omega)).trans f2)
          have g1 : ((WF.putObj D3 (.deferred none)).putObj D2 (.deferred none)).heap[D1]? = some (.deferred (some [])) := (World.putObj_heap_other (by omega)).trans ((World.putObj_heap_other (by omega)).trans ((hfin.kp.block D1 l1 (by omega)).trans f1))
          have gb : (((WF.putObj D3 (.deferred none)).putObj D2 (.deferred none)).putObj D1 (.deferred none)).heap[w.heap.size]? = _ := (World.putObj_heap_other (by omega)).trans ((World.putObj_heap_other (by omega)).trans ((World.putObj_heap_other (by omega)).trans hbx))
          have cb := Boxed.cell (t := 4) gb
          refine ⟨by simp, .inl ⟨_, _, rfl, run_takeDeferred g3, ⟨by simp, .inl ⟨_, _, rfl, run_takeDeferred g2, ⟨by simp, .inl ⟨_, _, rfl, run_takeDeferred g1, ?_⟩⟩⟩⟩⟩⟩
          refine ⟨.bool true, ?_, rfl, ?_⟩
          · rw [results_cell1 rfl]
            go_simp
          · exact ((((HBW3.out.trans (hfin.kp.below (by omega) (fun k h1 h2 => by omega))).trans (belowK_b (w := w) (Nat.le_refl _) _ D3 _ _ (by omega) g3 rfl rfl)).trans (belowK_b (w := w) (Nat.le_refl _) _ D2 _ _ (by omega) g2 rfl rfl)).trans (belowK_b (w := w) (Nat.le_refl _) _ D1 _ _ (by omega) g1 rfl rfl))
        case stop4 =>
          rintro D3 c pre W3 hD3 hpre ⟨⟨rfl, hpne, hpl⟩, ⟨r3, hv3, hrow3, _⟩, hK3⟩ hKD3
          obtain ⟨fl, hfl⟩ : ∃ fl : List Int, fl = pre.dropLast := ⟨_, rfl⟩
          have hfn : fl.length = nn ∧ fl = zs.take nn := by
            rw [hfl]
            refine ⟨hpl, ?_⟩
            rw [← hpl]
            exact (List.prefix_iff_eq_take.1 ((List.dropLast_prefix pre).trans hpre))
          rw [← hfl] at hrow3
          have hs3 := hK3.size
          have hv13 : Boxed W3 (w3.heap.size + 4) 34 (.slice oa1 zs.length oc1) := (hK3.block _ (by omega) (by omega)).trans hv120
          have hv23 : Boxed W3 (w3.heap.size + 5) 34 r2 := (hK3.block _ (by omega) (by omega)).trans hv220
          have hrow13 : W3.ownsRow (w3.heap.size + 7) 3 1 (.slice oa1 zs.length oc1) zs.length (zs.map (Value.int .i64)) := own_block hrow120 (fun k hk => hK3.block k (hrow120.lt k hk).2 (by have := (hrow120.lt k hk).1; omega))
          have hrow23 : W3.ownsRow W1.heap.size 3 1 r2 zs.length (zs.map (Value.int .i64)) := own_block hrow220 (fun k hk => hK3.block k (hrow220.lt k hk).2 (by have := (hrow220.lt k hk).1; omega))
          have hbN3 : Boxed W3 W2.heap.size 3 (.int .i64 (nn : Nat)) := (hK3.block _ (by omega) (by omega)).trans bN
          have hrb3 : Boxed W3 w.heap.size 4 (.bool false) := (hK3.block _ (by omega) (by omega)).trans hrb20
          have hD13 : W3.heap[D1]? = some (.deferred (some [])) := (hK3.block _ (by omega) (by omega)).trans hD120
          have hD23 : W3.heap[D2]? = some (.deferred (some [])) := (hK3.block _ (by omega) (by omega)).trans hD220
          have HBW3 : Hid (Below w.heap.size w W3) := Lib.hid (HBW.out.trans (hK3.below (by omega) (fun k h1 h2 => by omega)))
          obtain ⟨oa2, oc2, rfl, _, _, _⟩ := own_slice hrow23
          obtain ⟨oa3, oc3, rfl, _, _, _⟩ := own_slice hrow3
          rw [hlz] at hv13 hv23 hrow13 hrow23
          rw [hfn.1] at hv3 hrow3
          have HC12 : Hid (∀ W, SKP w.heap.size W3 W → Calls Tryz.prog 12 #[.slice oa1 (L + 1) oc1, .slice oa2 (L + 1) oc2] W fun e w' => e = .returned (.bool true) ∧ SKP w.heap.size W3 w') := Lib.hid fun W hW => by
            have g1 := (own_ints2 (own_block hrow13 (fun k hk => hW.kp.block k (hrow13.lt k hk).2 (by have := (hrow13.lt k hk).1; omega)))).2
            have g2 := (own_ints2 (own_block hrow23 (fun k hk => hW.kp.block k (hrow23.lt k hk).2 (by have := (hrow23.lt k hk).1; omega)))).2
            refine (lawInts_any oa1 oa2 (L + 1) (L + 1) oc1 oc2 zs zs W g1 g2 (by omega)).mono ?_
            rintro e w' ⟨rfl, hb⟩
            exact ⟨by simp, hW.below hb⟩
          have HC3 : Hid (∀ W, SKP w.heap.size W3 W → Calls Tryz.prog 12 #[.slice oa3 nn oc3, .slice oa1 nn oc1] W fun e w' => e = .returned (.bool true) ∧ SKP w.heap.size W3 w') := Lib.hid fun W hW => by
            have g1 := ((own_ints2 (own_block hrow13 (fun k hk => hW.kp.block k (hrow13.lt k hk).2 (by have := (hrow13.lt k hk).1; omega)))).2).take nn (by omega)
            have g3 := (own_ints2 (own_block hrow3 (fun k hk => hW.kp.block k (hrow3.lt k hk).2 (by have := (hrow3.lt k hk).1; omega)))).2
            refine (lawInts_any oa3 oa1 nn nn oc3 oc1 fl (zs.take nn) W g3 g1 (by omega)).mono ?_
            rintro e w' ⟨rfl, hb⟩
            exact ⟨by rw [decide_eq_true hfn.2], hW.below hb⟩
          have hcap : L + 1 ≤ oc1 := (own_ints2 hrow13).1
          have u0 : (0 : Int) ≤ (nn : Nat) := by omega
          have u1 : (nn : Nat) ≤ (oc1 : Int) := by omega
          have HID := Lib.hid (⟨hrb3, hD13, hD23, hKD3⟩ : _ ∧ _ ∧ _ ∧ _)
          have HS : Hid (∀ W, SKP w.heap.size W3 W → W.cell? ⟨w3.heap.size + 4, 0, none⟩ = some (.slice oa1 (L + 1) oc1) ∧ W.cell? ⟨w3.heap.size + 5, 0, none⟩ = some (.slice oa2 (L + 1) oc2) ∧ W.cell? ⟨w3.heap.size + 6, 0, none⟩ = some (.slice oa3 nn oc3) ∧ W.cell? ⟨W2.heap.size, 0, none⟩ = some (.int .i64 (nn : Nat)) ∧ SKP w.heap.size W3 W) := Lib.hid fun W hW =>
            ⟨Boxed.cell (t := 34) ((hW.kp.block _ hv13.lt (by omega)).trans hv13), Boxed.cell (t := 34) ((hW.kp.block _ hv23.lt (by omega)).trans hv23), Boxed.cell (t := 34) ((hW.kp.block _ hv3.lt (by omega)).trans hv3), Boxed.cell (t := 3) ((hW.kp.block _ hbN3.lt (by omega)).trans hbN3), hW⟩
          obtain ⟨q1, q2, q3, q4, q5⟩ := HS.out W3 ⟨KpX.refl _ _ _, _, hrb3⟩
          have HDR : SKP w.heap.size W3 W3.drew := q5.below (Below.refl _ _).drew
          clear hrow13 hrow23 hrow3 hv13 hv23 hv3 hbN3 hrb3 hD13 hD23
          gi_wp2
          go_wp2_with fail
          go_region_held3 (fun w' => w'.cell? ⟨w3.heap.size + 4, 0, none⟩ = some (.slice oa1 (L + 1) oc1) ∧ w'.cell? ⟨w3.heap.size + 5, 0, none⟩ = some (.slice oa2 (L + 1) oc2) ∧ w'.cell? ⟨w3.heap.size + 6, 0, none⟩ = some (.slice oa3 nn oc3) ∧ w'.cell? ⟨W2.heap.size, 0, none⟩ = some (.int .i64 (nn : Nat)) ∧ SKP w.heap.size W3 w') (first | exact HS.out _ ‹_› | exact HS.out _ HDR | (refine HS.out _ (SKP.set ?_ _); assumption)) (first | (go_at_call 12; (with_reducible refine (HC12.out _ ‹_›).mono ?_); rintro e w5 ⟨rfl, hb5⟩) | (go_at_call 12; (with_reducible refine (HC3.out _ ‹_›).mono ?_); rintro e w6 ⟨rfl, hb6⟩; obtain ⟨bb, hB6⟩ := hb6.bx; have d6 := hB6.cell; have z6 := hB6.frozen))
          (first | go_wp2_with fail | gi_wp2)
          have hfin := SKP.set hb6 true
          have hbx := hB6.set (.bool true)
          obtain ⟨WF, hWF⟩ : ∃ WF, w6.setCell ⟨w.heap.size, 0, none⟩ (.bool true) = WF := ⟨_, rfl⟩
          rw [hWF] at hfin hbx ⊢
          clear hWF
          obtain ⟨f0, f1, f2, f3⟩ := HID.out
          have l1 := (Array.getElem?_eq_some_iff.1 f1).1
          have l2 := (Array.getElem?_eq_some_iff.1 f2).1
          have l3 := (Array.getElem?_eq_some_iff.1 f3).1
          have lF := hfin.kp.size
          have g3 : WF.heap[D3]? = some (.deferred (some [])) := (hfin.kp.block D3 l3 (by omega)).trans f3
          have g2 : (WF.putObj D3 (.deferred none)).heap[D2]? = some (.deferred (some [])) := (World.putObj_heap_other (by omega)).trans ((hfin.kp.block D2 l2 (by omega)).trans f2)
          have g1 : ((WF.putObj D3 (.deferred none)).putObj D2 (.deferred none)).heap[D1]? = some (.deferred (some [])) := (World.putObj_heap_other (by omega)).trans ((World.putObj_heap_other (by omega)).trans ((hfin.kp.block D1 l1 (by omega)).trans f1))
          have gb : (((WF.putObj D3 (.deferred none)).putObj D2 (.deferred none)).putObj D1 (.deferred none)).heap[w.heap.size]? = _ := (World.putObj_heap_other (by omega)).trans ((World.putObj_heap_other (by omega)).trans ((World.putObj_heap_other (by omega)).trans hbx))
          have cb := Boxed.cell (t := 4) gb
          refine ⟨by simp, .inl ⟨_, _, rfl, run_takeDeferred g3, ⟨by simp, .inl ⟨_, _, rfl, run_takeDeferred g2, ⟨by simp, .inl ⟨_, _, rfl, run_takeDeferred g1, ?_⟩⟩⟩⟩⟩⟩
          refine ⟨.bool true, ?_, rfl, ?_⟩
          · rw [results_cell1 rfl]
            go_simp
          · exact ((((HBW3.out.trans (hfin.kp.below (by omega) (fun k h1 h2 => by omega))).trans (belowK_b (w := w) (Nat.le_refl _) _ D3 _ _ (by omega) g3 rfl rfl)).trans (belowK_b (w := w) (Nat.le_refl _) _ D2 _ _ (by omega) g2 rfl rfl)).trans (belowK_b (w := w) (Nat.le_refl _) _ D1 _ _ (by omega) g1 rfl rfl))
end Go.Proofs.YtopfbngdbhofkaaGreatDoor
