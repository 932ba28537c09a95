/-
  ask.Check.
-/
import Derived.Test.YtklpihaelaagpaaDoorLgQ
import Derived.Test.YtklpihaelaagpaaDoorLgZG
import Derived.Test.YtklpihaelaagpaaDoorLgS
import Derived.Test.YtklpihaelaagpaaDoorLgF
namespace Go.Proofs.YtklpihaelaagpaaDoor
open Go.RowKit

set_option maxRecDepth 100000 in
set_option maxHeartbeats 2000000 in
theorem check_any {f : Nat} (hf : f ≤ 1048576) (a : Option Addr) (c : Nat) (ss : List PS) (w : World) (hE : EnvT w) (h : SsAt f w a ss) (hn : ss.length ≤ 1048576) :
    Calls Tryd.prog 8 #[.agg #[.slice a ss.length c]] w fun e w' => e = .returned (.int .i64 (checkN f ss)) ∧ Below w.heap.size w w' := by
  have hb0 := (Below.refl w.heap.size w).alloc (Nat.le_refl _) (.cells #[.slice a ss.length c] 27)
  have hb0s : (w.alloc (.cells #[.slice a ss.length c] 27)).heap.size = w.heap.size + 1 := by simp
  have HB0 := Lib.hid hb0
  have HGP : Hid (Calls Tryd.prog 14 #[.agg #[.slice a ss.length c]] (w.alloc (.cells #[.slice a ss.length c] 27)) fun e w' => e = .returned (.bool (goodPB (goodXB f) ss)) ∧ Below (w.alloc (.cells #[.slice a ss.length c] 27)).heap.size (w.alloc (.cells #[.slice a ss.length c] 27)) w') :=
    Lib.hid (goodPath_any (goodX_all f) a c ss _ (hE.below hb0) (SsAt.below h hb0) hn)
  have HDP : Hid (goodPB (goodXB f) ss = true → ∀ W, Below w.heap.size w W → Calls Tryd.prog 15 #[.agg #[.slice a ss.length c]] W fun e w' => e = .returned (.int .i64 (deepPN (deepXN f) ss : Nat)) ∧ Below W.heap.size W w') :=
    Lib.hid fun hg W hW => deepPath_any (deepX_all f hf) hf a c ss W (SsAt.below h hW) hn hg
  have HCL : Hid (∀ W, Below (w.alloc (.cells #[.slice a ss.length c] 27)).heap.size (w.alloc (.cells #[.slice a ss.length c] 27)) W → W.cell? ⟨w.heap.size, 0, none⟩ = some (.slice a ss.length c)) := Lib.hid fun W hW => by
    refine (hW.cell (p := ⟨w.heap.size, 0, none⟩) (by rw [hb0s]; exact Nat.lt_succ_self _)).trans ?_
    rw [cell_heap (heap_alloc_new w _)]; rfl
  obtain ⟨R, hR⟩ : ∃ R, checkN f ss = R := ⟨_, rfl⟩
  rw [hR]
  have HR : Hid ((if (goodPB (goodXB f) ss && decide (deepPN (deepXN f) ss ≤ 200)) = true then (0 : Int) else 6) = R) := Lib.hid hR
  clear hR hb0 hb0s h hE
  generalize goodPB (goodXB f) ss = G at *
  generalize deepPN (deepXN f) ss = d at *
  generalize ss.length = n at *
  go_enter Tryd.func8, Tryd.ntmps8
  go_wp2_with fail
  (with_reducible refine HGP.out.mono ?_)
  rintro e w2 ⟨rfl, hb2⟩
  have HB2 := Lib.hid (HB0.out.trans (hb2.mono HB0.out.size))
  have c0 := HCL.out w2 hb2
  clear hb2
  cases G with
  | false =>
    go_wp2_with fail
    go_ret
    exact ⟨ret_int HR.out, HB2.out⟩
  | true =>
    have HD := Lib.hid (HDP.out rfl w2 HB2.out)
    clear HDP
    go_wp2_with fail
    (with_reducible refine HD.out.mono ?_)
    rintro e w3 ⟨rfl, hb3⟩
    have HB3 := Lib.hid (HB2.out.trans (hb3.mono HB2.out.size))
    clear hb3
    by_cases h2 : d ≤ 200
    · have h2' : (d : Int) ≤ 200 := by omega
      have HF : Hid (0 = R) := Lib.hid (by rw [← HR.out, decide_eq_true h2]; rfl)
      go_wp2_with fail
      go_ret
      exact ⟨ret_int HF.out, HB3.out⟩
    · have h2' : (200 : Int) < (d : Int) := by omega
      have HF : Hid (6 = R) := Lib.hid (by rw [← HR.out, decide_eq_false h2]; rfl)
      go_wp2_with fail
      go_ret
      exact ⟨ret_int HF.out, HB3.out⟩
end Go.Proofs.YtklpihaelaagpaaDoor

namespace Go.Proofs.YtklpihaelaagpaaDoor
open Go.RowKit

theorem results_cell1H {P : Program} {fn : Func} {p : Tmp} {ty : TypeId} (h : fn.results = #[.cell p ty]) (tmps : Array Value) (w : World) :
    (results fn tmps).run P w = ((asAddr (tmps.getD p undef)).run P w).andThen fun a w₁ => (loadVar ty a).run P w₁ := by
  simp only [results, h]
  simp [Sem.run_bind, Result.andThen]
theorem XAt.lenH {f : Nat} {w : World} {x : PX} {cs : List Value} (h : XAt f w x cs) : ∃ c0 c1 c2 c3 c4 c5 c6, cs = [c0, c1, c2, c3, c4, c5, c6] := by
  cases f with
  | zero => exact h.elim
  | succ f => obtain ⟨a, c, p, d, h1, _⟩ := h; exact ⟨_, _, _, _, _, _, _, h1⟩
theorem w64_3H : W64 3 := by unfold W64; decide
theorem ss_oneH {f : Nat} {w : World} {G : Nat} {s : PS} {wa : Option Addr} {wc : Nat} {e : TypeId} {fz : Nat × Nat} (hG : w.heap[G]? = some (.cells (stepC s wa wc).toArray e fz)) (h0 : s.wher.length ≤ wc) (h1 : W64 s.axis) (h2 : W64 s.test) (h3 : s.name.length ≤ 1048576) (h4 : s.wher.length ≤ 1048576) (hx : XsAt f w wa s.wher) : SsAt f w (some ⟨G, 0, none⟩) [s] := fun i hi => by
  have h0' : i = 0 := by simpa using hi
  subst h0'
  refine ⟨G, 0, stepC s wa wc, rfl, heap_lt hG, rfl, fun j hj => ?_, wa, wc, rfl, h0, h1, h2, h3, h4, hx⟩
  rw [cell_heap hG]
  match j, hj with
  | 0, _ => rfl
  | 1, _ => rfl
  | 2, _ => rfl
  | 3, _ => rfl
theorem xs_oneH {f : Nat} {w : World} {G : Nat} {x : PX} {cs : List Value} {e : TypeId} {fz : Nat × Nat} (hG : w.heap[G]? = some (.cells cs.toArray e fz)) (hl : cs.length = 7) (hx : XAt f w x cs) : XsAt f w (some ⟨G, 0, none⟩) [x] := fun i hi => by
  have h0' : i = 0 := by simpa using hi
  subst h0'
  refine ⟨G, 0, cs, rfl, heap_lt hG, hl, fun j hj => ?_, hx⟩
  rw [cell_heap hG]
  simp
theorem checkN_goodH {f : Nat} {ss : List PS} (h : checkN f ss = 0) : goodPB (goodXB f) ss = true := by
  unfold checkN checkB at h
  cases hg : goodPB (goodXB f) ss with
  | true => rfl
  | false => rw [hg] at h; simp at h
theorem goodPB_wherH {f : Nat} {ss : List PS} (hgp : goodPB (goodXB f) ss = true) : ∀ s ∈ ss, s.wher.all (goodXB f) = true := fun s hs => by
  obtain ⟨i, hi, rfl⟩ := List.getElem_of_mem hs
  have := goodPB_at hgp i hi
  unfold goodSB at this
  rw [Bool.and_eq_true] at this
  exact this.2
def askP (l : List PX) : List PS := [.mk 3 3 [] l]
def askedW (w : World) (cs : List Value) : World :=
  (((w.alloc (.cells cs.toArray 30)).alloc (.cells #[.slice (some ⟨w.heap.size + 1 + 1 + 1, 0, none⟩) 1 1] 27)).alloc (.cells cs.toArray 30)).alloc (.cells #[.int .i64 3, .int .i64 3, .string ⟨#[]⟩, .slice (some ⟨w.heap.size + 1 + 1, 0, none⟩) 1 1] 48)
theorem askedW_spec {f : Nat} (w : World) (x : PX) (cs : List Value) (hx : XAt f w x cs) : Below w.heap.size w (askedW w cs) ∧ SsAt f (askedW w cs) (some ⟨w.heap.size + 1 + 1 + 1, 0, none⟩) (askP [x]) := by
  have hb : Below w.heap.size w (askedW w cs) := ((((Below.refl _ _).alloc (Nat.le_refl _) _).alloc (by simp) _).alloc (by simp only [World.size_alloc]; omega) _).alloc (by simp only [World.size_alloc]; omega) _
  have hk0 : (askedW w cs).heap[w.heap.size + 1 + 1]? = some (.cells cs.toArray 30 (0, 0)) := by
    unfold askedW
    rw [Below.heap_alloc _ _ _ (by simp)]
    have := heap_alloc_new ((w.alloc (.cells cs.toArray 30)).alloc (.cells #[.slice (some ⟨w.heap.size + 1 + 1 + 1, 0, none⟩) 1 1] 27)) (.cells cs.toArray 30)
    rw [World.size_alloc, World.size_alloc] at this
    exact this
  have hk1 : (askedW w cs).heap[w.heap.size + 1 + 1 + 1]? = some (.cells #[.int .i64 3, .int .i64 3, .string ⟨#[]⟩, .slice (some ⟨w.heap.size + 1 + 1, 0, none⟩) 1 1] 48 (0, 0)) := by
    unfold askedW
    have := heap_alloc_new (((w.alloc (.cells cs.toArray 30)).alloc (.cells #[.slice (some ⟨w.heap.size + 1 + 1 + 1, 0, none⟩) 1 1] 27)).alloc (.cells cs.toArray 30)) (.cells #[.int .i64 3, .int .i64 3, .string ⟨#[]⟩, .slice (some ⟨w.heap.size + 1 + 1, 0, none⟩) 1 1] 48)
    rw [World.size_alloc, World.size_alloc, World.size_alloc] at this
    exact this
  have hxs : XsAt f (askedW w cs) (some ⟨w.heap.size + 1 + 1, 0, none⟩) [x] := xs_oneH hk0 (by obtain ⟨_, _, _, _, _, _, _, rfl⟩ := hx.lenH; rfl) (XAt.turn hb (Nat.le_refl _) hx)
  exact ⟨hb, ss_oneH (s := .mk 3 3 [] [x]) (wa := some ⟨w.heap.size + 1 + 1, 0, none⟩) (wc := 1) hk1 (Nat.le_refl _) w64_3H w64_3H (Nat.zero_le _) (Nat.le_of_ble_eq_true rfl) hxs⟩
set_option maxRecDepth 100000 in
set_option maxHeartbeats 4000000 in
theorem asked15_any {f : Nat} (x : PX) (cs : List Value) (w : World) (hx : XAt f w x cs) :
    Calls Tryd.prog 7 #[.agg cs.toArray] w fun e w' => ∃ G, e = .returned (.agg #[.slice (some ⟨G, 0, none⟩) 1 1]) ∧ SsAt f w' (some ⟨G, 0, none⟩) (askP [x]) ∧ Below w.heap.size w w' := by
  have HSP := Lib.hid (askedW_spec w x cs hx)
  obtain ⟨c0, c1, c2, c3, c4, c5, c6, rfl⟩ := hx.lenH
  show Calls Tryd.prog 7 #[.agg #[c0, c1, c2, c3, c4, c5, c6]] w _
  clear hx
  go_enter Tryd.func7, Tryd.ntmps7
  go_wp2_with fail
  refine bodyPost_ret (v := .agg #[.slice (some ⟨w.heap.size + 1 + 1 + 1, 0, none⟩) 1 1]) ?_ rfl ⟨w.heap.size + 1 + 1 + 1, rfl, HSP.out.2, HSP.out.1⟩
  rw [results_cell1H rfl]
  go_simp
theorem xs_two {f : Nat} {w : World} {G : Nat} {x y : PX} {cs ds : List Value} {e : TypeId} {fz : Nat × Nat} (hG : w.heap[G]? = some (.cells (cs ++ ds).toArray e fz)) (hl : cs.length = 7) (hl2 : ds.length = 7) (hx : XAt f w x cs) (hy : XAt f w y ds) : XsAt f w (some ⟨G, 0, none⟩) [x, y] := fun i hi => by
  have hi2 : i < 2 := hi
  have h01 : i = 0 ∨ i = 1 := by omega
  rcases h01 with rfl | rfl
  · refine ⟨G, 0, cs, rfl, heap_lt hG, hl, fun j hj => ?_, hx⟩
    rw [cell_heap hG]
    simp [List.getElem?_append_left (show j < cs.length by omega)]
  · refine ⟨G, 0, ds, rfl, heap_lt hG, hl2, fun j hj => ?_, hy⟩
    rw [cell_heap hG]
    have e : 0 + 1 * 7 + j = cs.length + j := by omega
    show ((cs ++ ds).toArray)[0 + 1 * 7 + j]? = ds[j]?
    rw [e, List.getElem?_toArray, List.getElem?_append_right (by omega)]
    congr 1; omega
def notP (x : PX) : PX := .mk 2 [x] [] [] 0 [] 0
def bothP (o : Int) (x y : PX) : PX := .mk o [x, y] [] [] 0 [] 0
theorem x_of {f : Nat} {w : World} {a : Option Addr} {c : Nat} {o : Int} {l : List PX} (hl : XsAt f w a l) (hc : l.length ≤ c) (hn : l.length ≤ 1048576) (ho : W64 o) : XAt (f + 1) w (.mk o l [] [] 0 [] 0) [.int .i64 o, .slice a l.length c, .slice none 0 0, .string ⟨#[]⟩, .int .i64 0, .string ⟨#[]⟩, .int .i64 0] := by
  have w0 : W64 0 := by unfold W64; decide
  exact ⟨a, c, none, 0, rfl, hc, Nat.le_refl _, ho, w0, w0, Nat.zero_le _, Nat.zero_le _, hn, Nat.zero_le _, hl, RowP.nil _ _ _ _⟩
theorem check_ask {f : Nat} {l : List PX} (h : checkN f (askP l) = 0) : ∀ x ∈ l, goodXB f x = true ∧ deepXN f x + 1 ≤ 200 := by
  intro x hx
  have hg := goodPB_wherH (checkN_goodH h) _ List.mem_cons_self
  refine ⟨List.all_eq_true.1 hg x hx, ?_⟩
  unfold checkN checkB at h
  split at h
  · rename_i hc
    rw [Bool.and_eq_true, decide_eq_true_eq] at hc
    refine Nat.le_trans ?_ hc.2
    have hmax : ∀ (l : List Nat) (n : Nat), n ∈ l → n ≤ maxN l := fun l n hn => by
      have key : ∀ (l : List Nat) (a : Nat), a ≤ l.foldl max a ∧ ∀ n ∈ l, n ≤ l.foldl max a := by
        intro l
        induction l with
        | nil => intro a; exact ⟨Nat.le_refl _, fun n h => by cases h⟩
        | cons b l ih =>
          intro a
          obtain ⟨h1, h2⟩ := ih (max a b)
          refine ⟨Nat.le_trans (Nat.le_max_left _ _) h1, fun n hn => ?_⟩
          rcases List.mem_cons.1 hn with rfl | hn
          · exact Nat.le_trans (Nat.le_max_right _ _) h1
          · exact h2 n hn
      exact (key l 0).2 n hn
    unfold deepPN askP
    refine Nat.le_trans (hmax (l.map fun x => deepXN f x + 1) _ (List.mem_map.2 ⟨x, hx, rfl⟩)) (hmax _ _ ?_)
    simp [PS.wher]
  · cases h
theorem check_mk {f : Nat} {l : List PX} (h : ∀ x ∈ l, goodXB f x = true ∧ deepXN f x + 1 ≤ 200) : checkN f (askP l) = 0 := by
  have h1 : goodPB (goodXB f) (askP l) = true := by
    unfold goodPB askP goodSB
    simp only [List.isEmpty_cons, Bool.not_false, Bool.true_and, List.all_cons, List.all_nil, Bool.and_true, PS.axis, PS.test, PS.name, PS.wher]
    have : l.all (goodXB f) = true := List.all_eq_true.2 fun x hx => (h x hx).1
    rw [this]; rfl
  have h2 : deepPN (deepXN f) (askP l) ≤ 200 := by
    refine maxN_le fun n hn => ?_
    simp only [askP, List.map_cons, List.map_nil, List.mem_cons, List.not_mem_nil, or_false] at hn
    subst hn
    refine maxN_le fun m hm => ?_
    obtain ⟨x, hx, rfl⟩ := List.mem_map.1 hm
    exact (h x hx).2
  unfold checkN checkB
  rw [h1, decide_eq_true h2]
  rfl
theorem check_path {f : Nat} {x : PX} (h : goodXB (f + 1) x = true ∧ deepXN (f + 1) x + 1 ≤ 200) (ho : x.op = 3) : checkN f x.path = 0 := by
  have h1 := goodXB_path h.1 ho
  have h2 : deepPN (deepXN f) x.path ≤ 200 := by
    have h3 := h.2
    unfold deepXN at h3
    rw [if_pos ho] at h3
    omega
  unfold checkN checkB
  rw [h1, decide_eq_true h2]
  rfl
end Go.Proofs.YtklpihaelaagpaaDoor

namespace Go.Proofs.YtklpihaelaagpaaDoor
open Go.RowKit

def holdsN (f : Nat) (evs : List Ev) (v : Int) (x : PX) : Int × Int :=
  match begAll beg0 evs with
  | none => (0, 6)
  | some st => if checkN f (askP [x]) ≠ 0 then (0, 6) else if v < -1 ∨ ((readN evs st).length : Int) - 1 ≤ v then (0, 2) else ((exprT (readN evs st) f x).getD (v + 1).toNat 0, 0)
structure BegQ (w : World) (a : Option Addr) (n : Nat) (evs : List Ev) : Prop where
  at' : EvsAt w a n evs
  le : n ≤ 1048576
  sm : ∀ e ∈ evs, EvSm e
  wt : wtEs evs ≤ 1048576
  rng : RangesAt w 2
  tab : Lib.Utf8Tabs 0 1 w
theorem BegQ.below {w W : World} {a : Option Addr} {n : Nat} {evs : List Ev} (h : BegQ w a n evs) (hb : Below w.heap.size w W) : BegQ W a n evs :=
  ⟨h.at'.below hb, h.le, h.sm, h.wt, h.rng.below hb, Utf8Tabs_below h.tab hb⟩
theorem BegQ.env {w : World} {a : Option Addr} {n : Nat} {evs : List Ev} (h : BegQ w a n evs) : EnvT w := ⟨h.rng, h.tab⟩
theorem BegQ.read {w : World} {a : Option Addr} {n c : Nat} {evs : List Ev} (h : BegQ w a n evs) : Calls Tryd.prog 16 #[.slice a n c] w fun e w' => ((∃ st, begAll beg0 evs = some st ∧ e = .returned (.tuple #[.pointer (some ⟨w.heap.size + 2, 0, none⟩), .int .i64 0]) ∧ HAt w' (w.heap.size + 2) (readN evs st)) ∨ (begAll beg0 evs = none ∧ e = .returned (.tuple #[.pointer none, .int .i64 6]))) ∧ Below w.heap.size w w' :=
  read_any a n c evs w h.at' h.le h.sm h.wt h.rng h.tab
theorem beg_hok {evs : List Ev} {st : BegS} (hs : begAll beg0 evs = some st) : HOk evs.length evs evs.length st (hAll evs.length evs evs.length) :=
  HOk.all evs.length evs evs.length (Nat.le_refl _) st (by rw [List.take_length]; exact hs)
theorem BegQ.root {w : World} {a : Option Addr} {n : Nat} {evs : List Ev} {st : BegS} (h : BegQ w a n evs) (hs : begAll beg0 evs = some st) : ∀ h, (readN evs st)[0]? = some h → h.par = -1 ∧ h.kd = 0 :=
  (readN_ok (beg_hok hs) h.sm h.wt (by rw [← h.at'.1]; exact h.le)).2.2.2.2.2
def askHW (w : World) (cs : List Value) : World :=
  ((w.alloc (.cells cs.toArray 30)).alloc (.cells #[.int .i64 3, .int .i64 3, .string ⟨#[]⟩, .slice (some ⟨w.heap.size, 0, none⟩) 1 1] 48)).alloc (.cells #[.slice (some ⟨w.heap.size + 1, 0, none⟩) 1 1] 27)
theorem askHW_spec {f : Nat} (w : World) (x : PX) (cs : List Value) (hx : XAt f w x cs) : Below w.heap.size w (askHW w cs) ∧ SsAt f (askHW w cs) (some ⟨w.heap.size + 1, 0, none⟩) (askP [x]) := by
  have hb : Below w.heap.size w (askHW w cs) := (((Below.refl _ _).alloc (Nat.le_refl _) _).alloc (by simp) _).alloc (by simp only [World.size_alloc]; omega) _
  have hk0 : (askHW w cs).heap[w.heap.size]? = some (.cells cs.toArray 30 (0, 0)) := by
    unfold askHW
    rw [Below.heap_alloc _ _ _ (by simp only [World.size_alloc]; omega), Below.heap_alloc _ _ _ (by simp)]
    exact heap_alloc_new w _
  have hk1 : (askHW w cs).heap[w.heap.size + 1]? = some (.cells #[.int .i64 3, .int .i64 3, .string ⟨#[]⟩, .slice (some ⟨w.heap.size, 0, none⟩) 1 1] 48 (0, 0)) := by
    unfold askHW
    rw [Below.heap_alloc _ _ _ (by simp only [World.size_alloc]; omega)]
    have := heap_alloc_new (w.alloc (.cells cs.toArray 30)) (.cells #[.int .i64 3, .int .i64 3, .string ⟨#[]⟩, .slice (some ⟨w.heap.size, 0, none⟩) 1 1] 48)
    rw [World.size_alloc] at this
    exact this
  have hxs : XsAt f (askHW w cs) (some ⟨w.heap.size, 0, none⟩) [x] := xs_oneH hk0 (by obtain ⟨_, _, _, _, _, _, _, rfl⟩ := hx.lenH; rfl) (XAt.turn hb (Nat.le_refl _) hx)
  exact ⟨hb, ss_oneH (s := .mk 3 3 [] [x]) (wa := some ⟨w.heap.size, 0, none⟩) (wc := 1) hk1 (Nat.le_refl _) w64_3H w64_3H (Nat.zero_le _) (Nat.le_of_ble_eq_true rfl) hxs⟩
theorem checkN_two (f : Nat) (ss : List PS) : checkN f ss = 0 ∨ checkN f ss = 6 := by unfold checkN; split <;> simp
set_option maxRecDepth 100000 in
set_option maxHeartbeats 8000000 in
theorem holdsH_any {f : Nat} (hf : f ≤ 1048576) (a : Option Addr) (n c : Nat) (evs : List Ev) (v : Int) (x : PX) (cs : List Value) (w : World) (hE : BegQ w a n evs) (hx : XAt f w x cs) (hv : -1152921504606846976 ≤ v ∧ v ≤ 1152921504606846976) :
    Calls Tryd.prog 9 #[.slice a n c, .int .i64 v, .agg cs.toArray] w fun e w' => e = .returned (.tuple #[.int .i64 (holdsN f evs v x).1, .int .i64 (holdsN f evs v x).2]) ∧ Below w.heap.size w w' := by
  obtain ⟨W0, hW0⟩ : ∃ W0, W0 = w.alloc (.cells cs.toArray 30) := ⟨_, rfl⟩
  have hb0 : Below w.heap.size w W0 := by rw [hW0]; exact (Below.refl _ _).alloc (Nat.le_refl _) _
  have hk0 : W0.heap[w.heap.size]? = some (.cells cs.toArray 30 (0, 0)) := by rw [hW0]; exact heap_alloc_new w _
  have hs0 : W0.heap.size = w.heap.size + 1 := by rw [hW0]; simp
  have HRD := Lib.hid ((hE.below hb0).read (c := c))
  have HB0 := Lib.hid hb0
  have HQ := Lib.hid hE
  have HX := Lib.hid hx
  obtain ⟨c0, c1, c2, c3, c4, c5, c6, rfl⟩ := hx.lenH
  have HK0 := Lib.hid (⟨hk0, hs0⟩ : _ ∧ _)
  obtain ⟨R, hR⟩ : ∃ R, holdsN f evs v x = R := ⟨_, rfl⟩
  rw [hR]
  have HRR := Lib.hid hR
  have HW0 := Lib.hid hW0
  show Calls Tryd.prog 9 #[.slice a n c, .int .i64 v, .agg #[c0, c1, c2, c3, c4, c5, c6]] w _
  clear hR hb0 hk0 hs0 hE hx hW0
  go_enter Tryd.func9, Tryd.ntmps9
  go_wp2_with fail
  rw [← HW0.out]
  (with_reducible refine HRD.out.mono ?_)
  rintro e w2 ⟨hcase, hb2⟩
  rcases hcase with ⟨st, hst, rfl, hat⟩ | ⟨hno, rfl⟩
  · have HB2 := Lib.hid (HB0.out.trans (hb2.mono HB0.out.size))
    have HRV : Hid ((if checkN f (askP [x]) ≠ 0 then (0, 6) else if v < -1 ∨ ((readN evs st).length : Int) - 1 ≤ v then (0, 2) else ((exprT (readN evs st) f x).getD (v + 1).toNat 0, 0)) = R) := Lib.hid (by have := HRR.out; unfold holdsN at this; rw [hst] at this; exact this)
    have HBX : Hid (∀ W, Below w2.heap.size w2 W → W.heap[w.heap.size]? = some (.cells #[c0, c1, c2, c3, c4, c5, c6] 30 (0, 0))) := Lib.hid fun W hW => (hW.block w.heap.size (by have := hb2.size; have := HK0.out.2; omega)).trans ((hb2.block w.heap.size (by have := HK0.out.2; omega)).trans HK0.out.1)
    have hbx := HBX.out w2 (Below.refl _ _)
    have x0 : w2.cell? ⟨w.heap.size, 0, none⟩ = some c0 := by rw [cell_heap hbx]; rfl
    have x1 : w2.cell? ⟨w.heap.size, 1, none⟩ = some c1 := by rw [cell_heap hbx]; rfl
    have x2 : w2.cell? ⟨w.heap.size, 2, none⟩ = some c2 := by rw [cell_heap hbx]; rfl
    have x3 : w2.cell? ⟨w.heap.size, 3, none⟩ = some c3 := by rw [cell_heap hbx]; rfl
    have x4 : w2.cell? ⟨w.heap.size, 4, none⟩ = some c4 := by rw [cell_heap hbx]; rfl
    have x5 : w2.cell? ⟨w.heap.size, 5, none⟩ = some c5 := by rw [cell_heap hbx]; rfl
    have x6 : w2.cell? ⟨w.heap.size, 6, none⟩ = some c6 := by rw [cell_heap hbx]; rfl
    have hask := askHW_spec w2 x _ (XAt.turn HB2.out (Nat.le_refl _) HX.out)
    have HCH : Hid (Calls Tryd.prog 8 #[.agg #[.slice (some ⟨w2.heap.size + 1, 0, none⟩) 1 1]] (askHW w2 [c0, c1, c2, c3, c4, c5, c6]) fun e w' => e = .returned (.int .i64 (checkN f (askP [x]))) ∧ Below w2.heap.size w2 w') := Lib.hid ((check_any hf (some ⟨w2.heap.size + 1, 0, none⟩) 1 (askP [x]) _ (HQ.out.below (HB2.out.trans (hask.1.mono HB2.out.size))).env hask.2 (Nat.le_of_ble_eq_true rfl)).mono (by
      rintro e w' ⟨h1, h2⟩
      exact ⟨h1, hask.1.trans (h2.mono hask.1.size)⟩))
    have HAT : Hid (∀ W, Below w2.heap.size w2 W → HAt W (W0.heap.size + 2) (readN evs st)) := Lib.hid fun W hW => hat.below hW
    obtain ⟨bb, hbb⟩ : ∃ bb, W0.heap.size + 2 = bb := ⟨_, rfl⟩
    rw [hbb] at HAT
    rw [hbb]
    clear hb2 hst hbx hask hat hbb
    go_wp2_with fail
    refine HCH.out.mono ?_
    rintro e w3 ⟨rfl, hb3⟩
    have HB3 := Lib.hid (HB2.out.trans (hb3.mono HB2.out.size))
    have hbx := HBX.out w3 hb3
    have x0 : w3.cell? ⟨w.heap.size, 0, none⟩ = some c0 := by rw [cell_heap hbx]; rfl
    have x1 : w3.cell? ⟨w.heap.size, 1, none⟩ = some c1 := by rw [cell_heap hbx]; rfl
    have x2 : w3.cell? ⟨w.heap.size, 2, none⟩ = some c2 := by rw [cell_heap hbx]; rfl
    have x3 : w3.cell? ⟨w.heap.size, 3, none⟩ = some c3 := by rw [cell_heap hbx]; rfl
    have x4 : w3.cell? ⟨w.heap.size, 4, none⟩ = some c4 := by rw [cell_heap hbx]; rfl
    have x5 : w3.cell? ⟨w.heap.size, 5, none⟩ = some c5 := by rw [cell_heap hbx]; rfl
    have x6 : w3.cell? ⟨w.heap.size, 6, none⟩ = some c6 := by rw [cell_heap hbx]; rfl
    have HAT3 := Lib.hid (HAT.out w3 hb3)
    clear hb3 hbx HAT
    rcases checkN_two f (askP [x]) with hc | hc
    · have hg := (check_ask hc x List.mem_cons_self).1
      rw [hc] at HRV
      rw [hc]
      obtain ⟨na, nc, _, hcn, _⟩ := HAT3.out.get
      have c1' := hcn w3 (Below.refl _ _)
      have hcap := HAT3.out.cap
      have hpos := HAT3.out.pos
      have HEX := Lib.hid (half_all bb (readN evs st) f x [c0, c1, c2, c3, c4, c5, c6] w3 HAT3.out (XAt.turn HB3.out (Nat.le_refl _) HX.out) hg)
      obtain ⟨n', hn'⟩ : ∃ n', (readN evs st).length = n' := ⟨_, rfl⟩
      rw [hn'] at c1' hcap hpos HRV HEX
      have ewn : IntKind.i64.wrap ((n' : Int) - 1) = (n' : Int) - 1 := IntWalk.i64_in _ (by omega)
      have ewv : IntKind.i64.wrap (v + 1) = v + 1 := IntWalk.i64_in _ (by omega)
      generalize exprT (readN evs st) f x = L at *
      clear hn' hcn hg HAT3
      by_cases hv1 : v < -1
      · have HR2 : Hid ((0, 2) = R) := Lib.hid (by have := HRV.out; rw [if_neg (by decide), if_pos (.inl hv1)] at this; exact this)
        go_wp2_with fail
        go_ret2
        exact ⟨by rw [← HR2.out]; rfl, HB3.out⟩
      · by_cases hv2 : (n' : Int) - 1 ≤ v
        · have HR2 : Hid ((0, 2) = R) := Lib.hid (by have := HRV.out; rw [if_neg (by decide), if_pos (.inr hv2)] at this; exact this)
          have hv1' : -1 ≤ v := by omega
          go_wp2_with fail
          go_ret2
          exact ⟨by rw [← HR2.out]; rfl, HB3.out⟩
        · have HR2 : Hid ((L.getD (v + 1).toNat 0, 0) = R) := Lib.hid (by have := HRV.out; rw [if_neg (by decide), if_neg (by omega)] at this; exact this)
          obtain ⟨k, hk⟩ : ∃ k : Nat, v + 1 = (k : Int) := ⟨(v + 1).toNat, by omega⟩
          rw [hk, Int.toNat_natCast] at HR2
          rw [hk] at ewv
          have hkn : k < n' := by omega
          have hv1' : -1 ≤ v := by omega
          have hv2' : v < (n' : Int) - 1 := by omega
          have i1 : (0 : Int) ≤ (k : Int) := by omega
          have i2 : (k : Int) < (n' : Int) := by omega
          have hk' : v + 1 = (k : Int) := hk
          clear hk
          go_wp2_with fail
          (with_reducible refine HEX.out.mono ?_)
          rintro e w4 ⟨P, rfl, hP, hT, hb4⟩
          obtain ⟨z1, l1⟩ := hT.at0 k hkn
          have HB4 := Lib.hid (HB3.out.trans (hb4.mono HB3.out.size))
          generalize L.getD k 0 = rv at *
          clear hT hb4 hP
          go_wp2_with fail
          go_ret2
          exact ⟨by rw [← HR2.out]; rfl, HB4.out⟩
    · have HR2 : Hid ((0, 6) = R) := Lib.hid (by have := HRV.out; rw [hc, if_pos (by decide)] at this; exact this)
      rw [hc]
      go_wp2_with fail
      go_ret2
      exact ⟨by rw [← HR2.out]; rfl, HB3.out⟩
  · have HB2 := Lib.hid (HB0.out.trans (hb2.mono HB0.out.size))
    have HR2 : Hid ((0, 6) = R) := Lib.hid (by have := HRR.out; unfold holdsN at this; rw [hno] at this; exact this)
    clear hb2
    go_wp2_with fail
    go_ret2
    exact ⟨by rw [← HR2.out]; rfl, HB2.out⟩
end Go.Proofs.YtklpihaelaagpaaDoor

namespace Go.Proofs.YtklpihaelaagpaaDoor
open Go.RowKit

def parI (hs : List HN) (k : Nat) : Int := (hs[k]?.map fun (h : HN) => h.par).getD (-1)
def parV (hs : List HN) (led : List Int) (k : Nat) : Int := if 0 ≤ parI hs k then led.getD (parI hs k).toNat 0 else 0
def abvV (hs : List HN) (led l : List Int) (k : Nat) : Int := if 0 ≤ parI hs k then orL [l.getD (parI hs k).toNat 0, led.getD (parI hs k).toNat 0] else 0
def abvAll (hs : List HN) (led : List Int) (k : Nat) : List Int := (List.range k).foldl (fun l k => l.set k (abvV hs led l k)) (List.replicate hs.length 0)
theorem abvAll_zero (hs : List HN) (led : List Int) : abvAll hs led 0 = List.replicate hs.length 0 := rfl
theorem abvAll_succ (hs : List HN) (led : List Int) (k : Nat) : abvAll hs led (k + 1) = (abvAll hs led k).set k (abvV hs led (abvAll hs led k) k) := by
  unfold abvAll; rw [List.range_succ, List.foldl_append]; rfl
theorem abvAll_len (hs : List HN) (led : List Int) (k : Nat) : (abvAll hs led k).length = hs.length := by
  induction k with
  | zero => simp [abvAll_zero]
  | succ k ih => rw [abvAll_succ, List.length_set, ih]
theorem abvAll_3 (hs : List HN) (led : List Int) (k : Nat) : R3 (abvAll hs led k) := by
  induction k with
  | zero =>
    intro t ht
    rw [abvAll_zero] at ht
    obtain rfl := (List.mem_replicate.1 ht).2
    unfold T3; decide
  | succ k ih =>
    rw [abvAll_succ]
    refine ih.set k ?_
    unfold abvV
    split
    · exact orL_3 _
    · unfold T3; decide
theorem abvAll_at (hs : List HN) (led : List Int) (k : Nat) (h : k < hs.length) : (abvAll hs led (k + 1)).getD k 0 = abvV hs led (abvAll hs led k) k := by
  rw [abvAll_succ, List.getD_eq_getElem?_getD, List.getElem?_set_self (by rw [abvAll_len]; exact h)]; rfl
theorem abvAll_old (hs : List HN) (led : List Int) (k : Nat) : ∀ j, k ≤ j → (abvAll hs led (j + 1)).getD k 0 = (abvAll hs led (k + 1)).getD k 0 := by
  intro j
  induction j with
  | zero => intro h; obtain rfl : k = 0 := by omega
            rfl
  | succ j ih =>
    intro h
    by_cases e : k = j + 1
    · subst e; rfl
    · rw [← ih (by omega), abvAll_succ hs led (j + 1), List.getD_eq_getElem?_getD, List.getD_eq_getElem?_getD, List.getElem?_set_ne (by omega)]
theorem abvAll_new (hs : List HN) (led : List Int) (k : Nat) (h : k < hs.length) : ∀ j, j ≤ k → (abvAll hs led j)[k]? = some 0 := by
  intro j
  induction j with
  | zero => intro _; rw [abvAll_zero, List.getElem?_replicate, if_pos h]
  | succ j ih => intro hj; rw [abvAll_succ, List.getElem?_set_ne (by omega)]; exact ih (by omega)
def frT (hs : List HN) (led : List Int) (ax : Int) (k : Nat) : Int :=
  if ax = 0 then parV hs led k else if ax = 1 then (abvAll hs led (k + 1)).getD k 0 else if ax = 2 then orL [(abvAll hs led (k + 1)).getD k 0, led.getD k 0] else led.getD k 0
def ledT (ex : PX → List Int) (hs : List HN) (led : List Int) (s : PS) : List Int := metT ex hs s (rowOf hs.length (frT hs led s.axis))
def led0 (hs : List HN) : List Int := rowOf hs.length fun k => truthI (decide (k = 0))
def pathT (ex : PX → List Int) (hs : List HN) (ss : List PS) (j : Nat) : List Int := (ss.take j).foldl (ledT ex hs) (led0 hs)
theorem pathT_zero (ex : PX → List Int) (hs : List HN) (ss : List PS) : pathT ex hs ss 0 = led0 hs := by unfold pathT; rw [List.take_zero]; rfl
theorem pathT_succ (ex : PX → List Int) (hs : List HN) (ss : List PS) (j : Nat) (h : j < ss.length) : pathT ex hs ss (j + 1) = ledT ex hs (pathT ex hs ss j) ss[j] := by
  unfold pathT; rw [List.take_succ_eq_append_getElem h, List.foldl_append]; rfl
theorem pathT_len (ex : PX → List Int) (hs : List HN) (ss : List PS) (j : Nat) (h : j ≤ ss.length) : (pathT ex hs ss j).length = hs.length := by
  cases j with
  | zero => rw [pathT_zero]; exact rowOf_len ..
  | succ j => rw [pathT_succ _ _ _ _ (by omega)]; exact metT_len ..
theorem pathT_3 (ex : PX → List Int) (hs : List HN) (ss : List PS) (j : Nat) (h : j ≤ ss.length) : R3 (pathT ex hs ss j) := by
  cases j with
  | zero => rw [pathT_zero]; exact rowOf_3 _ _ fun k => truthI_3 _
  | succ j => rw [pathT_succ _ _ _ _ (by omega)]; exact metT_3 _ _ _ _
theorem parV_at (hs : List HN) (led : List Int) (k : Nat) (h : k < hs.length) {p : Nat} (hp : hs[k].par = (p : Int)) : parV hs led k = led.getD p 0 := by
  unfold parV parI; rw [List.getElem?_eq_getElem h]; simp only [Option.map_some, Option.getD_some, hp, Int.toNat_natCast]; rw [if_pos (by omega)]
theorem parV_no (hs : List HN) (led : List Int) (k : Nat) (h : k < hs.length) (hp : ¬ 0 ≤ hs[k].par) : parV hs led k = 0 := by
  unfold parV parI; rw [List.getElem?_eq_getElem h]; exact if_neg hp
theorem abvV_at (hs : List HN) (led l : List Int) (k : Nat) (h : k < hs.length) {p : Nat} (hp : hs[k].par = (p : Int)) : abvV hs led l k = orL [l.getD p 0, led.getD p 0] := by
  unfold abvV parI; rw [List.getElem?_eq_getElem h]; simp only [Option.map_some, Option.getD_some, hp, Int.toNat_natCast]; rw [if_pos (by omega)]
theorem abvV_no (hs : List HN) (led l : List Int) (k : Nat) (h : k < hs.length) (hp : ¬ 0 ≤ hs[k].par) : abvV hs led l k = 0 := by
  unfold abvV parI; rw [List.getElem?_eq_getElem h]; exact if_neg hp
def vdT (led : List Int) (k : Nat) : List (Int × Int) := (List.range k).filterMap fun i => if 0 < i ∧ led.getD i 0 ≠ 0 then some ((i : Int) - 1, led.getD i 0) else none
theorem vdT_zero (led : List Int) : vdT led 0 = [] := rfl
theorem vdT_yes (led : List Int) (k : Nat) (h : 0 < k) (h0 : led.getD k 0 ≠ 0) : vdT led (k + 1) = vdT led k ++ [((k : Int) - 1, led.getD k 0)] := by
  unfold vdT; rw [List.range_succ, List.filterMap_append]; simp only [List.filterMap_cons, List.filterMap_nil]; rw [if_pos ⟨h, h0⟩]
theorem vdT_no (led : List Int) (k : Nat) (h : ¬ (0 < k ∧ led.getD k 0 ≠ 0)) : vdT led (k + 1) = vdT led k := by
  unfold vdT; rw [List.range_succ, List.filterMap_append]; simp only [List.filterMap_cons, List.filterMap_nil]; rw [if_neg h, List.append_nil]
theorem vdT_le (led : List Int) (k : Nat) : (vdT led k).length ≤ k := by
  have := List.length_filterMap_le (fun i => if 0 < i ∧ led.getD i 0 ≠ 0 then some ((i : Int) - 1, led.getD i 0) else none) (List.range k)
  rw [List.length_range] at this; exact this
end Go.Proofs.YtklpihaelaagpaaDoor
