/-
 half.Holds.
-/
import Derived.Test.YtgjokdngbocehaaGreatDoorHhS
import Derived.Test.YtgjokdngbocehaaGreatDoorHhJ
import Derived.Test.YtgjokdngbocehaaGreatDoorHhC
namespace Go.Proofs.YtgjokdngbocehaaGreatDoor
open Go.RowKit
def holdsN (f : Nat) (evs : List Ev) (v : Int) (x : PX) : Int × Int :=
 match begAll beg0 evs with
 | none => (0, 6)
 | some st => if checkN f (askP [x]) ≠ 0 then (0, 6) else if v < -1 ∨ ((readN evs st).length : Int) - 1 ≤ v then (0, 2) else ((exprT (readN evs st) f x).getD (v + 1).toNat 0, 0)
structure BegQ (w : World) (a : Option Addr) (n : Nat) (evs : List Ev) : Prop where
 at' : EvsAt w a n evs
 le : n ≤ 1048576
 sm : ∀ e ∈ evs, EvSm e
 wt : wtEs evs ≤ 1048576
 rng : RangesAt w 2
 tab : Lib.Utf8Tabs 0 1 w
theorem BegQ.below {w W : World} {a : Option Addr} {n : Nat} {evs : List Ev} (h : BegQ w a n evs) (hb : Below w.heap.size w W) : BegQ W a n evs :=
 ⟨h.at'.below hb, h.le, h.sm, h.wt, h.rng.below hb, Utf8Tabs_below h.tab hb⟩
theorem BegQ.env {w : World} {a : Option Addr} {n : Nat} {evs : List Ev} (h : BegQ w a n evs) : EnvT w := ⟨h.rng, h.tab⟩
theorem BegQ.read {w : World} {a : Option Addr} {n c : Nat} {evs : List Ev} (h : BegQ w a n evs) : Calls Tryz.prog 28 #[.slice a n c] w fun e w' => ((∃ st, begAll beg0 evs = some st ∧ e = .returned (.tuple #[.pointer (some ⟨w.heap.size + 2, 0, none⟩), .int .i64 0]) ∧ HAt w' (w.heap.size + 2) (readN evs st)) ∨ (begAll beg0 evs = none ∧ e = .returned (.tuple #[.pointer none, .int .i64 6]))) ∧ Below w.heap.size w w' :=
 read_any a n c evs w h.at' h.le h.sm h.wt h.rng h.tab
theorem beg_hok {evs : List Ev} {st : BegS} (hs : begAll beg0 evs = some st) : HOk evs.length evs evs.length st (hAll evs.length evs evs.length) :=
 HOk.all evs.length evs evs.length (Nat.le_refl _) st (by rw [List.take_length]; exact hs)
theorem BegQ.root {w : World} {a : Option Addr} {n : Nat} {evs : List Ev} {st : BegS} (h : BegQ w a n evs) (hs : begAll beg0 evs = some st) : ∀ h, (readN evs st)[0]? = some h → h.par = -1 ∧ h.kd = 0 :=
 (readN_ok (beg_hok hs) h.sm h.wt (by rw [← h.at'.1]; exact h.le)).2.2.2.2.2
def askHW (w : World) (cs : List Value) : World :=
 ((w.alloc (.cells cs.toArray 42)).alloc (.cells #[.int .i64 3, .int .i64 3, .string ⟨#[]⟩, .slice (some ⟨w.heap.size, 0, none⟩) 1 1] 76)).alloc (.cells #[.slice (some ⟨w.heap.size + 1, 0, none⟩) 1 1] 25)
theorem askHW_spec {f : Nat} (w : World) (x : PX) (cs : List Value) (hx : XAt f w x cs) : Below w.heap.size w (askHW w cs) ∧ SsAt f (askHW w cs) (some ⟨w.heap.size + 1, 0, none⟩) (askP [x]) := by
 have hb : Below w.heap.size w (askHW w cs) := (((Below.refl _ _).alloc (Nat.le_refl _) _).alloc (by simp) _).alloc (by simp only [World.size_alloc]; omega) _
 have hk0 : (askHW w cs).heap[w.heap.size]? = some (.cells cs.toArray 42 (0, 0)) := by
  unfold askHW
  rw [Below.heap_alloc _ _ _ (by simp only [World.size_alloc]; omega), Below.heap_alloc _ _ _ (by simp)]
  exact heap_alloc_new w _
 have hk1 : (askHW w cs).heap[w.heap.size + 1]? = some (.cells #[.int .i64 3, .int .i64 3, .string ⟨#[]⟩, .slice (some ⟨w.heap.size, 0, none⟩) 1 1] 76 (0, 0)) := by
  unfold askHW
  rw [Below.heap_alloc _ _ _ (by simp only [World.size_alloc]; omega)]
  have := heap_alloc_new (w.alloc (.cells cs.toArray 42)) (.cells #[.int .i64 3, .int .i64 3, .string ⟨#[]⟩, .slice (some ⟨w.heap.size, 0, none⟩) 1 1] 76)
  rw [World.size_alloc] at this
  exact this
 have hxs : XsAt f (askHW w cs) (some ⟨w.heap.size, 0, none⟩) [x] := xs_oneH hk0 (by obtain ⟨_, _, _, _, _, _, _, rfl⟩ := hx.lenH; rfl) (XAt.turn hb (Nat.le_refl _) hx)
 exact ⟨hb, ss_oneH (s := .mk 3 3 [] [x]) (wa := some ⟨w.heap.size, 0, none⟩) (wc := 1) hk1 (Nat.le_refl _) w64_3H w64_3H (Nat.zero_le _) (Nat.le_of_ble_eq_true rfl) hxs⟩
theorem checkN_two (f : Nat) (ss : List PS) : checkN f ss = 0 ∨ checkN f ss = 6 := by unfold checkN; split <;> simp
set_option maxRecDepth 100000 in
set_option maxHeartbeats 8000000 in
theorem holdsH_any {f : Nat} (hf : f ≤ 1048576) (a : Option Addr) (n c : Nat) (evs : List Ev) (v : Int) (x : PX) (cs : List Value) (w : World) (hE : BegQ w a n evs) (hx : XAt f w x cs) (hv : -1152921504606846976 ≤ v ∧ v ≤ 1152921504606846976) :
  Calls Tryz.prog 16 #[.slice a n c, .int .i64 v, .agg cs.toArray] w fun e w' => e = .returned (.tuple #[.int .i64 (holdsN f evs v x).1, .int .i64 (holdsN f evs v x).2]) ∧ Below w.heap.size w w' := by
 obtain ⟨W0, hW0⟩ : ∃ W0, W0 = w.alloc (.cells cs.toArray 42) := ⟨_, rfl⟩
 have hb0 : Below w.heap.size w W0 := by rw [hW0]; exact (Below.refl _ _).alloc (Nat.le_refl _) _
 have hk0 : W0.heap[w.heap.size]? = some (.cells cs.toArray 42 (0, 0)) := by rw [hW0]; exact heap_alloc_new w _
 have hs0 : W0.heap.size = w.heap.size + 1 := by rw [hW0]; simp
 have HRD := Lib.hid ((hE.below hb0).read (c := c))
 have HB0 := Lib.hid hb0
 have HQ := Lib.hid hE
 have HX := Lib.hid hx
 obtain ⟨c0, c1, c2, c3, c4, c5, c6, rfl⟩ := hx.lenH
 have HK0 := Lib.hid (⟨hk0, hs0⟩ : _ ∧ _)
 obtain ⟨R, hR⟩ : ∃ R, holdsN f evs v x = R := ⟨_, rfl⟩
 rw [hR]
 have HRR := Lib.hid hR
 have HW0 := Lib.hid hW0
 show Calls Tryz.prog 16 #[.slice a n c, .int .i64 v, .agg #[c0, c1, c2, c3, c4, c5, c6]] w _
 clear hR hb0 hk0 hs0 hE hx hW0
 go_enter Tryz.func16, Tryz.ntmps16
 go_wp2_with fail
 rw [← HW0.out]
 (with_reducible refine HRD.out.mono ?_)
 rintro e w2 ⟨hcase, hb2⟩
 rcases hcase with ⟨st, hst, rfl, hat⟩ | ⟨hno, rfl⟩
 ·have HB2 := Lib.hid (HB0.out.trans (hb2.mono HB0.out.size))
  have HRV : Hid ((if checkN f (askP [x]) ≠ 0 then (0, 6) else if v < -1 ∨ ((readN evs st).length : Int) - 1 ≤ v then (0, 2) else ((exprT (readN evs st) f x).getD (v + 1).toNat 0, 0)) = R) := Lib.hid (by have := HRR.out; unfold holdsN at this; rw [hst] at this; exact this)
  have HBX : Hid (∀ W, Below w2.heap.size w2 W → W.heap[w.heap.size]? = some (.cells #[c0, c1, c2, c3, c4, c5, c6] 42 (0, 0))) := Lib.hid fun W hW => (hW.block w.heap.size (by have := hb2.size; have := HK0.out.2; omega)).trans ((hb2.block w.heap.size (by have := HK0.out.2; omega)).trans HK0.out.1)
  have hbx := HBX.out w2 (Below.refl _ _)
  have x0 : w2.cell? ⟨w.heap.size, 0, none⟩ = some c0 := by rw [cell_heap hbx]; rfl
  have x1 : w2.cell? ⟨w.heap.size, 1, none⟩ = some c1 := by rw [cell_heap hbx]; rfl
  have x2 : w2.cell? ⟨w.heap.size, 2, none⟩ = some c2 := by rw [cell_heap hbx]; rfl
  have x3 : w2.cell? ⟨w.heap.size, 3, none⟩ = some c3 := by rw [cell_heap hbx]; rfl
  have x4 : w2.cell? ⟨w.heap.size, 4, none⟩ = some c4 := by rw [cell_heap hbx]; rfl
  have x5 : w2.cell? ⟨w.heap.size, 5, none⟩ = some c5 := by rw [cell_heap hbx]; rfl
  have x6 : w2.cell? ⟨w.heap.size, 6, none⟩ = some c6 := by rw [cell_heap hbx]; rfl
  have hask := askHW_spec w2 x _ (XAt.turn HB2.out (Nat.le_refl _) HX.out)
  have HCH : Hid (Calls Tryz.prog 12 #[.agg #[.slice (some ⟨w2.heap.size + 1, 0, none⟩) 1 1]] (askHW w2 [c0, c1, c2, c3, c4, c5, c6]) fun e w' => e = .returned (.int .i64 (checkN f (askP [x]))) ∧ Below w2.heap.size w2 w') := Lib.hid ((check_any hf (some ⟨w2.heap.size + 1, 0, none⟩) 1 (askP [x]) _ (HQ.out.below (HB2.out.trans (hask.1.mono HB2.out.size))).env hask.2 (Nat.le_of_ble_eq_true rfl)).mono (by
   rintro e w' ⟨h1, h2⟩
   exact ⟨h1, hask.1.trans (h2.mono hask.1.size)⟩))
  have HAT : Hid (∀ W, Below w2.heap.size w2 W → HAt W (W0.heap.size + 2) (readN evs st)) := Lib.hid fun W hW => hat.below hW
  obtain ⟨bb, hbb⟩ : ∃ bb, W0.heap.size + 2 = bb := ⟨_, rfl⟩
  rw [hbb] at HAT
  rw [hbb]
  clear hb2 hst hbx hask hat hbb
  go_wp2_with fail
  refine HCH.out.mono ?_
  rintro e w3 ⟨rfl, hb3⟩
  have HB3 := Lib.hid (HB2.out.trans (hb3.mono HB2.out.size))
  have hbx := HBX.out w3 hb3
  have x0 : w3.cell? ⟨w.heap.size, 0, none⟩ = some c0 := by rw [cell_heap hbx]; rfl
  have x1 : w3.cell? ⟨w.heap.size, 1, none⟩ = some c1 := by rw [cell_heap hbx]; rfl
  have x2 : w3.cell? ⟨w.heap.size, 2, none⟩ = some c2 := by rw [cell_heap hbx]; rfl
  have x3 : w3.cell? ⟨w.heap.size, 3, none⟩ = some c3 := by rw [cell_heap hbx]; rfl
  have x4 : w3.cell? ⟨w.heap.size, 4, none⟩ = some c4 := by rw [cell_heap hbx]; rfl
  have x5 : w3.cell? ⟨w.heap.size, 5, none⟩ = some c5 := by rw [cell_heap hbx]; rfl
  have x6 : w3.cell? ⟨w.heap.size, 6, none⟩ = some c6 := by rw [cell_heap hbx]; rfl
  have HAT3 := Lib.hid (HAT.out w3 hb3)
  clear hb3 hbx HAT
  rcases checkN_two f (askP [x]) with hc | hc
  ·have hg := (check_ask hc x List.mem_cons_self).1
   rw [hc] at HRV
   rw [hc]
   obtain ⟨na, nc, _, hcn, _⟩ := HAT3.out.get
   have c1' := hcn w3 (Below.refl _ _)
   have hcap := HAT3.out.cap
   have hpos := HAT3.out.pos
   have HEX := Lib.hid (half_all bb (readN evs st) f x [c0, c1, c2, c3, c4, c5, c6] w3 HAT3.out (XAt.turn HB3.out (Nat.le_refl _) HX.out) hg)
   obtain ⟨n', hn'⟩ : ∃ n', (readN evs st).length = n' := ⟨_, rfl⟩
   rw [hn'] at c1' hcap hpos HRV HEX
   have ewn : IntKind.i64.wrap ((n' : Int) - 1) = (n' : Int) - 1 := IntWalk.i64_in _ (by omega)
   have ewv : IntKind.i64.wrap (v + 1) = v + 1 := IntWalk.i64_in _ (by omega)
   generalize exprT (readN evs st) f x = L at *
   clear hn' hcn hg HAT3
   by_cases hv1 : v < -1
   ·have HR2 : Hid ((0, 2) = R) := Lib.hid (by have := HRV.out; rw [if_neg (by decide), if_pos (.inl hv1)] at this; exact this)
    go_wp2_with fail
    go_ret2
    exact ⟨by rw [← HR2.out]; rfl, HB3.out⟩
   ·by_cases hv2 : (n' : Int) - 1 ≤ v
    ·have HR2 : Hid ((0, 2) = R) := Lib.hid (by have := HRV.out; rw [if_neg (by decide), if_pos (.inr hv2)] at this; exact this)
     have hv1' : -1 ≤ v := by omega
     go_wp2_with fail
     go_ret2
     exact ⟨by rw [← HR2.out]; rfl, HB3.out⟩
    ·have HR2 : Hid ((L.getD (v + 1).toNat 0, 0) = R) := Lib.hid (by have := HRV.out; rw [if_neg (by decide), if_neg (by omega)] at this; exact this)
     obtain ⟨k, hk⟩ : ∃ k : Nat, v + 1 = (k : Int) := ⟨(v + 1).toNat, by omega⟩
     rw [hk, Int.toNat_natCast] at HR2
     rw [hk] at ewv
     have hkn : k < n' := by omega
     have hv1' : -1 ≤ v := by omega
     have hv2' : v < (n' : Int) - 1 := by omega
     have i1 : (0 : Int) ≤ (k : Int) := by omega
     have i2 : (k : Int) < (n' : Int) := by omega
     have hk' : v + 1 = (k : Int) := hk
     clear hk
     go_wp2_with fail
     (with_reducible refine HEX.out.mono ?_)
     rintro e w4 ⟨P, rfl, hP, hT, hb4⟩
     obtain ⟨z1, l1⟩ := hT.at0 k hkn
     have HB4 := Lib.hid (HB3.out.trans (hb4.mono HB3.out.size))
     generalize L.getD k 0 = rv at *
     clear hT hb4 hP
     go_wp2_with fail
     go_ret2
     exact ⟨by rw [← HR2.out]; rfl, HB4.out⟩
  ·have HR2 : Hid ((0, 6) = R) := Lib.hid (by have := HRV.out; rw [hc, if_pos (by decide)] at this; exact this)
   rw [hc]
   go_wp2_with fail
   go_ret2
   exact ⟨by rw [← HR2.out]; rfl, HB3.out⟩
 ·have HB2 := Lib.hid (HB0.out.trans (hb2.mono HB0.out.size))
  have HR2 : Hid ((0, 6) = R) := Lib.hid (by have := HRR.out; unfold holdsN at this; rw [hno] at this; exact this)
  clear hb2
  go_wp2_with fail
  go_ret2
  exact ⟨by rw [← HR2.out]; rfl, HB2.out⟩
end Go.Proofs.YtgjokdngbocehaaGreatDoor
namespace Go.Proofs.YtgjokdngbocehaaGreatDoor
open Go.RowKit
def parI (hs : List HN) (k : Nat) : Int := (hs[k]?.map fun (h : HN) => h.par).getD (-1)
def parV (hs : List HN) (led : List Int) (k : Nat) : Int := if 0 ≤ parI hs k then led.getD (parI hs k).toNat 0 else 0
def abvV (hs : List HN) (led l : List Int) (k : Nat) : Int := if 0 ≤ parI hs k then orL [l.getD (parI hs k).toNat 0, led.getD (parI hs k).toNat 0] else 0
def abvAll (hs : List HN) (led : List Int) (k : Nat) : List Int := (List.range k).foldl (fun l k => l.set k (abvV hs led l k)) (List.replicate hs.length 0)
theorem abvAll_zero (hs : List HN) (led : List Int) : abvAll hs led 0 = List.replicate hs.length 0 := rfl
theorem abvAll_succ (hs : List HN) (led : List Int) (k : Nat) : abvAll hs led (k + 1) = (abvAll hs led k).set k (abvV hs led (abvAll hs led k) k) := by
 unfold abvAll; rw [List.range_succ, List.foldl_append]; rfl
def frT (hs : List HN) (led : List Int) (ax : Int) (k : Nat) : Int :=
 if ax = 0 then parV hs led k else if ax = 1 then (abvAll hs led (k + 1)).getD k 0 else if ax = 2 then orL [(abvAll hs led (k + 1)).getD k 0, led.getD k 0] else led.getD k 0
def ledT (ex : PX → List Int) (hs : List HN) (led : List Int) (s : PS) : List Int := metT ex hs s (rowOf hs.length (frT hs led s.axis))
def led0 (hs : List HN) : List Int := rowOf hs.length fun k => truthI (decide (k = 0))
def pathT (ex : PX → List Int) (hs : List HN) (ss : List PS) (j : Nat) : List Int := (ss.take j).foldl (ledT ex hs) (led0 hs)
theorem pathT_zero (ex : PX → List Int) (hs : List HN) (ss : List PS) : pathT ex hs ss 0 = led0 hs := by unfold pathT; rw [List.take_zero]; rfl
theorem pathT_succ (ex : PX → List Int) (hs : List HN) (ss : List PS) (j : Nat) (h : j < ss.length) : pathT ex hs ss (j + 1) = ledT ex hs (pathT ex hs ss j) ss[j] := by
 unfold pathT; rw [List.take_succ_eq_append_getElem h, List.foldl_append]; rfl
theorem parV_at (hs : List HN) (led : List Int) (k : Nat) (h : k < hs.length) {p : Nat} (hp : hs[k].par = (p : Int)) : parV hs led k = led.getD p 0 := by
 unfold parV parI; rw [List.getElem?_eq_getElem h]; simp only [Option.map_some, Option.getD_some, hp, Int.toNat_natCast]; rw [if_pos (by omega)]
theorem parV_no (hs : List HN) (led : List Int) (k : Nat) (h : k < hs.length) (hp : ¬ 0 ≤ hs[k].par) : parV hs led k = 0 := by
 unfold parV parI; rw [List.getElem?_eq_getElem h]; exact if_neg hp
theorem abvV_at (hs : List HN) (led l : List Int) (k : Nat) (h : k < hs.length) {p : Nat} (hp : hs[k].par = (p : Int)) : abvV hs led l k = orL [l.getD p 0, led.getD p 0] := by
 unfold abvV parI; rw [List.getElem?_eq_getElem h]; simp only [Option.map_some, Option.getD_some, hp, Int.toNat_natCast]; rw [if_pos (by omega)]
theorem abvV_no (hs : List HN) (led l : List Int) (k : Nat) (h : k < hs.length) (hp : ¬ 0 ≤ hs[k].par) : abvV hs led l k = 0 := by
 unfold abvV parI; rw [List.getElem?_eq_getElem h]; exact if_neg hp
def vdT (led : List Int) (k : Nat) : List (Int × Int) := (List.range k).filterMap fun i => if 0 < i ∧ led.getD i 0 ≠ 0 then some ((i : Int) - 1, led.getD i 0) else none
theorem vdT_yes (led : List Int) (k : Nat) (h : 0 < k) (h0 : led.getD k 0 ≠ 0) : vdT led (k + 1) = vdT led k ++ [((k : Int) - 1, led.getD k 0)] := by
 unfold vdT; rw [List.range_succ, List.filterMap_append]; simp only [List.filterMap_cons, List.filterMap_nil]; rw [if_pos ⟨h, h0⟩]
theorem vdT_no (led : List Int) (k : Nat) (h : ¬ (0 < k ∧ led.getD k 0 ≠ 0)) : vdT led (k + 1) = vdT led k := by
 unfold vdT; rw [List.range_succ, List.filterMap_append]; simp only [List.filterMap_cons, List.filterMap_nil]; rw [if_neg h, List.append_nil]
theorem vdT_le (led : List Int) (k : Nat) : (vdT led k).length ≤ k := by
 have := List.length_filterMap_le (fun i => if 0 < i ∧ led.getD i 0 ≠ 0 then some ((i : Int) - 1, led.getD i 0) else none) (List.range k)
 rw [List.length_range] at this; exact this
end Go.Proofs.YtgjokdngbocehaaGreatDoor
namespace Go.Proofs.YtgjokdngbocehaaGreatDoor
open Go.RowKit
theorem alloc_atH (w : World) (o : Obj) {k : Nat} (h : k = w.heap.size) : (w.alloc o).heap[k]? = some o := by subst h; exact heap_alloc_new w o
set_option maxRecDepth 100000 in
set_option maxHeartbeats 8000000 in
theorem path_any {hb : Nat} {hs : List HN} {f : Nat} (HX : HalfX hb hs f) (ss : List PS) (pa : Option Addr) (pc : Nat) (w : World) (hH : HAt w hb hs) (hroot : ∀ h, hs[0]? = some h → h.par = -1) (hp : SsAt f w pa ss) (hpl : ss.length ≤ 1048576) (hg : goodPB (goodXB f) ss = true) :
  Calls Tryz.prog 29 #[.pointer (some ⟨hb, 0, none⟩), .agg #[.slice pa ss.length pc]] w fun e w' => ∃ P, e = .returned (.slice (some ⟨P, 0, none⟩) hs.length hs.length) ∧ w.heap.size ≤ P ∧ TsAt w' (some ⟨P, 0, none⟩) hs.length (pathT (exprT hs f) hs ss ss.length) ∧ Below w.heap.size w w' := by
 obtain ⟨i0, hi, hz0, hz1, hz2⟩ := info_parts infoTru
 obtain ⟨q, hq⟩ : ∃ q, ss.length = q := ⟨_, rfl⟩
 have HQ := Lib.hid hq
 rw [hq] at hpl
 obtain ⟨na, nc, hlt, hcn, hrow⟩ := hH.get
 have HROW := Lib.hid hrow
 have HPAR := Lib.hid hH.par
 have HROOT := Lib.hid hroot
 have HSS := Lib.hid hp
 have hcap := hH.cap
 have hpos := hH.pos
 obtain ⟨n, hnn⟩ : ∃ n, hs.length = n := ⟨_, rfl⟩
 have HN := Lib.hid hnn
 have HCN : Hid (∀ W, Below w.heap.size w W → W.cell? ⟨hb, 1, none⟩ = some (.slice na n nc)) := Lib.hid (by rw [← hnn]; exact hcn)
 have HP0 : Hid (pathT (exprT hs f) hs ss 0 = rowOf n fun k => truthI (decide (k = 0))) := Lib.hid (by rw [pathT_zero]; unfold led0; rw [hnn])
 have HPS : Hid (∀ j (hj : j < ss.length), pathT (exprT hs f) hs ss (j + 1) = metT (exprT hs f) hs ss[j] (rowOf n (frT hs (pathT (exprT hs f) hs ss j) ss[j].axis))) := Lib.hid fun j hj => by rw [pathT_succ _ _ _ j hj]; unfold ledT; rw [hnn]
 have HME : Hid (∀ j (hj : j < ss.length) wa wn a l W, Below w.heap.size w W → XsAt f W wa ss[j].wher → ss[j].wher.length ≤ 1048576 → TsAt W a n l → Calls Tryz.prog 50 #[.pointer (some ⟨hb, 0, none⟩), .agg (stepC ss[j] wa wn).toArray, .slice a n n] W fun e w' => ∃ P, e = .returned (.slice (some ⟨P, 0, none⟩) n n) ∧ W.heap.size ≤ P ∧ TsAt w' (some ⟨P, 0, none⟩) n (metT (exprT hs f) hs ss[j] l) ∧ Below W.heap.size W w') := Lib.hid fun j hj wa wn a l W hW g1 g2 g3 => by
  have hgs := goodPB_at hg j hj
  have := met_any HX ss[j] wa wn a n l W (hH.below hW) g1 g2 (List.all_eq_true.2 fun y hy => by
   obtain ⟨i, hi, rfl⟩ := List.getElem_of_mem hy
   exact goodSB_at hgs i hi) (by rw [hnn]; exact g3)
  rw [hnn] at this; exact this
 have HOR2 : Hid (∀ (p q : Int) (W : World) (Q : Nat), W.heap[Q]? = some (.cells #[.int .i64 p, .int .i64 q] 48 (0, 0)) → Calls Tryz.prog 49 #[.slice (some ⟨Q, 0, none⟩) 2 2] W fun e w' => e = .returned (.int .i64 (orL [p, q])) ∧ w' = W) := Lib.hid fun p q W Q h => kOr_any _ 2 2 [p, q] W (ts_two h) (by decide)
 have HORD : Hid (∀ (p q : Int) (W : World) (Q : Nat), W.heap[Q]? = some (.cells #[.int .i64 p, .int .i64 q] 48 (0, 0)) → Calls Tryz.prog 49 #[.slice (some ⟨Q, 0, none⟩) 2 2] W.drew fun e w' => e = .returned (.int .i64 (orL [p, q])) ∧ w' = W.drew) := Lib.hid fun p q W Q h => kOr_any _ 2 2 [p, q] W.drew (ts_two h) (by decide)
 have HTR : Hid (∀ (b : Bool) (W : World), Calls Tryz.prog 48 #[.bool b] W fun e w' => e = .returned (.int .i64 (truthI b)) ∧ w' = W) := Lib.hid fun b W => truth_any b W
 rw [hq, hnn]
 obtain ⟨R, hR⟩ : ∃ R, pathT (exprT hs f) hs ss q = R := ⟨_, rfl⟩
 have HRR := Lib.hid hR
 rw [hR]
 rw [hnn] at hcap hpos
 have HMK : Hid (∀ w1, w1.ownsRow (w.alloc (.cells #[.slice pa q pc] 25)).heap.size 48 1 (.slice (some ⟨(w.alloc (.cells #[.slice pa q pc] 25)).heap.size, 0, none⟩) n n) n (madeCells (Value.int .i64 0).cells (n * 1)).toList → (w.alloc (.cells #[.slice pa q pc] 25)).grownBy w1 none → MI w w.heap.size (.cells #[.slice pa q pc] 25) (w.heap.size + 1) n (List.replicate n 0) w1) := Lib.hid fun w1 hown hgr => by
  obtain ⟨h1, h2⟩ := MI.made (w := w) (k := w.heap.size) (o := (.cells #[.slice pa q pc] 25)) ((Below.refl w.heap.size w).alloc (Nat.le_refl _) _) (heap_alloc_new w _) hown hgr
  rw [World.size_alloc] at h1
  exact h1
 have c0 := HCN.out w (Below.refl _ _)
 clear hR hH hrow hcn hp hg HX hq hroot
 go_enter Tryz.func29, Tryz.ntmps29
 go_wp2_with (at_make; go_must ((refine wpList_make_full (w.alloc (.cells #[.slice pa q pc] 25)) (by rfl) _ _ 81 (by rfl) (w.alloc (.cells #[.slice pa q pc] 25)).heap.size 48 i0 _ 1 Tryz.underlying81 hi hz0 hz1 .i64 .i64 (n : Int) (n : Int) n (by rfl) (by rfl) rfl rfl (by rw [hz2]; omega) (by unfold maxLen; omega) (Nat.le_refl _) (fun w1 hown hgr => ?_)); have HMI := Lib.hid (HMK.out w1 hown hgr)))
 clear hown hgr HMK
 generalize hP : w.heap.size + 1 = P at *
 go_loopw [22] (fun iv wr => ∃ k : Nat, iv = .int .i64 k ∧ k ≤ n ∧ Hid (MI w w.heap.size (.cells #[.slice pa q pc] 25) P n (mixR n k (fun k => truthI (decide (k = 0))) (fun _ => 0)) wr)) (fun iv _ => n - (intOf iv).toNat)
 case atStart => exact ⟨0, rfl, Nat.zero_le _, Lib.hid (by rw [← rep_mix]; exact HMI.out)⟩
 case round =>
  obtain ⟨k, rfl, hk, HM⟩ := hrel
  by_cases hkn : k < n
  ·have HNX : Hid (MI w w.heap.size (.cells #[.slice pa q pc] 25) P n (mixR n (k + 1) (fun k => truthI (decide (k = 0))) (fun _ => 0)) (wr.setCell ⟨P, k, none⟩ (.int .i64 (truthI (decide (k = 0)))))) := Lib.hid (by
    have := HM.out.set k (truthI (decide (k = 0)))
    rwa [mixR_set _ _ _ _ _ rfl] at this)
   have z1 := HM.out.at k hkn
   generalize (mixR n k (fun k => truthI (decide (k = 0))) (fun _ => 0)).getD k 0 = zz at z1
   have f1 := HM.out.frozen k
   have l1 := (HM.out.own.lt _ rfl).2
   have HTD : Hid (∀ W : World, Calls Tryz.prog 48 #[.bool ((k : Int) == 0)] W fun e w' => e = .returned (.int .i64 (truthI (decide (k = 0)))) ∧ w' = W) := Lib.hid fun W => by
    have : ((k : Int) == 0) = decide (k = 0) := by by_cases h : k = 0 <;> simp [h]
    rw [this]; exact HTR.out _ W
   have i2 : (0 : Int) ≤ (k : Int) := by omega
   have i3 : (k : Int) < (n : Int) := by omega
   have ewi : IntKind.i64.wrap ((k : Int) + 1) = (k : Int) + 1 := IntWalk.i64_in _ (by omega)
   go_wp2_with fail
   (with_reducible refine (HTD.out _).mono ?_)
   rintro e w5 ⟨rfl, rfl⟩
   go_wp2_with fail
   go_roundw
   case rel => exact ⟨k + 1, by go_num, by omega, HNX⟩
   case measure => simp [intOf]; omega
  ·have hk2 : n = k := by omega
   subst hk2
   have HM2 : Hid (w.heap.size ≤ P ∧ Below w.heap.size w wr ∧ wr.heap[w.heap.size]? = some (.cells #[.slice pa q pc] 25 (0, 0)) ∧ TsAt wr (some ⟨P, 0, none⟩) n (pathT (exprT hs f) hs ss 0)) := Lib.hid ⟨HM.out.lo, HM.out.old, HM.out.box, by have := HM.out.ts; rw [mixR_all] at this; rw [HP0.out]; exact this⟩
   have x2 : wr.cell? ⟨w.heap.size, 0, none⟩ = some (.slice pa q pc) := by rw [cell_heap HM.out.box]; rfl
   clear HM hk hkn HMI
   go_wp2_with fail
   go_loopw [5, 35] (fun ov iv wr => ∃ j Q : Nat, ov = .slice (some ⟨Q, 0, none⟩) n n ∧ iv = .int .i64 (j : Int) ∧ j ≤ q ∧ Hid (w.heap.size ≤ Q ∧ Below w.heap.size w wr ∧ wr.heap[w.heap.size]? = some (.cells #[.slice pa q pc] 25 (0, 0)) ∧ TsAt wr (some ⟨Q, 0, none⟩) n (pathT (exprT hs f) hs ss j))) (fun _ iv _ => q - (intOf iv).toNat)
   case atStart => exact ⟨0, P, rfl, rfl, Nat.zero_le _, HM2⟩
   case round =>
    obtain ⟨j, Q, rfl, rfl, hjq, HJ⟩ := hrel
    obtain ⟨W0, rfl⟩ : ∃ W0, W0 = wr := ⟨_, rfl⟩
    by_cases hj0 : j < q
    ·have hiq : j < ss.length := by rw [HQ.out]; exact hj0
     obtain ⟨b, o, wa, wn, rfl, hbl, hst, hcs⟩ := HSS.out.get' j hiq
     obtain ⟨s0, s1, s2, s3⟩ := hcs W0 HJ.out.2.1
     have HPJ := Lib.hid (HPS.out j hiq)
     obtain ⟨a', c', hcc, hwl, _, _, _, hwn, hxs⟩ := hst
     cases hcc
     obtain ⟨led, hled⟩ : ∃ led, pathT (exprT hs f) hs ss j = led := ⟨_, rfl⟩
     rw [hled] at HPJ
     have HTL : Hid (TsAt W0 (some ⟨Q, 0, none⟩) n led) := Lib.hid (by rw [← hled]; exact HJ.out.2.2.2)
     have HMT : Hid (∀ a l W, Below W0.heap.size W0 W → TsAt W a n l → Calls Tryz.prog 50 #[.pointer (some ⟨hb, 0, none⟩), .agg #[.int .i64 ss[j].axis, .int .i64 ss[j].test, .string (strL ss[j].name), .slice wa ss[j].wher.length wn], .slice a n n] W fun e w' => ∃ P, e = .returned (.slice (some ⟨P, 0, none⟩) n n) ∧ W.heap.size ≤ P ∧ TsAt w' (some ⟨P, 0, none⟩) n (metT (exprT hs f) hs ss[j] l) ∧ Below W.heap.size W w') := Lib.hid fun a l W hW hT => by
      have hb := HJ.out.2.1.trans (hW.mono HJ.out.2.1.size)
      exact HME.out j hiq wa wn a l W hb (XsAt.below hxs hb) hwn hT
     have hs1 := HJ.out.2.1.size
     have x2 : W0.cell? ⟨w.heap.size, 0, none⟩ = some (.slice (some ⟨b, o, none⟩) q pc) := by rw [cell_heap HJ.out.2.2.1]; rfl
     clear hcs hxs hled HPS
     generalize ss[j] = s at *
     have HMK2 : Hid (∀ w2, w2.ownsRow (W0.alloc (.cells #[.int .i64 s.axis, .int .i64 s.test, .string (strL s.name), .slice wa s.wher.length wn] 76)).heap.size 48 1 (.slice (some ⟨(W0.alloc (.cells #[.int .i64 s.axis, .int .i64 s.test, .string (strL s.name), .slice wa s.wher.length wn] 76)).heap.size, 0, none⟩) n n) n (madeCells (Value.int .i64 0).cells (n * 1)).toList → (W0.alloc (.cells #[.int .i64 s.axis, .int .i64 s.test, .string (strL s.name), .slice wa s.wher.length wn] 76)).grownBy w2 none → MI W0 W0.heap.size (.cells #[.int .i64 s.axis, .int .i64 s.test, .string (strL s.name), .slice wa s.wher.length wn] 76) (W0.heap.size + 1) n (List.replicate n 0) w2 ∧ TsAt w2 (some ⟨Q, 0, none⟩) n led ∧ Q < W0.heap.size + 1 ∧ W0.heap.size + 1 < w2.heap.size) := Lib.hid fun w2 hown hgr => by
      have hbo := (Below.refl W0.heap.size W0).alloc (Nat.le_refl _) (.cells #[.int .i64 s.axis, .int .i64 s.test, .string (strL s.name), .slice wa s.wher.length wn] 76)
      obtain ⟨h1, h2⟩ := MI.made (w := W0) (k := W0.heap.size) (o := (.cells #[.int .i64 s.axis, .int .i64 s.test, .string (strL s.name), .slice wa s.wher.length wn] 76)) hbo (heap_alloc_new W0 _) hown hgr
      have h3 := (HTL.out.below hbo).below h2
      have h4 := (HTL.out.at0 0 (by omega)).2
      rw [World.size_alloc] at h1
      exact ⟨h1, h3, by omega, (h1.own.lt _ rfl).2⟩
     have HMK3 : Hid (∀ w2 w3, (MI W0 W0.heap.size (.cells #[.int .i64 s.axis, .int .i64 s.test, .string (strL s.name), .slice wa s.wher.length wn] 76) (W0.heap.size + 1) n (List.replicate n 0) w2 ∧ TsAt w2 (some ⟨Q, 0, none⟩) n led ∧ Q < W0.heap.size + 1 ∧ W0.heap.size + 1 < w2.heap.size) → w3.ownsRow w2.heap.size 48 1 (.slice (some ⟨w2.heap.size, 0, none⟩) n n) n (madeCells (Value.int .i64 0).cells (n * 1)).toList → w2.grownBy w3 none → MB W0 W0.heap.size (.cells #[.int .i64 s.axis, .int .i64 s.test, .string (strL s.name), .slice wa s.wher.length wn] 76) Q (W0.heap.size + 1) w2.heap.size n led (List.replicate n 0) (List.replicate n 0) w3 ∧ w3.cell? ⟨hb, 1, none⟩ = some (.slice na n nc)) := Lib.hid fun w2 w3 ⟨g1, g2, g3, g4⟩ hown hgr => by
      obtain ⟨h1, h2⟩ := MI.made g1.old g1.box hown hgr
      exact ⟨⟨g2.below h2, g1.below h2, h1, by omega, by omega, by omega⟩, HCN.out _ (HJ.out.2.1.trans (h1.old.mono HJ.out.2.1.size))⟩
     have i2 : (0 : Int) ≤ (j : Int) := by omega
     have i3 : (j : Int) < (q : Int) := by omega
     have ewi : IntKind.i64.wrap ((j : Int) + 1) = (j : Int) + 1 := IntWalk.i64_in _ (by omega)
     go_wp2_with (at_make; go_must (first | ((refine wpList_make_full (W0.alloc (.cells #[.int .i64 s.axis, .int .i64 s.test, .string (strL s.name), .slice wa s.wher.length wn] 76)) (by rfl) _ _ 81 (by rfl) (W0.alloc (.cells #[.int .i64 s.axis, .int .i64 s.test, .string (strL s.name), .slice wa s.wher.length wn] 76)).heap.size 48 i0 _ 1 Tryz.underlying81 hi hz0 hz1 .i64 .i64 (n : Int) (n : Int) n (by rfl) (by rfl) rfl rfl (by rw [hz2]; omega) (by unfold maxLen; omega) (Nat.le_refl _) (fun w2 hown2 hgr2 => ?_)); have HM2 := Lib.hid (HMK2.out w2 hown2 hgr2)) | ((refine wpList_make_full w2 (by rfl) _ _ 81 (by rfl) w2.heap.size 48 i0 _ 1 Tryz.underlying81 hi hz0 hz1 .i64 .i64 (n : Int) (n : Int) n (by rfl) (by rfl) rfl rfl (by rw [hz2]; omega) (by unfold maxLen; omega) (Nat.le_refl _) (fun w3 hown3 hgr3 => ?_)); have HM3 := Lib.hid (HMK3.out w2 w3 HM2.out hown3 hgr3); have c3 := HM3.out.2)))
     have HMB := Lib.hid HM3.out.1
     clear hown2 hgr2 hown3 hgr3 HM2 HM3 HMK2 HMK3 c3
     generalize W0.heap.size + 1 = P1 at *
     generalize w2.heap.size = P2 at *
     have HPD : Hid (∀ k, k < n → frT hs led s.axis k = if s.axis = 0 then parV hs led k else if s.axis = 1 then (abvAll hs led (k + 1)).getD k 0 else if s.axis = 2 then orL [(abvAll hs led (k + 1)).getD k 0, led.getD k 0] else led.getD k 0) := Lib.hid fun k _ => rfl
     go_loopw [50] (fun iv wr => ∃ k : Nat, iv = .int .i64 k ∧ k ≤ n ∧ Hid (MB W0 W0.heap.size (.cells #[.int .i64 s.axis, .int .i64 s.test, .string (strL s.name), .slice wa s.wher.length wn] 76) Q P1 P2 n led (mixR n k (frT hs led s.axis) (fun _ => 0)) (abvAll hs led k) wr)) (fun iv _ => n - (intOf iv).toNat)
     case atStart => exact ⟨0, rfl, Nat.zero_le _, Lib.hid (by rw [← rep_mix, abvAll_zero, HN.out]; exact HMB.out)⟩
     case round =>
      obtain ⟨k, rfl, hk, HM⟩ := hrel
      by_cases hkn : k < n
      ·have hkl : k < hs.length := by rw [HN.out]; exact hkn
       obtain ⟨nb, no, A, m, c', rfl, hnbl, hm, hA, hat, htx, hcells⟩ := HROW.out k hkl
       obtain ⟨e0, e1, e2, e3, e4, e5, e6, e7, e8, e9, e10, e11, e12, e13⟩ := hcells wr (HJ.out.2.1.trans (HM.out.one.old.mono hs1))
       have z2 := HM.out.two.at k hkn
       have f2 := HM.out.two.frozen k
       have l2 := (HM.out.two.own.lt P2 rfl).2
       have n02 := HM.out.n02
       have n20 : ¬ P2 = Q := fun e => n02 e.symm
       have i7 : (0 : Int) ≤ (k : Int) := by omega
       have i8 : (k : Int) < (n : Int) := by omega
       have ewk : IntKind.i64.wrap ((k : Int) + 1) = (k : Int) + 1 := IntWalk.i64_in _ (by omega)
       have HPV : Hid ((¬ 0 ≤ hs[k].par ∧ parV hs led k = 0 ∧ abvAll hs led (k + 1) = (abvAll hs led k).set k 0) ∨ ∃ p : Nat, hs[k].par = (p : Int) ∧ p < k ∧ parV hs led k = led.getD p 0 ∧ abvAll hs led (k + 1) = (abvAll hs led k).set k (orL [(abvAll hs led k).getD p 0, led.getD p 0])) := Lib.hid (by
        by_cases hp : 0 ≤ hs[k].par
        ·have hk1 : 1 ≤ k := by
          rcases Nat.eq_zero_or_pos k with h0 | h0
          ·subst h0
           have := HROOT.out _ (List.getElem?_eq_getElem hkl)
           omega
          ·exact h0
         have h1 := HPAR.out k _ (List.getElem?_eq_getElem hkl) hk1
         refine .inr ⟨hs[k].par.toNat, by omega, by omega, parV_at hs led k hkl (by omega), ?_⟩
         rw [abvAll_succ, abvV_at hs led _ k hkl (p := hs[k].par.toNat) (by omega)]
        ·exact .inl ⟨hp, parV_no hs led k hkl hp, by rw [abvAll_succ, abvV_no hs led _ k hkl hp]⟩)
       clear hcells hA hat hm htx hnbl
       generalize hs[k]'hkl = hn' at *
       generalize (abvAll hs led k).getD k 0 = zz at z2
       go_upto_if 60 with fail
       go_cut [13] from 53 to 116 (fun s13 wx => s13 = .int .i64 (parV hs led k) ∧ Hid (MB W0 W0.heap.size (.cells #[.int .i64 s.axis, .int .i64 s.test, .string (strL s.name), .slice wa s.wher.length wn] 76) Q P1 P2 n led (mixR n k (frT hs led s.axis) (fun _ => 0)) (abvAll hs led (k + 1)) wx))
       case first =>
        rcases HPV.out with ⟨hp, hpv, hab⟩ | ⟨p, hp, hpk, hpv, hab⟩
        ·have HNX : Hid (MB W0 W0.heap.size (.cells #[.int .i64 s.axis, .int .i64 s.test, .string (strL s.name), .slice wa s.wher.length wn] 76) Q P1 P2 n led (mixR n k (frT hs led s.axis) (fun _ => 0)) (abvAll hs led (k + 1)) (wr.setCell ⟨P2, k, none⟩ (.int .i64 0))) := Lib.hid (by rw [hab]; exact HM.out.set2 k 0)
         have HVV : Hid (parV hs led k = 0) := Lib.hid hpv
         have t9 : hn'.par < 0 := by omega
         clear hab hpv hp
         go_wp2_with fail
         go_meet
         case rel => exact ⟨by rw [HVV.out], Lib.hid (HNX.out.below ((Below.refl _ _).alloc (Nat.le_refl _) _))⟩
        ·obtain ⟨y1, l0⟩ := HM.out.ts.at0 p (by omega)
         have y2 := HM.out.two.at p (by omega)
         have HNX : Hid (MB W0 W0.heap.size (.cells #[.int .i64 s.axis, .int .i64 s.test, .string (strL s.name), .slice wa s.wher.length wn] 76) Q P1 P2 n led (mixR n k (frT hs led s.axis) (fun _ => 0)) (abvAll hs led (k + 1)) ((wr.setCell ⟨P2, k, none⟩ (.int .i64 0)).setCell ⟨P2, k, none⟩ (.int .i64 (orL [(abvAll hs led k).getD p 0, led.getD p 0])))) := Lib.hid (by
          have := (HM.out.set2 k 0).set2 k (orL [(abvAll hs led k).getD p 0, led.getD p 0])
          rw [List.set_set] at this
          rw [hab]; exact this)
         have HVV : Hid (parV hs led k = led.getD p 0) := Lib.hid hpv
         have j1 : ¬ p = k := by omega
         have j2 : ¬ k = p := by omega
         have j3 : (0 : Int) ≤ (p : Int) := by omega
         have j4 : (p : Int) < (n : Int) := by omega
         clear hab hpv
         generalize led.getD p 0 = v1 at *
         generalize (abvAll hs led k).getD p 0 = v2 at *
         rw [hp]
         go_wp2_with fail
         (with_reducible refine (HOR2.out v2 v1 _ _ ?_).mono ?_)
         ·exact alloc_atH _ _ (by simp)
         rintro e w6 ⟨rfl, rfl⟩
         go_wp2_with fail
         go_meet
         case rel => exact ⟨by rw [HVV.out], Lib.hid (HNX.out.below (((Below.refl _ _).alloc (Nat.le_refl _) _).alloc (by simp) _))⟩
       case rest =>
        obtain ⟨rfl, HJ2⟩ := hcut
        have x0 : wc.cell? ⟨W0.heap.size, 0, none⟩ = some (.int .i64 s.axis) := by rw [cell_heap HJ2.out.one.box]; rfl
        have g1 := HJ2.out.one.at k hkn
        have f1 := HJ2.out.one.frozen k
        have l1 := (HJ2.out.one.own.lt P1 rfl).2
        have HNY : Hid (∀ v, v = frT hs led s.axis k → MB W0 W0.heap.size (.cells #[.int .i64 s.axis, .int .i64 s.test, .string (strL s.name), .slice wa s.wher.length wn] 76) Q P1 P2 n led (mixR n (k + 1) (frT hs led s.axis) (fun _ => 0)) (abvAll hs led (k + 1)) (wc.setCell ⟨P1, k, none⟩ (.int .i64 v))) := Lib.hid fun v hv => by
         have := HJ2.out.set1 k v
         rwa [mixR_set _ _ _ _ _ hv] at this
        have g2 := HJ2.out.two.at k hkn
        have g3 := (HJ2.out.ts.at0 k hkn).1
        have HPK := Lib.hid (HPD.out k hkn)
        generalize frT hs led s.axis k = fv at *
        generalize (mixR n k (frT hs led s.axis) (fun _ => 0)).getD k 0 = yy at g1
        generalize (abvAll hs led (k + 1)).getD k 0 = v2 at *
        generalize led.getD k 0 = v1 at *
        generalize parV hs led k = v3 at *
        clear e0 e1 e2 e3 e4 e5 e6 e7 e8 e9 e10 e11 e12 e13 z2 HPV HM
        by_cases a0 : s.axis = 0
        ·have HF : Hid (v3 = fv) := Lib.hid (by have := HPK.out; rw [if_pos a0] at this; exact this.symm)
         have t0 : ((s.axis : Int) == 0) = true := by simpa using a0
         clear a0 HPK
         go_wp2_with fail
         go_roundw
         case rel => exact ⟨k + 1, by go_num, by omega, Lib.hid (HNY.out v3 HF.out)⟩
         case measure => simp [intOf]; omega
        have t0 : ((s.axis : Int) == 0) = false := by simpa using a0
        by_cases a1 : s.axis = 1
        ·have HF : Hid (v2 = fv) := Lib.hid (by have := HPK.out; rw [if_neg a0, if_pos a1] at this; exact this.symm)
         have t1 : ((s.axis : Int) == 1) = true := by simpa using a1
         clear a0 a1 HPK
         go_wp2_with fail
         go_roundw
         case rel => exact ⟨k + 1, by go_num, by omega, Lib.hid (HNY.out v2 HF.out)⟩
         case measure => simp [intOf]; omega
        have t1 : ((s.axis : Int) == 1) = false := by simpa using a1
        by_cases a2 : s.axis = 2
        ·have HF : Hid (orL [v2, v1] = fv) := Lib.hid (by have := HPK.out; rw [if_neg a0, if_neg a1, if_pos a2] at this; exact this.symm)
         have t2 : ((s.axis : Int) == 2) = true := by simpa using a2
         clear a0 a1 a2 HPK
         go_wp2_with fail
         go_region_with (first | (go_at_call 49; (with_reducible refine (HORD.out v2 v1 _ _ (heap_alloc_new _ _)).mono ?_); rintro e w6 ⟨rfl, rfl⟩))
         all_goals
          go_wp2_with fail
          go_roundw
          case rel => exact ⟨k + 1, by go_num, by omega, Lib.hid ((HNY.out _ HF.out).below (((Below.refl _ _).alloc (Nat.le_refl _) _).drew))⟩
          case measure => simp [intOf]; omega
        have t2 : ((s.axis : Int) == 2) = false := by simpa using a2
        have HF : Hid (v1 = fv) := Lib.hid (by have := HPK.out; rw [if_neg a0, if_neg a1, if_neg a2] at this; exact this.symm)
        clear a0 a1 a2 HPK
        go_wp2_with fail
        go_roundw
        case rel => exact ⟨k + 1, by go_num, by omega, Lib.hid (HNY.out v1 HF.out)⟩
        case measure => simp [intOf]; omega
      ·have hk2 : n = k := by omega
       subst hk2
       have HT2 : Hid (TsAt wr (some ⟨P1, 0, none⟩) n (rowOf n (frT hs led s.axis))) := Lib.hid (by have := HM.out.one.ts; rwa [mixR_all] at this)
       have HM4 := Lib.hid (HMT.out _ _ wr HM.out.one.old HT2.out)
       have x0 : wr.cell? ⟨W0.heap.size, 0, none⟩ = some (.int .i64 s.axis) := by rw [cell_heap HM.out.one.box]; rfl
       have x1 : wr.cell? ⟨W0.heap.size, 1, none⟩ = some (.int .i64 s.test) := by rw [cell_heap HM.out.one.box]; rfl
       have x2 : wr.cell? ⟨W0.heap.size, 2, none⟩ = some (.string (strL s.name)) := by rw [cell_heap HM.out.one.box]; rfl
       have x3 : wr.cell? ⟨W0.heap.size, 3, none⟩ = some (.slice wa s.wher.length wn) := by rw [cell_heap HM.out.one.box]; rfl
       have HOB : Hid (Below w.heap.size w wr ∧ wr.heap[w.heap.size]? = some (.cells #[.slice (some ⟨b, o, none⟩) q pc] 25 (0, 0)) ∧ w.heap.size < wr.heap.size) := Lib.hid (by
        have h1 := HJ.out.2.1.trans (HM.out.one.old.mono hs1)
        have h2 := (Array.getElem?_eq_some_iff.1 HJ.out.2.2.1).1
        exact ⟨h1, (HM.out.one.old.block _ h2).trans HJ.out.2.2.1, Nat.lt_of_lt_of_le h2 HM.out.one.old.size⟩)
       clear HM hk hkn
       go_wp2_with fail
       (with_reducible refine HM4.out.mono ?_)
       rintro e w6 ⟨P6, rfl, hP6, hT6, hb6⟩
       have HX6 : Hid (w.heap.size ≤ P6 ∧ Below w.heap.size w w6 ∧ w6.heap[w.heap.size]? = some (.cells #[.slice (some ⟨b, o, none⟩) q pc] 25 (0, 0)) ∧ TsAt w6 (some ⟨P6, 0, none⟩) n (pathT (exprT hs f) hs ss (j + 1))) := Lib.hid ⟨by have := HOB.out.2.2; omega, HOB.out.1.trans (hb6.mono HOB.out.1.size), (hb6.block _ HOB.out.2.2).trans HOB.out.2.1, by rw [HPJ.out]; exact hT6⟩
       clear hP6 hT6 hb6 x0 x1 x2 x3
       go_wp2_with fail
       go_roundw
       case rel => exact ⟨j + 1, P6, rfl, by go_num, by omega, HX6⟩
       case measure => simp [intOf]; omega
    ·have hjq2 : j = q := by omega
     have HF : Hid (w.heap.size ≤ Q ∧ Below w.heap.size w W0 ∧ TsAt W0 (some ⟨Q, 0, none⟩) n R) := Lib.hid ⟨HJ.out.1, HJ.out.2.1, by have := HJ.out.2.2.2; rw [hjq2, HRR.out] at this; exact this⟩
     clear HJ
     go_wp2_with fail
     go_ret
     exact ⟨Q, rfl, HF.out.1, HF.out.2.2, HF.out.2.1⟩
end Go.Proofs.YtgjokdngbocehaaGreatDoor
