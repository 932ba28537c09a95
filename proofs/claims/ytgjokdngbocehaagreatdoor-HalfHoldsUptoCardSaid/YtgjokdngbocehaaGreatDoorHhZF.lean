/-
 HalfHolds, where what it reads is of bulk at most 1048576: for every such argument the law returns true, and it reads as before: the row's statement and its card. Condition: the bulk bound of the statement itself.
-/
import Derived.Test.YtgjokdngbocehaaGreatDoorHhZE
import Derived.Test.YtgjokdngbocehaaGreatDoorHhU
import Derived.Test.YtgjokdngbocehaaGreatDoorHhV
import Derived.Test.YtgjokdngbocehaaGreatDoorHhA
import Derived.Test.YtgjokdngbocehaaGreatDoorHhB
import Derived.Test.YtgjokdngbocehaaGreatDoorCards
import Derived.Test.YtgjokdngbocehaaGreatDoorTie
import Derived.Deep.DeepHandedRow
import Derived.Deep.DeepWitnessRowRef
import Derived.Lib.LaidTab
import Derived.JoinedCond
import Derived.SliceStrings
import Derived.Carry
import Derived.Test.YtgjokdngbocehaaGreatDoorHhH
import Derived.PinnedBridge
import Derived.Stop.LaidErr
import Derived.ChangeMaps5
namespace Go.Proofs.YtgjokdngbocehaaGreatDoor
open Go.RowKit
set_option maxRecDepth 100000 in
set_option maxHeartbeats 4000000 in
theorem holds15_any {f : Nat} (a : Option Addr) (n c : Nat) (evs : List Ev) (st : BegS) (v : Int) (x : PX) (cs : List Value) (w : World) (hE : BegQ w a n evs) (hst : begAll beg0 evs = some st) (h4 : n ≤ 400) (hx : XAt f w x cs) (hg : goodXB f x = true) (hv1 : -1 ≤ v) (hv2 : v + 1 < ((readN evs st).length : Int)) :
  Calls Tryz.prog 17 #[.slice a n c, .int .i64 v, .agg cs.toArray] w fun e w' => e = .returned (.int .i64 ((exprT (readN evs st) f x).getD (v + 1).toNat 0)) ∧ Below w.heap.size w w' := by
 obtain ⟨hlk, hlr⟩ := lk_of hst
 have hcap : ((readN evs st).length : Int) ≤ 1000 := by
  have h1 := (beg_hok hst).len
  have h2 : (readN evs st).length = (hAll evs.length evs evs.length).1.length := List.length_modify _ _ _
  have h3 := hE.at'.1
  omega
 obtain ⟨W0, hW0⟩ : ∃ W0, W0 = w.alloc (.cells cs.toArray 42) := ⟨_, rfl⟩
 have hb0 : Below w.heap.size w W0 := by rw [hW0]; exact (Below.refl _ _).alloc (Nat.le_refl _) _
 have hk0 : W0.heap[w.heap.size]? = some (.cells cs.toArray 42 (0, 0)) := by rw [hW0]; exact heap_alloc_new w _
 have hs0 : W0.heap.size = w.heap.size + 1 := by rw [hW0]; simp
 have HB0 := Lib.hid hb0
 have HOF : Hid (Calls Tryz.prog 33 #[.slice a n c] W0.drew fun e w' => ∃ an cn, e = .returned (.agg #[.slice an (rnAll beg0 [] evs).length cn, .bool (decide (evs ≠ [] ∧ st.opn = []))]) ∧ RbMem w' an evs (rnAll beg0 [] evs) ∧ Below W0.heap.size W0 w') := Lib.hid (by
  have hd : Below W0.heap.size W0 W0.drew := (Below.refl W0.heap.size W0).drew
  have := of15_any a n c evs st W0.drew ((hE.below hb0).at'.below hd) hst hE.le hE.sm
  exact this.mono fun e w' ⟨an, cn, g1, g2, g3⟩ => ⟨an, cn, g1, g2, hd.trans (g3.mono (Nat.le_refl _))⟩)
 have HEX : Hid (∀ W an cn, Below W0.heap.size W0 W → RbMem W an evs (rnAll beg0 [] evs) → Calls Tryz.prog 36 #[.agg #[.slice an (rnAll beg0 [] evs).length cn, .bool (decide (evs ≠ [] ∧ st.opn = []))], .agg cs.toArray] W fun e w' => ∃ P, e = .returned (.slice (some ⟨P, 0, none⟩) (readN evs st).length (readN evs st).length) ∧ W.heap.size ≤ P ∧ TsAt w' (some ⟨P, 0, none⟩) (readN evs st).length (exprT (readN evs st) f x) ∧ Below W.heap.size W w') := Lib.hid fun W an cn hW hm =>
  expr15_all hlk hlr f x cs W (rd_of hst hm hE.sm hE.wt (by rw [← hE.at'.1]; exact h4)) (XAt.turn (hb0.trans (hW.mono hb0.size)) (Nat.le_refl _) hx) hg
 obtain ⟨c0, c1, c2, c3, c4, c5, c6, rfl⟩ := hx.lenH
 have HKB : Hid (∀ W, Below W0.heap.size W0 W → W.heap[w.heap.size]? = some (.cells #[c0, c1, c2, c3, c4, c5, c6] 42 (0, 0))) := Lib.hid fun W hW => (hW.block _ (by omega)).trans hk0
 have HW0 := Lib.hid hW0
 obtain ⟨k, hk⟩ : ∃ k : Nat, v + 1 = (k : Int) := ⟨(v + 1).toNat, by omega⟩
 have hkt : (v + 1).toNat = k := by omega
 rw [hkt]
 obtain ⟨N, hN⟩ : ∃ N, (readN evs st).length = N := ⟨_, rfl⟩
 rw [hN] at hv2 hcap HEX
 have hkn : k < N := by omega
 have ewv : IntKind.i64.wrap (v + 1) = (k : Int) := by rw [IntWalk.i64_in _ (by omega)]; omega
 have i1 : (0 : Int) ≤ (k : Int) := by omega
 have i2 : (k : Int) < (N : Int) := by omega
 have hbx := HKB.out W0 (Below.refl _ _)
 have x0 : W0.cell? ⟨w.heap.size, 0, none⟩ = some c0 := by rw [cell_heap hbx]; rfl
 have x1 : W0.cell? ⟨w.heap.size, 1, none⟩ = some c1 := by rw [cell_heap hbx]; rfl
 have x2 : W0.cell? ⟨w.heap.size, 2, none⟩ = some c2 := by rw [cell_heap hbx]; rfl
 have x3 : W0.cell? ⟨w.heap.size, 3, none⟩ = some c3 := by rw [cell_heap hbx]; rfl
 have x4 : W0.cell? ⟨w.heap.size, 4, none⟩ = some c4 := by rw [cell_heap hbx]; rfl
 have x5 : W0.cell? ⟨w.heap.size, 5, none⟩ = some c5 := by rw [cell_heap hbx]; rfl
 have x6 : W0.cell? ⟨w.heap.size, 6, none⟩ = some c6 := by rw [cell_heap hbx]; rfl
 generalize (decide (evs ≠ [] ∧ st.opn = [])) = clo at *
 generalize exprT (readN evs st) f x = EX at *
 generalize rnAll beg0 [] evs = rs at *
 show Calls Tryz.prog 17 #[.slice a n c, .int .i64 v, .agg #[c0, c1, c2, c3, c4, c5, c6]] w _
 clear hW0 hb0 hk0 hs0 hE hst hx hg hlk hlr hbx hk hkt hN
 go_enter Tryz.func17, Tryz.ntmps17
 go_wp2_with fail
 rw [← HW0.out]
 go_region_with (first | (go_at_call 33; (with_reducible refine HOF.out.mono ?_); rintro e w2 ⟨an, cn, rfl, hm, hb2⟩; have HB2 := Lib.hid hb2; have HX2 := Lib.hid (HEX.out w2 an cn hb2 hm); have hb2x := HKB.out w2 hb2; have y0 : w2.cell? ⟨w.heap.size, 0, none⟩ = some c0 := (by rw [cell_heap hb2x]; rfl); have y1 : w2.cell? ⟨w.heap.size, 1, none⟩ = some c1 := (by rw [cell_heap hb2x]; rfl); have y2 : w2.cell? ⟨w.heap.size, 2, none⟩ = some c2 := (by rw [cell_heap hb2x]; rfl); have y3 : w2.cell? ⟨w.heap.size, 3, none⟩ = some c3 := (by rw [cell_heap hb2x]; rfl); have y4 : w2.cell? ⟨w.heap.size, 4, none⟩ = some c4 := (by rw [cell_heap hb2x]; rfl); have y5 : w2.cell? ⟨w.heap.size, 5, none⟩ = some c5 := (by rw [cell_heap hb2x]; rfl); have y6 : w2.cell? ⟨w.heap.size, 6, none⟩ = some c6 := (by rw [cell_heap hb2x]; rfl); clear hm hb2 hb2x) | (go_at_call 36; (with_reducible refine HX2.out.mono ?_); rintro e w3 ⟨P, rfl, hP, hT, hb3⟩; obtain ⟨z0, lz⟩ := hT.at0 k hkn; have HB3 := Lib.hid (HB2.out.trans (hb3.mono HB2.out.size)); clear hP hT hb3))
 all_goals
  go_wp2_with fail
  go_ret
  exact ⟨rfl, HB0.out.trans (HB3.out.mono HB0.out.size)⟩
end Go.Proofs.YtgjokdngbocehaaGreatDoor
namespace Go.Proofs.YtgjokdngbocehaaGreatDoor
open Go.RowKit
def cntT (evs : List Ev) (k : Nat) : Nat := ((evs.take k).filter fun e => decide (e.kind ≠ 2)).length
theorem cntT_succ (evs : List Ev) (k : Nat) (h : k < evs.length) : cntT evs (k + 1) = cntT evs k + if evs[k].kind = 2 then 0 else 1 := by
 unfold cntT
 rw [List.take_succ_eq_append_getElem h, List.filter_append, List.length_append]
 by_cases e : evs[k].kind = 2 <;> simp [e]
theorem cntT_le (evs : List Ev) (k : Nat) : cntT evs k ≤ k := by
 unfold cntT
 exact Nat.le_trans (List.length_filter_le _ _) (by rw [List.length_take]; exact Nat.min_le_left _ _)
theorem cnt_beg (l : List Ev) : ∀ s t : BegS, begAll s l = some t → t.next = s.next + ((l.filter fun e => decide (e.kind ≠ 2)).length : Int) := by
 induction l with
 | nil => intro s t h; have : s = t := Option.some.inj h; subst this; simp
 | cons e l ih =>
  intro s t h
  unfold begAll at h
  split at h
  ·rename_i hok
   have := ih _ _ h
   rw [this]
   by_cases h2 : e.kind = 2
   ·have h3 : (begNext s e).next = s.next := by unfold begNext; simp [h2]
    rw [h3, List.filter_cons_of_neg (by simp [h2])]
   ·have h3 : (begNext s e).next = s.next + 1 := by unfold begNext; simp [h2]
    rw [h3, List.filter_cons_of_pos (by simp [h2]), List.length_cons]
    omega
  ·cases h
theorem cnt_next {evs : List Ev} {st : BegS} (h : begAll beg0 evs = some st) : st.next = (cntT evs evs.length : Int) := by
 have := cnt_beg evs _ _ h
 unfold cntT
 rw [List.take_length, this]
 show (0 : Int) + _ = _
 omega
def frHH (v0 v1 : Value) (P3 : Nat) (g : Bool) (nd : Nat) (t : Array Value) : Array Value :=
 #[v0, v1, slotOfH t 2, .pointer (some ⟨P3, 0, none⟩), slotOfH t 4, .bool g, .int .i64 nd, slotOfH t 7, slotOfH t 8, slotOfH t 9, slotOfH t 10, slotOfH t 11, slotOfH t 12, slotOfH t 13, slotOfH t 14, slotOfH t 15, slotOfH t 16, slotOfH t 17, slotOfH t 18, slotOfH t 19, slotOfH t 20, slotOfH t 21, slotOfH t 22, slotOfH t 23, slotOfH t 24, slotOfH t 25, slotOfH t 26, slotOfH t 27, slotOfH t 28, slotOfH t 29, slotOfH t 30, slotOfH t 31, slotOfH t 32, slotOfH t 33, slotOfH t 34, slotOfH t 35, slotOfH t 36, slotOfH t 37, slotOfH t 38, slotOfH t 39, slotOfH t 40, slotOfH t 41, slotOfH t 42, slotOfH t 43, slotOfH t 44, slotOfH t 45, slotOfH t 46, slotOfH t 47, slotOfH t 48, slotOfH t 49, slotOfH t 50, slotOfH t 51, slotOfH t 52, slotOfH t 53, slotOfH t 54, slotOfH t 55, slotOfH t 56, slotOfH t 57, slotOfH t 58, slotOfH t 59, slotOfH t 60, slotOfH t 61, slotOfH t 62, slotOfH t 63, slotOfH t 64, slotOfH t 65, slotOfH t 66, slotOfH t 67, slotOfH t 68, slotOfH t 69, slotOfH t 70, slotOfH t 71, slotOfH t 72, slotOfH t 73, slotOfH t 74, slotOfH t 75, slotOfH t 76, slotOfH t 77, slotOfH t 78, slotOfH t 79, slotOfH t 80, slotOfH t 81, slotOfH t 82, slotOfH t 83, slotOfH t 84, slotOfH t 85, slotOfH t 86, slotOfH t 87, slotOfH t 88, slotOfH t 89]
set_option maxRecDepth 1000000 in
set_option maxHeartbeats 16000000 in
theorem halfHolds_of {f : Nat} (hf : f ≤ 1048576) (a : Option Addr) (n c : Nat) (evs : List Ev) (x : PX) (cs : List Value) (w : World) (hE : EnvT w) (hev : EvsAt w a n evs) (hw : wtEs evs ≤ 1048576) (hx : XAt f w x cs) :
  Calls Tryz.prog 4 #[.slice a n c, .agg cs.toArray] w fun e w' => e = .returned (.bool true) ∧ Below w.heap.size w w' := by
 have hn : n ≤ 1048576 := by have := wtEs_length evs; have := hev.1; omega
 obtain ⟨W0, hW0⟩ : ∃ W0, W0 = w.alloc (.cells cs.toArray 42) := ⟨_, rfl⟩
 have hb0 : Below w.heap.size w W0 := by rw [hW0]; exact (Below.refl w.heap.size w).alloc (Nat.le_refl _) _
 have hsz0 : W0.heap.size = w.heap.size + 1 := by rw [hW0]; simp
 have hk4 : W0.heap[w.heap.size]? = some (.cells cs.toArray 42 (0, 0)) := by rw [hW0]; exact heap_alloc_new w _
 have HKS : Hid (∀ W, Below W0.heap.size W0 W → W.heap[w.heap.size]? = some (.cells cs.toArray 42 (0, 0))) := Lib.hid fun W hW => (hW.block w.heap.size (by omega)).trans hk4
 have FIN : Hid (∀ W, Below W0.heap.size W0 W → Below w.heap.size w W) := Lib.hid fun W hW => hb0.trans (hW.mono hb0.size)
 have HAW := Lib.hid (awake15_any W0 (hE.below hb0))
 have HBQ : Hid (∀ W, Below W0.heap.size W0 W → BegQ W a n evs) := Lib.hid fun W hW => ⟨hev.below (FIN.out W hW), hn, evsSmH hw, hw, (hE.below (FIN.out W hW)).rng, (hE.below (FIN.out W hW)).tab⟩
 have HBG : Hid (∀ W, Below W0.heap.size W0 W → Calls Tryz.prog 11 #[.slice a n c] W fun e w' => e = .returned (.bool (begAll beg0 evs).isSome) ∧ Below W.heap.size W w') := Lib.hid fun W hW => begin15_any a n c evs W (hev.below (FIN.out W hW)) hn (evsSmH hw)
 have HAX : Hid (∀ W, Below W0.heap.size W0 W → Calls Tryz.prog 15 #[.agg cs.toArray] W fun e w' => ∃ G, e = .returned (.agg #[.slice (some ⟨G, 0, none⟩) 1 1]) ∧ SsAt f w' (some ⟨G, 0, none⟩) (askP [x]) ∧ Below W.heap.size W w') := Lib.hid fun W hW => asked15_any x cs W (XAt.turn (FIN.out W hW) (Nat.le_refl _) hx)
 have HLT : Hid (∀ W (F G : Nat) (z : PX), SsAt F W (some ⟨G, 0, none⟩) (askP [z]) → Calls Tryz.prog 9 #[.agg #[.slice (some ⟨G, 0, none⟩) 1 1]] W fun e w' => SomeB e ∧ Below W.heap.size W w') := Lib.hid fun W F G z h => light_any (some ⟨G, 0, none⟩) 1 (askP [z]) W h (Nat.le_of_ble_eq_true rfl)
 have HCK : Hid (∀ W (G : Nat), Below W0.heap.size W0 W → SsAt f W (some ⟨G, 0, none⟩) (askP [x]) → Calls Tryz.prog 12 #[.agg #[.slice (some ⟨G, 0, none⟩) 1 1]] W fun e w' => e = .returned (.int .i64 (checkN f (askP [x]))) ∧ Below W.heap.size W w') := Lib.hid fun W G hW h => check_any hf (some ⟨G, 0, none⟩) 1 (askP [x]) W (hE.below (FIN.out W hW)) h (Nat.le_of_ble_eq_true rfl)
 have HXX : Hid (∀ W, Below W0.heap.size W0 W → XAt f W x cs) := Lib.hid fun W hW => XAt.turn (FIN.out W hW) (Nat.le_refl _) hx
 have HEV : Hid (∀ k (hk : k < evs.length), ∃ b o, a = some ⟨b, o, none⟩ ∧ b < w.heap.size ∧ ∀ W, Below w.heap.size w W → W.cell? ⟨b, o + k * 8, none⟩ = some (.int .i64 evs[k].kind)) := Lib.hid fun k hk => by
  obtain ⟨b, o, A, m, c', e, hb, _, _, hc⟩ := hev.at8 k hk
  exact ⟨b, o, e, hb, fun W hW => (hc W hW).1⟩
 have HNL : Hid (n = evs.length) := Lib.hid hev.1
 have HHO : Hid (∀ (v : Int) (W : World), -2 ≤ v → v ≤ 1048576 → Below W0.heap.size W0 W → Calls Tryz.prog 16 #[.slice a n c, .int .i64 v, .agg cs.toArray] W fun e w' => e = .returned (.tuple #[.int .i64 (holdsN f evs v x).1, .int .i64 (holdsN f evs v x).2]) ∧ Below W.heap.size W w') := Lib.hid fun v W h1 h2 hW =>
  holdsH_any hf a n c evs v x cs W (HBQ.out W hW) (HXX.out W hW) ⟨by omega, by omega⟩
 have HW0E := Lib.hid hW0
 obtain ⟨x0, x1, x2, x3, x4, x5, x6, rfl⟩ := hx.lenH
 clear hW0 hb0 hsz0 hk4 hE hev hw hx
 show Calls Tryz.prog 4 #[.slice a n c, .agg #[x0, x1, x2, x3, x4, x5, x6]] w _
 obtain ⟨p0, p1, p2, p3, p4, p5, p6⟩ := box7H (HKS.out W0 (Below.refl _ _))
 go_enter Tryz.func4, Tryz.ntmps4
 go_wp2_with fail
 rw [← HW0E.out]
 (with_reducible refine HAW.out.mono ?_)
 rintro e w1 ⟨rfl, hb1⟩
 have HB1 := Lib.hid hb1
 clear hb1 p0 p1 p2 p3 p4 p5 p6
 obtain ⟨p0, p1, p2, p3, p4, p5, p6⟩ := box7H (HKS.out w1 HB1.out)
 by_cases hn120 : (120 : Int) < (n : Int)
 ·go_wp2_with fail
  go_ret
  exact ⟨rfl, FIN.out _ HB1.out⟩
 have hn120' : (n : Int) ≤ 120 := by omega
 have HA1 := Lib.hid (HAX.out w1 HB1.out)
 go_wp2_with fail
 (with_reducible refine HA1.out.mono ?_)
 rintro e w2 ⟨G2, rfl, hs, hb⟩
 have HB2 := Lib.hid (HB1.out.trans (hb.mono HB1.out.size))
 have HL2 := Lib.hid (HLT.out w2 _ G2 x hs)
 clear hs hb p0 p1 p2 p3 p4 p5 p6
 go_wp2_with fail
 (with_reducible refine HL2.out.mono ?_)
 rintro e w3 ⟨⟨b3, rfl⟩, hb⟩
 have HB3 := Lib.hid (HB2.out.trans (hb.mono HB2.out.size))
 have HBG3 := Lib.hid (HBG.out w3 HB3.out)
 clear hb
 cases b3 with
 | false =>
  go_wp2_with fail
  go_ret
  exact ⟨rfl, FIN.out _ HB3.out⟩
 | true =>
 go_wp2_with fail
 (with_reducible refine HBG3.out.mono ?_)
 rintro e w4 ⟨rfl, hb⟩
 have HB4 := Lib.hid (HB3.out.trans (hb.mono HB3.out.size))
 clear hb
 obtain ⟨p0, p1, p2, p3, p4, p5, p6⟩ := box7H (HKS.out w4 HB4.out)
 have HA4 := Lib.hid (HAX.out w4 HB4.out)
 cases hst : begAll beg0 evs with
 | none =>
  have HBAD : Hid (∀ v, holdsN f evs v x = (0, 6)) := Lib.hid fun v => by unfold holdsN; rw [hst]
  clear hst
  simp only [Option.isSome_none]
  have HB5 := HB4
  clear HB4
  go_wp2_with fail
  go_loopw [6, 7] (fun iv jv wr => ∃ k : Nat, iv = .int .i64 (cntT evs k : Nat) ∧ jv = .int .i64 k ∧ k ≤ n ∧ Hid (Below W0.heap.size W0 wr)) (fun _ jv _ => n - (intOf jv).toNat)
  case atStart => exact ⟨0, rfl, rfl, Nat.zero_le _, Lib.hid HB5.out⟩
  case round =>
   obtain ⟨k, rfl, rfl, hk, HJ⟩ := hrel
   have hck := cntT_le evs k
   by_cases hkn : k < n
   ·have hil : k < evs.length := by have := HNL.out; omega
    obtain ⟨b, o, rfl, hbl, hc⟩ := HEV.out k hil
    have e0 := hc wr (FIN.out wr HJ.out)
    have HS := Lib.hid (cntT_succ evs k hil)
    obtain ⟨cc, hcc⟩ : ∃ cc, cntT evs k = cc := ⟨_, rfl⟩
    rw [hcc] at HS hck
    rw [hcc]
    have i1 : (0 : Int) ≤ (k : Int) := by omega
    have i2 : (k : Int) < (n : Int) := by omega
    have ew1 : IntKind.i64.wrap ((k : Int) + 1) = (k : Int) + 1 := IntWalk.i64_in _ (by omega)
    have ew2 : IntKind.i64.wrap ((cc : Int) + 1) = (cc : Int) + 1 := IntWalk.i64_in _ (by omega)
    clear hc hcc
    generalize evs[k] = e at *
    by_cases h2 : e.kind = 2
    ·have HS2 : Hid (cntT evs (k + 1) = cc) := Lib.hid (by have := HS.out; rw [if_pos h2] at this; exact this)
     rw [h2] at e0
     clear HS h2
     go_wp2_with fail
     go_roundw
     case rel => exact ⟨k + 1, by rw [HS2.out], by go_num, by omega, Lib.hid HJ.out⟩
     case measure => simp [intOf]; omega
    ·have HS2 : Hid (cntT evs (k + 1) = cc + 1) := Lib.hid (by have := HS.out; rw [if_neg h2] at this; exact this)
     have t2 : ((e.kind : Int) == 2) = false := by simpa using h2
     have t2' : ((e.kind : Int) != 2) = true := by simp [h2]
     clear HS h2
     go_wp2_with fail
     go_roundw
     case rel => exact ⟨k + 1, by rw [HS2.out]; go_num, by go_num, by omega, Lib.hid HJ.out⟩
     case measure => simp [intOf]; omega
   ·have hk2 : k = evs.length := by have := HNL.out; omega
    have hk3 : (n : Int) ≤ (k : Int) := by omega
    obtain ⟨nd, hnd⟩ : ∃ nd, cntT evs k = nd := ⟨_, rfl⟩
    have HND : Hid (cntT evs evs.length = nd ∧ nd ≤ 120) := Lib.hid ⟨by rw [← hk2]; exact hnd, by omega⟩
    rw [hnd]
    obtain ⟨kv, hkv⟩ : ∃ kv : Int, (k : Int) = kv := ⟨_, rfl⟩
    rw [hkv] at hk3
    rw [hkv]
    clear hck hnd hk2 hkv hk hkn
    go_wp2_with fail
    refine wp_loop_ghost (fun kk a1 wr => ∃ (v : Int), slotOfH a1.tmps 8 = .int .i64 v ∧ -2 ≤ v ∧ v ≤ (nd : Int) + 1 ∧ kk = ((nd : Int) + 1 - v).toNat ∧ Hid (Below W0.heap.size W0 wr) ∧ a1 = { tmps := frHH (.slice a n c) (.agg #[x0, x1, x2, x3, x4, x5, x6]) w.heap.size false nd a1.tmps, defers := [] }) (nd + 3) ?atStart ?round
    case atStart => exact ⟨-2, rfl, Int.le_refl _, by omega, by omega, Lib.hid HJ.out, rfl⟩
    case round =>
     rintro mk ⟨t, dd⟩ wq ⟨v, h8, hv1, hv2, rfl, HQ, ha⟩
     obtain ⟨ha1, ha2⟩ := Act.mk.inj ha
     subst dd
     rw [ha1]
     clear ha ha1
     dsimp only [frHH] at h8 ⊢
     rw [h8]
     clear h8
     obtain ⟨p0, p1, p2, p3, p4, p5, p6⟩ := box7H (HKS.out wq HQ.out)
     have hnd120 := HND.out.2
     by_cases hvn : v ≤ (nd : Int)
     rotate_left
     ·have hvn' : (nd : Int) < v := by omega
      go_wp2_with fail
      go_ret
      exact ⟨rfl, FIN.out _ HQ.out⟩
     have ewv : IntKind.i64.wrap (v + 1) = v + 1 := IntWalk.i64_in _ (by omega)
     have HH := Lib.hid (HHO.out v wq hv1 (by omega) HQ.out)
     rw [HBAD.out v] at HH
     clear HBAD
     go_wp2_with fail
     (with_reducible refine HH.out.mono ?_)
     rintro e wh ⟨rfl, hb⟩
     have HQ2 := Lib.hid (HQ.out.trans (hb.mono HQ.out.size))
     clear hb
     go_wp2_with fail
     exact ⟨((nd : Int) + 1 - (v + 1)).toNat, by omega, v + 1, rfl, by omega, by omega, rfl, Lib.hid HQ2.out, rfl⟩
 | some st =>
  have HST := Lib.hid hst
  clear hst
  simp only [Option.isSome_some]
  go_wp2_with fail
  (with_reducible refine HA4.out.mono ?_)
  rintro e w5 ⟨G5, rfl, hs, hb⟩
  have HB5a := Lib.hid (HB4.out.trans (hb.mono HB4.out.size))
  have HC5 := Lib.hid (HCK.out w5 G5 HB5a.out hs)
  clear hs hb p0 p1 p2 p3 p4 p5 p6
  obtain ⟨cv, hcv⟩ : ∃ cv, checkN f (askP [x]) = cv := ⟨_, rfl⟩
  rw [hcv] at HC5
  have HCV := Lib.hid hcv
  clear hcv
  go_wp2_with fail
  (with_reducible refine HC5.out.mono ?_)
  rintro e w6 ⟨rfl, hb⟩
  have HB6 := Lib.hid (HB5a.out.trans (hb.mono HB5a.out.size))
  clear hb
  obtain ⟨gb, hgb⟩ : ∃ gb, ((cv : Int) == 0) = gb := ⟨_, rfl⟩
  have HBADC : Hid (gb = false → ∀ v, holdsN f evs v x = (0, 6)) := Lib.hid fun h v => by
   unfold holdsN
   rw [HST.out]
   simp only
   rw [if_pos (by rw [HCV.out]; rw [h] at hgb; simpa using hgb)]
  have HGOOD : Hid (gb = true → n ≤ 400 ∧ (∀ v, (v < -1 ∨ (cntT evs evs.length : Int) ≤ v) → holdsN f evs v x = (0, 2)) ∧ ∀ v, -1 ≤ v → v < (cntT evs evs.length : Int) → ∃ r, holdsN f evs v x = (r, 0) ∧ ∀ W, Below W0.heap.size W0 W → Calls Tryz.prog 17 #[.slice a n c, .int .i64 v, .agg #[x0, x1, x2, x3, x4, x5, x6]] W fun e w' => e = .returned (.int .i64 r) ∧ Below W.heap.size W w') := Lib.hid fun h => by
   rw [h] at hgb
   have hc0 : checkN f (askP [x]) = 0 := by rw [HCV.out]; simpa using hgb
   have hgx := (check_ask hc0 x List.mem_cons_self).1
   have hln := (readN_len HST.out).1
   have hcn := cnt_next HST.out
   refine ⟨by omega, fun v hv => ?_, fun v h1 h2 => ⟨(exprT (readN evs st) f x).getD (v + 1).toNat 0, ?_, fun W hW => ?_⟩⟩
   ·unfold holdsN
    rw [HST.out]
    simp only
    rw [if_neg (by rw [hc0]; decide), if_pos (by omega)]
   ·unfold holdsN
    rw [HST.out]
    simp only
    rw [if_neg (by rw [hc0]; decide), if_neg (by omega)]
   ·exact holds15_any a n c evs st v x [x0, x1, x2, x3, x4, x5, x6] W (HBQ.out W hW) HST.out (by omega) (HXX.out W hW) hgx h1 (by omega)
  have HB5 := HB6
  clear HB6
  go_wp2_with fail
  go_loopw [6, 7] (fun iv jv wr => ∃ k : Nat, iv = .int .i64 (cntT evs k : Nat) ∧ jv = .int .i64 k ∧ k ≤ n ∧ Hid (Below W0.heap.size W0 wr)) (fun _ jv _ => n - (intOf jv).toNat)
  case atStart => exact ⟨0, rfl, rfl, Nat.zero_le _, Lib.hid HB5.out⟩
  case round =>
   obtain ⟨k, rfl, rfl, hk, HJ⟩ := hrel
   have hck := cntT_le evs k
   by_cases hkn : k < n
   ·have hil : k < evs.length := by have := HNL.out; omega
    obtain ⟨b, o, rfl, hbl, hc⟩ := HEV.out k hil
    have e0 := hc wr (FIN.out wr HJ.out)
    have HS := Lib.hid (cntT_succ evs k hil)
    obtain ⟨cc, hcc⟩ : ∃ cc, cntT evs k = cc := ⟨_, rfl⟩
    rw [hcc] at HS hck
    rw [hcc]
    have i1 : (0 : Int) ≤ (k : Int) := by omega
    have i2 : (k : Int) < (n : Int) := by omega
    have ew1 : IntKind.i64.wrap ((k : Int) + 1) = (k : Int) + 1 := IntWalk.i64_in _ (by omega)
    have ew2 : IntKind.i64.wrap ((cc : Int) + 1) = (cc : Int) + 1 := IntWalk.i64_in _ (by omega)
    clear hc hcc
    generalize evs[k] = e at *
    by_cases h2 : e.kind = 2
    ·have HS2 : Hid (cntT evs (k + 1) = cc) := Lib.hid (by have := HS.out; rw [if_pos h2] at this; exact this)
     rw [h2] at e0
     clear HS h2
     go_wp2_with fail
     go_roundw
     case rel => exact ⟨k + 1, by rw [HS2.out], by go_num, by omega, Lib.hid HJ.out⟩
     case measure => simp [intOf]; omega
    ·have HS2 : Hid (cntT evs (k + 1) = cc + 1) := Lib.hid (by have := HS.out; rw [if_neg h2] at this; exact this)
     have t2 : ((e.kind : Int) == 2) = false := by simpa using h2
     have t2' : ((e.kind : Int) != 2) = true := by simp [h2]
     clear HS h2
     go_wp2_with fail
     go_roundw
     case rel => exact ⟨k + 1, by rw [HS2.out]; go_num, by go_num, by omega, Lib.hid HJ.out⟩
     case measure => simp [intOf]; omega
   ·have hk2 : k = evs.length := by have := HNL.out; omega
    have hk3 : (n : Int) ≤ (k : Int) := by omega
    obtain ⟨nd, hnd⟩ : ∃ nd, cntT evs k = nd := ⟨_, rfl⟩
    have HND : Hid (cntT evs evs.length = nd ∧ nd ≤ 120) := Lib.hid ⟨by rw [← hk2]; exact hnd, by omega⟩
    rw [hnd]
    obtain ⟨kv, hkv⟩ : ∃ kv : Int, (k : Int) = kv := ⟨_, rfl⟩
    rw [hkv] at hk3
    rw [hkv]
    clear hck hnd hk2 hkv hk hkn
    go_wp2_with fail
    refine wp_loop_ghost (fun kk a1 wr => ∃ (v : Int), slotOfH a1.tmps 8 = .int .i64 v ∧ -2 ≤ v ∧ v ≤ (nd : Int) + 1 ∧ kk = ((nd : Int) + 1 - v).toNat ∧ Hid (Below W0.heap.size W0 wr) ∧ a1 = { tmps := frHH (.slice a n c) (.agg #[x0, x1, x2, x3, x4, x5, x6]) w.heap.size gb nd a1.tmps, defers := [] }) (nd + 3) ?atStart ?round
    case atStart => exact ⟨-2, rfl, Int.le_refl _, by omega, by omega, Lib.hid HJ.out, rfl⟩
    case round =>
     rintro mk ⟨t, dd⟩ wq ⟨v, h8, hv1, hv2, rfl, HQ, ha⟩
     obtain ⟨ha1, ha2⟩ := Act.mk.inj ha
     subst dd
     rw [ha1]
     clear ha ha1
     dsimp only [frHH] at h8 ⊢
     rw [h8]
     clear h8
     obtain ⟨p0, p1, p2, p3, p4, p5, p6⟩ := box7H (HKS.out wq HQ.out)
     have hnd120 := HND.out.2
     by_cases hvn : v ≤ (nd : Int)
     rotate_left
     ·have hvn' : (nd : Int) < v := by omega
      go_wp2_with fail
      go_ret
      exact ⟨rfl, FIN.out _ HQ.out⟩
     have ewv : IntKind.i64.wrap (v + 1) = v + 1 := IntWalk.i64_in _ (by omega)
     have HH := Lib.hid (HHO.out v wq hv1 (by omega) HQ.out)
     cases gb with
     | false =>
      have HBAD : Hid (∀ v, holdsN f evs v x = (0, 6)) := Lib.hid fun v => HBADC.out rfl v
      rw [HBAD.out v] at HH
      clear HBAD
      go_wp2_with fail
      (with_reducible refine HH.out.mono ?_)
      rintro e wh ⟨rfl, hb⟩
      have HQ2 := Lib.hid (HQ.out.trans (hb.mono HQ.out.size))
      clear hb
      go_wp2_with fail
      exact ⟨((nd : Int) + 1 - (v + 1)).toNat, by omega, v + 1, rfl, by omega, by omega, rfl, Lib.hid HQ2.out, rfl⟩
     | true =>
      have HG := Lib.hid (HGOOD.out rfl)
      by_cases hlo : v < -1
      ·have hho : holdsN f evs v x = (0, 2) := HG.out.2.1 v (.inl hlo)
       rw [hho] at HH
       clear hho HG
       go_wp2_with fail
       (with_reducible refine HH.out.mono ?_)
       rintro e wh ⟨rfl, hb⟩
       have HQ2 := Lib.hid (HQ.out.trans (hb.mono HQ.out.size))
       clear hb
       go_wp2_with fail
       exact ⟨((nd : Int) + 1 - (v + 1)).toNat, by omega, v + 1, rfl, by omega, by omega, rfl, Lib.hid HQ2.out, rfl⟩
      ·have hlo' : -1 ≤ v := by omega
       by_cases hhi : v = (nd : Int)
       ·have hho : holdsN f evs v x = (0, 2) := HG.out.2.1 v (.inr (by rw [HND.out.1]; omega))
        rw [hho] at HH
        clear hho HG
        subst hhi
        go_wp2_with fail
        (with_reducible refine HH.out.mono ?_)
        rintro e wh ⟨rfl, hb⟩
        have HQ2 := Lib.hid (HQ.out.trans (hb.mono HQ.out.size))
        clear hb
        go_wp2_with fail
        exact ⟨((nd : Int) + 1 - ((nd : Int) + 1)).toNat, by omega, (nd : Int) + 1, rfl, by omega, by omega, rfl, Lib.hid HQ2.out, rfl⟩
       ·have hhi' : ((v : Int) == (nd : Int)) = false := by simpa using hhi
        obtain ⟨r, hr1, hr2⟩ := HG.out.2.2 v hlo' (by rw [HND.out.1]; omega)
        rw [hr1] at HH
        clear hr1 HG hhi
        go_wp2_with fail
        (with_reducible refine HH.out.mono ?_)
        rintro e wh ⟨rfl, hb⟩
        have HQ2 := Lib.hid (HQ.out.trans (hb.mono HQ.out.size))
        clear hb p0 p1 p2 p3 p4 p5 p6
        obtain ⟨p0, p1, p2, p3, p4, p5, p6⟩ := box7H (HKS.out wh HQ2.out)
        have HR2 := Lib.hid (hr2 wh HQ2.out)
        clear hr2
        go_wp2_with fail
        (with_reducible refine HR2.out.mono ?_)
        rintro e wi ⟨rfl, hb⟩
        have HQ3 := Lib.hid (HQ2.out.trans (hb.mono HQ2.out.size))
        clear hb
        go_wp2_with fail
        exact ⟨((nd : Int) + 1 - (v + 1)).toNat, by omega, v + 1, rfl, by omega, by omega, rfl, Lib.hid HQ3.out, rfl⟩
end Go.Proofs.YtgjokdngbocehaaGreatDoor
namespace Go.Proofs.YtgjokdngbocehaaGreatDoor
open Go.RowKit
section
variable {H : Type} {enc : TypeId × Value → H} {w : World} {base : Nat} {sp : Nat → Bool} {held : Bool}
theorem list_of {α : Type} (n : Nat) (P : Nat → α → Prop) (h : ∀ i, i < n → ∃ x, P i x) : ∃ l : List α, l.length = n ∧ ∀ i, (hi : i < l.length) → P i l[i] := by
 refine ⟨List.ofFn (n := n) fun i => Classical.choose (h i.1 i.2), by simp, fun i hi => ?_⟩
 have hi' : i < n := by simpa using hi
 rw [List.getElem_ofFn]
 exact Classical.choose_spec (h i hi')
theorem bulk_pos (d : DataW H) : 1 ≤ Rows.uptoBulk d := by
 cases d with
 | lit l => cases l <;> simp [Rows.uptoBulk]
 | _ => simp [Rows.uptoBulk]
theorem bulkAll_len (l : List (DataW H)) : l.length ≤ Rows.uptoBulkAll l := by
 induction l with
 | nil => simp
 | cons d l ih => have := bulk_pos d; simp only [Rows.uptoBulkAll, List.length_cons]; omega
theorem rows_open {α : Type} {P : World → α → List Value → Prop} {S E : TypeId} {k fuel : Nat} (hS : Tryz.prog.underlying S = some (.slice E)) (hE : Tryz.prog.cellsOf E = k) (hk : 0 < k) {cs : List Value} {x : DataW H × List MemPlace}
  (h : DataW.trod enc Tryz.prog w base sp held fuel S cs = some x) (hel : ∀ (m : Nat) (es : List Value) (y : DataW H × List MemPlace), DataW.trod enc Tryz.prog w base sp held m E es = some y → Rows.uptoBulk y.1 + 1 ≤ Rows.uptoBulk x.1 → ∃ z : α, P w z es) :
  ∃ a c, ∃ l : List α, cs = [.slice a l.length c] ∧ l.length ≤ c ∧ l.length ≤ Rows.uptoBulk x.1 ∧ RowP P k w a l := by
 obtain ⟨a, n, c, elems, rfl, hnc, hen, hor, hat⟩ := slice_read hS hE hk h
 have hle : ∀ i, (hi : i < elems.length) → Rows.uptoBulk elems[i].1 + 1 ≤ Rows.uptoBulk x.1 := fun i hi => by
  rcases hor with h0 | ⟨rest, h0⟩
  ·subst h0; simp at hi
  ·rw [h0]
   have := bulk_le (l := elems.map (·.1)) (i := i) (d := elems[i].1) (by rw [List.getElem?_map, List.getElem?_eq_getElem hi]; rfl)
   simp only [Rows.uptoBulk]; omega
 have hln : elems.length ≤ Rows.uptoBulk x.1 := by
  rcases hor with h0 | ⟨rest, h0⟩
  ·subst h0; simp
  ·rw [h0]
   have := bulkAll_len (elems.map (·.1))
   rw [List.length_map] at this
   simp only [Rows.uptoBulk]; omega
 obtain ⟨l, hl, hat2⟩ := list_of (α := α) elems.length (fun i z => ∃ b o ecs, a = some ⟨b, o, none⟩ ∧ b < w.heap.size ∧ ecs.length = k ∧ (∀ j, j < k → w.cell? ⟨b, o + i * k + j, none⟩ = ecs[j]?) ∧ P w z ecs) (fun i hi => by
  obtain ⟨b, o, m, ecs, h1, h2, h3, h4, h5⟩ := hat i hi
  obtain ⟨z, hz⟩ := hel m ecs _ h5 (hle i hi)
  exact ⟨z, b, o, ecs, h1, h2, h3, h4, hz⟩)
 subst hen
 refine ⟨a, c, l, by rw [hl], by omega, by omega, fun i hi => ?_⟩
 obtain ⟨b, o, ecs, h1, h2, h3, h4, h5⟩ := hat2 i hi
 exact ⟨b, o, ecs, h1, h2, h3, h4, h5⟩
theorem step_desc : ∃ f0 f1 f2 f3, Tryz.prog.underlying 76 = some (.struct #[f0, f1, f2, f3]) ∧ (f0.type = 73 ∧ f1.type = 74 ∧ f2.type = 9 ∧ f3.type = 39) ∧ (f0.offset = 0 ∧ f1.offset = 1 ∧ f2.offset = 2 ∧ f3.offset = 3) := by
 refine ⟨_, _, _, _, Tryz.underlying76, ⟨rfl, rfl, rfl, rfl⟩, ⟨rfl, rfl, rfl, rfl⟩⟩
theorem expr_desc : ∃ f0 f1 f2 f3 f4 f5 f6, Tryz.prog.underlying 42 = some (.struct #[f0, f1, f2, f3, f4, f5, f6]) ∧ (f0.type = 38 ∧ f1.type = 39 ∧ f2.type = 25 ∧ f3.type = 9 ∧ f4.type = 40 ∧ f5.type = 9 ∧ f6.type = 3) ∧
  (f0.offset = 0 ∧ f1.offset = 1 ∧ f2.offset = 2 ∧ f3.offset = 3 ∧ f4.offset = 4 ∧ f5.offset = 5 ∧ f6.offset = 6) := by
 refine ⟨_, _, _, _, _, _, _, Tryz.underlying42, ⟨rfl, rfl, rfl, rfl, rfl, rfl, rfl⟩, ⟨rfl, rfl, rfl, rfl, rfl, rfl, rfl⟩⟩
theorem path_desc : ∃ f0, Tryz.prog.underlying 25 = some (.struct #[f0]) ∧ f0.type = 23 ∧ f0.offset = 0 := by
 refine ⟨_, Tryz.underlying25, rfl, rfl⟩
theorem cellsAxis1 : Tryz.prog.cellsOf 73 = 1 := by kernel_rfl
theorem cellsTest1 : Tryz.prog.cellsOf 74 = 1 := by kernel_rfl
theorem cellsOp1 : Tryz.prog.cellsOf 38 = 1 := by kernel_rfl
theorem cellsCmp1 : Tryz.prog.cellsOf 40 = 1 := by kernel_rfl
theorem cellsExprs1 : Tryz.prog.cellsOf 39 = 1 := by kernel_rfl
theorem cellsSteps1 : Tryz.prog.cellsOf 23 = 1 := by kernel_rfl
theorem cellsPath1 : Tryz.prog.cellsOf 25 = 1 := by kernel_rfl
theorem cellsStep : Tryz.prog.cellsOf 76 = 4 := by kernel_rfl
theorem cellsExpr : Tryz.prog.cellsOf 42 = 7 := by kernel_rfl
theorem w64_of {n : Int} (h : (Lit.int .i64 n).wf = true) : W64 n := by
 simp [Lit.wf, IntKind.min, IntKind.max, IntKind.signed, IntKind.bits] at h
 unfold W64
 omega
set_option maxRecDepth 100000 in
set_option maxHeartbeats 1000000 in
theorem step_open {K fuel : Nat} (ih : ∀ (m : Nat) (es : List Value) (y : DataW H × List MemPlace), DataW.trod enc Tryz.prog w base sp held m 42 es = some y → Rows.uptoBulk y.1 ≤ K → ∃ z, XAt K w z es) {cs : List Value} {x : DataW H × List MemPlace}
  (h : DataW.trod enc Tryz.prog w base sp held fuel 76 cs = some x) (hK : Rows.uptoBulk x.1 ≤ K + 1) (hM : Rows.uptoBulk x.1 ≤ 1048576) : ∃ s, StepAt (XAt K) w s cs := by
 obtain ⟨f0, f1, f2, f3, hu, ⟨t0, t1, t2, t3⟩, ⟨o0, o1, o2, o3⟩⟩ := step_desc
 obtain ⟨xs, m, _, hx, hl, hxl, hat⟩ := DataW.trod_struct hu h
 have h0 := hat 0 f0 rfl
 have h1 := hat 1 f1 rfl
 have h2 := hat 2 f2 rfl
 have h3 := hat 3 f3 rfl
 clear hat
 rw [t0, o0, cellsAxis1] at h0
 rw [t1, o1, cellsTest1] at h1
 rw [t2, o2, cellsStr1] at h2
 rw [t3, o3, cellsExprs1] at h3
 rw [cellsStep] at hl
 have hxl4 : xs.length = 4 := hxl
 match xs, hxl4 with
 | [p0, p1, p2, p3], _ =>
  match cs, hl with
  | [c0, c1, c2, c3], _ =>
   rw [hx] at hK hM
   simp only [List.map_cons, List.map_nil, Rows.uptoBulk, Rows.uptoBulkAll] at hK hM
   obtain ⟨n0, e0, y0, w0⟩ := DataW.trod_int Tryz.underlying73 h0
   obtain ⟨n1, e1, y1, w1⟩ := DataW.trod_int Tryz.underlying74 h1
   obtain ⟨s2, e2, y2, _⟩ := DataW.trod_string Tryz.underlying9 h2
   have hp3 := h3
   simp only [List.getElem?_cons_succ, List.getElem?_cons_zero] at hp3
   obtain ⟨a, c, l, e3, hlc, hlb, hrow⟩ := rows_open (α := PX) (P := XAt K) Tryz.underlying39 cellsExpr (by decide) hp3 (fun m es y hy hb => ih m es y hy (by omega))
   simp at e0 e1 e2 e3 y0 y1 y2
   subst e0 e1 e2 e3 y0 y1 y2
   simp only [Rows.uptoBulk] at hK hM
   refine ⟨.mk n0 n1 s2.data.toList l, a, c, by simp [PS.axis, PS.test, PS.name, PS.wher, strL_of], hlc, w64_of w0, w64_of w1, ?_, ?_, hrow⟩
   ·show s2.data.toList.length ≤ _; omega
   ·show l.length ≤ _; omega
theorem path_open {K fuel : Nat} (ih : ∀ (m : Nat) (es : List Value) (y : DataW H × List MemPlace), DataW.trod enc Tryz.prog w base sp held m 42 es = some y → Rows.uptoBulk y.1 ≤ K → ∃ z, XAt K w z es) {cs : List Value} {x : DataW H × List MemPlace}
  (h : DataW.trod enc Tryz.prog w base sp held fuel 25 cs = some x) (hK : Rows.uptoBulk x.1 ≤ K + 2) (hM : Rows.uptoBulk x.1 ≤ 1048576) : ∃ a c, ∃ l : List PS, cs = [.slice a l.length c] ∧ l.length ≤ c ∧ l.length ≤ 1048576 ∧ SsAt K w a l := by
 obtain ⟨f0, hu, t0, o0⟩ := path_desc
 obtain ⟨xs, m, _, hx, hl, hxl, hat⟩ := DataW.trod_struct hu h
 have h0 := hat 0 f0 rfl
 clear hat
 rw [t0, o0, cellsSteps1] at h0
 rw [cellsPath1] at hl
 have hxl1 : xs.length = 1 := hxl
 match xs, hxl1 with
 | [p0], _ =>
  match cs, hl with
  | [c0], _ =>
   rw [hx] at hK hM
   simp only [List.map_cons, List.map_nil, Rows.uptoBulk, Rows.uptoBulkAll] at hK hM
   have hp0 := h0
   simp only [List.getElem?_cons_zero, List.drop_zero, List.take_succ_cons, List.take_zero] at hp0
   obtain ⟨a, c, l, e0, hlc, hlb, hrow⟩ := rows_open (α := PS) (P := StepAt (XAt K)) Tryz.underlying23 cellsStep (by decide) hp0 (fun m es y hy hb => step_open ih hy (by omega) (by omega))
   exact ⟨a, c, l, e0, hlc, by omega, hrow⟩
set_option maxRecDepth 100000 in
set_option maxHeartbeats 1000000 in
theorem expr_open : ∀ (K fuel : Nat) (cs : List Value) (x : DataW H × List MemPlace), DataW.trod enc Tryz.prog w base sp held fuel 42 cs = some x → Rows.uptoBulk x.1 ≤ K → K ≤ 1048576 → ∃ z, XAt K w z cs := by
 intro K
 induction K with
 | zero => intro fuel cs x _ h0 _; have := bulk_pos x.1; omega
 | succ K ih =>
  intro fuel cs x h hK hM
  obtain ⟨f0, f1, f2, f3, f4, f5, f6, hu, ⟨t0, t1, t2, t3, t4, t5, t6⟩, ⟨o0, o1, o2, o3, o4, o5, o6⟩⟩ := expr_desc
  obtain ⟨xs, m, _, hx, hl, hxl, hat⟩ := DataW.trod_struct hu h
  have h0 := hat 0 f0 rfl
  have h1 := hat 1 f1 rfl
  have h2 := hat 2 f2 rfl
  have h3 := hat 3 f3 rfl
  have h4 := hat 4 f4 rfl
  have h5 := hat 5 f5 rfl
  have h6 := hat 6 f6 rfl
  clear hat
  rw [t0, o0, cellsOp1] at h0
  rw [t1, o1, cellsExprs1] at h1
  rw [t2, o2, cellsPath1] at h2
  rw [t3, o3, cellsStr1] at h3
  rw [t4, o4, cellsCmp1] at h4
  rw [t5, o5, cellsStr1] at h5
  rw [t6, o6, cellsInt1] at h6
  rw [cellsExpr] at hl
  have hxl7 : xs.length = 7 := hxl
  match xs, hxl7 with
  | [p0, p1, p2, p3, p4, p5, p6], _ =>
   match cs, hl with
   | [c0, c1, c2, c3, c4, c5, c6], _ =>
    rw [hx] at hK
    simp only [List.map_cons, List.map_nil, Rows.uptoBulk, Rows.uptoBulkAll] at hK
    have ih' : ∀ (m : Nat) (es : List Value) (y : DataW H × List MemPlace), DataW.trod enc Tryz.prog w base sp held m 42 es = some y → Rows.uptoBulk y.1 ≤ K → ∃ z, XAt K w z es := fun m es y hy hb => ih m es y hy hb (by omega)
    obtain ⟨n0, e0, y0, w0⟩ := DataW.trod_int Tryz.underlying38 h0
    have hp1 := h1
    have hp2 := h2
    simp only [List.getElem?_cons_succ, List.getElem?_cons_zero] at hp1 hp2
    obtain ⟨a, c, l, e1, hlc, hlb, hrow⟩ := rows_open (α := PX) (P := XAt K) Tryz.underlying39 cellsExpr (by decide) hp1 (fun m es y hy hb => ih' m es y hy (by omega))
    obtain ⟨p, d, l2, e2, hlc2, hlb2, hrow2⟩ := path_open ih' hp2 (by omega) (by omega)
    obtain ⟨s3, e3, y3, _⟩ := DataW.trod_string Tryz.underlying9 h3
    obtain ⟨n4, e4, y4, w4⟩ := DataW.trod_int Tryz.underlying40 h4
    obtain ⟨s5, e5, y5, _⟩ := DataW.trod_string Tryz.underlying9 h5
    obtain ⟨n6, e6, y6, w6⟩ := DataW.trod_int Tryz.underlying3 h6
    simp at e0 e1 e2 e3 e4 e5 e6 y0 y3 y4 y5 y6
    subst e0 e1 e2 e3 e4 e5 e6 y0 y3 y4 y5 y6
    simp only [Rows.uptoBulk] at hK
    refine ⟨.mk n0 l l2 s3.data.toList n4 s5.data.toList n6, a, c, p, d, by simp [PX.op, PX.args, PX.path, PX.attr, PX.cmp, PX.text, PX.num, strL_of], hlc, hlc2, w64_of w0, w64_of w4, w64_of w6, ?_, ?_, ?_, ?_, hrow, hrow2⟩
    ·show s3.data.toList.length ≤ _; omega
    ·show s5.data.toList.length ≤ _; omega
    ·show l.length ≤ _; omega
    ·show l2.length ≤ _; omega
end
end Go.Proofs.YtgjokdngbocehaaGreatDoor
namespace Go.Proofs.YtgjokdngbocehaaGreatDoor
open Go.ChangeShapes Go.WideShapes Go.ChangeAt Go.RowKit
theorem own' : ownKnob Tryz.prog.godebug = none := by kernel_rfl
theorem laidOut : laidOutB Tryz.prog = true := by kernel_rfl
def flat' (l : List (Int × Int)) : Array Value := (l.flatMap fun p => [.int .i32 p.1, .int .i32 p.2]).toArray
theorem laid_same : (Rows.laid_gimlet_chars_ranges : DataW Unit) = rngData := by kernel_rfl
end Go.Proofs.YtgjokdngbocehaaGreatDoor
namespace Go.Proofs.YtgjokdngbocehaaGreatDoor
open Go.ChangeShapes Go.WideShapes Go.ChangeAt Go.RowKit
noncomputable def laidWorld3 (os : Os) : World :=
 let N := (World.settled Tryz.prog os).heap.size
 let w0 := World.holding Tryz.prog os ⟨#[.cells (flat' (rng 0)) 200, .cells (flat' (rng 1)) 200, .cells (flat' (rng 2)) 200, .cells (flat' (rng 3)) 200, .cells (flat' (rng 4)) 200, .cells (flat' (rng 5)) 200], #[], []⟩
 { w0 with heap := ((w0.heap.modify 2 fun
   | .cells _ t frozen => .cells #[.slice (some ⟨N, 0, none⟩) 5 5, .slice (some ⟨N + 1, 0, none⟩) 3 3, .slice (some ⟨N + 2, 0, none⟩) 15 15, .slice (some ⟨N + 3, 0, none⟩) 18 18, .slice (some ⟨N + 4, 0, none⟩) 1 1, .slice (some ⟨N + 5, 0, none⟩) 3 3] t frozen
   | o => o).modify 0 fun
   | .cells _ t frozen => .cells ((List.range 256).map fun b => Value.int .u8 (Lib.firstT b)).toArray t frozen
   | o => o).modify 1 fun
   | .cells _ t frozen => .cells ((List.range 16).flatMap fun i => [Value.int .u8 (Lib.accLo i), Value.int .u8 (Lib.accHi i)]).toArray t frozen
   | o => o }
set_option maxRecDepth 100000 in
theorem laid_met3 (os : Os) (args : Array Value) : laidMet Tryz.prog [("unicode/utf8.acceptRanges", Rows.laid_unicode_utf8_acceptRanges), ("gimlet/chars.ranges", Rows.laid_gimlet_chars_ranges), ("unicode/utf8.first", Rows.laid_unicode_utf8_first)] ((laidWorld3 os).forCall (fun _ _ => 0) ⟨#[], args, []⟩).memory :=
 laidMet_of_run' 8 (by kernel_rfl) (by kernel_rfl)
theorem acc_same : (Rows.laid_unicode_utf8_acceptRanges : DataW Unit) = Lib.acceptData := by kernel_rfl
theorem first_same : Rows.laid_unicode_utf8_first = Lib.firstData := Pinned.utf8First_eq
theorem u8extra : U8Extra Tryz.prog validRen := ⟨by kernel_rfl, by kernel_rfl, by kernel_rfl, by kernel_rfl, by kernel_rfl, by kernel_rfl, by kernel_rfl⟩
theorem at_laid3 {W : World} (hL : laidMet Tryz.prog [("unicode/utf8.acceptRanges", Rows.laid_unicode_utf8_acceptRanges), ("gimlet/chars.ranges", Rows.laid_gimlet_chars_ranges), ("unicode/utf8.first", Rows.laid_unicode_utf8_first)] W) : RangesAt W 2 ∧ Lib.Utf8Tabs 0 1 W := by
 refine ⟨?_, ?_⟩
 ·have h := hL.tail
  rw [laid_same] at h
  exact ranges_of_laid h
 ·rw [acc_same, first_same] at hL
  exact utf8Tabs_of_readsT u8types u8extra (Lib.laidMet.reads hL (.tail _ (.tail _ (.head _)))) (Lib.laidMet.reads hL (.head _))
end Go.Proofs.YtgjokdngbocehaaGreatDoor
namespace Go.Proofs.YtgjokdngbocehaaGreatDoor.halfHolds
open Go.ChangeShapes Go.WideShapes Go.ChangeAt Go.RowKit
open Go.ChangeMaps (open_string shut_string)
theorem at_laid {W : World} (hL : laidMetH Tryz.prog Rows.halfHoldsUptoRow.laid W) : RangesAt W 2 ∧ Lib.Utf8Tabs 0 1 W := at_laid3 hL
set_option maxRecDepth 100000 in
theorem contract (H : Type) (enc : TypeId × Value → H) (W : World) (base : Nat) (args : Array Value) (ds gs : List (DataW H)) (before : List MemPlace)
  (hval : ∀ (j : Nat) t v, Tryz.f4.params[j]? = some t → args[j]? = some v → Value.okWide Tryz.prog W .any base t v)
  (hW : DataW.Whole enc Tryz.prog Tryz.f4.params.toList Rows.halfHoldsSpec.vars false W args.toList ds gs before) (hk : Rows.uptoSmall H (ds ++ gs) = true) (hL : laidMetH Tryz.prog Rows.halfHoldsUptoRow.laid W) :
  Calls Tryz.prog 4 args W fun e W' => ∃ v, e = .returned v ∧ Rows.halfHoldsSpec.post enc Tryz.prog Tryz.f4 false true false false W args v W' := by
 have hW' := hW
 obtain ⟨p, q, hA0, hV, rfl, hfz, hnd⟩ := hW
 have hA : DataW.TrodAll enc Tryz.prog W 0 (fun _ => true) true Tryz.f4.params.toList args.toList ds p := hA0
 rw [Tryz.params4] at hA hval
 obtain ⟨v0, vs0, d0, ds0, p0, q0, hargs, rfl, rfl, h0, r0⟩ := trodAll_cons hA
 obtain ⟨v1, vs1, d1, ds1, p1, q1, rfl, rfl, rfl, h1, r1⟩ := trodAll_cons r0
 obtain ⟨rfl, rfl, rfl⟩ := trodAll_nil r1
 obtain rfl : args = #[v0, v1] := by cases args; simp_all
 obtain ⟨rfl, rfl⟩ := trodVars_none hV
 obtain ⟨a0, n0, c0, rfl⟩ := okWide_slice Tryz.underlying22 (hval 0 22 v0 rfl rfl)
 have hO0 : EvsAt W a0 n0 (evsOf d0) ∧ wtEs (evsOf d0) ≤ Rows.uptoBulk d0 := by
  obtain ⟨fuel, hf⟩ := h0
  obtain ⟨a9, n9, c9, hcs, hnc, hO, hw⟩ := evs_read hf
  simp [Value.cells] at hcs
  obtain ⟨rfl, rfl, rfl⟩ := hcs
  exact ⟨hO, hw⟩
 obtain ⟨ca1, rfl, hsz1⟩ := okWide_struct Tryz.underlying42 (hval 1 42 v1 rfl rfl)
 obtain ⟨cl1, rfl⟩ : ∃ l : List Value, ca1 = l.toArray := ⟨ca1.toList, by simp⟩
 have hO1 : Rows.uptoBulk d1 ≤ 1048576 → ∃ z : PX, XAt 1048576 W z cl1 := fun hbb => by
  obtain ⟨fuel, hf⟩ := h1
  exact expr_open 1048576 fuel _ _ hf hbb (Nat.le_refl _)
 clear hA0
 simp only [List.append_nil] at hW' hk
 have hb : Rows.uptoBulkAll [d0, d1] ≤ 1048576 := of_decide_eq_true hk
 simp only [Rows.uptoBulkAll] at hb
 have hbe0 : Rows.uptoBulk d0 ≤ 1048576 := by omega
 have hbe1 : Rows.uptoBulk d1 ≤ 1048576 := by omega
 have hlt0 : ∀ x ∈ p0, x.block < W.heap.size := fun x hx => hW'.lt x (by simp [hx])
 have hlt1 : ∀ x ∈ p1, x.block < W.heap.size := fun x hx => hW'.lt x (by simp [hx])
 obtain ⟨x1, hx1⟩ := hO1 hbe1
 obtain ⟨hev, hwt⟩ := hO0
 refine (halfHolds_of (f := 1048576) (by decide) a0 n0 c0 (evsOf d0) x1 cl1 W ⟨(at_laid hL).1, (at_laid hL).2⟩ hev (Nat.le_trans hwt hbe0) hx1).mono fun e W' ⟨he, bel⟩ => ?_
 subst he
 refine ⟨_, rfl, _, _, _, [], p0 ++ (p1 ++ []), [], hW', ?_, ?_, rfl, bel.frame _, fun h => by cases h⟩
 ·exact trodAll_cons_mk (shut_bool Tryz.underlying4 _) trodAll_mk0
 ·exact trodAll_cons_mk (Below.trod laidOut (by kernel_rfl) (of_decide_eq_true (by kernel_rfl)) h0 bel hlt0) (trodAll_cons_mk (Below.trod laidOut (by kernel_rfl) (of_decide_eq_true (by kernel_rfl)) h1 bel hlt1) trodAll_mk0)
theorem reads (os : Os) {H : Type} (enc : TypeId × Value → H) : ∃ places, DataW.whole enc Tryz.prog ((laidWorld3 os).forCall (fun _ _ => 0) ⟨#[], #[.slice none 0 0, .agg #[.int .i64 0, .slice none 0 0, .slice none 0 0, .string .empty, .int .i64 0, .string .empty, .int .i64 0]], []⟩).memory Tryz.f4.params.toList Rows.halfHoldsSpec.vars false (#[.slice none 0 0, .agg #[.int .i64 0, .slice none 0 0, .slice none 0 0, .string .empty, .int .i64 0, .string .empty, .int .i64 0]] : Array Value).toList 8 = some ([.nil, .agg [.lit (.int .i64 0), .nil, .agg [.nil], .lit (.string []), .lit (.int .i64 0), .lit (.string []), .lit (.int .i64 0)]], [], places) :=
 ⟨[], by kernel_rfl⟩
set_option maxRecDepth 100000 in
theorem lifted (os : Os) (started : os.Started) (H : Type) (enc : TypeId × Value → H) (F : Stop.Interp) :
  ReturnsInHanded {} Tryz.checked os 4 .any ((Rows.OpenSpec.upto Rows.halfHoldsSpec).preRow enc Tryz.prog Tryz.f4 Rows.halfHoldsUptoRow.domain false Rows.halfHoldsUptoRow.laid) (((Rows.OpenSpec.upto Rows.halfHoldsSpec).at F).post enc Tryz.prog Tryz.f4 false true false false) := by
 obtain ⟨places, hx⟩ := reads os enc
 refine returnsInHanded_of_row (C := Tryz.checked) (s := Rows.OpenSpec.upto Rows.halfHoldsSpec) own' started (by kernel_rfl) Tryz.func4
  (witness_row_atRef (enc := enc) (C := Tryz.checked) false (laidWorld3 os) #[.slice none 0 0, .agg #[.int .i64 0, .slice none 0 0, .slice none 0 0, .string .empty, .int .i64 0, .string .empty, .int .i64 0]] rfl (by kernel_rfl) (by kernel_rfl) (by kernel_rfl)
   (OpenSpec.preRow_of_cond 8 hx (by kernel_rfl) (fun k hk => by cases hk; kernel_rfl) (by kernel_rfl) (laid_met3 os _))) ?_
 intro W base args ds gs before hval hW _ hcond _ hL _ _
 exact contract H enc W base args ds gs before hval hW (hcond _ rfl) hL
theorem proved : Rows.HalfHoldsUptoSaid :=
 OpenClaim.holds_of_cond 4 Tryz.f4 rfl rfl rfl rfl rfl rfl rfl ⟨rfl, rfl, rfl, rfl, rfl⟩ rfl rfl rfl rfl rfl (by kernel_rfl) Tryz.func4 (by kernel_rfl)
  (of_decide_eq_true (by kernel_rfl)) (by unfold Func.isWrapper; first | (rw [if_pos (by decide +kernel)]; kernel_rfl) | (rw [if_neg (by decide +kernel)]; exact ⟨rfl, rfl⟩))
  (fun os started H enc _ F => by rw [OpenClaim.pre_eq_preRow]; exact lifted os started H enc F)
theorem plain (f : FuncId) (fn : Func) (hf : Tryz.pinned.checked.prog.funcNamed "gimlet/gimletlaw15.HalfHolds" = some f) (hfn : Tryz.pinned.checked.prog.funcs[f]? = some fn) :
  true = Tryz.pinned.checked.prog.looks [] ∧ ∀ (j : Nat) t, fn.params[j]? = some t → Tryz.pinned.checked.prog.wantsStandIn t = false := by
 obtain rfl : f = 4 := Option.some.inj ((show Tryz.prog.funcNamed "gimlet/gimletlaw15.HalfHolds" = some 4 by kernel_rfl).symm.trans hf) |>.symm
 obtain rfl : fn = Tryz.f4 := (Option.some.inj (Tryz.func4.symm.trans hfn)).symm
 refine ⟨by kernel_rfl, fun j t ht => ?_⟩
 rw [Tryz.params4] at ht
 have hm := Array.mem_of_getElem? ht
 obtain rfl | rfl : t = 22 ∨ t = 42 := by simpa using hm
 ·exact (show Tryz.prog.wantsStandIn 22 = false by kernel_rfl)
 ·exact (show Tryz.prog.wantsStandIn 42 = false by kernel_rfl)
theorem card : Rows.HalfHoldsUptoCardSaid :=
 Claim7.holds_tied_plain_at .later [] _ _ _ _ proved (fun _ h => by cases h) (by kernel_rfl) (fun _ h => by cases h) halfHoldsUpto_row_tie rfl ⟨rfl, rfl⟩ (by kernel_rfl) rfl plain (by kernel_rfl)
#print axioms card
end Go.Proofs.YtgjokdngbocehaaGreatDoor.halfHolds
