/-
  gimletref12.work, works, Heavy; gimletlaw12.light: it says something, whatever comes.
-/
import Derived.Test.YtekoflcioooncaaDoorMxZR
import Derived.Test.YtekoflcioooncaaDoorMxZO
import Derived.Test.YtekoflcioooncaaDoorMxZQ
namespace Go.Proofs.YtekoflcioooncaaDoor
open Go.RowKit

def SomeB (e : Ending) : Prop := ∃ b, e = .returned (.bool b)
def wkL (g : Int → List PX → Int) (m : Int) : Int → List PS → Int
  | n, [] => n
  | n, s :: r => if n ≤ 16777216 then (if 16777216 < IntKind.i64.wrap (1 + g m s.wher) then IntKind.i64.wrap (1 + g m s.wher) else wkL g m (IntKind.i64.wrap (n + IntKind.i64.wrap (m * IntKind.i64.wrap (1 + g m s.wher)))) r) else n
theorem wkL_stop {g : Int → List PX → Int} {m n : Int} (hn : 16777216 < n) (l : List PS) : wkL g m n l = n := by
  cases l with
  | nil => rfl
  | cons x r => exact if_neg (by omega)
theorem wkL_cons {g : Int → List PX → Int} {m n : Int} (hn : n ≤ 16777216) (s : PS) (r : List PS) : wkL g m n (s :: r) = if 16777216 < IntKind.i64.wrap (1 + g m s.wher) then IntKind.i64.wrap (1 + g m s.wher) else wkL g m (IntKind.i64.wrap (n + IntKind.i64.wrap (m * IntKind.i64.wrap (1 + g m s.wher)))) r := if_pos hn
def woS (g : Int → List PX → Int) (m : Int) (x : PX) (n : Int) : Int := IntKind.i64.wrap (n + IntKind.i64.wrap (IntKind.i64.wrap (1 + g m x.args) + wkL g m 0 x.path))
def woN : Nat → Int → List PX → Int
  | 0, _, _ => 0
  | f + 1, m, l => capL 16777216 (woS (woN f) m) 0 l

def WkX (f : Nat) : Prop := ∀ (a : Option Addr) (c : Nat) (ss : List PS) (m : Int) (W : World), SsAt f W a ss → ss.length ≤ 1048576 →
  Calls Tryd.prog 58 #[.slice a ss.length c, .int .i64 m] W fun e w' => e = .returned (.int .i64 (wkL (woN f) m 0 ss)) ∧ Below W.heap.size W w'
def WoX (f : Nat) : Prop := ∀ (a : Option Addr) (c : Nat) (l : List PX) (m : Int) (W : World), XsAt f W a l → l.length ≤ 1048576 →
  Calls Tryd.prog 78 #[.slice a l.length c, .int .i64 m] W fun e w' => e = .returned (.int .i64 (woN f m l)) ∧ Below W.heap.size W w'

set_option maxRecDepth 100000 in
set_option maxHeartbeats 4000000 in
theorem work_of {f : Nat} (HL : WoX f) : WkX f := fun a c ss m w hs hn => by
  have HS := Lib.hid hs
  have HLL := Lib.hid HL
  obtain ⟨R, hR⟩ : ∃ R, wkL (woN f) m 0 ss = R := ⟨_, rfl⟩
  rw [hR]
  have HR := Lib.hid hR
  clear hs HL hR
  obtain ⟨n, hm⟩ : ∃ n, ss.length = n := ⟨_, rfl⟩
  rw [hm] at hn ⊢
  have HM := Lib.hid hm
  clear hm
  go_enter Tryd.func58, Tryd.ntmps58
  go_wp2_with fail
  go_loopw [5, 6] (fun kv iv wr => ∃ (i : Nat) (r : Int), iv = .int .i64 i ∧ kv = .int .i64 r ∧ i ≤ n ∧ Hid (wkL (woN f) m r (ss.drop i) = R ∧ Below w.heap.size w wr)) (fun _ iv _ => n - (intOf iv).toNat)
  case atStart => exact ⟨0, 0, rfl, rfl, Nat.zero_le _, Lib.hid ⟨by rw [List.drop_zero]; exact HR.out, Below.refl _ _⟩⟩
  case round =>
    obtain ⟨i, r, rfl, rfl, hin, HB⟩ := hrel
    by_cases hi : i < n
    · have i1 : (0 : Int) ≤ (i : Int) := by omega
      have i2 : (i : Int) < (n : Int) := by omega
      have ewi : IntKind.i64.wrap ((i : Int) + 1) = (i : Int) + 1 := IntWalk.i64_in _ (by omega)
      by_cases hr : r ≤ 16777216
      · have hil : i < ss.length := by rw [HM.out]; exact hi
        obtain ⟨b, o, wa, wc, rfl, hb, hx, h4, h5, h6, h7, h8, hcs⟩ := HS.out.get i hil
        have HCS : Hid (∀ W, Below w.heap.size w W → W.cell? ⟨b, o + i * 4 + 3, none⟩ = some (.slice wa ss[i].wher.length wc)) := Lib.hid fun W hW => (hcs W hW).2.2.2
        have HRL : Hid (∀ W, Below w.heap.size w W → Calls Tryd.prog 78 #[.slice wa ss[i].wher.length wc, .int .i64 m] W fun e w' => e = .returned (.int .i64 (woN f m ss[i].wher)) ∧ Below W.heap.size W w') := Lib.hid fun W hW => HLL.out wa wc ss[i].wher m W (XsAt.below hx hW) h8
        have HNX : Hid ((if 16777216 < IntKind.i64.wrap (1 + woN f m ss[i].wher) then IntKind.i64.wrap (1 + woN f m ss[i].wher) else wkL (woN f) m (IntKind.i64.wrap (r + IntKind.i64.wrap (m * IntKind.i64.wrap (1 + woN f m ss[i].wher)))) (ss.drop (i + 1))) = R) := Lib.hid (by
          have := HB.out.1
          rw [List.drop_eq_getElem_cons hil, wkL_cons hr] at this
          exact this)
        clear hcs hx h4 h5 h6 h7 h8 hb
        obtain ⟨z, hz⟩ : ∃ z, woN f m ss[i].wher = z := ⟨_, rfl⟩
        rw [hz] at HRL HNX
        clear hz
        generalize ss[i].wher.length = wn at *
        have c3 := HCS.out _ HB.out.2
        obtain ⟨k, hk⟩ : ∃ k, IntKind.i64.wrap (1 + z) = k := ⟨_, rfl⟩
        rw [hk] at HNX
        go_wp2_with fail
        (with_reducible refine (HRL.out _ HB.out.2).mono ?_)
        rintro e w2 ⟨rfl, hb2⟩
        have HB2 := Lib.hid (HB.out.2.trans (hb2.mono HB.out.2.size))
        clear hb2
        by_cases hkk : 16777216 < k
        · rw [if_pos hkk] at HNX
          go_wp2_with fail
          go_ret
          exact ⟨ret_int HNX.out, HB2.out⟩
        · rw [if_neg hkk] at HNX
          have hk2 : k ≤ 16777216 := by omega
          clear hkk
          go_wp2_with fail
          go_roundw
          case rel => exact ⟨i + 1, _, by go_num, rfl, by omega, Lib.hid ⟨(by simp only [w64_eq]; exact HNX.out), HB2.out⟩⟩
          case measure => simp [intOf]; omega
      · have hr' : 16777216 < r := by omega
        have HE : Hid (r = R) := Lib.hid (by rw [← HB.out.1, wkL_stop hr'])
        go_wp2_with fail
        go_ret
        exact ⟨ret_int HE.out, HB.out.2⟩
    · have i4 : (n : Int) ≤ (i : Int) := by omega
      have HE : Hid (r = R) := Lib.hid (by rw [← HB.out.1, List.drop_of_length_le (by rw [HM.out]; omega)]; rfl)
      go_wp2_with fail
      go_ret
      exact ⟨ret_int HE.out, HB.out.2⟩
set_option maxRecDepth 100000 in
set_option maxHeartbeats 4000000 in
theorem works_of {f : Nat} (HL : WoX f) (HW : WkX f) : WoX (f + 1) := fun a c l m w hs hn => by
  have HS := Lib.hid hs
  have HLL := Lib.hid HL
  have HWW := Lib.hid HW
  obtain ⟨R, hR⟩ : ∃ R, woN (f + 1) m l = R := ⟨_, rfl⟩
  rw [hR]
  have hR' : capL 16777216 (woS (woN f) m) 0 l = R := hR
  have HR := Lib.hid hR'
  clear hs HL HW hR hR'
  obtain ⟨n, hm⟩ : ∃ n, l.length = n := ⟨_, rfl⟩
  rw [hm] at hn ⊢
  have HM := Lib.hid hm
  clear hm
  go_enter Tryd.func78, Tryd.ntmps78
  go_wp2_with fail
  go_loopw [5, 6] (fun kv iv wr => ∃ (i : Nat) (r : Int), iv = .int .i64 i ∧ kv = .int .i64 r ∧ i ≤ n ∧ Hid (capL 16777216 (woS (woN f) m) r (l.drop i) = R ∧ Below w.heap.size w wr)) (fun _ iv _ => n - (intOf iv).toNat)
  case atStart => exact ⟨0, 0, rfl, rfl, Nat.zero_le _, Lib.hid ⟨by rw [List.drop_zero]; exact HR.out, Below.refl _ _⟩⟩
  case round =>
    obtain ⟨i, r, rfl, rfl, hin, HB⟩ := hrel
    by_cases hi : i < n
    · have i1 : (0 : Int) ≤ (i : Int) := by omega
      have i2 : (i : Int) < (n : Int) := by omega
      have ewi : IntKind.i64.wrap ((i : Int) + 1) = (i : Int) + 1 := IntWalk.i64_in _ (by omega)
      by_cases hr : r ≤ 16777216
      · have hil : i < l.length := by rw [HM.out]; exact hi
        obtain ⟨b, o, xa, xc, xp, xd, rfl, hb, hxa, hxp, h4, h5, h6, h7, h8, h9, h10, h11, h12, hcs⟩ := HS.out.get i hil
        have HCS : Hid (∀ W, Below w.heap.size w W → W.cell? ⟨b, o + i * 7 + 1, none⟩ = some (.slice xa l[i].args.length xc) ∧ W.cell? ⟨b, o + i * 7 + 2, none⟩ = some (.slice xp l[i].path.length xd) ∧ Below w.heap.size w W) := Lib.hid fun W hW => ⟨(hcs W hW).2.1, (hcs W hW).2.2.1, hW⟩
        have HRL2 : Hid (∀ W, Below w.heap.size w W → Calls Tryd.prog 78 #[.slice xa l[i].args.length xc, .int .i64 m] W fun e w' => e = .returned (.int .i64 (woN f m l[i].args)) ∧ Below w.heap.size w w') := Lib.hid fun W hW => (HLL.out xa xc l[i].args m W (XsAt.below hxa hW) h11).mono fun e w' ⟨h1, h2⟩ => ⟨h1, hW.trans (h2.mono hW.size)⟩
        have HRX2 : Hid (∀ W, Below w.heap.size w W → Calls Tryd.prog 58 #[.slice xp l[i].path.length xd, .int .i64 m] W fun e w' => e = .returned (.int .i64 (wkL (woN f) m 0 l[i].path)) ∧ Below w.heap.size w w') := Lib.hid fun W hW => (HWW.out xp xd l[i].path m W (SsAt.below hxp hW) h12).mono fun e w' ⟨h1, h2⟩ => ⟨h1, hW.trans (h2.mono hW.size)⟩
        have HNX : Hid (capL 16777216 (woS (woN f) m) (IntKind.i64.wrap (r + IntKind.i64.wrap (IntKind.i64.wrap (1 + woN f m l[i].args) + wkL (woN f) m 0 l[i].path))) (l.drop (i + 1)) = R) := Lib.hid (by
          have := HB.out.1
          rw [List.drop_eq_getElem_cons hil, capL_cons hr] at this
          exact this)
        clear hcs hxa hxp h4 h5 h6 h7 h8 h9 h10 h11 h12 hb
        generalize woN f m l[i].args = z1 at *
        generalize wkL (woN f) m 0 l[i].path = z2 at *
        generalize l[i].args.length = xl at *
        generalize l[i].path.length = pl at *
        have HBD := Lib.hid (HB.out.2.drew)
        have hbd := HBD.out
        obtain ⟨c1, c2, _⟩ := HCS.out _ hbd
        go_wp2_with fail
        go_region_held3 (fun w' => w'.cell? ⟨b, o + i * 7 + 1, none⟩ = some (.slice xa xl xc) ∧ w'.cell? ⟨b, o + i * 7 + 2, none⟩ = some (.slice xp pl xd) ∧ Below w.heap.size w w') (first | exact HCS.out _ hbd | exact HCS.out _ ‹_›) (first | (go_at_call 78; (with_reducible refine (HRL2.out _ ‹_›).mono ?_); rintro e w5 ⟨rfl, hb5⟩) | (go_at_call 58; (with_reducible refine (HRX2.out _ ‹_›).mono ?_); rintro e w7 ⟨rfl, hb7⟩))
        have HB8 := Lib.hid hb7
        clear hb5 hb7
        go_wp2_with fail
        go_roundw
        case rel => exact ⟨i + 1, _, by go_num, rfl, by omega, Lib.hid ⟨HNX.out, HB8.out⟩⟩
        case measure => simp [intOf]; omega
      · have hr' : 16777216 < r := by omega
        have HE : Hid (r = R) := Lib.hid (by rw [← HB.out.1, capL_stop hr'])
        go_wp2_with fail
        go_ret
        exact ⟨ret_int HE.out, HB.out.2⟩
    · have i4 : (n : Int) ≤ (i : Int) := by omega
      have HE : Hid (r = R) := Lib.hid (by rw [← HB.out.1, List.drop_of_length_le (by rw [HM.out]; omega)]; rfl)
      go_wp2_with fail
      go_ret
      exact ⟨ret_int HE.out, HB.out.2⟩
set_option maxRecDepth 100000 in
set_option maxHeartbeats 4000000 in
theorem works_zero : WoX 0 := fun a c l m w hs hn => by
  obtain rfl : l = [] := XsAt.zero hs
  rw [show ([] : List PX).length = 0 from rfl, show woN 0 m [] = 0 from rfl]
  clear hs hn
  go_enter Tryd.func78, Tryd.ntmps78
  go_wp2_with fail
  go_loopw [5, 6] (fun kv iv wr => iv = .int .i64 0 ∧ kv = .int .i64 0 ∧ Hid (Below w.heap.size w wr)) (fun _ _ _ => 0)
  case atStart => exact ⟨rfl, rfl, Lib.hid (Below.refl _ _)⟩
  case round =>
    obtain ⟨rfl, rfl, HB⟩ := hrel
    go_wp2_with fail
    go_ret
    exact ⟨rfl, HB.out⟩
theorem works_all : ∀ f, WoX f
  | 0 => works_zero
  | f + 1 => works_of (works_all f) (work_of (works_all f))
theorem work_all (f : Nat) : WkX f := work_of (works_all f)
set_option maxRecDepth 100000 in
set_option maxHeartbeats 4000000 in
theorem heavy_any {f : Nat} (a : Option Addr) (c : Nat) (ss : List PS) (w : World) (hs : SsAt f w a ss) (hn : ss.length ≤ 1048576) :
    Calls Tryd.prog 31 #[.agg #[.slice a ss.length c], .int .i64 60] w fun e w' => SomeB e ∧ Below w.heap.size w w' := by
  have hb0 : Below w.heap.size w (w.alloc (.cells #[.slice a ss.length c] 25)) := (Below.refl _ _).alloc (Nat.le_refl _) _
  have HB0 := Lib.hid hb0
  have HR := Lib.hid (work_all f a c ss 61 _ (SsAt.below hs hb0) hn)
  clear hs hb0
  generalize ss.length = n at *
  generalize wkL (woN f) 61 0 ss = z at *
  go_enter Tryd.func31, Tryd.ntmps31
  go_wp2_with fail
  (with_reducible refine HR.out.mono ?_)
  rintro e w2 ⟨rfl, hb2⟩
  have HB2 := Lib.hid (HB0.out.trans (hb2.mono HB0.out.size))
  clear hb2
  go_wp2_with fail
  go_ret
  exact ⟨⟨_, rfl⟩, HB2.out⟩
set_option maxRecDepth 100000 in
set_option maxHeartbeats 4000000 in
theorem light_any {f : Nat} (a : Option Addr) (c : Nat) (ss : List PS) (w : World) (hs : SsAt f w a ss) (hn : ss.length ≤ 1048576) :
    Calls Tryd.prog 11 #[.agg #[.slice a ss.length c]] w fun e w' => SomeB e ∧ Below w.heap.size w w' := by
  obtain ⟨W0, hW0⟩ : ∃ W0, W0 = w.alloc (.cells #[.slice a ss.length c] 25) := ⟨_, rfl⟩
  have hb0 : Below w.heap.size w W0 := by rw [hW0]; exact (Below.refl _ _).alloc (Nat.le_refl _) _
  have hk5 : W0.heap[w.heap.size]? = some (.cells #[.slice a ss.length c] 25 (0, 0)) := by rw [hW0]; exact heap_alloc_new w _
  have hsz0 : W0.heap.size = w.heap.size + 1 := by rw [hW0]; simp
  have HKS : Hid (∀ W, Below W0.heap.size W0 W → W.cell? ⟨w.heap.size, 0, none⟩ = some (.slice a ss.length c)) := Lib.hid fun W hW => by
    rw [cell_heap ((hW.block w.heap.size (by omega)).trans hk5)]; rfl
  have HB0 := Lib.hid hb0
  have HR := Lib.hid (weight_all f a c ss 0 _ (SsAt.below hs hb0) hn)
  have HV : Hid (∀ W, Below W0.heap.size W0 W → Calls Tryd.prog 31 #[.agg #[.slice a ss.length c], .int .i64 60] W fun e w' => SomeB e ∧ Below W.heap.size W w') := Lib.hid fun W hW => heavy_any a c ss W (SsAt.below hs (hb0.trans (hW.mono hb0.size))) hn
  have HW0E := Lib.hid hW0
  clear hs hb0 hW0 hk5 hsz0
  generalize ss.length = n at *
  generalize wtN (exN f) 0 ss = z at *
  go_enter Tryd.func11, Tryd.ntmps11
  go_wp2_with fail
  rw [← HW0E.out]
  have c0 := HKS.out W0 (Below.refl _ _)
  by_cases hz : z ≤ 60
  · go_wp2_with fail
    (with_reducible refine HR.out.mono ?_)
    rintro e w2 ⟨rfl, hb2⟩
    have c1 := HKS.out w2 hb2
    have HHV := Lib.hid (HV.out w2 hb2)
    have HB2 := Lib.hid (HB0.out.trans (hb2.mono HB0.out.size))
    clear hb2
    go_wp2_with fail
    (with_reducible refine HHV.out.mono ?_)
    rintro e w3 ⟨⟨b, rfl⟩, hb3⟩
    have HB3 := Lib.hid (HB2.out.trans (hb3.mono HB2.out.size))
    clear hb3
    go_wp2_with fail
    go_ret
    exact ⟨⟨_, rfl⟩, HB3.out⟩
  · have hz' : 60 < z := by omega
    go_wp2_with fail
    (with_reducible refine HR.out.mono ?_)
    rintro e w2 ⟨rfl, hb2⟩
    have HB2 := Lib.hid (HB0.out.trans (hb2.mono HB0.out.size))
    clear hb2
    go_wp2_with fail
    go_ret
    exact ⟨⟨_, rfl⟩, HB2.out⟩
end Go.Proofs.YtekoflcioooncaaDoor

namespace Go.Proofs.YtekoflcioooncaaDoor
open Go.RowKit

def frHl (a : Option Addr) (n c : Nat) (v1 : Value) (P3 tb : Nat) (an : Option Addr) (N cn : Nat) (good : Bool) (t : Array Value) : Array Value :=
  #[.slice a n c, v1, slotOf t 2, .pointer (some ⟨P3, 0, none⟩), slotOf t 4, .pointer (some ⟨tb, 0, none⟩), slotOf t 6, .slice an N cn, .bool good, slotOf t 9, slotOf t 10, slotOf t 11, slotOf t 12, slotOf t 13, slotOf t 14, slotOf t 15, slotOf t 16, slotOf t 17, slotOf t 18, slotOf t 19, slotOf t 20, slotOf t 21, slotOf t 22, slotOf t 23, slotOf t 24, slotOf t 25, slotOf t 26, slotOf t 27, slotOf t 28, slotOf t 29, slotOf t 30, slotOf t 31, slotOf t 32, slotOf t 33, slotOf t 34, slotOf t 35, slotOf t 36, slotOf t 37, slotOf t 38, slotOf t 39, slotOf t 40, slotOf t 41, slotOf t 42, slotOf t 43, slotOf t 44, slotOf t 45, slotOf t 46, slotOf t 47, slotOf t 48, slotOf t 49, slotOf t 50, slotOf t 51, slotOf t 52, slotOf t 53, slotOf t 54, slotOf t 55, slotOf t 56, slotOf t 57, slotOf t 58, slotOf t 59, slotOf t 60, slotOf t 61, slotOf t 62, slotOf t 63, slotOf t 64, slotOf t 65, slotOf t 66, slotOf t 67, slotOf t 68, slotOf t 69, slotOf t 70, slotOf t 71, slotOf t 72, slotOf t 73, slotOf t 74, slotOf t 75, slotOf t 76, slotOf t 77, slotOf t 78, slotOf t 79, slotOf t 80, slotOf t 81, slotOf t 82, slotOf t 83]

set_option maxRecDepth 1000000 in
set_option maxHeartbeats 8000000 in
theorem meanHolds_of {f : Nat} (hf : f ≤ 1048576) (a : Option Addr) (n c : Nat) (evs : List Ev) (x : PX) (cs : List Value) (w : World) (hE : EnvT w) (hev : EvsAt w a n evs) (hw : wtEs evs ≤ 1048576) (hx : XAt f w x cs) :
    Calls Tryd.prog 6 #[.slice a n c, .agg cs.toArray] w fun e w' => e = .returned (.bool true) ∧ Below w.heap.size w w' := by
  have hn : n ≤ 1048576 := by have := wtEs_length evs; have := hev.1; omega
  obtain ⟨W0, hW0⟩ : ∃ W0, W0 = w.alloc (.cells cs.toArray 61) := ⟨_, rfl⟩
  have hb0 : Below w.heap.size w W0 := by rw [hW0]; exact (Below.refl w.heap.size w).alloc (Nat.le_refl _) _
  have hsz0 : W0.heap.size = w.heap.size + 1 := by rw [hW0]; simp
  have hk4 : W0.heap[w.heap.size]? = some (.cells cs.toArray 61 (0, 0)) := by rw [hW0]; exact heap_alloc_new w _
  have HKS : Hid (∀ W, Below W0.heap.size W0 W → W.heap[w.heap.size]? = some (.cells cs.toArray 61 (0, 0))) := Lib.hid fun W hW => (hW.block w.heap.size (by omega)).trans hk4
  have FIN : Hid (∀ W, Below W0.heap.size W0 W → Below w.heap.size w W) := Lib.hid fun W hW => hb0.trans (hW.mono hb0.size)
  have HAW := Lib.hid (awake12_any steps_all W0 (hE.below hb0))
  have HBD : Hid (∀ W, Below W0.heap.size W0 W → Calls Tryd.prog 10 #[.slice a n c] W fun e w' => ((wholeB evs = true ∧ ∃ tb, e = .returned (.tuple #[.pointer (some ⟨tb, 0, none⟩), .int .i64 0]) ∧ TreeAt w' W.heap.size tb evs) ∨ (wholeB evs = false ∧ e = .returned (.tuple #[.pointer none, .int .i64 6]))) ∧ Below W.heap.size W w') := Lib.hid fun W hW =>
    treeBuild_any a n c evs W (hev.below (FIN.out W hW)) hn (evsSm hw) (hE.below (FIN.out W hW)).rng (hE.below (FIN.out W hW)).tab
  have HEV : Hid (∀ W, Below W0.heap.size W0 W → EvsAt W a n evs) := Lib.hid fun W hW => hev.below (FIN.out W hW)
  have HAX : Hid (∀ W, Below W0.heap.size W0 W → Calls Tryd.prog 23 #[.agg cs.toArray] W fun e w' => ∃ G, e = .returned (.agg #[.slice (some ⟨G, 0, none⟩) 1 1]) ∧ SsAt f w' (some ⟨G, 0, none⟩) (askP [x]) ∧ Below W.heap.size W w') := Lib.hid fun W hW => asked12_any x cs W (XAt.turn (FIN.out W hW) (Nat.le_refl _) hx)
  have HLT : Hid (∀ W (G : Nat), SsAt f W (some ⟨G, 0, none⟩) (askP [x]) → Calls Tryd.prog 11 #[.agg #[.slice (some ⟨G, 0, none⟩) 1 1]] W fun e w' => SomeB e ∧ Below W.heap.size W w') := Lib.hid fun W G h => light_any (some ⟨G, 0, none⟩) 1 (askP [x]) W h (Nat.le_of_ble_eq_true rfl)
  have HCK : Hid (∀ W (G : Nat), Below W0.heap.size W0 W → SsAt f W (some ⟨G, 0, none⟩) (askP [x]) → Calls Tryd.prog 14 #[.agg #[.slice (some ⟨G, 0, none⟩) 1 1]] W fun e w' => e = .returned (.int .i64 (checkN f (askP [x]))) ∧ Below W.heap.size W w') := Lib.hid fun W G hW h => check_any hf (some ⟨G, 0, none⟩) 1 (askP [x]) W (hE.below (FIN.out W hW)) h (Nat.le_of_ble_eq_true rfl)
  have HENV : Hid (∀ W, Below W0.heap.size W0 W → EnvT W) := Lib.hid fun W hW => hE.below (FIN.out W hW)
  have HXX : Hid (∀ W, Below W0.heap.size W0 W → XAt f W x cs) := Lib.hid fun W hW => XAt.turn (FIN.out W hW) (Nat.le_refl _) hx
  have HWT := Lib.hid hw
  have HN := Lib.hid hn
  have HF := Lib.hid hf
  have HW0E := Lib.hid hW0
  obtain ⟨x0, x1, x2, x3, x4, x5, x6, rfl⟩ := hx.len
  clear hW0 hb0 hsz0 hk4 hE hev hw hx hn hf
  show Calls Tryd.prog 6 #[.slice a n c, .agg #[x0, x1, x2, x3, x4, x5, x6]] w _
  go_enter Tryd.func6, Tryd.ntmps6
  go_wp2_with fail
  rw [← HW0E.out]
  (with_reducible refine HAW.out.mono ?_)
  rintro e w1 ⟨rfl, hb1⟩
  have HB1 := Lib.hid hb1
  have HBDX := Lib.hid (HBD.out w1 hb1)
  clear hb1
  go_wp2_with fail
  (with_reducible refine HBDX.out.mono ?_)
  rintro e w2 ⟨he, hb2⟩
  have HB2 := Lib.hid (HB1.out.trans (hb2.mono HB1.out.size))
  clear hb2
  rcases he with ⟨hwh, tb, rfl, htr⟩ | ⟨_, rfl⟩
  rotate_left
  · go_wp2_with fail
    go_ret
    exact ⟨rfl, FIN.out _ HB2.out⟩
  have HTR := Lib.hid htr
  have HWH := Lib.hid hwh
  clear htr hwh
  have HLEN : Hid (∀ W, Below w2.heap.size w2 W → Calls Tryd.prog 12 #[.pointer (some ⟨tb, 0, none⟩)] W fun e w' => e = .returned (.int .i64 ((nodesB evs).length : Nat)) ∧ w' = W) := Lib.hid fun W hW => len_any (treeLast (HTR.out.below hW) HWH.out)
  have HNOD : Hid (∀ W, Below W0.heap.size W0 W → Calls Tryd.prog 13 #[.slice a n c] W fun e w' => ∃ an cn, e = .returned (.slice an (nodesB evs).length cn) ∧ RNodes w' an evs ∧ Below W.heap.size W w') := Lib.hid fun W hW => nodes9_any a n c evs W (HEV.out W hW) HWH.out HN.out (evsSm HWT.out)
  obtain ⟨p0, p1, p2, p3, p4, p5, p6⟩ := box7 (HKS.out w2 HB2.out)
  have HA2 := Lib.hid (HAX.out w2 HB2.out)
  go_wp2_with fail
  (with_reducible refine HA2.out.mono ?_)
  rintro e w3 ⟨G3, rfl, hs3, hb3⟩
  have HB3 := Lib.hid (HB2.out.trans (hb3.mono HB2.out.size))
  have HB23 := Lib.hid hb3
  have HL3 := Lib.hid (HLT.out w3 G3 hs3)
  clear hs3 hb3 p0 p1 p2 p3 p4 p5 p6
  go_wp2_with fail
  (with_reducible refine HL3.out.mono ?_)
  rintro e w4 ⟨⟨b4, rfl⟩, hb4⟩
  have HB4 := Lib.hid (HB3.out.trans (hb4.mono HB3.out.size))
  have HB24 := Lib.hid (HB23.out.trans (hb4.mono HB23.out.size))
  clear hb4
  cases b4 with
  | false =>
    go_wp2_with fail
    go_ret
    exact ⟨rfl, FIN.out _ HB4.out⟩
  | true =>
    have HLN4 := Lib.hid (HLEN.out w4 HB24.out)
    obtain ⟨N, hN⟩ : ∃ N, (nodesB evs).length = N := ⟨_, rfl⟩
    rw [hN] at HLN4 HNOD
    have HNN := Lib.hid hN
    clear hN
    by_cases h60 : 60 < N
    · have h60' : (60 : Int) < (N : Int) := by omega
      go_wp2_with fail
      (with_reducible refine HLN4.out.mono ?_)
      rintro e w7 ⟨rfl, rfl⟩
      go_wp2_with fail
      go_ret
      exact ⟨rfl, FIN.out _ HB4.out⟩
    have h60' : (N : Int) ≤ 60 := by omega
    have hN60 : N ≤ 60 := by omega
    have HTQ : Hid (∀ W, Below w2.heap.size w2 W → TQ W tb evs) := Lib.hid fun W hW => tq_of (HTR.out.below hW) HWH.out HWT.out (by rw [HNN.out]; omega)
    have HND := Lib.hid (HNOD.out w4 HB4.out)
    clear h60
    go_wp2_with fail
    (with_reducible refine HLN4.out.mono ?_)
    rintro e w7 ⟨rfl, rfl⟩
    go_wp2_with fail
    (with_reducible refine HND.out.mono ?_)
    rintro e w5 ⟨an, cn, rfl, hr5, hb5⟩
    have HB5 := Lib.hid (HB4.out.trans (hb5.mono HB4.out.size))
    have HB25 := Lib.hid (HB24.out.trans (hb5.mono HB24.out.size))
    have HRQ5 : Hid (RQ w5 an evs) := Lib.hid ⟨hr5, HWH.out, evsSm HWT.out, by rw [HNN.out]; omega, (HTQ.out w5 HB25.out).texts⟩
    clear hr5 hb5
    obtain ⟨p0, p1, p2, p3, p4, p5, p6⟩ := box7 (HKS.out w5 HB5.out)
    have HA5 := Lib.hid (HAX.out w5 HB5.out)
    go_wp2_with fail
    (with_reducible refine HA5.out.mono ?_)
    rintro e w6 ⟨G6, rfl, hs6, hb6⟩
    have HB6 := Lib.hid (HB5.out.trans (hb6.mono HB5.out.size))
    have HB26 := Lib.hid (HB25.out.trans (hb6.mono HB25.out.size))
    have HRQ6 := Lib.hid (HRQ5.out.below hb6)
    have HC6 := Lib.hid (HCK.out w6 G6 HB6.out hs6)
    clear hs6 hb6 p0 p1 p2 p3 p4 p5 p6
    obtain ⟨cx, hcx⟩ : ∃ cx, checkN f (askP [x]) = cx := ⟨_, rfl⟩
    rw [hcx] at HC6
    have HCX := Lib.hid hcx
    have hc06 : cx = 0 ∨ cx = 6 := by rw [← hcx]; unfold checkN; split <;> simp
    clear hcx
    go_wp2_with fail
    (with_reducible refine HC6.out.mono ?_)
    rintro e w8 ⟨rfl, hb8⟩
    have HB8 := Lib.hid (HB6.out.trans (hb8.mono HB6.out.size))
    have HB28 := Lib.hid (HB26.out.trans (hb8.mono HB26.out.size))
    have HRQ8 := Lib.hid (HRQ6.out.below hb8)
    clear hb8
    have HKB : Hid (∀ W, Below w8.heap.size w8 W → Below W0.heap.size W0 W ∧ Below w2.heap.size w2 W ∧ RQ W an evs) := Lib.hid fun W hW => ⟨HB8.out.trans (hW.mono HB8.out.size), HB28.out.trans (hW.mono HB28.out.size), HRQ8.out.below hW⟩
    have HBS : Hid (Below w8.heap.size w8 w8) := Lib.hid (Below.refl _ _)
    have HHO : Hid (∀ (v : Int) (W : World), Below w8.heap.size w8 W → Calls Tryd.prog 24 #[.pointer (some ⟨tb, 0, none⟩), .int .i64 v, .agg #[x0, x1, x2, x3, x4, x5, x6]] W fun e w' => e = .returned (.tuple #[.bool (holdsN (treePT evs) f v x), .int .i64 (refusesN N f v (askP [x]))]) ∧ Below W.heap.size W w') := Lib.hid fun v W hW => by
      have h := mholds_any HF.out v x _ W (HTQ.out W (HKB.out W hW).2.1) (HENV.out W (HKB.out W hW).1) (HXX.out W (HKB.out W hW).1)
      rw [HNN.out] at h
      exact h
    rcases hc06 with rfl | rfl
    · go_wp2_with fail
      refine wp_loop_ghost (fun k a1 wr => ∃ j : Nat, slotOf a1.tmps 9 = .int .i64 ((j : Int) - 2) ∧ j ≤ N + 3 ∧ k = N + 3 - j ∧ Hid (Below w8.heap.size w8 wr) ∧ a1 = { tmps := frHl a n c (.agg #[x0, x1, x2, x3, x4, x5, x6]) w.heap.size tb an N cn true a1.tmps, defers := [] }) (N + 3) ?atStarttrue ?roundtrue
      case atStarttrue => exact ⟨0, rfl, Nat.zero_le _, rfl, HBS, rfl⟩
      case roundtrue =>
        rintro mk ⟨t, dd⟩ wr ⟨j, h13, hjn, rfl, HJ, ha⟩
        obtain ⟨ha1, ha2⟩ := Act.mk.inj ha
        subst dd
        rw [ha1]
        clear ha ha1
        dsimp only [frHl] at h13 ⊢
        rw [h13]
        clear h13
        have ewj : IntKind.i64.wrap ((j : Int) - 2 + 1) = (j : Int) - 2 + 1 := IntWalk.i64_in _ (by omega)
        by_cases hj : j < N + 3
        rotate_left
        · have hj2 : j = N + 3 := by omega
          subst hj2
          have hj3 : (N : Int) < ((N + 3 : Nat) : Int) - 2 := by omega
          go_wp2_with fail
          go_ret
          exact ⟨rfl, FIN.out _ (HKB.out _ HJ.out).1⟩
        have HEX : Hid ((j : Int) - 2 + 1 = (((j + 1 : Nat) : Int) - 2)) := Lib.hid (by omega)
        obtain ⟨v, hv⟩ : ∃ v, (j : Int) - 2 = v := ⟨_, rfl⟩
        rw [hv] at ewj HEX ⊢
        have v2 : v ≤ (N : Int) := by omega
        have HHX := Lib.hid (HHO.out v wr HJ.out)
        obtain ⟨p0, p1, p2, p3, p4, p5, p6⟩ := box7 (HKS.out wr (HKB.out wr HJ.out).1)
        by_cases hvv : v < -1 ∨ (N : Int) ≤ v
        · have hr : refusesN N f v (askP [x]) = 2 := if_pos hvv
          have hh : holdsN (treePT evs) f v x = false := by
            unfold holdsN
            have : refusesN (treePT evs).N f v [.mk 3 3 [] [x]] = 2 := by
              show refusesN (nodesB evs).length f v (askP [x]) = 2
              rw [HNN.out]; exact hr
            rw [this]; rfl
          rw [hr, hh] at HHX
          clear hr hh
          by_cases hlo : v < -1
          · clear hvv
            go_wp2_with fail
            (with_reducible refine HHX.out.mono ?_)
            rintro e wz ⟨rfl, hb⟩
            have HJ2 := Lib.hid (HJ.out.trans (hb.mono HJ.out.size))
            clear hb
            go_wp2_with fail
            exact ⟨N + 3 - (j + 1), by omega, j + 1, congrArg (Value.int .i64) HEX.out, by omega, rfl, HJ2, rfl⟩
          · have hlo2 : -1 ≤ v := by omega
            have HVN : Hid (v = (N : Int)) := Lib.hid (by omega)
            have heq : decide (v = (N : Int)) = true := decide_eq_true (by omega)
            have heq2 : (v == (N : Int)) = true := by simp; omega
            clear hvv hlo
            go_wp2_with fail
            (with_reducible refine HHX.out.mono ?_)
            rintro e wz ⟨rfl, hb⟩
            have HJ2 := Lib.hid (HJ.out.trans (hb.mono HJ.out.size))
            clear hb
            go_wp2_with fail
            exact ⟨N + 3 - (j + 1), by omega, j + 1, congrArg (Value.int .i64) HEX.out, by omega, rfl, HJ2, rfl⟩
        have v3 : -1 ≤ v := by omega
        have v4 : v < (N : Int) := by omega
        have heq2 : (v == (N : Int)) = false := by simp; omega
        clear hvv
        have hr : refusesN N f v (askP [x]) = 0 := by unfold refusesN; rw [if_neg (by omega)]; exact HCX.out
        have hh : holdsN (treePT evs) f v x = holdP (treePT evs) f v x := by
          unfold holdsN
          have : refusesN (treePT evs).N f v [.mk 3 3 [] [x]] = 0 := by
            show refusesN (nodesB evs).length f v (askP [x]) = 0
            rw [HNN.out]; exact hr
          rw [if_pos this]
        rw [hr, hh] at HHX
        clear hr hh
        have HRF : Hid (∀ W, Below w8.heap.size w8 W → Calls Tryd.prog 25 #[.slice an N cn, .int .i64 v, .agg #[x0, x1, x2, x3, x4, x5, x6]] W fun e w' => e = .returned (.bool (holdP (treePT evs) f v x)) ∧ Below W.heap.size W w') := Lib.hid fun W hW => by
          have h := holds12_all an cn evs f v x _ W v3 (by rw [HNN.out]; exact v4) (HKB.out W hW).2.2 (HXX.out W (HKB.out W hW).1) (check_ask HCX.out x List.mem_cons_self).1
          rw [HNN.out] at h
          exact h
        generalize holdP (treePT evs) f v x = hp at *
        have hpp : (hp != hp) = false := by cases hp <;> rfl
        have hpp2 : (hp == hp) = true := by cases hp <;> rfl
        go_wp2_with fail
        (with_reducible refine HHX.out.mono ?_)
        rintro e wz ⟨rfl, hb⟩
        have HJ2 := Lib.hid (HJ.out.trans (hb.mono HJ.out.size))
        have HRX := Lib.hid (HRF.out wz HJ2.out)
        clear hb p0 p1 p2 p3 p4 p5 p6
        obtain ⟨p0, p1, p2, p3, p4, p5, p6⟩ := box7 (HKS.out wz (HKB.out wz HJ2.out).1)
        go_wp2_with fail
        (with_reducible refine HRX.out.mono ?_)
        rintro e wy ⟨rfl, hb⟩
        have HJ3 := Lib.hid (HJ2.out.trans (hb.mono HJ2.out.size))
        clear hb
        go_wp2_with fail
        exact ⟨N + 3 - (j + 1), by omega, j + 1, congrArg (Value.int .i64) HEX.out, by omega, rfl, HJ3, rfl⟩
    · go_wp2_with fail
      refine wp_loop_ghost (fun k a1 wr => ∃ j : Nat, slotOf a1.tmps 9 = .int .i64 ((j : Int) - 2) ∧ j ≤ N + 3 ∧ k = N + 3 - j ∧ Hid (Below w8.heap.size w8 wr) ∧ a1 = { tmps := frHl a n c (.agg #[x0, x1, x2, x3, x4, x5, x6]) w.heap.size tb an N cn false a1.tmps, defers := [] }) (N + 3) ?atStartfalse ?roundfalse
      case atStartfalse => exact ⟨0, rfl, Nat.zero_le _, rfl, HBS, rfl⟩
      case roundfalse =>
        rintro mk ⟨t, dd⟩ wr ⟨j, h13, hjn, rfl, HJ, ha⟩
        obtain ⟨ha1, ha2⟩ := Act.mk.inj ha
        subst dd
        rw [ha1]
        clear ha ha1
        dsimp only [frHl] at h13 ⊢
        rw [h13]
        clear h13
        have ewj : IntKind.i64.wrap ((j : Int) - 2 + 1) = (j : Int) - 2 + 1 := IntWalk.i64_in _ (by omega)
        by_cases hj : j < N + 3
        rotate_left
        · have hj2 : j = N + 3 := by omega
          subst hj2
          have hj3 : (N : Int) < ((N + 3 : Nat) : Int) - 2 := by omega
          go_wp2_with fail
          go_ret
          exact ⟨rfl, FIN.out _ (HKB.out _ HJ.out).1⟩
        have HEX : Hid ((j : Int) - 2 + 1 = (((j + 1 : Nat) : Int) - 2)) := Lib.hid (by omega)
        obtain ⟨v, hv⟩ : ∃ v, (j : Int) - 2 = v := ⟨_, rfl⟩
        rw [hv] at ewj HEX ⊢
        have v2 : v ≤ (N : Int) := by omega
        have HHX := Lib.hid (HHO.out v wr HJ.out)
        obtain ⟨p0, p1, p2, p3, p4, p5, p6⟩ := box7 (HKS.out wr (HKB.out wr HJ.out).1)
        by_cases hvv : v < -1 ∨ (N : Int) ≤ v
        · have hr : refusesN N f v (askP [x]) = 2 := if_pos hvv
          have hh : holdsN (treePT evs) f v x = false := by
            unfold holdsN
            have : refusesN (treePT evs).N f v [.mk 3 3 [] [x]] = 2 := by
              show refusesN (nodesB evs).length f v (askP [x]) = 2
              rw [HNN.out]; exact hr
            rw [this]; rfl
          rw [hr, hh] at HHX
          clear hr hh
          by_cases hlo : v < -1
          · clear hvv
            go_wp2_with fail
            (with_reducible refine HHX.out.mono ?_)
            rintro e wz ⟨rfl, hb⟩
            have HJ2 := Lib.hid (HJ.out.trans (hb.mono HJ.out.size))
            clear hb
            go_wp2_with fail
            exact ⟨N + 3 - (j + 1), by omega, j + 1, congrArg (Value.int .i64) HEX.out, by omega, rfl, HJ2, rfl⟩
          · have hlo2 : -1 ≤ v := by omega
            have HVN : Hid (v = (N : Int)) := Lib.hid (by omega)
            have heq : decide (v = (N : Int)) = true := decide_eq_true (by omega)
            have heq2 : (v == (N : Int)) = true := by simp; omega
            clear hvv hlo
            go_wp2_with fail
            (with_reducible refine HHX.out.mono ?_)
            rintro e wz ⟨rfl, hb⟩
            have HJ2 := Lib.hid (HJ.out.trans (hb.mono HJ.out.size))
            clear hb
            go_wp2_with fail
            exact ⟨N + 3 - (j + 1), by omega, j + 1, congrArg (Value.int .i64) HEX.out, by omega, rfl, HJ2, rfl⟩
        have v3 : -1 ≤ v := by omega
        have v4 : v < (N : Int) := by omega
        have heq2 : (v == (N : Int)) = false := by simp; omega
        clear hvv
        have hr : refusesN N f v (askP [x]) = 6 := by unfold refusesN; rw [if_neg (by omega)]; exact HCX.out
        have hh : holdsN (treePT evs) f v x = false := by
          unfold holdsN
          have : refusesN (treePT evs).N f v [.mk 3 3 [] [x]] = 6 := by
            show refusesN (nodesB evs).length f v (askP [x]) = 6
            rw [HNN.out]; exact hr
          rw [this]; rfl
        rw [hr, hh] at HHX
        clear hr hh
        go_wp2_with fail
        (with_reducible refine HHX.out.mono ?_)
        rintro e wz ⟨rfl, hb⟩
        have HJ2 := Lib.hid (HJ.out.trans (hb.mono HJ.out.size))
        clear hb
        go_wp2_with fail
        exact ⟨N + 3 - (j + 1), by omega, j + 1, congrArg (Value.int .i64) HEX.out, by omega, rfl, HJ2, rfl⟩
end Go.Proofs.YtekoflcioooncaaDoor
