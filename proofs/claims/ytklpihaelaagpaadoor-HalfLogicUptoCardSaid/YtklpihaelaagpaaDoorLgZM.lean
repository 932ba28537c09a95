/-
  gimletref12.work, works, Heavy; gimletlaw12.light: it says something, whatever comes.
-/
import Derived.Test.YtklpihaelaagpaaDoorLgZL
namespace Go.Proofs.YtklpihaelaagpaaDoor
open Go.RowKit

def SomeB (e : Ending) : Prop := ∃ b, e = .returned (.bool b)
def wkL (g : Int → List PX → Int) (m : Int) : Int → List PS → Int
  | n, [] => n
  | n, s :: r => if n ≤ 16777216 then (if 16777216 < IntKind.i64.wrap (1 + g m s.wher) then IntKind.i64.wrap (1 + g m s.wher) else wkL g m (IntKind.i64.wrap (n + IntKind.i64.wrap (m * IntKind.i64.wrap (1 + g m s.wher)))) r) else n
theorem wkL_stop {g : Int → List PX → Int} {m n : Int} (hn : 16777216 < n) (l : List PS) : wkL g m n l = n := by
  cases l with
  | nil => rfl
  | cons x r => exact if_neg (by omega)
theorem wkL_cons {g : Int → List PX → Int} {m n : Int} (hn : n ≤ 16777216) (s : PS) (r : List PS) : wkL g m n (s :: r) = if 16777216 < IntKind.i64.wrap (1 + g m s.wher) then IntKind.i64.wrap (1 + g m s.wher) else wkL g m (IntKind.i64.wrap (n + IntKind.i64.wrap (m * IntKind.i64.wrap (1 + g m s.wher)))) r := if_pos hn
def woS (g : Int → List PX → Int) (m : Int) (x : PX) (n : Int) : Int := IntKind.i64.wrap (n + IntKind.i64.wrap (IntKind.i64.wrap (1 + g m x.args) + wkL g m 0 x.path))
def woN : Nat → Int → List PX → Int
  | 0, _, _ => 0
  | f + 1, m, l => capL 16777216 (woS (woN f) m) 0 l

def WkX (f : Nat) : Prop := ∀ (a : Option Addr) (c : Nat) (ss : List PS) (m : Int) (W : World), SsAt f W a ss → ss.length ≤ 1048576 →
  Calls Tryd.prog 23 #[.slice a ss.length c, .int .i64 m] W fun e w' => e = .returned (.int .i64 (wkL (woN f) m 0 ss)) ∧ Below W.heap.size W w'
def WoX (f : Nat) : Prop := ∀ (a : Option Addr) (c : Nat) (l : List PX) (m : Int) (W : World), XsAt f W a l → l.length ≤ 1048576 →
  Calls Tryd.prog 39 #[.slice a l.length c, .int .i64 m] W fun e w' => e = .returned (.int .i64 (woN f m l)) ∧ Below W.heap.size W w'

set_option maxRecDepth 100000 in
set_option maxHeartbeats 4000000 in
theorem work_of {f : Nat} (HL : WoX f) : WkX f := fun a c ss m w hs hn => by
  have HS := Lib.hid hs
  have HLL := Lib.hid HL
  obtain ⟨R, hR⟩ : ∃ R, wkL (woN f) m 0 ss = R := ⟨_, rfl⟩
  rw [hR]
  have HR := Lib.hid hR
  clear hs HL hR
  obtain ⟨n, hm⟩ : ∃ n, ss.length = n := ⟨_, rfl⟩
  rw [hm] at hn ⊢
  have HM := Lib.hid hm
  clear hm
  go_enter Tryd.func23, Tryd.ntmps23
  go_wp2_with fail
  go_loopw [5, 6] (fun kv iv wr => ∃ (i : Nat) (r : Int), iv = .int .i64 i ∧ kv = .int .i64 r ∧ i ≤ n ∧ Hid (wkL (woN f) m r (ss.drop i) = R ∧ Below w.heap.size w wr)) (fun _ iv _ => n - (intOf iv).toNat)
  case atStart => exact ⟨0, 0, rfl, rfl, Nat.zero_le _, Lib.hid ⟨by rw [List.drop_zero]; exact HR.out, Below.refl _ _⟩⟩
  case round =>
    obtain ⟨i, r, rfl, rfl, hin, HB⟩ := hrel
    by_cases hi : i < n
    · have i1 : (0 : Int) ≤ (i : Int) := by omega
      have i2 : (i : Int) < (n : Int) := by omega
      have ewi : IntKind.i64.wrap ((i : Int) + 1) = (i : Int) + 1 := IntWalk.i64_in _ (by omega)
      by_cases hr : r ≤ 16777216
      · have hil : i < ss.length := by rw [HM.out]; exact hi
        obtain ⟨b, o, wa, wc, rfl, hb, hx, h4, h5, h6, h7, h8, hcs⟩ := HS.out.get i hil
        have HCS : Hid (∀ W, Below w.heap.size w W → W.cell? ⟨b, o + i * 4 + 3, none⟩ = some (.slice wa ss[i].wher.length wc)) := Lib.hid fun W hW => (hcs W hW).2.2.2
        have HRL : Hid (∀ W, Below w.heap.size w W → Calls Tryd.prog 39 #[.slice wa ss[i].wher.length wc, .int .i64 m] W fun e w' => e = .returned (.int .i64 (woN f m ss[i].wher)) ∧ Below W.heap.size W w') := Lib.hid fun W hW => HLL.out wa wc ss[i].wher m W (XsAt.below hx hW) h8
        have HNX : Hid ((if 16777216 < IntKind.i64.wrap (1 + woN f m ss[i].wher) then IntKind.i64.wrap (1 + woN f m ss[i].wher) else wkL (woN f) m (IntKind.i64.wrap (r + IntKind.i64.wrap (m * IntKind.i64.wrap (1 + woN f m ss[i].wher)))) (ss.drop (i + 1))) = R) := Lib.hid (by
          have := HB.out.1
          rw [List.drop_eq_getElem_cons hil, wkL_cons hr] at this
          exact this)
        clear hcs hx h4 h5 h6 h7 h8 hb
        obtain ⟨z, hz⟩ : ∃ z, woN f m ss[i].wher = z := ⟨_, rfl⟩
        rw [hz] at HRL HNX
        clear hz
        generalize ss[i].wher.length = wn at *
        have c3 := HCS.out _ HB.out.2
        obtain ⟨k, hk⟩ : ∃ k, IntKind.i64.wrap (1 + z) = k := ⟨_, rfl⟩
        rw [hk] at HNX
        go_wp2_with fail
        (with_reducible refine (HRL.out _ HB.out.2).mono ?_)
        rintro e w2 ⟨rfl, hb2⟩
        have HB2 := Lib.hid (HB.out.2.trans (hb2.mono HB.out.2.size))
        clear hb2
        by_cases hkk : 16777216 < k
        · rw [if_pos hkk] at HNX
          go_wp2_with fail
          go_ret
          exact ⟨ret_int HNX.out, HB2.out⟩
        · rw [if_neg hkk] at HNX
          have hk2 : k ≤ 16777216 := by omega
          clear hkk
          go_wp2_with fail
          go_roundw
          case rel => exact ⟨i + 1, _, by go_num, rfl, by omega, Lib.hid ⟨(by simp only [w64_eq]; exact HNX.out), HB2.out⟩⟩
          case measure => simp [intOf]; omega
      · have hr' : 16777216 < r := by omega
        have HE : Hid (r = R) := Lib.hid (by rw [← HB.out.1, wkL_stop hr'])
        go_wp2_with fail
        go_ret
        exact ⟨ret_int HE.out, HB.out.2⟩
    · have i4 : (n : Int) ≤ (i : Int) := by omega
      have HE : Hid (r = R) := Lib.hid (by rw [← HB.out.1, List.drop_of_length_le (by rw [HM.out]; omega)]; rfl)
      go_wp2_with fail
      go_ret
      exact ⟨ret_int HE.out, HB.out.2⟩
set_option maxRecDepth 100000 in
set_option maxHeartbeats 4000000 in
theorem works_of {f : Nat} (HL : WoX f) (HW : WkX f) : WoX (f + 1) := fun a c l m w hs hn => by
  have HS := Lib.hid hs
  have HLL := Lib.hid HL
  have HWW := Lib.hid HW
  obtain ⟨R, hR⟩ : ∃ R, woN (f + 1) m l = R := ⟨_, rfl⟩
  rw [hR]
  have hR' : capL 16777216 (woS (woN f) m) 0 l = R := hR
  have HR := Lib.hid hR'
  clear hs HL HW hR hR'
  obtain ⟨n, hm⟩ : ∃ n, l.length = n := ⟨_, rfl⟩
  rw [hm] at hn ⊢
  have HM := Lib.hid hm
  clear hm
  go_enter Tryd.func39, Tryd.ntmps39
  go_wp2_with fail
  go_loopw [5, 6] (fun kv iv wr => ∃ (i : Nat) (r : Int), iv = .int .i64 i ∧ kv = .int .i64 r ∧ i ≤ n ∧ Hid (capL 16777216 (woS (woN f) m) r (l.drop i) = R ∧ Below w.heap.size w wr)) (fun _ iv _ => n - (intOf iv).toNat)
  case atStart => exact ⟨0, 0, rfl, rfl, Nat.zero_le _, Lib.hid ⟨by rw [List.drop_zero]; exact HR.out, Below.refl _ _⟩⟩
  case round =>
    obtain ⟨i, r, rfl, rfl, hin, HB⟩ := hrel
    by_cases hi : i < n
    · have i1 : (0 : Int) ≤ (i : Int) := by omega
      have i2 : (i : Int) < (n : Int) := by omega
      have ewi : IntKind.i64.wrap ((i : Int) + 1) = (i : Int) + 1 := IntWalk.i64_in _ (by omega)
      by_cases hr : r ≤ 16777216
      · have hil : i < l.length := by rw [HM.out]; exact hi
        obtain ⟨b, o, xa, xc, xp, xd, rfl, hb, hxa, hxp, h4, h5, h6, h7, h8, h9, h10, h11, h12, hcs⟩ := HS.out.get i hil
        have HCS : Hid (∀ W, Below w.heap.size w W → W.cell? ⟨b, o + i * 7 + 1, none⟩ = some (.slice xa l[i].args.length xc) ∧ W.cell? ⟨b, o + i * 7 + 2, none⟩ = some (.slice xp l[i].path.length xd) ∧ Below w.heap.size w W) := Lib.hid fun W hW => ⟨(hcs W hW).2.1, (hcs W hW).2.2.1, hW⟩
        have HRL2 : Hid (∀ W, Below w.heap.size w W → Calls Tryd.prog 39 #[.slice xa l[i].args.length xc, .int .i64 m] W fun e w' => e = .returned (.int .i64 (woN f m l[i].args)) ∧ Below w.heap.size w w') := Lib.hid fun W hW => (HLL.out xa xc l[i].args m W (XsAt.below hxa hW) h11).mono fun e w' ⟨h1, h2⟩ => ⟨h1, hW.trans (h2.mono hW.size)⟩
        have HRX2 : Hid (∀ W, Below w.heap.size w W → Calls Tryd.prog 23 #[.slice xp l[i].path.length xd, .int .i64 m] W fun e w' => e = .returned (.int .i64 (wkL (woN f) m 0 l[i].path)) ∧ Below w.heap.size w w') := Lib.hid fun W hW => (HWW.out xp xd l[i].path m W (SsAt.below hxp hW) h12).mono fun e w' ⟨h1, h2⟩ => ⟨h1, hW.trans (h2.mono hW.size)⟩
        have HNX : Hid (capL 16777216 (woS (woN f) m) (IntKind.i64.wrap (r + IntKind.i64.wrap (IntKind.i64.wrap (1 + woN f m l[i].args) + wkL (woN f) m 0 l[i].path))) (l.drop (i + 1)) = R) := Lib.hid (by
          have := HB.out.1
          rw [List.drop_eq_getElem_cons hil, capL_cons hr] at this
          exact this)
        clear hcs hxa hxp h4 h5 h6 h7 h8 h9 h10 h11 h12 hb
        generalize woN f m l[i].args = z1 at *
        generalize wkL (woN f) m 0 l[i].path = z2 at *
        generalize l[i].args.length = xl at *
        generalize l[i].path.length = pl at *
        have HBD := Lib.hid (HB.out.2.drew)
        have hbd := HBD.out
        obtain ⟨c1, c2, _⟩ := HCS.out _ hbd
        go_wp2_with fail
        go_region_held3 (fun w' => w'.cell? ⟨b, o + i * 7 + 1, none⟩ = some (.slice xa xl xc) ∧ w'.cell? ⟨b, o + i * 7 + 2, none⟩ = some (.slice xp pl xd) ∧ Below w.heap.size w w') (first | exact HCS.out _ hbd | exact HCS.out _ ‹_›) (first | (go_at_call 39; (with_reducible refine (HRL2.out _ ‹_›).mono ?_); rintro e w5 ⟨rfl, hb5⟩) | (go_at_call 23; (with_reducible refine (HRX2.out _ ‹_›).mono ?_); rintro e w7 ⟨rfl, hb7⟩))
        have HB8 := Lib.hid hb7
        clear hb5 hb7
        go_wp2_with fail
        go_roundw
        case rel => exact ⟨i + 1, _, by go_num, rfl, by omega, Lib.hid ⟨HNX.out, HB8.out⟩⟩
        case measure => simp [intOf]; omega
      · have hr' : 16777216 < r := by omega
        have HE : Hid (r = R) := Lib.hid (by rw [← HB.out.1, capL_stop hr'])
        go_wp2_with fail
        go_ret
        exact ⟨ret_int HE.out, HB.out.2⟩
    · have i4 : (n : Int) ≤ (i : Int) := by omega
      have HE : Hid (r = R) := Lib.hid (by rw [← HB.out.1, List.drop_of_length_le (by rw [HM.out]; omega)]; rfl)
      go_wp2_with fail
      go_ret
      exact ⟨ret_int HE.out, HB.out.2⟩
set_option maxRecDepth 100000 in
set_option maxHeartbeats 4000000 in
theorem works_zero : WoX 0 := fun a c l m w hs hn => by
  obtain rfl : l = [] := XsAt.zero hs
  rw [show ([] : List PX).length = 0 from rfl, show woN 0 m [] = 0 from rfl]
  clear hs hn
  go_enter Tryd.func39, Tryd.ntmps39
  go_wp2_with fail
  go_loopw [5, 6] (fun kv iv wr => iv = .int .i64 0 ∧ kv = .int .i64 0 ∧ Hid (Below w.heap.size w wr)) (fun _ _ _ => 0)
  case atStart => exact ⟨rfl, rfl, Lib.hid (Below.refl _ _)⟩
  case round =>
    obtain ⟨rfl, rfl, HB⟩ := hrel
    go_wp2_with fail
    go_ret
    exact ⟨rfl, HB.out⟩
theorem works_all : ∀ f, WoX f
  | 0 => works_zero
  | f + 1 => works_of (works_all f) (work_of (works_all f))
theorem work_all (f : Nat) : WkX f := work_of (works_all f)
set_option maxRecDepth 100000 in
set_option maxHeartbeats 4000000 in
theorem heavy_any {f : Nat} (a : Option Addr) (c : Nat) (ss : List PS) (w : World) (hs : SsAt f w a ss) (hn : ss.length ≤ 1048576) :
    Calls Tryd.prog 13 #[.agg #[.slice a ss.length c], .int .i64 120] w fun e w' => SomeB e ∧ Below w.heap.size w w' := by
  have hb0 : Below w.heap.size w (w.alloc (.cells #[.slice a ss.length c] 27)) := (Below.refl _ _).alloc (Nat.le_refl _) _
  have HB0 := Lib.hid hb0
  have HR := Lib.hid (work_all f a c ss 121 _ (SsAt.below hs hb0) hn)
  clear hs hb0
  generalize ss.length = n at *
  generalize wkL (woN f) 121 0 ss = z at *
  go_enter Tryd.func13, Tryd.ntmps13
  go_wp2_with fail
  (with_reducible refine HR.out.mono ?_)
  rintro e w2 ⟨rfl, hb2⟩
  have HB2 := Lib.hid (HB0.out.trans (hb2.mono HB0.out.size))
  clear hb2
  go_wp2_with fail
  go_ret
  exact ⟨⟨_, rfl⟩, HB2.out⟩
set_option maxRecDepth 100000 in
set_option maxHeartbeats 4000000 in
theorem light_any {f : Nat} (a : Option Addr) (c : Nat) (ss : List PS) (w : World) (hs : SsAt f w a ss) (hn : ss.length ≤ 1048576) :
    Calls Tryd.prog 6 #[.agg #[.slice a ss.length c]] w fun e w' => SomeB e ∧ Below w.heap.size w w' := by
  obtain ⟨W0, hW0⟩ : ∃ W0, W0 = w.alloc (.cells #[.slice a ss.length c] 27) := ⟨_, rfl⟩
  have hb0 : Below w.heap.size w W0 := by rw [hW0]; exact (Below.refl _ _).alloc (Nat.le_refl _) _
  have hk5 : W0.heap[w.heap.size]? = some (.cells #[.slice a ss.length c] 27 (0, 0)) := by rw [hW0]; exact heap_alloc_new w _
  have hsz0 : W0.heap.size = w.heap.size + 1 := by rw [hW0]; simp
  have HKS : Hid (∀ W, Below W0.heap.size W0 W → W.cell? ⟨w.heap.size, 0, none⟩ = some (.slice a ss.length c)) := Lib.hid fun W hW => by
    rw [cell_heap ((hW.block w.heap.size (by omega)).trans hk5)]; rfl
  have HB0 := Lib.hid hb0
  have HR := Lib.hid (weight_all f a c ss 0 _ (SsAt.below hs hb0) hn)
  have HV : Hid (∀ W, Below W0.heap.size W0 W → Calls Tryd.prog 13 #[.agg #[.slice a ss.length c], .int .i64 120] W fun e w' => SomeB e ∧ Below W.heap.size W w') := Lib.hid fun W hW => heavy_any a c ss W (SsAt.below hs (hb0.trans (hW.mono hb0.size))) hn
  have HW0E := Lib.hid hW0
  clear hs hb0 hW0 hk5 hsz0
  generalize ss.length = n at *
  generalize wtN (exN f) 0 ss = z at *
  go_enter Tryd.func6, Tryd.ntmps6
  go_wp2_with fail
  rw [← HW0E.out]
  have c0 := HKS.out W0 (Below.refl _ _)
  by_cases hz : z ≤ 60
  · go_wp2_with fail
    (with_reducible refine HR.out.mono ?_)
    rintro e w2 ⟨rfl, hb2⟩
    have c1 := HKS.out w2 hb2
    have HHV := Lib.hid (HV.out w2 hb2)
    have HB2 := Lib.hid (HB0.out.trans (hb2.mono HB0.out.size))
    clear hb2
    go_wp2_with fail
    (with_reducible refine HHV.out.mono ?_)
    rintro e w3 ⟨⟨b, rfl⟩, hb3⟩
    have HB3 := Lib.hid (HB2.out.trans (hb3.mono HB2.out.size))
    clear hb3
    go_wp2_with fail
    go_ret
    exact ⟨⟨_, rfl⟩, HB3.out⟩
  · have hz' : 60 < z := by omega
    go_wp2_with fail
    (with_reducible refine HR.out.mono ?_)
    rintro e w2 ⟨rfl, hb2⟩
    have HB2 := Lib.hid (HB0.out.trans (hb2.mono HB0.out.size))
    clear hb2
    go_wp2_with fail
    go_ret
    exact ⟨⟨_, rfl⟩, HB2.out⟩
end Go.Proofs.YtklpihaelaagpaaDoor
