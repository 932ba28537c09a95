/-
  The classes' ranges as the variable chars.ranges is laid: what a world holds that reads so.
-/
import Derived.Test.YtjdmndpadejegaaDoorProg
import Derived.Test.YtjdmndpadejegaaDoorMgA
import Derived.Lib.LaidTab
import Derived.ProofKit
import Derived.OpenShut
import Derived.Deep.MidRow
import Derived.Lib.ValidLaws
namespace Go.Proofs.YtjdmndpadejegaaDoor
open Go.RowKit Go.Lib

def rngs : List (List (Int × Int)) :=
  [[(9, 10), (13, 13), (32, 55295), (57344, 65533), (65536, 1114111)],
   [(9, 10), (13, 13), (32, 32)],
   [(65, 90), (95, 95), (97, 122), (192, 214), (216, 246), (248, 767), (880, 893), (895, 8191), (8204, 8205), (8304, 8591), (11264, 12271), (12289, 55295), (63744, 64975), (65008, 65533), (65536, 983039)],
   [(45, 46), (48, 57), (65, 90), (95, 95), (97, 122), (183, 183), (192, 214), (216, 246), (248, 893), (895, 8191), (8204, 8205), (8255, 8256), (8304, 8591), (11264, 12271), (12289, 55295), (63744, 64975), (65008, 65533), (65536, 983039)],
   [(48, 57)],
   [(48, 57), (65, 70), (97, 102)]]
def rng (c : Nat) : List (Int × Int) := rngs.getD c []
def rngData {H : Type} : DataW H := .agg (rngs.map fun l => .slice (l.map fun p => .agg [.lit (.int .i32 p.1), .lit (.int .i32 p.2)]) [])

structure RangesAt (w : World) (g : Nat) : Prop where
  lt : g < w.heap.size
  at' : ∀ c, c < 6 → ∃ b o cap, w.cell? ⟨g, c, none⟩ = some (.slice (some ⟨b, o, none⟩) (rng c).length cap) ∧ b < w.heap.size ∧
    ∀ i, (h : i < (rng c).length) → w.cell? ⟨b, o + i * 2, none⟩ = some (.int .i32 ((rng c)[i]).1) ∧ w.cell? ⟨b, o + i * 2 + 1, none⟩ = some (.int .i32 ((rng c)[i]).2)
theorem RangesAt.below {w w' : World} {g : Nat} (h : RangesAt w g) (hb : Below w.heap.size w w') : RangesAt w' g :=
  ⟨Nat.lt_of_lt_of_le h.lt hb.size, fun c hc => by
    obtain ⟨b, o, cap, h1, h2, h3⟩ := h.at' c hc
    refine ⟨b, o, cap, (hb.cell (p := ⟨g, c, none⟩) h.lt).trans h1, Nat.lt_of_lt_of_le h2 hb.size, fun i hi => ?_⟩
    obtain ⟨h4, h5⟩ := h3 i hi
    exact ⟨(hb.cell (p := ⟨b, o + i * 2, none⟩) h2).trans h4, (hb.cell (p := ⟨b, o + i * 2 + 1, none⟩) h2).trans h5⟩⟩

theorem span_desc : ∃ f0 f1, Tryd.prog.underlying 134 = some (.struct #[f0, f1]) ∧ f0.type = 21 ∧ f1.type = 21 ∧ f0.offset = 0 ∧ f1.offset = 1 := by
  refine ⟨_, _, Tryd.underlying134, rfl, rfl, rfl, rfl⟩
theorem cellsSpan : Tryd.prog.cellsOf 134 = 2 := by kernel_rfl
theorem cellsI32 : Tryd.prog.cellsOf 21 = 1 := by kernel_rfl
theorem cellsSpans : Tryd.prog.cellsOf 131 = 1 := by kernel_rfl
theorem cellsArr : Tryd.prog.cellsOf 150 = 6 := by kernel_rfl

section
variable {H : Type} {enc : TypeId × Value → H} {w : World} {base : Nat} {sp : Nat → Bool} {held : Bool} {fuel : Nat}

theorem span_read {cs : List Value} {p : Int × Int} {q : List MemPlace}
    (h : DataW.trod enc Tryd.prog w base sp held fuel 134 cs = some (.agg [.lit (.int .i32 p.1), .lit (.int .i32 p.2)], q)) : cs = [.int .i32 p.1, .int .i32 p.2] := by
  obtain ⟨f0, f1, hu, t0, t1, o0, o1⟩ := span_desc
  obtain ⟨y0, y1, n, hx, hl, h0, h1⟩ := Go.ChangeShapes.trod_struct2 hu h
  rw [t0, o0] at h0
  rw [t1, o1] at h1
  rw [cellsSpan] at hl
  rw [cellsI32] at h0 h1
  match cs, hl with
  | [c0, c1], _ =>
    obtain ⟨n0, e0, rfl, _⟩ := DataW.trod_int Tryd.underlying21 h0
    obtain ⟨n1, e1, rfl, _⟩ := DataW.trod_int Tryd.underlying21 h1
    simp at e0 e1
    subst e0
    subst e1
    simp only [Prod.mk.injEq, DataW.agg.injEq, List.cons.injEq, DataW.lit.injEq, Lit.int.injEq, and_true, true_and] at hx
    rw [hx.1.1, hx.1.2]

theorem spans_read {cs : List Value} {l : List (Int × Int)} {q : List MemPlace} (hl : 0 < l.length)
    (h : DataW.trod enc Tryd.prog w base sp held fuel 131 cs = some (.slice (l.map fun p => .agg [.lit (.int .i32 p.1), .lit (.int .i32 p.2)]) [], q)) :
    ∃ b o cap, cs = [.slice (some ⟨b, o, none⟩) l.length cap] ∧ b < w.heap.size ∧ ∀ i, (h : i < l.length) → w.cell? ⟨b, o + i * 2, none⟩ = some (.int .i32 (l[i]).1) ∧ w.cell? ⟨b, o + i * 2 + 1, none⟩ = some (.int .i32 (l[i]).2) := by
  rcases DataW.trod_slice Tryd.underlying131 h with ⟨_, hx⟩ | ⟨a, len, cap, elems, rest, n, _, rfl, hx, _, _, _, hel, hat, _, _⟩
  · simp at hx
  · simp only [Prod.mk.injEq, DataW.slice.injEq] at hx
    have hx1 := hx.1.1
    have hlen : len = l.length := by
      have := congrArg List.length hx1
      simp at this
      omega
    have each : ∀ i, (h : i < l.length) → w.cells? base (a.add (i * 2)) 2 = some [.int .i32 (l[i]).1, .int .i32 (l[i]).2] := by
      intro i hi
      have h1 := hat i (by omega)
      rw [cellsSpan] at h1
      have h2 : elems[i]? = some elems[i] := List.getElem?_eq_getElem (by omega)
      rw [h2, Option.bind_eq_some_iff] at h1
      obtain ⟨cs', hcs, hr⟩ := h1
      have h3 : (elems.map (·.1))[i]? = some elems[i].1 := by rw [List.getElem?_map, h2]; rfl
      rw [← hx1, List.getElem?_map, List.getElem?_eq_getElem hi] at h3
      simp only [Option.map_some, Option.some.injEq] at h3
      have h4 := span_read (p := l[i]) (q := elems[i].2) (by rw [hr, h3])
      rw [hcs, h4]
    have e0 := each 0 hl
    obtain ⟨_, _, hc0⟩ := World.cells?_some e0
    have hc0' := hc0 0 (by omega)
    obtain ⟨b, o, spt⟩ := a
    have hspt : spt = none := by
      have := World.cell?_spot hc0'
      simpa [Addr.add] using this
    subst hspt
    refine ⟨b, o, cap, by rw [hlen], ?_, fun i hi => ?_⟩
    · have := World.cells?_block e0 (by omega)
      simpa [Addr.add] using this
    · obtain ⟨_, _, hc⟩ := World.cells?_some (each i hi)
      have k0 := hc 0 (by omega)
      have k1 := hc 1 (by omega)
      rw [Addr.add_mid, Addr.add_mid] at k0 k1
      exact ⟨k0, k1⟩

theorem ranges_read {cs : List Value} {q : List MemPlace} (h : DataW.trod enc Tryd.prog w base sp held fuel 150 cs = some (rngData, q)) :
    cs.length = 6 ∧ ∀ c, c < 6 → ∃ b o cap, cs[c]? = some (.slice (some ⟨b, o, none⟩) (rng c).length cap) ∧ b < w.heap.size ∧
      ∀ i, (h : i < (rng c).length) → w.cell? ⟨b, o + i * 2, none⟩ = some (.int .i32 ((rng c)[i]).1) ∧ w.cell? ⟨b, o + i * 2 + 1, none⟩ = some (.int .i32 ((rng c)[i]).2) := by
  obtain ⟨xs, m, _, hx, hl, hxl, hat⟩ := DataW.trod_array Tryd.underlying150 h
  rw [cellsArr] at hl
  refine ⟨hl, fun c hc => ?_⟩
  have h1 := hat c hc
  rw [cellsSpans, List.getElem?_eq_getElem (by omega), Nat.mul_one] at h1
  have hx1 : xs.map (·.1) = rngs.map fun l => .slice (l.map fun p => .agg [.lit (.int .i32 p.1), .lit (.int .i32 p.2)]) [] := by
    simp only [Prod.mk.injEq, rngData, DataW.agg.injEq] at hx
    exact hx.1.symm
  have hr : rngs[c]? = some (rng c) := by
    unfold rng
    rw [List.getD, List.getElem?_eq_getElem (show c < rngs.length from hc)]
    rfl
  have h3 : (xs.map (·.1))[c]? = some (xs[c]'(by omega)).1 := by rw [List.getElem?_map, List.getElem?_eq_getElem (by omega)]; rfl
  rw [hx1, List.getElem?_map, hr] at h3
  simp only [Option.map_some, Option.some.injEq] at h3
  have hpos : 0 < (rng c).length := by
    have : ∀ c, c < 6 → 0 < (rng c).length := by decide
    exact this c hc
  obtain ⟨b, o, cap, h4, h5⟩ := spans_read (l := rng c) (q := (xs[c]'(by omega)).2) hpos (by rw [h1, h3])
  refine ⟨b, o, cap, ?_, h5⟩
  have h6 : (cs.drop c).take 1 = [cs[c]'(by omega)] := by
    rw [List.drop_eq_getElem_cons (by omega)]; rfl
  rw [h6] at h4
  rw [List.getElem?_eq_getElem (by omega)]
  simpa using h4
end

theorem gRanges : Tryd.prog.globalNamed "gimlet/chars.ranges" = some 0 := by kernel_rfl
theorem gRangesType : (Tryd.prog.globals[0]?).map (·.type) = some 150 := by kernel_rfl
theorem ranges_of_laid {W : World} {r : List (String × DataW Unit)} (h : laidMet Tryd.prog (("gimlet/chars.ranges", rngData) :: r) W) : RangesAt W 0 := by
  obtain ⟨ps, hl, _, _⟩ := h
  obtain ⟨g, t, cs, fuel, p, q, hn, hy, hv, hr, _, _⟩ := hl
  rw [gRanges] at hn
  injection hn with hn
  subst hn
  rw [gRangesType] at hy
  injection hy with hy
  subst hy
  obtain ⟨hlen, hat⟩ := ranges_read hr
  unfold World.var? at hv
  rw [gRanges] at hv
  simp only [Option.bind_some] at hv
  split at hv
  · rename_i c e fz heq
    injection hv with hv
    subst hv
    refine ⟨heap_lt heq, fun k hk => ?_⟩
    obtain ⟨b, o, cap, h1, h2, h3⟩ := hat k hk
    exact ⟨b, o, cap, by rw [cell_heap heq, ← h1]; simp, h2, h3⟩
  · cases hv
end Go.Proofs.YtjdmndpadejegaaDoor

namespace Go.Proofs.YtjdmndpadejegaaDoor
open Go.RowKit

def isR : List (Int × Int) → Int → Bool
  | [], _ => false
  | p :: l, r => if r ≤ p.2 then decide (p.1 ≤ r) else isR l r
theorem isR_drop (l : List (Int × Int)) (r : Int) (k : Nat) (h : k < l.length) : isR (l.drop k) r = if r ≤ l[k].2 then decide (l[k].1 ≤ r) else isR (l.drop (k + 1)) r := by
  rw [List.drop_eq_getElem_cons h]; rfl

def RetRng (w : World) (c : Nat) (e : Ending) : Prop :=
  ∃ b o cap, e = .returned (.slice (some ⟨b, o, none⟩) (rng c).length cap) ∧ b < w.heap.size ∧
    ∀ i, (h : i < (rng c).length) → w.cell? ⟨b, o + i * 2, none⟩ = some (.int .i32 ((rng c)[i]).1) ∧ w.cell? ⟨b, o + i * 2 + 1, none⟩ = some (.int .i32 ((rng c)[i]).2)
theorem of_any (c : Nat) (hc : c < 6) (w : World) (hR : RangesAt w 0) :
    Calls Tryd.prog 65 #[.int .i64 c] w fun e w' => RetRng w c e ∧ w' = w := by
  obtain ⟨b, o, cap, h1, h2, h3⟩ := hR.at' c hc
  have H3 := Lib.hid h3
  clear h3 hR
  go_enter Tryd.func65, Tryd.ntmps65
  go_wp2
  go_ret
  exact ⟨⟨b, o, cap, rfl, h2, H3.out⟩, rfl⟩
theorem of_none (c : Int) (hc : c < 0 ∨ 6 ≤ c) (w : World) :
    Calls Tryd.prog 65 #[.int .i64 c] w fun e w' => e = .returned (.slice none 0 0) ∧ w' = w := by
  by_cases h0 : c < 0
  · go_enter Tryd.func65, Tryd.ntmps65
    go_wp2
    go_ret
    exact ⟨rfl, rfl⟩
  · have h6 : 6 ≤ c := by omega
    go_enter Tryd.func65, Tryd.ntmps65
    go_wp2
    go_ret
    exact ⟨rfl, rfl⟩

set_option maxHeartbeats 1000000 in
theorem Is_any (c : Nat) (hc : c < 6) (r : Int) (w : World) (hR : RangesAt w 0) :
    Calls Tryd.prog 74 #[.int .i64 c, .int .i32 r] w fun e w' => e = .returned (.bool (isR (rng c) r)) ∧ Below w.heap.size w w' := by
  have hlen : (rng c).length ≤ 20 := by
    have : ∀ c, c < 6 → (rng c).length ≤ 20 := by decide
    exact this c hc
  have HO := Lib.hid (of_any c hc w hR)
  clear hR
  go_enter Tryd.func74, Tryd.ntmps74
  go_wp2_with fail
  refine HO.out.mono ?_
  rintro e w1 ⟨⟨b, o, cap, rfl, hb, hcs⟩, rfl⟩
  have HC := Lib.hid hcs
  clear hcs HO
  generalize hl : rng c = l at *
  have HL := Lib.hid hl
  clear hl
  obtain ⟨n, hn⟩ : ∃ n, l.length = n := ⟨_, rfl⟩
  rw [hn] at hlen
  simp only [hn]
  have HN := Lib.hid hn
  clear hn
  go_wp2_with fail
  go_loopw [10] (fun ix wr => ∃ k : Nat, ix = .int .i64 k ∧ k ≤ n ∧ Below w1.heap.size w1 wr ∧ Hid (isR (l.drop k) r = isR l r)) (fun ix _ => n - (intOf ix).toNat)
  case atStart => exact ⟨0, rfl, Nat.zero_le _, Below.refl _ _, rfl⟩
  case round =>
    obtain ⟨k, rfl, hk, hbw, hr⟩ := hrel
    by_cases hkn : k < n
    · have hkl : k < l.length := by rw [HN.out]; exact hkn
      obtain ⟨e0, e1⟩ := HC.out k hkl
      have hd := hr.out
      rw [isR_drop l r k hkl] at hd
      rw [← hbw.cell (p := ⟨b, o + k * 2, none⟩) hb] at e0
      rw [← hbw.cell (p := ⟨b, o + k * 2 + 1, none⟩) hb] at e1
      generalize l[k] = p at *
      obtain ⟨lo, hi⟩ := p
      simp only at e0 e1 hd
      have HD := Lib.hid hd
      have hws : w1.heap.size ≤ wr.heap.size := hbw.size
      have HBW := Lib.hid hbw
      clear hd hbw hr
      by_cases hle : r ≤ hi
      · go_wp2
        go_ret
        exact ⟨ret_bool (by rw [HL.out, ← HD.out, if_pos hle]), HBW.out.alloc hws _⟩
      · have hgt : hi < r := by omega
        go_wp2
        go_roundw
        case rel => exact ⟨k + 1, by go_num, by omega, HBW.out.alloc hws _, by rw [if_neg hle] at HD; exact HD⟩
        case measure => simp [intOf]; omega
    · have hd := hr.out
      rw [List.drop_of_length_le (by rw [HN.out]; omega)] at hd
      have HD := Lib.hid hd
      clear hd hr
      go_wp2
      go_ret
      exact ⟨ret_bool (by rw [HL.out, ← HD.out]; rfl), hbw⟩

theorem Is_none (c : Int) (hc : c < 0 ∨ 6 ≤ c) (r : Int) (w : World) :
    Calls Tryd.prog 74 #[.int .i64 c, .int .i32 r] w fun e w' => e = .returned (.bool false) ∧ Below w.heap.size w w' := by
  have HO := Lib.hid (of_none c hc w)
  go_enter Tryd.func74, Tryd.ntmps74
  go_wp2_with fail
  refine HO.out.mono ?_
  rintro e w1 ⟨rfl, rfl⟩
  go_wp2_with fail
  go_loop [10] (fun ix => ix = .int .i64 0) (fun _ => 0)
  case atStart => exact rfl
  case round =>
    subst hrel
    go_wp2
    go_ret
    exact ⟨rfl, Below.refl _ _⟩
end Go.Proofs.YtjdmndpadejegaaDoor

namespace Go.Proofs.YtjdmndpadejegaaDoor
open Go.RowKit

def runesOk : Nat → List UInt8 → Bool
  | 0, _ => true
  | f + 1, l => if l = [] then true else isR (rng 0) (decL l).1 && runesOk f (l.drop (decL l).2)
theorem runesOk_fuel (f : Nat) : ∀ (g : Nat) (l : List UInt8), l.length ≤ f → l.length ≤ g → runesOk f l = runesOk g l := by
  induction f with
  | zero =>
    intro g l hf _
    obtain rfl : l = [] := List.eq_nil_of_length_eq_zero (by omega)
    cases g <;> rfl
  | succ f ih =>
    intro g l hf hg
    by_cases h : l = []
    · subst h; cases g <;> rfl
    · have hl := List.length_pos_iff.2 h
      obtain ⟨g, rfl⟩ : ∃ k, g = k + 1 := ⟨g - 1, by omega⟩
      have := dec_pos l h
      simp only [runesOk]
      rw [if_neg h, if_neg h, ih g _ (by rw [List.length_drop]; omega) (by rw [List.length_drop]; omega)]
def okL (l : List UInt8) : Bool := runesOk l.length l
theorem okL_step (l : List UInt8) (h : l ≠ []) : okL l = (isR (rng 0) (decL l).1 && okL (l.drop (decL l).2)) := by
  have hl := List.length_pos_iff.2 h
  have := dec_pos l h
  unfold okL
  obtain ⟨f, hf⟩ : ∃ f, l.length = f + 1 := ⟨l.length - 1, by omega⟩
  rw [hf]
  simp only [runesOk]
  rw [if_neg h, runesOk_fuel f (l.drop (decL l).2).length _ (by rw [List.length_drop]; omega) (Nat.le_refl _)]
def textsB (l : List UInt8) : Bool := okL l && Lib.validD l
theorem textsB_nil : textsB [] = true := rfl
theorem decodeL_dec (l : List UInt8) : Lib.decodeL l = decL l := by
  have := decL_str l 0
  rw [List.drop_zero] at this
  rw [this]; rfl
theorem textsB_good (l : List UInt8) (h : l ≠ []) (hg : ¬ ((decL l).1 = 65533 ∧ (decL l).2 = 1)) : textsB l = (isR (rng 0) (decL l).1 && textsB (l.drop (decL l).2)) := by
  unfold textsB
  rw [okL_step l h, Lib.validD_step l h, decodeL_dec, if_neg hg, Bool.and_assoc]
theorem textsB_wrong (l : List UInt8) (h : l ≠ []) (hg : (decL l).1 = 65533 ∧ (decL l).2 = 1) : textsB l = false := by
  unfold textsB
  rw [Lib.validD_step l h, decodeL_dec, if_pos hg, Bool.and_false]
theorem encU_ne (r : Nat) (x : List UInt8) : encU r ++ x ≠ [] := by
  have := (encN_ne r).1
  intro e
  have h3 : (encU r ++ x).length = 0 := by rw [e]; rfl
  rw [List.length_append, encU, List.length_map] at h3
  omega
theorem texts_enc (r : Nat) (h : chr r) (x : List UInt8) : textsB (encU r ++ x) = (isR (rng 0) r && textsB x) := by
  have hd := dec_enc r h x
  rw [textsB_good _ (encU_ne r x) (by
    rw [hd]
    rintro ⟨h1, h2⟩
    simp only at h1 h2
    rw [h1] at h2
    exact absurd h2 (by decide)), hd]
  simp only
  rw [List.drop_append_of_le_length (by simp [encU]), List.drop_of_length_le (by simp [encU]), List.nil_append]
theorem texts_bad (b : UInt8) (x : List UInt8) (h : ∀ r y, chr r → b :: x ≠ encU r ++ y) : textsB (b :: x) = false := by
  apply textsB_wrong _ (by simp)
  rcases dec_inv (b :: x) (by simp) with ⟨h1, h2, _⟩ | h1
  · exact absurd h2 (h _ _ h1)
  · rw [h1]; exact ⟨rfl, rfl⟩
theorem texts_asc (t x : List UInt8) (h : ∀ d ∈ t, d.toNat < 128) : textsB (t ++ x) = ((t.all fun d => isR (rng 0) d.toNat) && textsB x) := by
  induction t with
  | nil => simp
  | cons d t ih =>
    have hd := h d (by simp)
    have e := texts_enc d.toNat (.inl (by omega)) (t ++ x)
    rw [encU_low d hd] at e
    rw [List.cons_append, show d :: (t ++ x) = [d] ++ (t ++ x) by rfl, e, ih (fun y hy => h y (by simp [hy])), List.all_cons, Bool.and_assoc]

end Go.Proofs.YtjdmndpadejegaaDoor

namespace Go.Proofs.YtjdmndpadejegaaDoor
open Go.RowKit

def leadN (x : Nat) : Nat × Nat × Nat :=
  if x < 128 then (1, x, 0) else if 192 ≤ x ∧ x < 224 then (2, x - 192, 128) else if 224 ≤ x ∧ x < 240 then (3, x - 224, 2048) else if 240 ≤ x ∧ x < 248 then (4, x - 240, 65536) else (0, 0, 0)
def contN : List UInt8 → Nat → Option Nat
  | [], a => some a
  | y :: l, a => if y.toNat < 128 ∨ 191 < y.toNat then none else contN l (a * 64 + (y.toNat - 128))
def widN : Nat → Nat × Nat → Nat × Nat
  | 0, p => p
  | k + 1, p => widN k (p.1 * 64, p.2 * 64 + 63)
def spanL : List UInt8 → Nat × Nat
  | [] => (1, 0)
  | x :: l =>
    if 4 < l.length + 1 ∨ (leadN x.toNat).1 < l.length + 1 then (1, 0)
    else match contN l (leadN x.toNat).2.1 with
      | none => (1, 0)
      | some a => (max (widN ((leadN x.toNat).1 - (l.length + 1)) (a, a)).1 (leadN x.toNat).2.2, min (widN ((leadN x.toNat).1 - (l.length + 1)) (a, a)).2 1114111)

theorem contN_cons (y : UInt8) (l : List UInt8) (a : Nat) (h : 128 ≤ y.toNat ∧ y.toNat ≤ 191) : contN (y :: l) a = contN l (a * 64 + (y.toNat - 128)) := by
  simp only [contN]
  rw [if_neg (by omega)]
theorem span_full (x : UInt8) (l : List UInt8) (n f m a : Nat) (h0 : leadN x.toNat = (n, f, m)) (h1 : l.length + 1 = n) (h4 : n ≤ 4) (h2 : contN l f = some a) : spanL (x :: l) = (max a m, min a 1114111) := by
  simp only [spanL]
  rw [h0]
  simp only
  rw [h1, h2, if_neg (by omega), Nat.sub_self]
  rfl
set_option maxHeartbeats 2000000 in
theorem span_enc (r : Nat) (h : r ≤ 1114111) : spanL (encU r) = (r, r) := by
  unfold encU encN
  by_cases h1 : r < 128
  · rw [if_pos h1]
    simp only [List.map_cons, List.map_nil]
    have e0 := toNat_of r (by omega)
    rw [span_full _ [] 1 r 0 r (by rw [e0]; unfold leadN; rw [if_pos h1]) rfl (by decide) rfl]
    simp only [Prod.mk.injEq]
    omega
  · rw [if_neg h1]
    by_cases h2 : r < 2048
    · rw [if_pos h2]
      simp only [List.map_cons, List.map_nil]
      have e0 := toNat_of (192 + r / 64) (by omega)
      have e1 := toNat_of (128 + r % 64) (by omega)
      rw [span_full _ _ 2 (192 + r / 64 - 192) 128 r (by rw [e0]; unfold leadN; rw [if_neg (by omega), if_pos (by omega)]) rfl (by decide)
        (by rw [contN_cons _ _ _ (by omega), e1]; simp only [contN, Option.some.injEq]; omega)]
      simp only [Prod.mk.injEq]
      omega
    · rw [if_neg h2]
      by_cases h3 : r < 65536
      · rw [if_pos h3]
        simp only [List.map_cons, List.map_nil]
        have e0 := toNat_of (224 + r / 4096) (by omega)
        have e1 := toNat_of (128 + r / 64 % 64) (by omega)
        have e2 := toNat_of (128 + r % 64) (by omega)
        rw [span_full _ _ 3 (224 + r / 4096 - 224) 2048 r (by rw [e0]; unfold leadN; rw [if_neg (by omega), if_neg (by omega), if_pos (by omega)]) rfl (by decide)
          (by rw [contN_cons _ _ _ (by omega), contN_cons _ _ _ (by omega), e1, e2]; simp only [contN, Option.some.injEq]; omega)]
        simp only [Prod.mk.injEq]
        omega
      · rw [if_neg h3]
        simp only [List.map_cons, List.map_nil]
        have e0 := toNat_of (240 + r / 262144) (by omega)
        have e1 := toNat_of (128 + r / 4096 % 64) (by omega)
        have e2 := toNat_of (128 + r / 64 % 64) (by omega)
        have e3 := toNat_of (128 + r % 64) (by omega)
        rw [span_full _ _ 4 (240 + r / 262144 - 240) 65536 r (by rw [e0]; unfold leadN; rw [if_neg (by omega), if_neg (by omega), if_neg (by omega), if_pos (by omega)]) rfl (by decide)
          (by rw [contN_cons _ _ _ (by omega), contN_cons _ _ _ (by omega), contN_cons _ _ _ (by omega), e1, e2, e3]; simp only [contN, Option.some.injEq]; omega)]
        simp only [Prod.mk.injEq]
        omega
theorem widN_le : ∀ (k : Nat) (p : Nat × Nat), p.1 ≤ p.2 → (widN k p).1 ≤ (widN k p).2
  | 0, _, h => h
  | k + 1, p, h => widN_le k _ (by simp only; omega)
theorem span_same (l : List UInt8) (h : (spanL l).1 = (spanL l).2) : (spanL l).1 ≤ 1114111 := by
  rw [h]
  rcases l with _ | ⟨x, l⟩
  · simp [spanL]
  · simp only [spanL]
    split
    · decide
    · split
      · decide
      · simp only; omega
theorem enc_head (r q : Nat) (hr : r ≤ 1114111) (hq : q ≤ 1114111) (y z : List UInt8) (h : encU r ++ y = encU q ++ z) : (encN r).length = (encN q).length := by
  have h2 := congrArg (List.map UInt8.toNat) h
  rw [List.map_append, List.map_append] at h2
  have hm : ∀ r, r ≤ 1114111 → (encU r).map UInt8.toNat = encN r := by
    intro r hr
    unfold encU
    rw [List.map_map]
    have : ∀ l : List Nat, (∀ x ∈ l, x < 256) → l.map (UInt8.toNat ∘ UInt8.ofNat) = l := by
      intro l
      induction l with
      | nil => intro _; rfl
      | cons a l ih => intro hl; rw [List.map_cons, ih (fun x hx => hl x (by simp [hx]))]; congr 1; exact toNat_of a (hl a (by simp))
    exact this _ (encN_byte r hr)
  rw [hm r hr, hm q hq] at h2
  clear h
  unfold encN at h2 ⊢
  by_cases a1 : r < 128
  · rw [if_pos a1] at h2 ⊢
    by_cases b1 : q < 128
    · rw [if_pos b1]; rfl
    · rw [if_neg b1] at h2 ⊢
      by_cases b2 : q < 2048
      · rw [if_pos b2] at h2; simp only [List.cons_append, List.cons.injEq] at h2; omega
      · rw [if_neg b2] at h2
        by_cases b3 : q < 65536
        · rw [if_pos b3] at h2; simp only [List.cons_append, List.cons.injEq] at h2; omega
        · rw [if_neg b3] at h2; simp only [List.cons_append, List.cons.injEq] at h2; omega
  · rw [if_neg a1] at h2 ⊢
    by_cases a2 : r < 2048
    · rw [if_pos a2] at h2 ⊢
      by_cases b1 : q < 128
      · rw [if_pos b1] at h2; simp only [List.cons_append, List.cons.injEq] at h2; omega
      · rw [if_neg b1] at h2 ⊢
        by_cases b2 : q < 2048
        · rw [if_pos b2]; rfl
        · rw [if_neg b2] at h2
          by_cases b3 : q < 65536
          · rw [if_pos b3] at h2; simp only [List.cons_append, List.cons.injEq] at h2; omega
          · rw [if_neg b3] at h2; simp only [List.cons_append, List.cons.injEq] at h2; omega
    · rw [if_neg a2] at h2 ⊢
      by_cases a3 : r < 65536
      · rw [if_pos a3] at h2 ⊢
        by_cases b1 : q < 128
        · rw [if_pos b1] at h2; simp only [List.cons_append, List.cons.injEq] at h2; omega
        · rw [if_neg b1] at h2 ⊢
          by_cases b2 : q < 2048
          · rw [if_pos b2] at h2; simp only [List.cons_append, List.cons.injEq] at h2; omega
          · rw [if_neg b2] at h2 ⊢
            by_cases b3 : q < 65536
            · rw [if_pos b3]; rfl
            · rw [if_neg b3] at h2; simp only [List.cons_append, List.cons.injEq] at h2; omega
      · rw [if_neg a3] at h2 ⊢
        by_cases b1 : q < 128
        · rw [if_pos b1] at h2; simp only [List.cons_append, List.cons.injEq] at h2; omega
        · rw [if_neg b1] at h2 ⊢
          by_cases b2 : q < 2048
          · rw [if_pos b2] at h2; simp only [List.cons_append, List.cons.injEq] at h2; omega
          · rw [if_neg b2] at h2 ⊢
            by_cases b3 : q < 65536
            · rw [if_pos b3] at h2; simp only [List.cons_append, List.cons.injEq] at h2; omega
            · rw [if_neg b3]; rfl

def hitN (l : List UInt8) (n : Nat) : Bool := (spanL (l.take n)).1 == (spanL (l.take n)).2 && encU (spanL (l.take n)).1 == l.take n
def surr (r : Nat) : Bool := decide (55296 ≤ r ∧ r ≤ 57343)
def readR (l : List UInt8) : Nat → Nat → Nat × Nat
  | 0, _ => (0, 0)
  | f + 1, n => if n ≤ 4 ∧ n ≤ l.length then (if hitN l n = true then (if surr (spanL (l.take n)).1 = true then (0, 0) else ((spanL (l.take n)).1, n)) else readR l f (n + 1)) else (0, 0)
theorem hit_inv (l : List UInt8) (n : Nat) (h : hitN l n = true) : ∃ r, r ≤ 1114111 ∧ (spanL (l.take n)).1 = r ∧ l.take n = encU r ∧ l = encU r ++ l.drop n := by
  unfold hitN at h
  simp only [Bool.and_eq_true, beq_iff_eq] at h
  refine ⟨_, span_same _ h.1, rfl, h.2.symm, ?_⟩
  rw [h.2, List.take_append_drop]
theorem readR_bad (l : List UInt8) (hb : (decL l).1 = 65533 ∧ (decL l).2 = 1) : ∀ f n, readR l f n = (0, 0)
  | 0, _ => rfl
  | f + 1, n => by
    simp only [readR]
    split
    · by_cases h : hitN l n = true
      · rw [if_pos h]
        obtain ⟨r, hr, e, _, hl⟩ := hit_inv l n h
        rw [e]
        by_cases hs : surr r = true
        · rw [if_pos hs]
        · exfalso
          have hc : chr r := by
            unfold surr at hs
            simp only [decide_eq_true_eq] at hs
            unfold chr; omega
          have hd := dec_enc r hc (l.drop n)
          rw [← hl] at hd
          rw [hd] at hb
          simp only at hb
          obtain ⟨rfl, h2⟩ := hb
          exact absurd h2 (by decide)
      · rw [if_neg h]
        exact readR_bad l hb f (n + 1)
    · rfl
theorem readR_good (l : List UInt8) (h : l ≠ []) (hg : ¬ ((decL l).1 = 65533 ∧ (decL l).2 = 1)) : ∀ f n, n ≤ (decL l).2 → (decL l).2 < f + n → readR l f n = decL l := by
  obtain ⟨hc, hl, hn⟩ : chr (decL l).1 ∧ l = encU (decL l).1 ++ l.drop (decL l).2 ∧ (decL l).2 = (encN (decL l).1).length := by
    rcases dec_inv l h with hi | hi
    · exact hi
    · exact absurd (by rw [hi]; exact ⟨rfl, rfl⟩) hg
  have hll : (decL l).2 ≤ l.length := by
    have := congrArg List.length hl
    rw [List.length_append, encU, List.length_map, ← hn] at this
    omega
  have h4 := (encN_ne (decL l).1).2
  intro f
  induction f with
  | zero => intro n h1 h2; omega
  | succ f ih =>
    intro n h1 h2
    simp only [readR]
    rw [if_pos (by omega)]
    by_cases hh : hitN l n = true
    · rw [if_pos hh]
      obtain ⟨r, hr, e, ht, hl2⟩ := hit_inv l n hh
      have h3 := enc_head r (decL l).1 hr (chr_le hc) (l.drop n) (l.drop (decL l).2) (by rw [← hl2, ← hl])
      have h5 := congrArg List.length ht
      rw [List.length_take, encU, List.length_map, h3, ← hn] at h5
      have h6 : n = (decL l).2 := by omega
      have h7 : encU r = encU (decL l).1 := by
        rw [← ht, h6]
        have := congrArg (List.take (decL l).2) hl
        rw [this, List.take_append_of_le_length (by simp [encU, hn]), List.take_of_length_le (by simp [encU, hn])]
      have h8 := congrArg spanL h7
      rw [span_enc r hr, span_enc _ (chr_le hc)] at h8
      simp only [Prod.mk.injEq] at h8
      rw [e, h8.1]
      have hs : surr (decL l).1 = false := by unfold surr; unfold chr at hc; simp only [decide_eq_false_iff_not]; omega
      rw [hs, h6]
      simp
    · rw [if_neg hh]
      by_cases h6 : n = (decL l).2
      · exfalso
        apply hh
        have ht : l.take n = encU (decL l).1 := by
          rw [h6]
          have := congrArg (List.take (decL l).2) hl
          rw [this, List.take_append_of_le_length (by simp [encU, hn]), List.take_of_length_le (by simp [encU, hn])]
        unfold hitN
        rw [ht, span_enc _ (chr_le hc)]
        simp
      · exact ih (n + 1) (by omega) (by omega)
def textsR : Nat → List UInt8 → Bool
  | 0, _ => true
  | f + 1, l => if l = [] then true else if (readR l 4 1).2 = 0 ∨ isR (rng 0) (readR l 4 1).1 = false then false else textsR f (l.drop (readR l 4 1).2)
theorem textsR_eq (f : Nat) : ∀ l : List UInt8, l.length ≤ f → textsR f l = textsB l := by
  induction f with
  | zero =>
    intro l h
    obtain rfl : l = [] := List.eq_nil_of_length_eq_zero (by omega)
    rfl
  | succ f ih =>
    intro l h
    simp only [textsR]
    by_cases h0 : l = []
    · subst h0; rfl
    · rw [if_neg h0]
      by_cases hg : (decL l).1 = 65533 ∧ (decL l).2 = 1
      · rw [readR_bad l hg, textsB_wrong l h0 hg]
        simp
      · have hp := dec_pos l h0
        have h4 : (decL l).2 ≤ 4 := by
          rcases dec_inv l h0 with ⟨_, _, hi⟩ | hi
          · rw [hi]; exact (encN_ne _).2
          · rw [hi]; decide
        have hl := List.length_pos_iff.2 h0
        rw [readR_good l h0 hg 4 1 hp (by omega), textsB_good l h0 hg, ih _ (by rw [List.length_drop]; omega)]
        cases hi : isR (rng 0) (decL l).1 with
        | false => simp
        | true => rw [if_neg (by simp; omega)]; simp

end Go.Proofs.YtjdmndpadejegaaDoor

namespace Go.Proofs.YtjdmndpadejegaaDoor
open Go.RowKit

theorem runesF_drop : ∀ (f : Nat) (s t : ByteArray) (p q : Nat), s.data.toList.drop p = t.data.toList.drop q → runesF s f p = runesF t f q
  | 0, _, _, _, _, _ => rfl
  | f + 1, s, t, p, q, h => by
    have hl := congrArg List.length h
    rw [List.length_drop, List.length_drop] at hl
    have e1 : s.data.toList.length = s.size := by rw [Array.length_toList]; rfl
    have e2 : t.data.toList.length = t.size := by rw [Array.length_toList]; rfl
    rw [e1, e2] at hl
    simp only [runesF]
    by_cases hp : p < s.size
    · rw [if_pos hp, if_pos (by omega), decode_drop, decode_drop, h]
      refine congrArg _ (runesF_drop f _ _ _ _ ?_)
      rw [← List.drop_drop, ← List.drop_drop, h]
    · rw [if_neg hp, if_neg (by omega)]
def rL (l : List UInt8) : List Int := runesOf (strL l)
theorem rL_nil : rL [] = [] := rfl
theorem rL_cons (l : List UInt8) (h : l ≠ []) : rL l = ((decL l).1 : Int) :: rL (l.drop (decL l).2) := by
  have hs : (strL l).size = l.length := strL_size l
  have hp : 0 < (strL l).size := by rw [hs]; exact List.length_pos_iff.2 h
  have h1 := runesAt_step (strL l) 0 hp
  rw [runesAt_zero] at h1
  have hd : Utf8.decode (strL l) 0 = decL l := by rw [decode_drop, strL_data, List.drop_zero]
  rw [hd] at h1
  unfold rL
  rw [h1, Nat.zero_add]
  congr 1
  unfold runesAt runesOf
  have hz : (strL (l.drop (decL l).2)).size = (strL l).size - (decL l).2 := by rw [strL_size, strL_size, List.length_drop]
  rw [hz]
  refine runesF_drop _ _ _ _ _ ?_
  rw [strL_data, strL_data, List.drop_zero]
theorem rL_app (v u : List UInt8) (h : Lib.validD v = true) : rL (v ++ u) = rL v ++ rL u := by
  have key : ∀ (n : Nat) (v : List UInt8), v.length ≤ n → Lib.validD v = true → rL (v ++ u) = rL v ++ rL u := by
    intro n
    induction n with
    | zero =>
      intro v hn _
      have : v = [] := List.eq_nil_of_length_eq_zero (by omega)
      subst this
      rfl
    | succ n ih =>
      intro v hn hv
      by_cases h0 : v = []
      · subst h0; rfl
      · have hp := dec_pos v h0
        rw [Lib.validD_step v h0, decodeL_dec] at hv
        by_cases hb : (decL v).1 = 65533 ∧ (decL v).2 = 1
        · rw [if_pos hb] at hv; cases hv
        · rw [if_neg hb] at hv
          rcases dec_inv v h0 with ⟨k1, k2, k3⟩ | k
          · have hd : decL (v ++ u) = decL v := by
              have e : v ++ u = encU (decL v).1 ++ (v.drop (decL v).2 ++ u) := by
                rw [← List.append_assoc]
                exact congrArg (· ++ u) k2
              rw [e, dec_enc _ k1, ← k3]
            have hlen : (decL v).2 ≤ v.length := by
              have := congrArg List.length k2
              rw [List.length_append, List.length_drop] at this
              have e3 : (encU (decL v).1).length = (decL v).2 := by rw [k3]; unfold encU; simp
              omega
            rw [rL_cons (v ++ u) (by simp [h0]), rL_cons v h0, hd, List.drop_append_of_le_length hlen, ih _ (by rw [List.length_drop]; omega) hv]
            rfl
          · rw [k] at hb; exact absurd ⟨rfl, rfl⟩ hb
  exact key v.length v (Nat.le_refl _) h
theorem validD_app {v u : List UInt8} (h : Lib.validD v = true) (hu : Lib.validD u = true) : Lib.validD (v ++ u) = true := by
  have key : ∀ (n : Nat) (v : List UInt8), v.length ≤ n → Lib.validD v = true → Lib.validD (v ++ u) = true := by
    intro n
    induction n with
    | zero =>
      intro v hn _
      have : v = [] := List.eq_nil_of_length_eq_zero (by omega)
      subst this
      exact hu
    | succ n ih =>
      intro v hn hv
      by_cases h0 : v = []
      · subst h0; exact hu
      · have hp := dec_pos v h0
        rw [Lib.validD_step v h0, decodeL_dec] at hv
        by_cases hb : (decL v).1 = 65533 ∧ (decL v).2 = 1
        · rw [if_pos hb] at hv; cases hv
        · rw [if_neg hb] at hv
          rcases dec_inv v h0 with ⟨k1, k2, k3⟩ | k
          · have hd : decL (v ++ u) = decL v := by
              have e : v ++ u = encU (decL v).1 ++ (v.drop (decL v).2 ++ u) := by
                rw [← List.append_assoc]
                exact congrArg (· ++ u) k2
              rw [e, dec_enc _ k1, ← k3]
            have hlen : (decL v).2 ≤ v.length := by
              have := congrArg List.length k2
              rw [List.length_append, List.length_drop] at this
              have e3 : (encU (decL v).1).length = (decL v).2 := by rw [k3]; unfold encU; simp
              omega
            rw [Lib.validD_step (v ++ u) (by simp [h0]), decodeL_dec, hd, if_neg hb, List.drop_append_of_le_length hlen]
            exact ih _ (by rw [List.length_drop]; omega) hv
          · rw [k] at hb; exact absurd ⟨rfl, rfl⟩ hb
  exact key v.length v (Nat.le_refl _) h
end Go.Proofs.YtjdmndpadejegaaDoor

namespace Go.Proofs.YtjdmndpadejegaaDoor
open Go.RowKit

def meetB (ps : List (Int × Int)) (q : Nat × Nat) : Bool := ps.any fun p => decide (max p.1 (q.1 : Int) ≤ min p.2 (q.2 : Int))
def begB (c : Nat) (l : List UInt8) : Bool := meetB (rng c) (spanL l)
theorem meetB_none (ps : List (Int × Int)) {q : Nat × Nat} (h : q.2 < q.1) : meetB ps q = false := by
  unfold meetB
  rw [List.any_eq_false]
  intro p _
  simp only [decide_eq_true_eq]
  omega
def leadC (x : Nat) : Option (Nat × Nat × Nat) :=
  if x < 128 then some (1, x, 0) else if x < 194 ∨ 244 < x then none else if x < 224 then some (2, x % 32, 128) else if x < 240 then some (3, x % 16, 2048) else some (4, x % 8, 65536)
def reachC : List UInt8 → Option (Nat × Nat)
  | [] => none
  | x :: l =>
    if 4 < l.length + 1 then none
    else match leadC x.toNat with
      | none => none
      | some (n, f, m) =>
        if n < l.length + 1 then none
        else match contN l f with
          | none => none
          | some a => some (max (widN (n - (l.length + 1)) (a, a)).1 m, min (widN (n - (l.length + 1)) (a, a)).2 1114111)
theorem widN_mono : ∀ (k : Nat) (p : Nat × Nat), (widN k p).1 = p.1 * 64 ^ k ∧ (widN k p).2 + 1 = (p.2 + 1) * 64 ^ k
  | 0, p => by simp [widN]
  | k + 1, p => by
    obtain ⟨h1, h2⟩ := widN_mono k (p.1 * 64, p.2 * 64 + 63)
    unfold widN
    rw [h1, h2, Nat.pow_succ]
    constructor
    · show p.1 * 64 * 64 ^ k = p.1 * (64 ^ k * 64)
      rw [Nat.mul_assoc, Nat.mul_comm 64]
    · show (p.2 * 64 + 63 + 1) * 64 ^ k = (p.2 + 1) * (64 ^ k * 64)
      rw [show p.2 * 64 + 63 + 1 = (p.2 + 1) * 64 by omega, Nat.mul_assoc, Nat.mul_comm 64]
theorem contN_range : ∀ (l : List UInt8) (f a : Nat), contN l f = some a → f * 64 ^ l.length ≤ a ∧ a < (f + 1) * 64 ^ l.length
  | [], f, a, h => by simp only [contN, Option.some.injEq] at h; subst h; simp
  | y :: l, f, a, h => by
    simp only [contN] at h
    split at h
    · cases h
    · rename_i hy
      obtain ⟨h1, h2⟩ := contN_range l _ _ h
      have hy' : y.toNat - 128 ≤ 63 := by omega
      rw [List.length_cons, Nat.pow_succ]
      have e1 : f * (64 ^ l.length * 64) = (f * 64) * 64 ^ l.length := by rw [Nat.mul_comm (64 ^ l.length), Nat.mul_assoc]
      have e2 : (f + 1) * (64 ^ l.length * 64) = ((f + 1) * 64) * 64 ^ l.length := by rw [Nat.mul_comm (64 ^ l.length), Nat.mul_assoc]
      rw [e1, e2]
      constructor
      · exact Nat.le_trans (Nat.mul_le_mul_right _ (by omega)) h1
      · exact Nat.lt_of_lt_of_le h2 (Nat.mul_le_mul_right _ (by omega))
theorem reach_beg (c : Nat) (l : List UInt8) : begB c l = match reachC l with | none => false | some q => meetB (rng c) q := by
  unfold begB
  cases l with
  | nil => exact meetB_none _ (by decide)
  | cons x l =>
    have hR : reachC (x :: l) = if 4 < l.length + 1 then none
        else match leadC x.toNat with
          | none => none
          | some (n, f, m) =>
            if n < l.length + 1 then none
            else match contN l f with
              | none => none
              | some a => some (max (widN (n - (l.length + 1)) (a, a)).1 m, min (widN (n - (l.length + 1)) (a, a)).2 1114111) := rfl
    rw [hR]
    clear hR
    by_cases h4 : 4 < l.length + 1
    · rw [if_pos h4]
      have : spanL (x :: l) = (1, 0) := by simp only [spanL]; rw [if_pos (.inl h4)]
      rw [this]; exact meetB_none _ (by decide)
    rw [if_neg h4]
    have hx : x.toNat < 256 := x.toNat_lt
    have hS : spanL (x :: l) = if (leadN x.toNat).1 < l.length + 1 then (1, 0) else match contN l (leadN x.toNat).2.1 with
      | none => (1, 0)
      | some a => (max (widN ((leadN x.toNat).1 - (l.length + 1)) (a, a)).1 (leadN x.toNat).2.2, min (widN ((leadN x.toNat).1 - (l.length + 1)) (a, a)).2 1114111) := by
      simp only [spanL]
      by_cases hh : (leadN x.toNat).1 < l.length + 1
      · rw [if_pos (.inr hh), if_pos hh]
      · rw [if_neg (by omega), if_neg hh]
        all_goals (cases contN l (leadN x.toNat).2.1 <;> rfl)
    have hsame : ∀ n f m, leadC x.toNat = some (n, f, m) → leadN x.toNat = (n, f, m) := by
      intro n f m h
      unfold leadC at h
      unfold leadN
      split at h
      · rename_i h1; cases h; rw [if_pos h1]
      · rename_i h1
        split at h
        · cases h
        · rename_i h2
          split at h
          · rename_i h3; cases h; rw [if_neg h1, if_pos (by omega), show x.toNat % 32 = x.toNat - 192 by omega]
          · rename_i h3
            split at h
            · rename_i h5; cases h; rw [if_neg h1, if_neg (by omega), if_pos (by omega), show x.toNat % 16 = x.toNat - 224 by omega]
            · rename_i h5; cases h; rw [if_neg h1, if_neg (by omega), if_neg (by omega), if_pos (by omega), show x.toNat % 8 = x.toNat - 240 by omega]
    cases hl : leadC x.toNat with
    | some t =>
      obtain ⟨n, f, m⟩ := t
      rw [hS, hsame n f m hl]
      simp only
      by_cases hn : n < l.length + 1
      · rw [if_pos hn, if_pos hn]; exact meetB_none _ (by decide)
      · rw [if_neg hn, if_neg hn]
        cases contN l f with
        | none => exact meetB_none _ (show 0 < 1 by decide)
        | some a => rfl
    | none =>
      simp only
      rw [hS]
      have hb : x.toNat < 194 ∨ 244 < x.toNat := by
        unfold leadC at hl
        split at hl
        · cases hl
        · split at hl
          · assumption
          · split at hl
            · cases hl
            · split at hl <;> cases hl
      have h128 : ¬ x.toNat < 128 := by
        intro h
        unfold leadC at hl
        rw [if_pos h] at hl; cases hl
      split
      · exact meetB_none _ (by decide)
      · rename_i hlen
        cases hc : contN l (leadN x.toNat).2.1 with
        | none => exact meetB_none _ (show 0 < 1 by decide)
        | some a =>
          simp only
          refine meetB_none _ ?_
          obtain ⟨h1, h2⟩ := contN_range _ _ _ hc
          obtain ⟨w1, w2⟩ := widN_mono ((leadN x.toNat).1 - (l.length + 1)) (a, a)
          simp only at w1 w2 ⊢
          by_cases hlow : 192 ≤ x.toNat ∧ x.toNat < 194
          · have e : leadN x.toNat = (2, x.toNat - 192, 128) := by unfold leadN; rw [if_neg h128, if_pos (by omega)]
            rw [e] at h1 h2 w1 w2 hlen ⊢
            simp only at h1 h2 w1 w2 hlen ⊢
            have hll : l.length = 0 ∨ l.length = 1 := by omega
            rcases hll with q | q <;> rw [q] at h2 w2 ⊢ <;> simp at h2 w2 ⊢ <;> omega
          · by_cases hhi : 245 ≤ x.toNat ∧ x.toNat < 248
            · have e : leadN x.toNat = (4, x.toNat - 240, 65536) := by unfold leadN; rw [if_neg h128, if_neg (by omega), if_neg (by omega), if_pos (by omega)]
              rw [e] at h1 h2 w1 w2 hlen ⊢
              simp only at h1 h2 w1 w2 hlen ⊢
              have hll : l.length = 0 ∨ l.length = 1 ∨ l.length = 2 ∨ l.length = 3 := by omega
              rcases hll with q | q | q | q <;> rw [q] at h1 w1 ⊢ <;> simp at h1 w1 ⊢ <;> omega
            · have e : leadN x.toNat = (0, 0, 0) := by unfold leadN; rw [if_neg h128, if_neg (by omega), if_neg (by omega), if_neg (by omega)]
              rw [e] at hlen
              simp only at hlen
              omega
end Go.Proofs.YtjdmndpadejegaaDoor
