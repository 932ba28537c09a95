/-
  A new row of bytes.
-/
import Derived.Test.YtklpihaelaagpaaDoorLgA
import Derived.Test.YtklpihaelaagpaaDoorLgE
import Derived.IntWalk
import Derived.Test.YtklpihaelaagpaaDoorLgD
import Derived.Test.YtklpihaelaagpaaDoorLgV
import Derived.Test.YtklpihaelaagpaaDoorLgJ
import Derived.Lib.ConvBytes
import Derived.Deep.RegionHeld3
namespace Go.Proofs.YtklpihaelaagpaaDoor
open Go.RowKit

theorem sl_new {w : World} {g : Nat} {l : List UInt8} {e : TypeId} {p : Nat × Nat} (h : w.heap[g]? = some (.cells (u8s l).toArray e p)) : Sl w (some ⟨g, 0, none⟩) l.length (u8s l) :=
  ⟨(u8s_length l).symm, fun i hi => ⟨g, 0, rfl, heap_lt h, by rw [cell_heap h, Nat.zero_add]; simp [hi]⟩⟩
end Go.Proofs.YtklpihaelaagpaaDoor

namespace Go.Proofs.YtklpihaelaagpaaDoor
open Go.RowKit

theorem u8s_enc (r : Nat) (h : r ≤ 1114111) : (u8s (encU r)).toArray = ((encN r).map fun x : Nat => Value.int .u8 x).toArray := by
  congr 1
  unfold u8s encU
  rw [List.map_map]
  apply List.map_congr_left
  intro x hx
  simp only [Function.comp]
  rw [toNat_of x (encN_byte r h x hx)]
theorem ret_enc (r : Nat) (h : r ≤ 1114111) (w : World) (k : Nat) (hk : (encN r).length = k) (xs : Array Value) (hx : xs = ((encN r).map fun x : Nat => Value.int .u8 x).toArray) :
    RetSl (.returned (.slice (some ⟨w.heap.size, 0, none⟩) k k)) (w.alloc (.cells xs 5)) (u8s (encU r)) := by
  rw [← u8s_enc r h] at hx
  subst hx
  have hs := sl_new (l := encU r) (heap_alloc_new w (.cells (u8s (encU r)).toArray 5))
  rw [show (encU r).length = k by simp [encU, hk]] at hs
  exact ⟨_, _, _, rfl, hs⟩

set_option maxRecDepth 1000000 in
set_option maxHeartbeats 2000000 in
theorem Bytes_any (r : Nat) (h : r ≤ 1114111) (w : World) :
    Calls Tryd.prog 70 #[.int .i64 r] w fun e w' => RetSl e w' (u8s (encU r)) ∧ Below w.heap.size w w' := by
  by_cases h1 : r < 128
  · have HR := Lib.hid (ret_enc r h w 1 (by unfold encN; rw [if_pos h1]; rfl) #[.int .u8 (r : Int)] (by unfold encN; rw [if_pos h1]; rfl))
    go_enter Tryd.func70, Tryd.ntmps70
    go_wp2_with fail
    go_ret
    exact ⟨HR.out, (Below.refl _ _).alloc (Nat.le_refl _) _⟩
  · have h1' : 128 ≤ r := by omega
    by_cases h2 : r < 2048
    · have HR := Lib.hid (ret_enc r h w 2 (by unfold encN; rw [if_neg h1, if_pos h2]; rfl) #[.int .u8 ((192 + r / 64 : Nat) : Int), .int .u8 ((128 + r % 64 : Nat) : Int)] (by unfold encN; rw [if_neg h1, if_pos h2]; rfl))
      have q1 : (r : Int).tdiv 64 = ((r / 64 : Nat) : Int) := rfl
      have q2 : (r : Int).tmod 64 = ((r % 64 : Nat) : Int) := rfl
      clear h1
      go_enter Tryd.func70, Tryd.ntmps70
      go_wp2_with fail
      go_ret
      exact ⟨HR.out, (Below.refl _ _).alloc (Nat.le_refl _) _⟩
    · have h2' : 2048 ≤ r := by omega
      by_cases h3 : r < 65536
      · have HR := Lib.hid (ret_enc r h w 3 (by unfold encN; rw [if_neg h1, if_neg h2, if_pos h3]; rfl) #[.int .u8 ((224 + r / 4096 : Nat) : Int), .int .u8 ((128 + r / 64 % 64 : Nat) : Int), .int .u8 ((128 + r % 64 : Nat) : Int)] (by unfold encN; rw [if_neg h1, if_neg h2, if_pos h3]; rfl))
        have q1 : (r : Int).tdiv 64 = ((r / 64 : Nat) : Int) := rfl
        have q2 : (r : Int).tmod 64 = ((r % 64 : Nat) : Int) := rfl
        have q3 : (r : Int).tdiv 4096 = ((r / 4096 : Nat) : Int) := rfl
        have q4 : ((r / 64 : Nat) : Int).tmod 64 = ((r / 64 % 64 : Nat) : Int) := rfl
        clear h1 h2
        go_enter Tryd.func70, Tryd.ntmps70
        go_wp2_with fail
        go_ret
        exact ⟨HR.out, (Below.refl _ _).alloc (Nat.le_refl _) _⟩
      · have h3' : 65536 ≤ r := by omega
        have HR := Lib.hid (ret_enc r h w 4 (by unfold encN; rw [if_neg h1, if_neg h2, if_neg h3]; rfl) #[.int .u8 ((240 + r / 262144 : Nat) : Int), .int .u8 ((128 + r / 4096 % 64 : Nat) : Int), .int .u8 ((128 + r / 64 % 64 : Nat) : Int), .int .u8 ((128 + r % 64 : Nat) : Int)] (by unfold encN; rw [if_neg h1, if_neg h2, if_neg h3]; rfl))
        have q1 : (r : Int).tdiv 64 = ((r / 64 : Nat) : Int) := rfl
        have q2 : (r : Int).tmod 64 = ((r % 64 : Nat) : Int) := rfl
        have q3 : (r : Int).tdiv 4096 = ((r / 4096 : Nat) : Int) := rfl
        have q5 : (r : Int).tdiv 262144 = ((r / 262144 : Nat) : Int) := rfl
        have q4 : ((r / 64 : Nat) : Int).tmod 64 = ((r / 64 % 64 : Nat) : Int) := rfl
        have q6 : ((r / 4096 : Nat) : Int).tmod 64 = ((r / 4096 % 64 : Nat) : Int) := rfl
        clear h1 h2 h3
        go_enter Tryd.func70, Tryd.ntmps70
        go_wp2_with fail
        go_ret
        exact ⟨HR.out, (Below.refl _ _).alloc (Nat.le_refl _) _⟩
end Go.Proofs.YtklpihaelaagpaaDoor

namespace Go.Proofs.YtklpihaelaagpaaDoor
open Go.RowKit

def flat (l : List (Int × Int)) : List Value := l.flatMap fun p => [.int .i64 p.1, .int .i64 p.2]
theorem flat_at (l : List (Int × Int)) : ∀ i, (h : i < l.length) → (flat l)[i * 2]? = some (.int .i64 l[i].1) ∧ (flat l)[i * 2 + 1]? = some (.int .i64 l[i].2) := by
  induction l with
  | nil => intro i h; simp at h
  | cons p l ih =>
    intro i h
    cases i with
    | zero => simp [flat]
    | succ i =>
      have := ih i (by simpa using h)
      simpa [flat, Nat.add_mul] using this
def RetRng2 (w : World) (c : Nat) (e : Ending) (w' : World) : Prop :=
  ∃ b n, e = .returned (.slice (some ⟨b, 0, none⟩) n n) ∧ n = (rng c).length ∧ b < w'.heap.size ∧ Below w.heap.size w w' ∧
    ∀ i, (h : i < (rng c).length) → w'.cell? ⟨b, i * 2, none⟩ = some (.int .i64 ((rng c)[i]).1) ∧ w'.cell? ⟨b, i * 2 + 1, none⟩ = some (.int .i64 ((rng c)[i]).2)
theorem retRng2_new (w : World) (c : Nat) (n : Nat) (hn : n = (rng c).length) : RetRng2 w c (.returned (.slice (some ⟨w.heap.size, 0, none⟩) n n)) (w.alloc (.cells (flat (rng c)).toArray 116)) := by
  refine ⟨w.heap.size, n, rfl, hn, by simp, (Below.refl _ _).alloc (Nat.le_refl _) _, fun i hi => ?_⟩
  obtain ⟨h1, h2⟩ := flat_at (rng c) i hi
  rw [cell_heap (heap_alloc_new w _), cell_heap (heap_alloc_new w _)]
  exact ⟨by simpa using h1, by simpa using h2⟩

set_option maxRecDepth 100000 in
set_option maxHeartbeats 2000000 in
theorem Ranges_any (c : Nat) (hc : c < 6) (w : World) :
    Calls Tryd.prog 71 #[.int .i64 c] w fun e w' => RetRng2 w c e w' := by
  match c, hc with
  | 0, _ =>
    go_enter Tryd.func71, Tryd.ntmps71
    go_wp2
    go_ret
    exact retRng2_new w 0 5 rfl
  | 1, _ =>
    go_enter Tryd.func71, Tryd.ntmps71
    go_wp2
    go_ret
    exact retRng2_new w 1 3 rfl
  | 2, _ =>
    go_enter Tryd.func71, Tryd.ntmps71
    go_wp2
    go_ret
    exact retRng2_new w 2 15 rfl
  | 3, _ =>
    go_enter Tryd.func71, Tryd.ntmps71
    go_wp2
    go_ret
    exact retRng2_new w 3 18 rfl
  | 4, _ =>
    go_enter Tryd.func71, Tryd.ntmps71
    go_wp2
    go_ret
    exact retRng2_new w 4 1 rfl
  | 5, _ =>
    go_enter Tryd.func71, Tryd.ntmps71
    go_wp2
    go_ret
    exact retRng2_new w 5 3 rfl
end Go.Proofs.YtklpihaelaagpaaDoor

namespace Go.Proofs.YtklpihaelaagpaaDoor
open Go.RowKit

def anyR (l : List (Int × Int)) (r : Int) : Bool := l.any fun p => decide (p.1 ≤ r) && decide (r ≤ p.2)
def rises : List (Int × Int) → Bool
  | [] => true
  | p :: l => decide (p.1 ≤ p.2) && l.all (fun q => decide (p.2 < q.1)) && rises l
theorem isR_any (l : List (Int × Int)) (r : Int) : rises l = true → isR l r = anyR l r := by
  induction l with
  | nil => intro _; rfl
  | cons p l ih =>
    intro h
    simp only [rises, Bool.and_eq_true, decide_eq_true_eq, List.all_eq_true] at h
    obtain ⟨⟨h1, h2⟩, h3⟩ := h
    simp only [isR, anyR, List.any_cons]
    by_cases hr : r ≤ p.2
    · rw [if_pos hr, decide_eq_true hr, Bool.and_true]
      have : (l.any fun p => decide (p.1 ≤ r) && decide (r ≤ p.2)) = false := by
        rw [List.any_eq_false]
        intro q hq
        have := h2 q hq
        simp; intro _; omega
      rw [this, Bool.or_false]
    · rw [if_neg hr, ih h3, decide_eq_false hr, Bool.and_false, Bool.false_or]
      rfl
theorem rng_rises : ∀ c, c < 6 → rises (rng c) = true := by decide
theorem isR_tail (l : List (Int × Int)) (r : Int) (k : Nat) (h : k < l.length) : anyR (l.drop k) r = ((decide (l[k].1 ≤ r) && decide (r ≤ l[k].2)) || anyR (l.drop (k + 1)) r) := by
  rw [List.drop_eq_getElem_cons h]; rfl

set_option maxRecDepth 100000 in
set_option maxHeartbeats 1000000 in
theorem Is2_any (c : Nat) (hc : c < 6) (r : Int) (w : World) :
    Calls Tryd.prog 54 #[.int .i64 c, .int .i64 r] w fun e w' => e = .returned (.bool (isR (rng c) r)) ∧ Below w.heap.size w w' := by
  have hlen : (rng c).length ≤ 20 := by
    have : ∀ c, c < 6 → (rng c).length ≤ 20 := by decide
    exact this c hc
  rw [isR_any _ _ (rng_rises c hc)]
  have HO := Lib.hid (Ranges_any c hc w)
  go_enter Tryd.func54, Tryd.ntmps54
  go_wp2_with fail
  (with_reducible refine HO.out.mono ?_)
  rintro e w1 ⟨b, n, rfl, hn, hb, hbw, hcs⟩
  have HC := Lib.hid hcs
  clear hcs HO
  generalize hl : rng c = l at *
  have HL := Lib.hid hl
  clear hl
  have HN := Lib.hid hn
  have hn20 : n ≤ 20 := by omega
  clear hn hlen
  go_wp2_with fail
  go_loopw [10] (fun ix wr => ∃ k : Nat, ix = .int .i64 k ∧ k ≤ n ∧ Below w1.heap.size w1 wr ∧ Hid (anyR (l.drop k) r = anyR l r)) (fun ix _ => n - (intOf ix).toNat)
  case atStart => exact ⟨0, rfl, Nat.zero_le _, Below.refl _ _, Lib.hid rfl⟩
  case round =>
    obtain ⟨k, rfl, hk, hbr, hr⟩ := hrel
    by_cases hkn : k < n
    · have hkl : k < l.length := by rw [← HN.out]; exact hkn
      obtain ⟨e0, e1⟩ := HC.out k hkl
      have hd := hr.out
      rw [isR_tail l r k hkl] at hd
      rw [← hbr.cell (p := ⟨b, k * 2, none⟩) hb] at e0
      rw [← hbr.cell (p := ⟨b, k * 2 + 1, none⟩) hb] at e1
      generalize l[k] = p at *
      obtain ⟨lo, hi⟩ := p
      simp only at e0 e1 hd
      have hws : w1.heap.size ≤ wr.heap.size := hbr.size
      have HBW := Lib.hid (hbw.trans (hbr.mono hbw.size))
      have HBR := Lib.hid hbr
      have HD := Lib.hid hd
      have hwz : w.heap.size ≤ wr.heap.size := HBW.out.size
      clear hd hbr hr
      by_cases h1 : lo ≤ r
      · by_cases h2 : r ≤ hi
        · have HE : Hid (anyR l r = true) := Lib.hid (by rw [← HD.out, decide_eq_true h1, decide_eq_true h2]; rfl)
          clear HD
          go_wp2_with fail
          go_ret
          exact ⟨ret_bool (by rw [HL.out]; exact HE.out.symm), HBW.out.alloc hwz _⟩
        · have HE : Hid (anyR (l.drop (k + 1)) r = anyR l r) := Lib.hid (by rw [← HD.out, decide_eq_false h2, Bool.and_false, Bool.false_or])
          clear HD
          go_wp2_with fail
          go_roundw
          case rel => exact ⟨k + 1, by go_num, by omega, HBR.out.alloc hws _, HE⟩
          case measure => simp [intOf]; omega
      · have HE : Hid (anyR (l.drop (k + 1)) r = anyR l r) := Lib.hid (by rw [← HD.out, decide_eq_false h1, Bool.false_and, Bool.false_or])
        clear HD
        go_wp2_with fail
        go_roundw
        case rel => exact ⟨k + 1, by go_num, by omega, HBR.out.alloc hws _, HE⟩
        case measure => simp [intOf]; omega
    · have HE : Hid (anyR l r = false) := Lib.hid (by rw [← hr.out, List.drop_of_length_le (by rw [← HN.out]; omega)]; rfl)
      clear hr
      have hfin := hbw.trans (hbr.mono hbw.size)
      clear hbr
      go_wp2_with fail
      go_ret
      exact ⟨ret_bool (by rw [HL.out]; exact HE.out.symm), hfin⟩
end Go.Proofs.YtklpihaelaagpaaDoor

namespace Go.Proofs.YtklpihaelaagpaaDoor
open Go.RowKit

theorem readR_succ (l : List UInt8) (f n : Nat) : readR l (f + 1) n = if n ≤ 4 ∧ n ≤ l.length then (if hitN l n = true then (if surr (spanL (l.take n)).1 = true then (0, 0) else ((spanL (l.take n)).1, n)) else readR l f (n + 1)) else (0, 0) := rfl

def cvOp : Op := Op.convert 112 9 (Operand.tmp 37)
theorem cvOp_eq : cvOp = Op.convert 112 9 (Operand.tmp 37) := rfl
set_option maxRecDepth 1000000 in
set_option maxHeartbeats 4000000 in
theorem Read2_any (l : List UInt8) (hl : l.length ≤ 8388608) (k : Nat) (hk : k ≤ l.length) (w : World) :
    Calls Tryd.prog 53 #[.string (strU l), .int .i64 k] w fun e w' => RetSp e (readR (l.drop k) 4 1) ∧ Below w.heap.size w w' := by
  obtain ⟨N, hN⟩ : ∃ N, N = l.length := ⟨_, rfl⟩
  have hsz : (strU l).size = N := by rw [strU_size, hN]
  have HDL : Hid ((l.drop k).length = N - k) := Lib.hid (by rw [List.length_drop, hN])
  have HEX : Hid (∀ n, (strU l).extract k (k + n) = strU ((l.drop k).take n)) := Lib.hid fun n => by rw [extU, Nat.add_sub_cancel_left]
  rw [← hN] at hl hk
  clear hN
  generalize hS : strU l = S at *
  generalize l.drop k = d at *
  clear hS
  go_enter Tryd.func53, Tryd.ntmps53
  go_wp2_with fail
  go_loopw [6] (fun nv wr => ∃ n f : Nat, nv = .int .i64 n ∧ f + n = 5 ∧ 1 ≤ n ∧ Below w.heap.size w wr ∧ Hid (readR d f n = readR d 4 1)) (fun nv _ => 5 - (intOf nv).toNat)
  case atStart => exact ⟨1, 4, rfl, rfl, Nat.le_refl _, Below.refl _ _, rfl⟩
  case round =>
    obtain ⟨n, f, rfl, hfn, hn1, hbr, hr⟩ := hrel
    by_cases h4 : n ≤ 4
    · by_cases hkn : k + n ≤ N
      · obtain ⟨f, rfl⟩ : ∃ g, f = g + 1 := ⟨f - 1, by omega⟩
        have hd := hr.out
        rw [readR_succ, if_pos ⟨h4, by rw [HDL.out]; omega⟩] at hd
        have hex := HEX.out n
        have hcv := fun W => Lib.run_convert_string_bytes (P := Tryd.prog) W 9 112 5 (strU (d.take n)) Tryd.underlying9 Tryd.underlying112 Tryd.underlying5
        have hWb := bytesW_below wr 5 (strU (d.take n))
        have HB2 := Lib.hid (hbr.trans (hWb.mono hbr.size))
        have HSP := Lib.hid (Span_any _ _ _ (d.take n) _ (bytesW_sl wr 5 (strU (d.take n))) (grownCap_ge wr _ 0 5))
        have hsame := span_same (d.take n)
        have ew : IntKind.i64.wrap ((k : Int) + (n : Int)) = ((k + n : Nat) : Int) := by rw [IntWalk.i64_in _ (by omega)]; omega
        clear hWb hbr hr
        unfold hitN at hd
        generalize spanL (d.take n) = p at *
        obtain ⟨p1, p2⟩ := p
        simp only at hd hsame
        have it : ((k : Int) + (n : Int)).toNat = k + n := by omega
        have i1 : (0 : Int) ≤ (k : Int) := by omega
        have i2 : (k : Int) ≤ ((k + n : Nat) : Int) := by omega
        have i3 : ((k + n : Nat) : Int) ≤ (N : Int) := by omega
        have i4 : (k : Int) ≤ (k : Int) + (n : Int) := by omega
        have i5 : (k : Int) + (n : Int) ≤ (N : Int) := by omega
        by_cases hpp : p1 = p2
        · subst hpp
          have hp1 := hsame rfl
          have HBY := Lib.hid (Bytes_any p1 hp1)
          have tq : ((p1 : Int) == (p1 : Int)) = true := by simp
          by_cases hcm : encU p1 = d.take n
          · have hc := cmpU_eq hcm
            have hd2 : (if surr p1 = true then (0, 0) else (p1, n)) = readR d 4 1 := by rw [← hd, hcm]; simp
            have HD := Lib.hid hd2
            clear hd hd2 hsame hcm
            generalize strU (d.take n) = X at *
            go_wp2_with fail
            (with_reducible refine HSP.out.mono ?_)
            rintro e w4 ⟨rfl, rfl⟩
            generalize Lib.bytesWorld wr 5 X = w4 at *
            go_wp2_with fail
            have hS7d : Below w.heap.size w w4.drew := HB2.out.drew
            rw [← cvOp_eq]
            have hcvo := cvOp_eq
            go_region_held3 (fun w' => Below w.heap.size w w') (first | exact ‹_› | go_keep) (first | (go_at_call 70; (with_reducible refine (HBY.out _).mono ?_); rintro e wz ⟨⟨a5, n5, c5, rfl, hsl⟩, hbz⟩; have hbz2 := (‹Below w.heap.size w _›).trans (hbz.mono (by have := HB2.out.size; simp at this ⊢; omega)); have hcb := run_bytes_str (P := Tryd.prog) (s := strU (encU p1)) hsl 112 9 5 Tryd.underlying112 Tryd.underlying5 Tryd.underlying9 c5))
            clear hbz hsl hcb hcvo
            by_cases hs : surr p1 = true
            · have HE : Hid ((0, 0) = readR d 4 1) := Lib.hid (by rw [← HD.out, if_pos hs])
              unfold surr at hs
              simp only [decide_eq_true_eq] at hs
              obtain ⟨hs1, hs2⟩ := hs
              go_wp2_with fail
              go_ret2
              exact ⟨by rw [← HE.out]; rfl, hbz2⟩
            · have HE : Hid ((p1, n) = readR d 4 1) := Lib.hid (by rw [← HD.out, if_neg hs])
              unfold surr at hs
              simp only [decide_eq_true_eq] at hs
              by_cases hs1 : 55296 ≤ p1
              · have hs2 : 57343 < p1 := by omega
                go_wp2_with fail
                go_ret2
                exact ⟨by rw [← HE.out]; rfl, hbz2⟩
              · have hs2 : p1 < 55296 := by omega
                go_wp2_with fail
                go_ret2
                exact ⟨by rw [← HE.out]; rfl, hbz2⟩
          · have hc := cmpU_ne hcm
            have hd2 : readR d f (n + 1) = readR d 4 1 := by rw [← hd, if_neg (by simp [hcm])]
            have HD := Lib.hid hd2
            clear hd hd2 hsame hcm
            generalize strU (d.take n) = X at *
            go_wp2_with fail
            (with_reducible refine HSP.out.mono ?_)
            rintro e w4 ⟨rfl, rfl⟩
            generalize Lib.bytesWorld wr 5 X = w4 at *
            go_wp2_with fail
            have hS7d : Below w.heap.size w w4.drew := HB2.out.drew
            rw [← cvOp_eq]
            have hcvo := cvOp_eq
            go_region_held3 (fun w' => Below w.heap.size w w') (first | exact ‹_› | go_keep) (first | (go_at_call 70; (with_reducible refine (HBY.out _).mono ?_); rintro e wz ⟨⟨a5, n5, c5, rfl, hsl⟩, hbz⟩; have hbz2 := (‹Below w.heap.size w _›).trans (hbz.mono (by have := HB2.out.size; simp at this ⊢; omega)); have hcb := run_bytes_str (P := Tryd.prog) (s := strU (encU p1)) hsl 112 9 5 Tryd.underlying112 Tryd.underlying5 Tryd.underlying9 c5))
            clear hbz hsl hcb hcvo
            go_wp2_with fail
            go_roundw
            case rel => exact ⟨n + 1, f, by go_num, by omega, by omega, hbz2, HD⟩
            case measure => simp [intOf]; omega
        · have tq : ((p1 : Int) == (p2 : Int)) = false := by simp; omega
          have hd2 : readR d f (n + 1) = readR d 4 1 := by rw [← hd, if_neg (by simp [hpp])]
          have HD := Lib.hid hd2
          clear hd hd2 hsame hpp
          generalize strU (d.take n) = X at *
          go_wp2_with fail
          (with_reducible refine HSP.out.mono ?_)
          rintro e w4 ⟨rfl, rfl⟩
          generalize Lib.bytesWorld wr 5 X = w4 at *
          go_wp2_with fail
          go_quiet (fail)
          go_wp2_with fail
          go_roundw
          case rel => exact ⟨n + 1, f, by go_num, by omega, by omega, Below.drewN HB2.out _, HD⟩
          case measure => simp [intOf]; omega
      · have hd := hr.out
        have hkn2 : N < k + n := by omega
        obtain ⟨f, rfl⟩ : ∃ g, f = g + 1 := ⟨f - 1, by omega⟩
        rw [readR_succ, if_neg (by rw [HDL.out]; omega)] at hd
        have HE := Lib.hid hd
        clear hd hr hkn
        go_wp2_with fail
        go_ret2
        exact ⟨by rw [← HE.out]; rfl, hbr⟩
    · have h5 : 5 ≤ n := by omega
      obtain rfl : f = 0 := by omega
      have HE : Hid ((0, 0) = readR d 4 1) := Lib.hid hr.out
      clear hr h4
      go_wp2_with fail
      go_ret2
      exact ⟨by rw [← HE.out]; rfl, hbr⟩
end Go.Proofs.YtklpihaelaagpaaDoor

namespace Go.Proofs.YtklpihaelaagpaaDoor
open Go.RowKit

theorem textsR_succ (f : Nat) (l : List UInt8) : textsR (f + 1) l = if l = [] then true else if (readR l 4 1).2 = 0 ∨ isR (rng 0) (readR l 4 1).1 = false then false else textsR f (l.drop (readR l 4 1).2) := rfl
theorem readR_le (l : List UInt8) : ∀ f n, (readR l f n).2 ≤ l.length
  | 0, _ => Nat.zero_le _
  | f + 1, n => by
    rw [readR_succ]
    split
    · split
      · split
        · exact Nat.zero_le _
        · rename_i h _ _; exact h.2
      · exact readR_le l f (n + 1)
    · exact Nat.zero_le _
theorem textsR_nil (f : Nat) : textsR f [] = true := by cases f <;> rfl

set_option maxRecDepth 100000 in
set_option maxHeartbeats 4000000 in
theorem All2_any (l : List UInt8) (hl : l.length ≤ 8388608) (w : World) :
    Calls Tryd.prog 37 #[.string (strU l), .int .i64 0, .int .i64 0] w fun e w' => e = .returned (.bool (textsB l)) ∧ Below w.heap.size w w' := by
  rw [← textsR_eq l.length l (Nat.le_refl _)]
  obtain ⟨N, hN⟩ : ∃ N, N = l.length := ⟨_, rfl⟩
  have hsz : (strU l).size = N := by rw [strU_size, hN]
  have HRD : Hid (∀ (k : Nat) (W : World), k ≤ N → Calls Tryd.prog 53 #[.string (strU l), .int .i64 k] W fun e w' => RetSp e (readR (l.drop k) 4 1) ∧ Below W.heap.size W w') := Lib.hid fun k W hk => Read2_any l hl k (by omega) W
  have HDL : Hid (∀ k, (l.drop k).length = N - k) := Lib.hid fun k => by rw [List.length_drop, hN]
  have HIS : Hid (∀ (r : Nat) W, Calls Tryd.prog 54 #[.int .i64 0, .int .i64 r] W fun e w' => e = .returned (.bool (isR (rng 0) r)) ∧ Below W.heap.size W w') := Lib.hid fun r W => Is2_any 0 (by decide) r W
  rw [← hN] at hl ⊢
  clear hN
  generalize hT : textsR N l = T at *
  have HT := Lib.hid hT
  clear hT
  generalize strU l = S at *
  go_enter Tryd.func37, Tryd.ntmps37
  go_wp2_with fail
  go_loopw [7, 8] (fun cv av wr => cv = .int .i64 0 ∧ ∃ k : Nat, av = .int .i64 k ∧ k ≤ N ∧ Below w.heap.size w wr ∧ Hid (textsR (N - k) (l.drop k) = T)) (fun _ av _ => N - (intOf av).toNat)
  case atStart => exact ⟨rfl, 0, rfl, Nat.zero_le _, Below.refl _ _, Lib.hid (by rw [Nat.sub_zero, List.drop_zero]; exact HT.out)⟩
  case round =>
    obtain ⟨rfl, k, rfl, hk, hbr, hr⟩ := hrel
    by_cases hkN : k < N
    · have hd := hr.out
      have hlen := HDL.out k
      rw [show N - k = (N - (k + 1)) + 1 by omega, textsR_succ, if_neg (by intro h; rw [h] at hlen; simp at hlen; omega)] at hd
      have HRK := Lib.hid (HRD.out k wr hk)
      have hle := readR_le (l.drop k) 4 1
      rw [hlen] at hle
      generalize hp : readR (l.drop k) 4 1 = p at *
      clear hp
      obtain ⟨r, n⟩ := p
      simp only at hd hle
      clear hr hlen
      by_cases hn : n = 0
      · subst hn
        have HE : Hid (T = false) := Lib.hid (by rw [← hd, if_pos (.inl rfl)])
        clear hd
        go_wp2_with fail
        (with_reducible refine HRK.out.mono ?_)
        rintro e w1 ⟨rfl, hb1⟩
        go_wp2_with fail
        go_ret
        exact ⟨ret_bool (by rw [HE.out]), hbr.trans (hb1.mono hbr.size)⟩
      · have hn0 : ((n : Int) == 0) = false := by simp; omega
        cases hi : isR (rng 0) r with
        | false =>
          have HE : Hid (T = false) := Lib.hid (by rw [← hd, if_pos (.inr hi)])
          have HII := Lib.hid (HIS.out r)
          rw [hi] at HII
          clear hd hi
          go_wp2_with fail
          (with_reducible refine HRK.out.mono ?_)
          rintro e w1 ⟨rfl, hb1⟩
          have hb1 := hbr.trans (hb1.mono hbr.size)
          go_wp2_with fail
          (with_reducible refine (HII.out _).mono ?_)
          rintro e w2 ⟨rfl, hb2⟩
          go_wp2_with fail
          go_ret
          exact ⟨ret_bool (by rw [HE.out]), hb1.trans (hb2.mono hb1.size)⟩
        | true =>
          have hd2 : textsR (N - (k + 1)) (l.drop (k + n)) = T := by
            rw [if_neg (by rw [hi]; simp; omega), List.drop_drop] at hd
            exact hd
          have hd3 : textsR (N - (k + n)) (l.drop (k + n)) = T := by
            rw [← hd2, textsR_eq _ _ (by rw [HDL.out]; exact Nat.le_refl _), textsR_eq _ _ (by rw [HDL.out]; omega)]
          have HE := Lib.hid hd3
          have HII := Lib.hid (HIS.out r)
          rw [hi] at HII
          clear hd hd2 hd3 hi
          go_wp2_with fail
          (with_reducible refine HRK.out.mono ?_)
          rintro e w1 ⟨rfl, hb1⟩
          have hb1 := hbr.trans (hb1.mono hbr.size)
          go_wp2_with fail
          (with_reducible refine (HII.out _).mono ?_)
          rintro e w2 ⟨rfl, hb2⟩
          have hb2 := hb1.trans (hb2.mono hb1.size)
          go_wp2_with fail
          go_roundw
          case rel => exact ⟨rfl, k + n, by go_num, by omega, hb2, HE⟩
          case measure => simp [intOf]; omega
    · have hkN2 : N ≤ k := by omega
      have hd := hr.out
      have HE : Hid (T = true) := Lib.hid (by rw [← hd, List.eq_nil_of_length_eq_zero (l := l.drop k) (by rw [HDL.out]; omega), textsR_nil])
      clear hd hr hkN
      go_wp2_with fail
      go_ret
      exact ⟨ret_bool (by rw [HE.out]), hbr⟩
theorem Texts2_any (l : List UInt8) (hl : l.length ≤ 8388608) (w : World) :
    Calls Tryd.prog 21 #[.string (strU l)] w fun e w' => e = .returned (.bool (textsB l)) ∧ Below w.heap.size w w' := by
  have HA := Lib.hid (All2_any l hl w)
  generalize strU l = S at *
  go_enter Tryd.func21, Tryd.ntmps21
  go_wp2_with fail
  (with_reducible refine HA.out.mono ?_)
  rintro e w1 ⟨rfl, hb1⟩
  go_wp2_with fail
  go_ret
  exact ⟨rfl, hb1⟩
end Go.Proofs.YtklpihaelaagpaaDoor

namespace Go.Proofs.YtklpihaelaagpaaDoor
open Go.RowKit

set_option maxRecDepth 100000 in
set_option maxHeartbeats 4000000 in
theorem AllC_any (c : Nat) (hc : c < 6) (l : List UInt8) (hl : l.length ≤ 8388608) (w : World) :
    Calls Tryd.prog 37 #[.string (strU l), .int .i64 c, .int .i64 3] w fun e w' => e = .returned (.bool (allC l.length c l)) ∧ Below w.heap.size w w' := by
  obtain ⟨N, hN⟩ : ∃ N, N = l.length := ⟨_, rfl⟩
  have hsz : (strU l).size = N := by rw [strU_size, hN]
  have HRD : Hid (∀ (k : Nat) (W : World), k ≤ N → Calls Tryd.prog 53 #[.string (strU l), .int .i64 k] W fun e w' => RetSp e (readR (l.drop k) 4 1) ∧ Below W.heap.size W w') := Lib.hid fun k W hk => Read2_any l hl k (by omega) W
  have HDL : Hid (∀ k, (l.drop k).length = N - k) := Lib.hid fun k => by rw [List.length_drop, hN]
  have HIS : Hid (∀ (cc r : Nat) W, cc < 6 → Calls Tryd.prog 54 #[.int .i64 cc, .int .i64 r] W fun e w' => e = .returned (.bool (isR (rng cc) r)) ∧ Below W.heap.size W w') := Lib.hid fun cc r W h => Is2_any cc h r W
  rw [← hN] at hl ⊢
  clear hN
  generalize hT : allC N c l = T at *
  have HT := Lib.hid hT
  clear hT
  generalize strU l = S at *
  go_enter Tryd.func37, Tryd.ntmps37
  go_wp2_with fail
  go_loopw [7, 8] (fun cv av wr => ∃ cc k : Nat, cv = .int .i64 cc ∧ cc < 6 ∧ av = .int .i64 k ∧ k ≤ N ∧ Below w.heap.size w wr ∧ Hid (allC (N - k) cc (l.drop k) = T)) (fun _ av _ => N - (intOf av).toNat)
  case atStart => exact ⟨c, 0, rfl, hc, rfl, Nat.zero_le _, Below.refl _ _, Lib.hid (by rw [Nat.sub_zero, List.drop_zero]; exact HT.out)⟩
  case round =>
    obtain ⟨cc, k, rfl, hcc, rfl, hk, hbr, hr⟩ := hrel
    by_cases hkN : k < N
    · have hd := hr.out
      have hlen := HDL.out k
      rw [show N - k = (N - (k + 1)) + 1 by omega, allC_succ, if_neg (by intro h; rw [h] at hlen; simp at hlen; omega)] at hd
      have HRK := Lib.hid (HRD.out k wr hk)
      have hle := readR_le (l.drop k) 4 1
      rw [hlen] at hle
      generalize hp : readR (l.drop k) 4 1 = p at *
      clear hp
      obtain ⟨r, n⟩ := p
      simp only at hd hle
      clear hr hlen
      have HCC := Lib.hid hcc
      by_cases hn : n = 0
      · subst hn
        have HE : Hid (T = false) := Lib.hid (by rw [← hd, if_pos (.inl rfl)])
        clear hd
        go_wp2_with fail
        (with_reducible refine HRK.out.mono ?_)
        rintro e w1 ⟨rfl, hb1⟩
        go_wp2_with fail
        go_ret
        exact ⟨ret_bool (by rw [HE.out]), hbr.trans (hb1.mono hbr.size)⟩
      · have hn0 : ((n : Int) == 0) = false := by simp; omega
        cases hi : isR (rng cc) r with
        | false =>
          have HE : Hid (T = false) := Lib.hid (by rw [← hd, if_pos (.inr hi)])
          have HII := Lib.hid (fun W => HIS.out cc r W HCC.out)
          rw [hi] at HII
          clear hd hi
          go_wp2_with fail
          (with_reducible refine HRK.out.mono ?_)
          rintro e w1 ⟨rfl, hb1⟩
          have hb1 := hbr.trans (hb1.mono hbr.size)
          go_wp2_with fail
          (with_reducible refine (HII.out _).mono ?_)
          rintro e w2 ⟨rfl, hb2⟩
          go_wp2_with fail
          go_ret
          exact ⟨ret_bool (by rw [HE.out]), hb1.trans (hb2.mono hb1.size)⟩
        | true =>
          have hd2 : allC (N - (k + 1)) 3 (l.drop (k + n)) = T := by
            rw [if_neg (by rw [hi]; simp; omega), List.drop_drop] at hd
            exact hd
          have hd3 : allC (N - (k + n)) 3 (l.drop (k + n)) = T := by
            rw [← hd2]
            exact allC_fuel _ _ _ _ (by rw [HDL.out]; exact Nat.le_refl _) (by rw [HDL.out]; omega)
          have HE := Lib.hid hd3
          have HII := Lib.hid (fun W => HIS.out cc r W HCC.out)
          rw [hi] at HII
          clear hd hd2 hd3 hi
          go_wp2_with fail
          (with_reducible refine HRK.out.mono ?_)
          rintro e w1 ⟨rfl, hb1⟩
          have hb1 := hbr.trans (hb1.mono hbr.size)
          go_wp2_with fail
          (with_reducible refine (HII.out _).mono ?_)
          rintro e w2 ⟨rfl, hb2⟩
          have hb2 := hb1.trans (hb2.mono hb1.size)
          go_wp2_with fail
          go_roundw
          case rel => exact ⟨3, k + n, rfl, by decide, by go_num, by omega, hb2, HE⟩
          case measure => simp [intOf]; omega
    · have hkN2 : N ≤ k := by omega
      have hd := hr.out
      have HE : Hid (T = true) := Lib.hid (by rw [← hd, List.eq_nil_of_length_eq_zero (l := l.drop k) (by rw [HDL.out]; omega), allC_nil])
      clear hd hr hkN
      go_wp2_with fail
      go_ret
      exact ⟨ret_bool (by rw [HE.out]), hbr⟩
set_option maxRecDepth 100000 in
theorem Name2_any (l : List UInt8) (hl : l.length ≤ 8388608) (w : World) :
    Calls Tryd.prog 19 #[.string (strU l)] w fun e w' => e = .returned (.bool (nameB l)) ∧ Below w.heap.size w w' := by
  rw [nameB_ref]
  have HA : Hid (Calls Tryd.prog 37 #[.string (strU l), .int .i64 2, .int .i64 3] w fun e w' => e = .returned (.bool (allC l.length 2 l)) ∧ Below w.heap.size w w') := Lib.hid (AllC_any 2 (by decide) l hl w)
  have he := strU_empty l
  generalize allC l.length 2 l = T at *
  generalize strU l = S at *
  generalize hE : l.isEmpty = E at *
  clear hE
  cases E with
  | true =>
    go_enter Tryd.func19, Tryd.ntmps19
    go_wp2_with fail
    go_ret
    exact ⟨rfl, Below.refl _ _⟩
  | false =>
    go_enter Tryd.func19, Tryd.ntmps19
    go_wp2_with fail
    (with_reducible refine HA.out.mono ?_)
    rintro e w1 ⟨rfl, hb1⟩
    go_wp2_with fail
    go_ret
    exact ⟨ret_bool (by simp), hb1⟩
end Go.Proofs.YtklpihaelaagpaaDoor
