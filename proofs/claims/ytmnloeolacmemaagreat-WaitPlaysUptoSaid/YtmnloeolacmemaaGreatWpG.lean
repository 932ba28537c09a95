/-
  Package tape: Drop.
-/
import Derived.Test.YtmnloeolacmemaaGreatWpF
import Derived.Deep.OwnRows
import Derived.Laws.CopyOwn
import Derived.Deep.Onto
namespace Go.Proofs.YtmnloeolacmemaaGreat
open Go.RowKit

/-- what Drop answers, and the front behind it -/
def dropW (all : List UInt8) (front : Nat) (to' : Int) : Int × Nat :=
  if to' < 0 ∨ (all.length : Int) < to' then (2, front) else (0, max front to'.toNat)
def RetDrop (U R tb : Nat) (all : List UInt8) (front : Nat) (to' : Int) (w : World) (e : Ending) (w' : World) : Prop :=
  e = .returned (.int .i64 (dropW all front to').1) ∧ ∃ first', TapeAt w' R tb all first' (dropW all front to').2 ∧ Only R tb U w w'
theorem u8s_oneC (l : List UInt8) : ∀ u ∈ u8s l, u.oneCell' = true := by
  intro u hu
  obtain ⟨b, _, rfl⟩ := List.mem_map.1 hu
  rfl
/-- dropped: the front is f now -/
def RetD (U R tb : Nat) (all : List UInt8) (f : Nat) (w : World) (e : Ending) (w' : World) : Prop := e = .returned (.int .i64 0) ∧ ∃ first', TapeAt w' R tb all first' f ∧ Only R tb U w w'
theorem makeBS (w : World) (n : Nat) (h : n ≤ 1099511627776) : (Instr.makeSlice 75 (.int .i64 (n : Int)) (.int .i64 (n : Int))).run Tryz.prog w = .ok (.slice (some ⟨w.heap.size, 0, none⟩) n n) (w.alloc (.cells (madeCells #[.int .u8 0] n) 5)) :=
  run_make_row' 75 5 (.int .u8 0) 1 Tryz.underlying75 infoU8t rfl .i64 .i64 n (by omega) (by omega) w
theorem tail_bytes {w : World} {a : Option Addr} {g r c : Nat} {l : List UInt8} (hs : Sl w a (g + r) (u8s l)) (hmc : g + r ≤ c) :
    ∃ a', (∀ W, (Instr.slice 75 (.slice a (g + r) c) (some (.int .i64 (g : Int))) none none).run Tryz.prog W = .ok (.slice a' r (c - g)) W) ∧ Sl w a' r (u8s (l.drop g)) := by
  have hm : g + r = l.length := by have := hs.len; rw [u8s_length] at this; exact this
  refine ⟨if c = g then a else a.map (·.add (g * 1)), fun W => ?_, ?_⟩
  · rw [run_slice_l (P := Tryz.prog) W 75 a (g + r) c (by rw [elemBS]; exact Tryz.underlying75) .i64 (g : Int) (by omega) (by omega), elemBS, sizeU8]
    simp [Result.andThen, sliced]
  · have hl : (l.drop g).length = r := by rw [List.length_drop]; omega
    refine ⟨by rw [u8s_length, hl], fun i hi => ?_⟩
    rw [u8s_length, hl] at hi
    rw [if_neg (by omega)]
    obtain ⟨b, o, rfl, hlt, hc⟩ := hs.cell (g + i) (by rw [u8s_length]; omega)
    refine ⟨b, o + g, ?_, hlt, ?_⟩
    · simp only [Option.map_some, Nat.mul_one, Addr.add_lit]
    · rw [show o + g + i = o + (g + i) by omega, hc]
      simp [u8s]

set_option maxRecDepth 100000 in
set_option maxHeartbeats 8000000 in
theorem tape_drop_ok (U R tb : Nat) (all : List UInt8) (first front j : Nat) (w : World) (h : TapeAt w R tb all first front) (hj : j ≤ all.length) :
    Calls Tryz.prog 29 #[.pointer (some ⟨tb, 0, none⟩), .int .i64 (j : Int)] w fun e w' => RetD U R tb all (max front j) w e w' := by
  obtain ⟨v, h1, h2⟩ := h.at'
  have hsm := h.small
  have HP0 := Lib.hid (tape_place R tb all first front w h)
  have HT := Lib.hid h
  obtain ⟨F, hF⟩ : ∃ F, F = max front j := ⟨_, rfl⟩
  have eF : max (front : Int) (j : Int) = (F : Int) := by omega
  obtain ⟨N, hN⟩ : ∃ N, N = all.length := ⟨_, rfl⟩
  have hFf : first ≤ F := by have := h.ff; omega
  have hFN : F ≤ N := by have := h.fa; omega
  obtain ⟨g, hg⟩ : ∃ g, F = first + g := ⟨F - first, by omega⟩
  obtain ⟨r, hr⟩ : ∃ r, N = first + g + r := ⟨N - first - g, by omega⟩
  have hm : all.length - first = g + r := by omega
  rw [hm] at h2
  obtain ⟨a, c, rfl, hmc, hsl⟩ := town_sl h2
  have c0 : w.cell? ⟨tb, 0, none⟩ = some (.slice a (g + r) c) := by rw [cell_heap h1]; rfl
  have c1 : w.cell? ⟨tb, 1, none⟩ = some (.int .i64 first) := by rw [cell_heap h1]; rfl
  have c2 : w.cell? ⟨tb, 2, none⟩ = some (.int .i64 front) := by rw [cell_heap h1]; rfl
  have f2 : w.frozen? ⟨tb, 2, none⟩ = false := frozen_heap h1
  have hNb : N ≤ 1099511627776 := by omega
  have hjN : j ≤ N := by omega
  rw [← hN] at HP0
  rw [← hF]
  have H1 := Lib.hid h1
  have H2 := Lib.hid h2
  have HF := Lib.hid hF
  have HN := Lib.hid hN
  have HG := Lib.hid hg
  have HRr := Lib.hid hr
  have hgb : g ≤ 1099511627776 := by omega
  have hrb : r ≤ 1099511627776 := by omega
  have hfb : first ≤ 1099511627776 := by omega
  have hjN' : decide (N < j) = false := by simp; omega
  clear h1 h2 h hF hN hg hr hm hsl hj hsm
  go_enter Tryz.func29, Tryz.ntmps29
  go_wp2_with fail
  (with_reducible refine HP0.out.mono ?_)
  rintro e w1 ⟨rfl, d, rfl⟩
  go_wp2_with fail
  have hW : ((w.drewN d).setCell ⟨tb, 2, none⟩ (.int .i64 F)).heap[tb]? = some (.cells #[.slice a (g + r) c, .int .i64 first, .int .i64 F] 77 (0, 0)) := setCell_heap (w := w.drewN d) H1.out _
  have hltb := HT.out.lt
  have hown : ((w.drewN d).setCell ⟨tb, 2, none⟩ (.int .i64 F)).ownsRow R 5 1 (.slice a (g + r) c) (g + r) (u8s (all.drop first)) := own_block (w := w.drewN d) (own_block H2.out (fun _ _ => rfl)) (fun k hk => Below.heap_setCell _ _ _ _ (fun e => by have h1 := (H2.out.lt k hk).1; have e' : k = tb := e; omega))
  have hon : Only R tb U w ((w.drewN d).setCell ⟨tb, 2, none⟩ (.int .i64 F)) := ((Only.refl R tb U w).drewN d).set _ _
  have hsz : w.heap.size ≤ ((w.drewN d).setCell ⟨tb, 2, none⟩ (.int .i64 F)).heap.size := hon.size
  have hRs := HT.out.le
  clear c0 c1 c2 f2
  generalize (w.drewN d).setCell ⟨tb, 2, none⟩ (.int .i64 F) = W at *
  have c0 : W.cell? ⟨tb, 0, none⟩ = some (.slice a (g + r) c) := by rw [cell_heap hW]; rfl
  have c1 : W.cell? ⟨tb, 1, none⟩ = some (.int .i64 first) := by rw [cell_heap hW]; rfl
  have c2 : W.cell? ⟨tb, 2, none⟩ = some (.int .i64 F) := by rw [cell_heap hW]; rfl
  obtain ⟨a1, c1', he, _, hsl⟩ := town_sl hown
  injection he with he1 _ he2
  subst he1
  subst he2
  obtain ⟨a', htl, hts⟩ := tail_bytes hsl hmc
  have HTS := Lib.hid hts
  have HW := Lib.hid hW
  have HOWN := Lib.hid hown
  have HON := Lib.hid hon
  have eg : IntKind.i64.wrap ((F : Int) - (first : Int)) = (g : Int) := by rw [IntWalk.i64_in _ (by have := HG.out; omega), HG.out]; push_cast; omega
  clear hW hown hon hsl hts
  go_quiet (fail)
  by_cases hmv : g + r < 2 * g
  · have hmv' : decide ((g : Int) + (r : Int) < 2 * (g : Int)) = true := by simp; omega
    have hmk : ∀ W, (Instr.makeSlice 75 (.int .i64 ((g : Int) + (r : Int) - (g : Int))) (.int .i64 ((g : Int) + (r : Int) - (g : Int)))).run Tryz.prog W = .ok (.slice (some ⟨W.heap.size, 0, none⟩) r r) (W.alloc (.cells (madeCells #[.int .u8 0] r) 5)) := by
      rw [show (g : Int) + (r : Int) - (g : Int) = (r : Int) by omega]
      exact fun W => makeBS W r hrb
    obtain ⟨Z, hZ⟩ : ∃ Z, Z = (all.drop first).drop g := ⟨_, rfl⟩
    have hZl : (u8s Z).length = r := by rw [u8s_length, hZ, List.length_drop, List.length_drop, ← HN.out, HRr.out]; omega
    have HZ := Lib.hid hZ
    have HZl := Lib.hid hZl
    have HTS2 : Hid (Sl W a' r (u8s Z)) := Lib.hid (by rw [hZ]; exact HTS.out)
    have hsz1 : (Tryz.prog.info? 5).map (·.size) = some 1 := by kernel_rfl
    have HSZ := Lib.hid hsz1
    have hgc : ((W.drewN nq).alloc (.cells (madeCells #[.int .u8 0] r) 5)).heap[W.heap.size]? = some (.cells (List.replicate r (.int .u8 0)).toArray 5 (0, 0)) := by
      rw [← made_zero, Array.toArray_toList]
      exact heap_alloc_new (W.drewN nq) _
    have HGC := Lib.hid hgc
    have HBA : Hid (Below W.heap.size W ((W.drewN nq).alloc (.cells (madeCells #[.int .u8 0] r) 5))) := Lib.hid ((Below.drewN (Below.refl _ _) nq).alloc (Nat.le_refl _) _)
    have htW : tb < W.heap.size := heap_lt HW.out
    have c0' : ((W.drewN nq).alloc (.cells (madeCells #[.int .u8 0] r) 5)).cell? ⟨tb, 0, none⟩ = some (.slice a (g + r) c) := by rw [HBA.out.cell (p := ⟨tb, 0, none⟩) htW]; exact c0
    clear hZ hZl hgc hsz1
    go_wp2_with (with_reducible refine wpList_copy_splice rfl (.tmp 51) (.tmp 57) 75 75 rfl 5 Tryz.underlying75 HSZ.out (some ⟨W.heap.size, 0, none⟩) a' r r r (c - g) ?d1 ?d2 W.heap.size 0 (List.replicate r (.int .u8 0)) 5 HGC.out (u8s Z) ?c1 ?c2 ?c3 ?c4 W.heap.size W HBA.out (Nat.le_refl _) ?_)
    case c1 => rw [HZl.out]
    case c2 =>
      intro hpos
      rw [HZl.out] at hpos
      obtain ⟨b, o, e, _, _⟩ := HTS2.out.cell 0 (by rw [HZl.out]; exact hpos)
      refine ⟨⟨b, o, none⟩, e, fun k u hk => ?_⟩
      have hkl : k < (u8s Z).length := (List.getElem?_eq_some_iff.1 hk).1
      obtain ⟨b', o', e', hb', hc'⟩ := HTS2.out.cell k hkl
      rw [e] at e'
      injection e' with e'
      injection e' with e1 e2
      subst e1
      subst e2
      rw [Addr.add_lit, HBA.out.cell (p := ⟨b, o + k, none⟩) hb', hc', ← hk, List.getElem?_eq_getElem hkl]
    case c3 => rw [HZl.out]; simp
    case c4 => exact u8s_oneC Z
    intro w5 h5 b5
    have hW5 := (b5.block tb htW).trans HW.out
    have d0 : w5.cell? ⟨tb, 0, none⟩ = some (.slice a (g + r) c) := by rw [cell_heap hW5]; rfl
    have d1 : w5.cell? ⟨tb, 1, none⟩ = some (.int .i64 first) := by rw [cell_heap hW5]; rfl
    have d2 : w5.cell? ⟨tb, 2, none⟩ = some (.int .i64 F) := by rw [cell_heap hW5]; rfl
    have k0 := frozen_heap (i := 0) hW5
    have k1 := frozen_heap (i := 1) hW5
    have HW5 := Lib.hid hW5
    have HB5 := Lib.hid b5
    clear hW5 b5 c0 c1 c2 c0'
    go_wp2_with fail
    all_goals
      go_ret
      have hT := HT.out
      have hRW : R ≤ W.heap.size := Nat.le_trans hRs hsz
      have hne : W.heap.size ≠ tb := by omega
      have e1 : all.length - F = r := by rw [← HN.out, HRr.out, HG.out]; omega
      have e2 : all.drop F = Z := by rw [HZ.out, List.drop_drop, HG.out]
      have hs5 : w.heap.size ≤ w5.heap.size := Nat.le_trans hsz HB5.out.size
      have hcells : w5.heap[W.heap.size]? = some (.cells (u8s Z).toArray 5 (0, 0)) := by
        rw [h5.out]
        congr 2
        simp [splice, HZl.out]
      have hrow : w5.ownsRow R 5 1 (.slice (some ⟨W.heap.size, 0, none⟩) r r) r (u8s Z) :=
        ⟨by rw [HZl.out, Nat.mul_one], .inr ⟨W.heap.size, r, (u8s Z).toArray, rfl, hRW, hcells, Nat.le_refl _, by unfold maxLen; omega, by simp [HZl.out], by simp only [Nat.mul_one]; exact List.take_of_length_le (by rw [HZl.out]; exact Nat.le_refl _)⟩⟩
      refine ⟨rfl, F, ⟨hT.lt, ?_, Nat.le_refl _, ?_, hT.small, .slice (some ⟨W.heap.size, 0, none⟩) r r, setCell_heap (setCell_heap HW5.out _) _, ?_⟩, ((HON.out.trans (Only.of hRW HB5.out)).set _ _).set _ _⟩
      · simp only [World.setCell, Array.size_modify]; omega
      · rw [← HN.out]; exact hFN
      · rw [e1, e2]
        have hb1 : ∀ k, (Value.slice (some ⟨W.heap.size, 0, none⟩) r r).ownBlock = some k → k = W.heap.size := fun k hk => by simpa [Value.ownBlock] using hk.symm
        exact own_block (own_block hrow (fun k hk => Below.heap_setCell _ _ _ _ (fun e => by have e' : k = tb := e; have := hb1 k hk; omega))) (fun k hk => Below.heap_setCell _ _ _ _ (fun e => by have e' : k = tb := e; have := hb1 k hk; omega))
  · have hmv' : decide ((g : Int) + (r : Int) < 2 * (g : Int)) = false := by simp; omega
    go_wp2_with fail
    go_ret
    have hT := HT.out
    refine ⟨rfl, first, ⟨hT.lt, Nat.le_trans hRs hsz, by have := HG.out; omega, by rw [← HN.out]; have := HRr.out; have := HG.out; omega, hT.small, _, HW.out, ?_⟩, HON.out.drewN _⟩
    rw [show all.length - first = g + r by rw [← HN.out, HRr.out]; omega]
    exact own_block HOWN.out (fun _ _ => rfl)

set_option maxRecDepth 100000 in
set_option maxHeartbeats 4000000 in
theorem tape_drop_bad (R tb : Nat) (all : List UInt8) (first front : Nat) (to' : Int) (w : World) (h : TapeAt w R tb all first front) (hj : to' < 0 ∨ (all.length : Int) < to') :
    Calls Tryz.prog 29 #[.pointer (some ⟨tb, 0, none⟩), .int .i64 to'] w fun e w' => e = .returned (.int .i64 2) ∧ ∃ d, w' = w.drewN d := by
  have HP0 := Lib.hid (tape_place R tb all first front w h)
  have hsm := h.small
  obtain ⟨N, hN⟩ : ∃ N, N = all.length := ⟨_, rfl⟩
  rw [← hN] at HP0 hj hsm
  clear h hN
  by_cases h0 : to' < 0
  · clear hj
    go_enter Tryz.func29, Tryz.ntmps29
    go_wp2_with fail
    go_ret
    exact ⟨rfl, 0, rfl⟩
  · have h1 : (N : Int) < to' := by omega
    have h0' : 0 ≤ to' := by omega
    clear hj h0
    go_enter Tryz.func29, Tryz.ntmps29
    go_wp2_with fail
    (with_reducible refine HP0.out.mono ?_)
    rintro e w1 ⟨rfl, d, rfl⟩
    go_wp2_with fail
    go_ret
    exact ⟨rfl, d, rfl⟩
theorem tape_drop_nil (to' : Int) (w : World) :
    Calls Tryz.prog 29 #[.pointer none, .int .i64 to'] w fun e w' => e = .returned (.int .i64 1) ∧ w = w' := by
  go_enter Tryz.func29, Tryz.ntmps29
  go_wp2_with fail
  go_ret
  exact ⟨rfl, rfl⟩
theorem tape_drop (U R tb : Nat) (all : List UInt8) (first front : Nat) (to' : Int) (w : World) (h : TapeAt w R tb all first front) :
    Calls Tryz.prog 29 #[.pointer (some ⟨tb, 0, none⟩), .int .i64 to'] w fun e w' => RetDrop U R tb all front to' w e w' := by
  unfold RetDrop dropW
  by_cases hb : to' < 0 ∨ (all.length : Int) < to'
  · rw [if_pos hb]
    refine (tape_drop_bad R tb all first front to' w h hb).mono ?_
    rintro e w' ⟨rfl, d, rfl⟩
    exact ⟨rfl, first, h.drewN d, (Only.refl R tb U w).drewN d⟩
  · rw [if_neg hb]
    obtain ⟨j, rfl⟩ : ∃ j : Nat, to' = j := ⟨to'.toNat, by omega⟩
    exact tape_drop_ok U R tb all first front j w h (by omega)
end Go.Proofs.YtmnloeolacmemaaGreat

/-
  Package tape: Add and Drop turn the tape and its row alone.
-/
namespace Go.Proofs.YtmnloeolacmemaaGreat
open Go.RowKit

/-- block k is the tape's row -/
def TapeRow (w : World) (tb k : Nat) : Prop := ∃ v, w.cell? ⟨tb, 0, none⟩ = some v ∧ v.ownBlock = some k
/-- nothing has turned but the tape and its row -/
structure MovT (tb : Nat) (w w' : World) : Prop where
  os : w'.os = w.os
  tape : w'.tape = w.tape
  output : w'.output = w.output
  size : w.heap.size ≤ w'.heap.size
  block : ∀ k, k < w.heap.size → k ≠ tb → ¬ TapeRow w tb k → w'.heap[k]? = w.heap[k]?
theorem TapeAt.lower {w : World} {R R' tb : Nat} {all : List UInt8} {first front : Nat} (h : TapeAt w R' tb all first front) (hR : R ≤ R') (htb : tb < R) : TapeAt w R tb all first front := by
  obtain ⟨a1, a2, a3, a4, a5, v, a6, a7⟩ := h
  exact ⟨htb, Nat.le_trans hR a2, a3, a4, a5, v, a6, a7.mono hR⟩
theorem TapeAt.split {w : World} {R tb : Nat} {all : List UInt8} {first front : Nat} (h : TapeAt w R tb all first front) :
    ∃ R' U, R ≤ R' ∧ TapeAt w R' tb all first front ∧ (∀ v k, w.cell? ⟨tb, 0, none⟩ = some v → v.ownBlock = some k → k < U) ∧ ∀ w', Only R' tb U w w' → MovT tb w w' := by
  obtain ⟨a1, a2, a3, a4, a5, v, a6, a7⟩ := h
  have hv : w.cell? ⟨tb, 0, none⟩ = some v := by rw [cell_heap a6]; rfl
  have hlt := a7.lt
  cases ho : v.ownBlock with
  | none =>
    refine ⟨w.heap.size, w.heap.size, a2, ⟨by omega, Nat.le_refl _, a3, a4, a5, v, a6, ⟨a7.1, ?_⟩⟩, fun u k h1 h2 => ?_, fun w' hO => ⟨hO.os, hO.tape, hO.output, hO.size, fun k hk h1 _ => hO.block k h1 (.inl hk)⟩⟩
    · rcases a7.2 with h | ⟨g, cap, cur, rfl, _⟩
      · exact .inl h
      · cases ho
    · rw [hv] at h1; cases h1; rw [ho] at h2; cases h2
  | some g =>
    have hg := hlt g ho
    refine ⟨g, g + 1, hg.1, ⟨by omega, by omega, a3, a4, a5, v, a6, ⟨a7.1, ?_⟩⟩, fun u k h1 h2 => ?_, fun w' hO => ⟨hO.os, hO.tape, hO.output, hO.size, fun k hk h1 h2 => hO.block k h1 ?_⟩⟩
    · rcases a7.2 with h | ⟨g', cap, cur, rfl, h2, h3, h4⟩
      · exact .inl h
      · cases ho
        exact .inr ⟨g', cap, cur, rfl, Nat.le_refl _, h3, h4⟩
    · rw [hv] at h1; cases h1; rw [ho] at h2; cases h2; omega
    · have : k ≠ g := fun e => h2 ⟨v, hv, by rw [ho, e]⟩
      omega
theorem tape_add2 (R tb : Nat) (all : List UInt8) (first front : Nat) (kind num dep fr tt : Int) (name text : List UInt8) (a : Option Addr) (n c : Nat) (out : List UInt8) (w : World) (h : TapeAt w R tb all first front)
    (hE : ∀ w1, Below w.heap.size w w1 → Calls Tryz.prog 27 #[.agg (evC kind num dep name a n c text fr tt)] w1 fun e w' => e = .returned (.string (strL out)) ∧ Below w1.heap.size w1 w')
    (hsm : all.length + out.length ≤ 1099511627776) :
    Calls Tryz.prog 20 #[.pointer (some ⟨tb, 0, none⟩), .agg (evC kind num dep name a n c text fr tt)] w fun e w' => e = .returned (.int .i64 0) ∧ TapeAt w' R tb (all ++ out) first front ∧ MovT tb w w' := by
  obtain ⟨R', U, h1, h2, h3, h4⟩ := h.split
  refine (tape_add R' tb all first front kind num dep fr tt name text a n c out w h2 hE hsm U h3).mono ?_
  rintro e w' ⟨g1, g2, g3⟩
  exact ⟨g1, g2.lower h1 h.lt, h4 w' g3⟩
theorem tape_drop2 (R tb : Nat) (all : List UInt8) (first front : Nat) (to' : Int) (w : World) (h : TapeAt w R tb all first front) :
    Calls Tryz.prog 29 #[.pointer (some ⟨tb, 0, none⟩), .int .i64 to'] w fun e w' => e = .returned (.int .i64 (dropW all front to').1) ∧ ∃ first', TapeAt w' R tb all first' (dropW all front to').2 ∧ MovT tb w w' := by
  obtain ⟨R', U, h1, h2, h3, h4⟩ := h.split
  refine (tape_drop U R' tb all first front to' w h2).mono ?_
  rintro e w' ⟨g1, f, g2, g3⟩
  exact ⟨g1, f, g2.lower h1 h.lt, h4 w' g3⟩
end Go.Proofs.YtmnloeolacmemaaGreat
