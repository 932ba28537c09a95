/-
  Package tape: Add and Drop; where the tape's row lies behind them.
-/
import Derived.Test.YtmnloeolacmemaaGreatWpG
import Derived.Test.YtmnloeolacmemaaGreatWpB
import Derived.Deep.Upon
namespace Go.Proofs.YtmnloeolacmemaaGreat
open Go.RowKit

theorem row_of {w : World} {tb : Nat} {v a b : Value} {t : TypeId} {fz : Nat × Nat} {p : Nat → Prop} (h : w.heap[tb]? = some (.cells #[v, a, b] t fz)) (hp : ∀ k, v.ownBlock = some k → p k) : ∀ k, TapeRow w tb k → p k := by
  rintro k ⟨u, hu, hk⟩
  rw [cell_heap h] at hu
  simp only [List.getElem?_toArray, List.getElem?_cons_zero, Option.some.injEq] at hu
  subst hu; exact hp k hk
theorem row_mk {w : World} {tb : Nat} {v a b : Value} {t : TypeId} {fz : Nat × Nat} (h : w.heap[tb]? = some (.cells #[v, a, b] t fz)) {k : Nat} (hk : v.ownBlock = some k) : TapeRow w tb k := ⟨v, by rw [cell_heap h]; rfl, hk⟩
/-- the row behind: the old one, or a new block -/
def RowB (w w' : World) (tb : Nat) : Prop := ∀ k, TapeRow w' tb k → TapeRow w tb k ∨ w.heap.size ≤ k
theorem str_at {P : Program} {w : World} (t u ty e : TypeId) (i : TypeInfo) (ht : P.underlying t = some (.slice e)) (hu : P.underlying u = some .string) (hi : P.info? e = some i) (hz : i.zero = some (.int .u8 0))
    (hsize : i.size = 1) (hby : i.bytes = 1) (base : Nat) (v : Value) (n : Nat) (xs : List Value) (hown : w.ownsRow base e 1 v n xs) (s : ByteArray) (hb : n + s.size ≤ 140737488355328)
    {v' : Value} {w' : World} (hr : (Builtin.append_ #[t, u] ty #[v, .string s]).run P w = .ok v' w') : v'.ownBlock = v.ownBlock ∨ ∃ g, v'.ownBlock = some g ∧ w.heap.size ≤ g := by
  rcases hown.2 with ⟨rfl, rfl⟩ | ⟨g, cap, cur, rfl, hbg, hg, hnc, hcm, hcs, htake⟩
  · have hx : xs = [] := List.eq_nil_of_length_eq_zero (by simpa using hown.1)
    subst hx
    obtain ⟨v2, w2, h1, h2, _⟩ := Lib.run_append_own_string (P := P) w w.heap.size t u ty e i ht hu hi hz hsize hby (.slice none 0 0) 0 [] (World.ownsRow_nil w _ e 1) s (by unfold maxLen; omega) hb (Nat.le_refl _)
    rw [h1] at hr
    injection hr with e1 e2
    subst e1
    have hlt := h2.lt
    cases ho : v2.ownBlock with
    | none => exact .inl rfl
    | some k => exact .inr ⟨k, rfl, (hlt k ho).1⟩
  · by_cases hroom : n + s.size ≤ cap
    · have h1 := Lib.run_append_room_string (P := P) w t u ty e i ht hu hi hsize g n cap cur hg s hroom (by omega)
      rw [h1] at hr
      injection hr with e1 e2
      subst e1
      exact .inl rfl
    · have holds : ∀ j x, xs[j]? = some x → w.cell? ((⟨g, 0, none⟩ : Addr).add j) = some x := hown.cells (g := g) rfl
      have h1 := Lib.run_append_grow_string (P := P) w t u ty e i (.int .u8 0) ht hu hi hz ⟨g, 0, none⟩ n cap xs (by rw [hsize]; exact hown.1) holds s (by omega) (by omega) (by rw [hby]; exact growslice_fits (by omega) (by omega))
      rw [h1] at hr
      injection hr with e1 e2
      subst e1
      exact .inr ⟨_, rfl, Nat.le_refl _⟩
theorem step_append_str2 {P : Program} {ops : Array Oper} {o : Oper} {a : Act} {w : World} {K : Act → World → Prop} {Q : Exit → Act → World → Prop} {E : Prop} (hgd : o.guard = none) (sl x : Operand) (t u : TypeId)
    (ho : o.op = .call { callee := .builtin .append, args := #[sl, x], argTypes := #[t, u] })
    (base : Nat) (e : TypeId) (i : TypeInfo) (ht : P.underlying t = some (.slice e)) (hu : P.underlying u = some .string) (hi : P.info? e = some i) (hz : i.zero = some (.int .u8 0))
    (hsize : i.size = 1) (hby : i.bytes = 1)
    (v : Value) (n : Nat) (xs : List Value) (hs : a.eval sl = v) (hown : w.ownsRow base e 1 v n xs) (s : ByteArray) (hx : a.eval x = .string s)
    (hbytes : n + s.size ≤ 140737488355328) (hbase : base ≤ w.heap.size)
    (h : ∀ v' w', w'.ownsRow base e 1 v' (n + s.size) (xs ++ Lib.strCells s) → w.grownBy w' v.ownBlock → (v'.ownBlock = v.ownBlock ∨ ∃ g, v'.ownBlock = some g ∧ w.heap.size ≤ g) → K (a.put o.dst v') w') :
    if Region.wanted o (yielded ops a.tmps) = true then Oper.wp P o a w K Q else E := by
  have hw : Region.wanted o (yielded ops a.tmps) = true := by simp [Region.wanted, hgd]
  rw [if_pos hw]
  obtain ⟨v', w', hr, h2, h3, _⟩ := Lib.run_append_own_string (P := P) w base t u o.type e i ht hu hi hz hsize hby v n xs hown s (by unfold maxLen; omega) hbytes hbase
  unfold Oper.wp execOp
  simp only [ho, resolve, invoke, builtin, Sem.run_bind, Sem.run_pure, Result.andThen_ok, List.map_toArray, List.map_cons, List.map_nil, hs, hx, hr]
  exact h v' w' h2 h3 (str_at (P := P) t u o.type e i ht hu hi hz hsize hby base v n xs hown s hbytes hr)

set_option maxRecDepth 100000 in
set_option maxHeartbeats 8000000 in
theorem tape_addE (R tb : Nat) (all : List UInt8) (first front : Nat) (kind num dep fr tt : Int) (name text : List UInt8) (a : Option Addr) (n c : Nat) (out : List UInt8) (w : World) (h : TapeAt w R tb all first front)
    (hE : ∀ w1, Below w.heap.size w w1 → Calls Tryz.prog 27 #[.agg (evC kind num dep name a n c text fr tt)] w1 fun e w' => e = .returned (.string (strL out)) ∧ Below w1.heap.size w1 w')
    (hsm : all.length + out.length ≤ 1099511627776) (U : Nat) (hU : ∀ v k, w.cell? ⟨tb, 0, none⟩ = some v → v.ownBlock = some k → k < U) :
    Calls Tryz.prog 20 #[.pointer (some ⟨tb, 0, none⟩), .agg (evC kind num dep name a n c text fr tt)] w fun e w' => e = .returned (.int .i64 0) ∧ TapeAt w' R tb (all ++ out) first front ∧ Only R tb U w w' ∧ RowB w w' tb := by
  obtain ⟨i0, hi, h3⟩ := Option.map_eq_some_iff.1 infoU8t
  simp only [Prod.mk.injEq] at h3
  obtain ⟨hz0, hz1, hz2⟩ := h3
  obtain ⟨v, g1, g2⟩ := h.at'
  have hlt := h.lt
  have hle := h.le
  have hvne : v.ownBlock ≠ some tb := fun e => by have := (g2.lt tb e).1; omega
  have hvu : ∀ k, v.ownBlock = some k → R ≤ k ∧ k < U := fun k hk => ⟨(g2.lt k hk).1, hU v k (by rw [cell_heap g1]; rfl) hk⟩
  have HVU := Lib.hid hvu
  clear hvu hU
  have HE := Lib.hid hE
  have HT := Lib.hid h
  have G1 := Lib.hid g1
  have G2 := Lib.hid g2
  have hbW : Below w.heap.size w (w.alloc (.cells (evC kind num dep name a n c text fr tt) 36)) := (Below.refl _ _).alloc (Nat.le_refl _) _
  have c0 : (w.alloc (.cells (evC kind num dep name a n c text fr tt) 36)).cell? ⟨tb, 0, none⟩ = some v := by rw [cell_heap ((heap_alloc_old _ _ (by omega)).trans g1)]; rfl
  have HBW := Lib.hid hbW
  have htbW : tb < (w.alloc (.cells (evC kind num dep name a n c text fr tt) 36)).heap.size := by simp; omega
  clear h hE g1 g2 hbW
  go_enter Tryz.func20, Tryz.ntmps20
  unfold evC at *
  go_wp2_with fail
  go_region_law (first | (refine step_append_str2 rfl (.tmp 11) (.tmp 13) 75 9 rfl R 5 i0 Tryz.underlying75 Tryz.underlying9 hi hz0 hz1 hz2 v (all.length - first) (u8s (all.drop first)) (by rfl) (own_block G2.out (fun k hk => hb6.block k (G2.out.lt k hk).2)) (strL out) (by rfl) (by rw [strL_size]; omega) (Nat.le_trans hle hb6.size) ?_; intro v' w6 hown hgrow hat; have d0 : w6.heap[tb]? = some (.cells #[v, .int .i64 first, .int .i64 front] 77 (0, 0)) := ((hgrow.block tb (Nat.lt_of_lt_of_le (Nat.lt_of_lt_of_le hlt hle) hb6.size) (fun e => hvne e.symm)).trans ((hb6.block tb (Nat.lt_of_lt_of_le hlt hle)).trans G1.out)); have d1 : w6.cell? ⟨tb, 0, none⟩ = some v := (by rw [cell_heap d0]; rfl); have f1 := frozen_heap (i := 0) d0; obtain ⟨a6, c6, rfl, _, _⟩ := town_sl hown) | (go_simp; go_at_call 27; refine (HE.out _ (HBW.out.trans ((Below.refl _ _).drew))).mono ?_; rintro e w5 ⟨rfl, hb5⟩; have hb6 := HBW.out.trans (((Below.refl _ _).drew).trans (hb5.mono (by exact HBW.out.size))); have z0 := (hb5.cell (p := ⟨tb, 0, none⟩) htbW).trans c0))
  all_goals
    have HBL := Lib.hid (((Below.refl R w5).grown hgrow (Nat.le_trans hle hb6.size) (fun k hk => (G2.out.lt k hk).1)))
    have HON : Hid (Only R tb U w w6) := Lib.hid ((Only.of hle hb6).trans (Only.grown (Nat.le_trans hle hb6.size) hgrow HVU.out))
    have HB6 := Lib.hid hb6
    have HD0 := Lib.hid d0
    have HOWN := Lib.hid hown
    have HAT : Hid (∀ k, (Value.slice a6 (all.length - first + (strL out).size) c6).ownBlock = some k → TapeRow w tb k ∨ w.heap.size ≤ k) := Lib.hid (fun k hk => by
      rcases hat with e1 | ⟨g, e1, e2⟩
      · exact .inl (row_mk G1.out (e1 ▸ hk))
      · rw [e1] at hk; injection hk with hk; exact .inr (by have := hb6.size; omega))
    clear hgrow hb6 d0 hown hat
    go_wp2_with fail
    go_ret
    have hT := HT.out
    refine ⟨rfl, ⟨hT.lt, ?_, hT.ff, ?_, ?_, .slice a6 _ c6, setCell_heap HD0.out _, ?_⟩, HON.out.set _ _, ?_⟩
    · have := HBL.out.size
      have := HB6.out.size
      simp [World.setCell]; omega
    · have := hT.fa
      simp; omega
    · simp; omega
    · have hf : first ≤ all.length := Nat.le_trans hT.ff hT.fa
      have e1 : (all ++ out).length - first = all.length - first + (strL out).size := by rw [strL_size]; simp; omega
      have e2 : u8s ((all ++ out).drop first) = u8s (all.drop first) ++ Lib.strCells (strL out) := by
        rw [List.drop_append_of_le_length hf]
        simp [u8s, Lib.strCells, strL_data]
      rw [e1, e2]
      exact own_block HOWN.out (fun k hk => Below.heap_setCell _ _ _ _ (fun e => by have h1 := (HOWN.out.lt k hk).1; have e' : k = tb := e; omega))
    · exact row_of (setCell_heap HD0.out _) HAT.out
def RetDE (U R tb : Nat) (all : List UInt8) (f : Nat) (w : World) (e : Ending) (w' : World) : Prop := e = .returned (.int .i64 0) ∧ ∃ first', TapeAt w' R tb all first' f ∧ Only R tb U w w' ∧ RowB w w' tb
set_option maxRecDepth 100000 in
set_option maxHeartbeats 8000000 in
theorem tape_drop_okE (U R tb : Nat) (all : List UInt8) (first front j : Nat) (w : World) (h : TapeAt w R tb all first front) (hj : j ≤ all.length) :
    Calls Tryz.prog 29 #[.pointer (some ⟨tb, 0, none⟩), .int .i64 (j : Int)] w fun e w' => RetDE U R tb all (max front j) w e w' := by
  obtain ⟨v, h1, h2⟩ := h.at'
  have hsm := h.small
  have HP0 := Lib.hid (tape_place R tb all first front w h)
  have HT := Lib.hid h
  obtain ⟨F, hF⟩ : ∃ F, F = max front j := ⟨_, rfl⟩
  have eF : max (front : Int) (j : Int) = (F : Int) := by omega
  obtain ⟨N, hN⟩ : ∃ N, N = all.length := ⟨_, rfl⟩
  have hFf : first ≤ F := by have := h.ff; omega
  have hFN : F ≤ N := by have := h.fa; omega
  obtain ⟨g, hg⟩ : ∃ g, F = first + g := ⟨F - first, by omega⟩
  obtain ⟨r, hr⟩ : ∃ r, N = first + g + r := ⟨N - first - g, by omega⟩
  have hm : all.length - first = g + r := by omega
  rw [hm] at h2
  obtain ⟨a, c, rfl, hmc, hsl⟩ := town_sl h2
  have c0 : w.cell? ⟨tb, 0, none⟩ = some (.slice a (g + r) c) := by rw [cell_heap h1]; rfl
  have c1 : w.cell? ⟨tb, 1, none⟩ = some (.int .i64 first) := by rw [cell_heap h1]; rfl
  have c2 : w.cell? ⟨tb, 2, none⟩ = some (.int .i64 front) := by rw [cell_heap h1]; rfl
  have f2 : w.frozen? ⟨tb, 2, none⟩ = false := frozen_heap h1
  have hNb : N ≤ 1099511627776 := by omega
  have hjN : j ≤ N := by omega
  rw [← hN] at HP0
  rw [← hF]
  have H1 := Lib.hid h1
  have H2 := Lib.hid h2
  have HF := Lib.hid hF
  have HN := Lib.hid hN
  have HG := Lib.hid hg
  have HRr := Lib.hid hr
  have hgb : g ≤ 1099511627776 := by omega
  have hrb : r ≤ 1099511627776 := by omega
  have hfb : first ≤ 1099511627776 := by omega
  have hjN' : decide (N < j) = false := by simp; omega
  clear h1 h2 h hF hN hg hr hm hsl hj hsm
  go_enter Tryz.func29, Tryz.ntmps29
  go_wp2_with fail
  (with_reducible refine HP0.out.mono ?_)
  rintro e w1 ⟨rfl, d, rfl⟩
  go_wp2_with fail
  have hW : ((w.drewN d).setCell ⟨tb, 2, none⟩ (.int .i64 F)).heap[tb]? = some (.cells #[.slice a (g + r) c, .int .i64 first, .int .i64 F] 77 (0, 0)) := setCell_heap (w := w.drewN d) H1.out _
  have hltb := HT.out.lt
  have hown : ((w.drewN d).setCell ⟨tb, 2, none⟩ (.int .i64 F)).ownsRow R 5 1 (.slice a (g + r) c) (g + r) (u8s (all.drop first)) := own_block (w := w.drewN d) (own_block H2.out (fun _ _ => rfl)) (fun k hk => Below.heap_setCell _ _ _ _ (fun e => by have h1 := (H2.out.lt k hk).1; have e' : k = tb := e; omega))
  have hon : Only R tb U w ((w.drewN d).setCell ⟨tb, 2, none⟩ (.int .i64 F)) := ((Only.refl R tb U w).drewN d).set _ _
  have hsz : w.heap.size ≤ ((w.drewN d).setCell ⟨tb, 2, none⟩ (.int .i64 F)).heap.size := hon.size
  have hRs := HT.out.le
  clear c0 c1 c2 f2
  generalize (w.drewN d).setCell ⟨tb, 2, none⟩ (.int .i64 F) = W at *
  have c0 : W.cell? ⟨tb, 0, none⟩ = some (.slice a (g + r) c) := by rw [cell_heap hW]; rfl
  have c1 : W.cell? ⟨tb, 1, none⟩ = some (.int .i64 first) := by rw [cell_heap hW]; rfl
  have c2 : W.cell? ⟨tb, 2, none⟩ = some (.int .i64 F) := by rw [cell_heap hW]; rfl
  obtain ⟨a1, c1', he, _, hsl⟩ := town_sl hown
  injection he with he1 _ he2
  subst he1
  subst he2
  obtain ⟨a', htl, hts⟩ := tail_bytes hsl hmc
  have HTS := Lib.hid hts
  have HW := Lib.hid hW
  have HOWN := Lib.hid hown
  have HON := Lib.hid hon
  have eg : IntKind.i64.wrap ((F : Int) - (first : Int)) = (g : Int) := by rw [IntWalk.i64_in _ (by have := HG.out; omega), HG.out]; push_cast; omega
  clear hW hown hon hsl hts
  go_quiet (fail)
  by_cases hmv : g + r < 2 * g
  · have hmv' : decide ((g : Int) + (r : Int) < 2 * (g : Int)) = true := by simp; omega
    have hmk : ∀ W, (Instr.makeSlice 75 (.int .i64 ((g : Int) + (r : Int) - (g : Int))) (.int .i64 ((g : Int) + (r : Int) - (g : Int)))).run Tryz.prog W = .ok (.slice (some ⟨W.heap.size, 0, none⟩) r r) (W.alloc (.cells (madeCells #[.int .u8 0] r) 5)) := by
      rw [show (g : Int) + (r : Int) - (g : Int) = (r : Int) by omega]
      exact fun W => makeBS W r hrb
    obtain ⟨Z, hZ⟩ : ∃ Z, Z = (all.drop first).drop g := ⟨_, rfl⟩
    have hZl : (u8s Z).length = r := by rw [u8s_length, hZ, List.length_drop, List.length_drop, ← HN.out, HRr.out]; omega
    have HZ := Lib.hid hZ
    have HZl := Lib.hid hZl
    have HTS2 : Hid (Sl W a' r (u8s Z)) := Lib.hid (by rw [hZ]; exact HTS.out)
    have hsz1 : (Tryz.prog.info? 5).map (·.size) = some 1 := by kernel_rfl
    have HSZ := Lib.hid hsz1
    have hgc : ((W.drewN nq).alloc (.cells (madeCells #[.int .u8 0] r) 5)).heap[W.heap.size]? = some (.cells (List.replicate r (.int .u8 0)).toArray 5 (0, 0)) := by
      rw [← made_zero, Array.toArray_toList]
      exact heap_alloc_new (W.drewN nq) _
    have HGC := Lib.hid hgc
    have HBA : Hid (Below W.heap.size W ((W.drewN nq).alloc (.cells (madeCells #[.int .u8 0] r) 5))) := Lib.hid ((Below.drewN (Below.refl _ _) nq).alloc (Nat.le_refl _) _)
    have htW : tb < W.heap.size := heap_lt HW.out
    have c0' : ((W.drewN nq).alloc (.cells (madeCells #[.int .u8 0] r) 5)).cell? ⟨tb, 0, none⟩ = some (.slice a (g + r) c) := by rw [HBA.out.cell (p := ⟨tb, 0, none⟩) htW]; exact c0
    clear hZ hZl hgc hsz1
    go_wp2_with (with_reducible refine wpList_copy_splice rfl (.tmp 51) (.tmp 57) 75 75 rfl 5 Tryz.underlying75 HSZ.out (some ⟨W.heap.size, 0, none⟩) a' r r r (c - g) ?d1 ?d2 W.heap.size 0 (List.replicate r (.int .u8 0)) 5 HGC.out (u8s Z) ?c1 ?c2 ?c3 ?c4 W.heap.size W HBA.out (Nat.le_refl _) ?_)
    case c1 => rw [HZl.out]
    case c2 =>
      intro hpos
      rw [HZl.out] at hpos
      obtain ⟨b, o, e, _, _⟩ := HTS2.out.cell 0 (by rw [HZl.out]; exact hpos)
      refine ⟨⟨b, o, none⟩, e, fun k u hk => ?_⟩
      have hkl : k < (u8s Z).length := (List.getElem?_eq_some_iff.1 hk).1
      obtain ⟨b', o', e', hb', hc'⟩ := HTS2.out.cell k hkl
      rw [e] at e'
      injection e' with e'
      injection e' with e1 e2
      subst e1
      subst e2
      rw [Addr.add_lit, HBA.out.cell (p := ⟨b, o + k, none⟩) hb', hc', ← hk, List.getElem?_eq_getElem hkl]
    case c3 => rw [HZl.out]; simp
    case c4 => exact u8s_oneC Z
    intro w5 h5 b5
    have hW5 := (b5.block tb htW).trans HW.out
    have d0 : w5.cell? ⟨tb, 0, none⟩ = some (.slice a (g + r) c) := by rw [cell_heap hW5]; rfl
    have d1 : w5.cell? ⟨tb, 1, none⟩ = some (.int .i64 first) := by rw [cell_heap hW5]; rfl
    have d2 : w5.cell? ⟨tb, 2, none⟩ = some (.int .i64 F) := by rw [cell_heap hW5]; rfl
    have k0 := frozen_heap (i := 0) hW5
    have k1 := frozen_heap (i := 1) hW5
    have HW5 := Lib.hid hW5
    have HB5 := Lib.hid b5
    clear hW5 b5 c0 c1 c2 c0'
    go_wp2_with fail
    all_goals
      go_ret
      have hT := HT.out
      have hRW : R ≤ W.heap.size := Nat.le_trans hRs hsz
      have hne : W.heap.size ≠ tb := by omega
      have e1 : all.length - F = r := by rw [← HN.out, HRr.out, HG.out]; omega
      have e2 : all.drop F = Z := by rw [HZ.out, List.drop_drop, HG.out]
      have hs5 : w.heap.size ≤ w5.heap.size := Nat.le_trans hsz HB5.out.size
      have hcells : w5.heap[W.heap.size]? = some (.cells (u8s Z).toArray 5 (0, 0)) := by
        rw [h5.out]
        congr 2
        simp [splice, HZl.out]
      have hrow : w5.ownsRow R 5 1 (.slice (some ⟨W.heap.size, 0, none⟩) r r) r (u8s Z) :=
        ⟨by rw [HZl.out, Nat.mul_one], .inr ⟨W.heap.size, r, (u8s Z).toArray, rfl, hRW, hcells, Nat.le_refl _, by unfold maxLen; omega, by simp [HZl.out], by simp only [Nat.mul_one]; exact List.take_of_length_le (by rw [HZl.out]; exact Nat.le_refl _)⟩⟩
      refine ⟨rfl, F, ⟨hT.lt, ?_, Nat.le_refl _, ?_, hT.small, .slice (some ⟨W.heap.size, 0, none⟩) r r, setCell_heap (setCell_heap HW5.out _) _, ?_⟩, ((HON.out.trans (Only.of hRW HB5.out)).set _ _).set _ _, ?_⟩
      · simp only [World.setCell, Array.size_modify]; omega
      · rw [← HN.out]; exact hFN
      · rw [e1, e2]
        have hb1 : ∀ k, (Value.slice (some ⟨W.heap.size, 0, none⟩) r r).ownBlock = some k → k = W.heap.size := fun k hk => by simpa [Value.ownBlock] using hk.symm
        exact own_block (own_block hrow (fun k hk => Below.heap_setCell _ _ _ _ (fun e => by have e' : k = tb := e; have := hb1 k hk; omega))) (fun k hk => Below.heap_setCell _ _ _ _ (fun e => by have e' : k = tb := e; have := hb1 k hk; omega))
      · refine row_of (setCell_heap (setCell_heap HW5.out _) _) (fun k hk => .inr ?_)
        have h9 : W.heap.size = k := by simpa [Value.ownBlock] using hk
        omega
  · have hmv' : decide ((g : Int) + (r : Int) < 2 * (g : Int)) = false := by simp; omega
    go_wp2_with fail
    go_ret
    have hT := HT.out
    refine ⟨rfl, first, ⟨hT.lt, Nat.le_trans hRs hsz, by have := HG.out; omega, by rw [← HN.out]; have := HRr.out; have := HG.out; omega, hT.small, _, HW.out, ?_⟩, HON.out.drewN _, ?_⟩
    · rw [show all.length - first = g + r by rw [← HN.out, HRr.out]; omega]
      exact own_block HOWN.out (fun _ _ => rfl)
    · exact row_of HW.out (fun k hk => .inl (row_mk H1.out hk))


theorem tape_add3 (R tb : Nat) (all : List UInt8) (first front : Nat) (kind num dep fr tt : Int) (name text : List UInt8) (a : Option Addr) (n c : Nat) (out : List UInt8) (w : World) (h : TapeAt w R tb all first front)
    (hE : ∀ w1, Below w.heap.size w w1 → Calls Tryz.prog 27 #[.agg (evC kind num dep name a n c text fr tt)] w1 fun e w' => e = .returned (.string (strL out)) ∧ Below w1.heap.size w1 w')
    (hsm : all.length + out.length ≤ 1099511627776) :
    Calls Tryz.prog 20 #[.pointer (some ⟨tb, 0, none⟩), .agg (evC kind num dep name a n c text fr tt)] w fun e w' => e = .returned (.int .i64 0) ∧ TapeAt w' R tb (all ++ out) first front ∧ MovT tb w w' ∧ RowB w w' tb := by
  obtain ⟨R', U, h1, h2, h3, h4⟩ := h.split
  refine (tape_addE R' tb all first front kind num dep fr tt name text a n c out w h2 hE hsm U h3).mono ?_
  rintro e w' ⟨g1, g2, g3, g4⟩
  exact ⟨g1, g2.lower h1 h.lt, h4 w' g3, g4⟩
theorem tape_drop3 (R tb : Nat) (all : List UInt8) (first front j : Nat) (w : World) (h : TapeAt w R tb all first front) (hj : j ≤ all.length) :
    Calls Tryz.prog 29 #[.pointer (some ⟨tb, 0, none⟩), .int .i64 (j : Int)] w fun e w' => e = .returned (.int .i64 0) ∧ ∃ first', TapeAt w' R tb all first' (max front j) ∧ MovT tb w w' ∧ RowB w w' tb := by
  obtain ⟨R', U, h1, h2, h3, h4⟩ := h.split
  refine (tape_drop_okE U R' tb all first front j w h2 hj).mono ?_
  rintro e w' ⟨g1, f, g2, g3, g4⟩
  exact ⟨g1, f, g2.lower h1 h.lt, h4 w' g3, g4⟩
end Go.Proofs.YtmnloeolacmemaaGreat

/-
  Owned rows of elements of several cells: append of a whole row, a row that shrinks, its cells.
-/
namespace Go.Proofs.YtmnloeolacmemaaGreat
open Go.RowKit

/-- an owned row is a slice, its cells lie at the block's head -/
theorem own_slice {w : World} {base : Nat} {e : TypeId} {size : Nat} {v : Value} {n : Nat} {xs : List Value} (h : w.ownsRow base e size v n xs) :
    ∃ a c, v = .slice a n c ∧ n ≤ c ∧ (a = none → n = 0) ∧ ∀ ad, a = some ad → ∃ g, ad = ⟨g, 0, none⟩ ∧ base ≤ g ∧ g < w.heap.size ∧ w.frozen? ⟨g, 0, none⟩ = false ∧ ∀ j u, xs[j]? = some u → w.cell? ⟨g, j, none⟩ = some u := by
  have hc := fun g hg => h.cells (g := g) hg
  have hl := h.lt
  have h0 := h
  obtain ⟨h1, h2⟩ := h
  rcases h2 with ⟨rfl, rfl⟩ | ⟨g, cap, cur, rfl, hg, hh, h5, r⟩
  · exact ⟨none, 0, rfl, Nat.le_refl _, fun _ => rfl, fun ad h => by cases h⟩
  · refine ⟨_, cap, rfl, h5, fun h => (by cases h), fun ad he => ⟨g, (by cases he; rfl), hg, (hl g rfl).2, frozen_heap hh, fun j u hj => ?_⟩⟩
    have := hc g rfl j u hj
    unfold Addr.add at this
    split at this
    · rename_i h; subst h; exact this
    · simpa using this
/-- the slice of an owned row that is not empty -/
theorem own_some {w : World} {base : Nat} {e : TypeId} {size : Nat} {v : Value} {n : Nat} {xs : List Value} (h : w.ownsRow base e size v (n + 1) xs) :
    ∃ g c, v = .slice (some ⟨g, 0, none⟩) (n + 1) c ∧ n + 1 ≤ c ∧ base ≤ g ∧ g < w.heap.size ∧ w.frozen? ⟨g, 0, none⟩ = false ∧ ∀ j u, xs[j]? = some u → w.cell? ⟨g, j, none⟩ = some u := by
  obtain ⟨a, c, rfl, h1, h2, h3⟩ := own_slice h
  cases a with
  | none => have := h2 rfl; omega
  | some ad =>
    obtain ⟨g, rfl, h4⟩ := h3 _ rfl
    exact ⟨g, c, rfl, h1, h4⟩
/-- the last one is left out: the slice is shorter, what is owned, too -/
theorem own_pop {w : World} {base : Nat} {e : TypeId} {size : Nat} {g c n : Nat} {xs ys : List Value} (h : w.ownsRow base e size (.slice (some ⟨g, 0, none⟩) (n + 1) c) (n + 1) (xs ++ ys)) (hx : xs.length = n * size) :
    w.ownsRow base e size (.slice (some ⟨g, 0, none⟩) n c) n xs := by
  obtain ⟨h1, h2⟩ := h
  rcases h2 with ⟨h0, _⟩ | ⟨g', cap', cur, hv, hg, hh, hn, hcap, hsz, htake⟩
  · cases h0
  · cases hv
    refine ⟨hx, .inr ⟨g, c, cur, rfl, hg, hh, by omega, hcap, hsz, ?_⟩⟩
    have h3 : (cur.toList.take ((n + 1) * size)).take (n * size) = (xs ++ ys).take (n * size) := by rw [htake]
    rw [List.take_take, Nat.min_eq_left (Nat.mul_le_mul_right _ (by omega))] at h3
    rw [h3, ← hx, List.take_left']
    rfl
/-- append of a whole row, wherever it lies (nil, too), onto a row that is owned -/
theorem wpList_app_row {P : Program} (w : World) {ops : Array Oper} {rest : List Oper} {o : Oper} {a : Act} {Q : Exit → Act → World → Prop} (hgd : o.guard = none) (s x : Operand) (t : TypeId)
    (ho : o.op = .call { callee := .builtin .append, args := #[s, x], argTypes := #[t, t] })
    (base : Nat) (e : TypeId) (i : TypeInfo) (z : Value) (size bytes : Nat) (ht : P.underlying t = some (.slice e)) (hi : P.info? e = some i) (hz : i.zero = some z)
    (hsize : i.size = size) (hby : i.bytes = bytes) (hzs : z.cells.size = size) (hsz : 0 < size)
    (v : Value) (n : Nat) (xs : List Value) (hs : a.eval s = v) (hown : w.ownsRow base e size v n xs)
    (A : Option Addr) (m c : Nat) (news : List Value) (hx : a.eval x = .slice A m c) (hl : news.length = m * size) (hc : ∀ ad, A = some ad → ∀ j u, news[j]? = some u → w.cell? (ad.add j) = some u) (hA : A = none → m = 0) (h1 : ∀ u ∈ news, u.oneCell' = true)
    (hn : n + m ≤ 4294967296) (hbb : bytes ≤ 16384) (hbase : base ≤ w.heap.size)
    (h : ∀ v' w', w'.ownsRow base e size v' (n + m) (xs ++ news) → App w w' v v' → wpList P ops Q rest (a.put o.dst v') w') :
    wpList P ops Q (o :: rest) a w := by
  have hb : (n + m) * bytes ≤ 140737488355328 := Nat.le_trans (Nat.mul_le_mul hn hbb) (by decide)
  rcases A with _ | ad
  · have hm := hA rfl
    subst hm
    have hnews : news = [] := List.eq_nil_of_length_eq_zero (by omega)
    subst hnews
    obtain ⟨av, cv, rfl, hle, _, _⟩ := own_slice hown
    refine wpList_plain hgd fun K hK' => ?_
    have hrun := run_append_nothing (P := P) w t t o.type e i ht hi av n cv hle _ (Src.ofNil (P := P) (size := i.size) w ht c)
    unfold Oper.wp
    simp [execOp, ho, resolve, invoke, builtin, hs, hx, hrun, Result.andThen]
    exact hK' _ _ (h _ _ (by simpa using hown) ⟨⟨rfl, rfl, rfl, Nat.le_refl _, fun _ _ _ => rfl⟩, .inl rfl⟩)
  · refine wpList_append_own_at (P := P) w hgd s x t ho base e i z size bytes ht hi hz hsize hby hzs hsz v n xs hs hown ad m c news hx hl (hc ad rfl) h1 (by unfold maxLen; omega) hb hbase fun v' w' h2 h3 _ h5 => h v' w' h2 ⟨h3, ?_⟩
    rcases h5 with h5 | h5
    · exact .inl h5
    · exact .inr ⟨_, h5, Nat.le_refl _⟩
end Go.Proofs.YtmnloeolacmemaaGreat
