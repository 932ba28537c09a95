/-
  The scanner's place.
-/
import Derived.Test.YtjdmndpadejegaaDoorMgV
import Derived.Test.YtjdmndpadejegaaDoorMgU
import Derived.Test.YtjdmndpadejegaaDoorMgJ
namespace Go.Proofs.YtjdmndpadejegaaDoor
open Go.RowKit Go.Shelf

attribute [local go_sem] Oper.semAt_some

def scnC (rv : Value) (p : Pl) (e : Bool) (mv : Value) : Array Value := #[rv, .int .i64 p.byte, .int .i64 p.rune, .int .i64 p.line, .int .i64 p.col, .bool e, mv]
def plC (p : Pl) : Array Value := #[.int .i64 p.byte, .int .i64 p.rune, .int .i64 p.line, .int .i64 p.col]
def frPl (B : Nat) (x : Nat × Nat) (T : Array Value) : Array Value := #[slotOf T 0, slotOf T 1, .pointer (some ⟨B, 0, none⟩), slotOf T 3, slotOf T 4, .pointer (some ⟨B + 1 + 1, 0, none⟩), .int .i64 x.1, .int .i32 x.2, slotOf T 8, slotOf T 9, slotOf T 10, slotOf T 11, slotOf T 12, slotOf T 13, slotOf T 14, slotOf T 15, slotOf T 16, slotOf T 17, slotOf T 18, slotOf T 19, slotOf T 20, slotOf T 21, slotOf T 22, slotOf T 23, slotOf T 24, slotOf T 25, .int .i64 x.1, .int .i32 x.2, slotOf T 28, slotOf T 29, slotOf T 30, slotOf T 31, slotOf T 32, slotOf T 33, slotOf T 34, slotOf T 35, slotOf T 36, slotOf T 37, slotOf T 38, slotOf T 39, slotOf T 40, slotOf T 41, slotOf T 42, slotOf T 43, slotOf T 44, slotOf T 45, slotOf T 46, slotOf T 47, slotOf T 48, slotOf T 49, slotOf T 50, slotOf T 51, slotOf T 52, slotOf T 53, slotOf T 54, slotOf T 55, slotOf T 56, slotOf T 57, slotOf T 58, slotOf T 59, slotOf T 60, slotOf T 61, slotOf T 62, slotOf T 63, slotOf T 64, slotOf T 65, slotOf T 66, slotOf T 67, slotOf T 68, slotOf T 69, slotOf T 70]
theorem plFold_le (l : List UInt8) (M : Nat) (p : Pl) (h2 : p.rune ≤ M) (h3 : p.line ≤ M) (h4 : p.col ≤ M) : ∀ xs : List (Nat × Nat), (plFold l p xs).byte = p.byte ∧ (plFold l p xs).rune ≤ M + xs.length ∧ (plFold l p xs).line ≤ M + xs.length ∧ (plFold l p xs).col ≤ M + xs.length := by
  suffices hh : ∀ ys : List (Nat × Nat), (plFold l p ys.reverse).byte = p.byte ∧ (plFold l p ys.reverse).rune ≤ M + ys.reverse.length ∧ (plFold l p ys.reverse).line ≤ M + ys.reverse.length ∧ (plFold l p ys.reverse).col ≤ M + ys.reverse.length by
    intro xs
    have := hh xs.reverse
    rwa [List.reverse_reverse] at this
  intro xs
  induction xs with
  | nil => exact ⟨rfl, h2, h3, h4⟩
  | cons x xs ih =>
    obtain ⟨i1, i2, i3, i4⟩ := ih
    rw [List.reverse_cons, plFold_snoc, List.length_append, List.length_singleton]
    unfold Pl.step
    split
    · exact ⟨i1, by show _ + 1 ≤ _; omega, by show _ + 1 ≤ _; omega, by show 1 ≤ _; omega⟩
    · exact ⟨i1, by show _ + 1 ≤ _; omega, Nat.le_trans i3 (by omega), by show _ + 1 ≤ _; omega⟩
theorem heap_own {β : Type} (b : Nat) (t : TypeId) (f : β → Array Value) : Own (fun pre W => W.heap[b]? = some (.cells (f pre) t (0, 0))) := by
  intro s W W' row hs hg hr
  rw [hg.block b (heap_lt hs) (fun e => ?_)]
  · exact hs
  · obtain ⟨o, h1, h2⟩ := hr b e.symm
    rw [h1] at hs
    injection hs with hs
    subst hs
    cases h2
theorem frame_namedI {P : Program} {F : Fence} {n : Nat} {c : Code} {Q : Exit → Act → World → Prop} {T0 : Array Value} {ds : List Deferred} {w : World} (h : ∀ T, T = T0 → c.wpIn F n P Q { tmps := T, defers := ds } w) : c.wpIn F n P Q { tmps := T0, defers := ds } w := h T0 rfl
set_option maxRecDepth 1000000 in
set_option maxHeartbeats 4000000 in
theorem place_at (sb : Nat) (g off n c : Nat) (l : List UInt8) (p : Pl) (e : Bool) (mv : Value) (w : World) (h : w.heap[sb]? = some (.cells (scnC (.slice (some ⟨g, off, none⟩) n c) p e mv) 71 (0, 0))) (hs : Sl w (some ⟨g, off, none⟩) n (u8s l)) (k : Nat) (hk : k ≤ n) (hc : n ≤ c) (hn : n ≤ 1099511627776)
    (hp1 : p.byte ≤ 1099511627776) (hp2 : p.rune ≤ 1099511627776) (hp3 : p.line ≤ 1099511627776) (hp4 : p.col ≤ 1099511627776) :
    Calls Tryd.prog 23 #[.pointer (some ⟨sb, 0, none⟩), .int .i64 k] w fun e w' => e = .returned (.agg (plC { plL l k p with byte := p.byte + k })) ∧ Below w.heap.size w w' := by
  have hro : Fence.wide.round = none := rfl
  have hl : n = l.length := by have := hs.len; rwa [u8s_length] at this
  have d0 : w.cell? ⟨sb, 0, none⟩ = some (.slice (some ⟨g, off, none⟩) n c) := by rw [cell_heap h]; rfl
  have d1 : w.cell? ⟨sb, 1, none⟩ = some (.int .i64 p.byte) := by rw [cell_heap h]; rfl
  have d2 : w.cell? ⟨sb, 2, none⟩ = some (.int .i64 p.rune) := by rw [cell_heap h]; rfl
  have d3 : w.cell? ⟨sb, 3, none⟩ = some (.int .i64 p.line) := by rw [cell_heap h]; rfl
  have d4 : w.cell? ⟨sb, 4, none⟩ = some (.int .i64 p.col) := by rw [cell_heap h]; rfl
  have hlt := heap_lt h
  have HCV : Hid (∀ W, Below w.heap.size w W → (convert 26 9 (.slice (some ⟨g, off, none⟩) k c)).run Tryd.prog W = .ok (.string (strL (l.take k))) W) := Lib.hid fun W hb => by
    have hs1 := (hs.below hb).piece 0 k (by omega)
    rw [List.drop_zero] at hs1
    exact run_bytes_str (P := Tryd.prog) (s := strL (l.take k)) (by unfold bytesV; rw [strL_data]; exact hs1) 26 9 5 Tryd.underlying26 Tryd.underlying5 Tryd.underlying9 c
  have hkc : (k : Int) ≤ (c : Int) := by omega
  have hB3 : ∀ A B C : Obj, Below w.heap.size w (((w.alloc A).alloc B).alloc C) := fun A B C => (((Below.refl _ w).alloc (Nat.le_refl _) A).alloc (by simp) B).alloc (by simp; omega) C
  have d0' : ∀ A B C : Obj, (((w.alloc A).alloc B).alloc C).cell? ⟨sb, 0, none⟩ = some (.slice (some ⟨g, off, none⟩) n c) := fun A B C => ((hB3 A B C).cell (p := ⟨sb, 0, none⟩) hlt).trans d0
  have hcv : ∀ A B C : Obj, (convert 26 9 (.slice (some ⟨g, off, none⟩) k c)).run Tryd.prog (((w.alloc A).alloc B).alloc C) = .ok (.string (strL (l.take k))) (((w.alloc A).alloc B).alloc C) := fun A B C => HCV.out _ (hB3 A B C)
  refine (callsIn_wide (n := 9)).1 ?_
  refine callsIn_of_wp_marks Tryd.func23 rfl trivial ?_ hro
  simp only [Tryd.ntmps23, List.size_toArray, List.length_cons, List.length_nil, Nat.reduceAdd, Nat.reduceSub, Array.replicate_succ, Array.replicate_zero, List.push_toArray, List.append_toArray, List.nil_append, List.cons_append]
  gi_wp2_with (refine ⟨trivial, ?_⟩; gi_at_call 27; refine (callsIn_wide.2 (all_makes _ _)).mono ?_; rintro e w' ⟨rfl, hw⟩; subst w')
  have e0 := heap_alloc_new w (.cells #[.pointer (some ⟨sb, 0, none⟩)] 23)
  have e1 := heap_alloc_new (w.alloc (.cells #[.pointer (some ⟨sb, 0, none⟩)] 23)) (.cells #[.int .i64 0, .int .i64 0, .int .i64 0, .int .i64 0] 39)
  have e2 := heap_alloc_new ((w.alloc (.cells #[.pointer (some ⟨sb, 0, none⟩)] 23)).alloc (.cells #[.int .i64 0, .int .i64 0, .int .i64 0, .int .i64 0] 39)) (.cells #[.int .i64 ((p.byte : Int) + (k : Int)), .int .i64 p.rune, .int .i64 p.line, .int .i64 p.col] 39)
  have bS := Boxed.new (((w.alloc (.cells #[.pointer (some ⟨sb, 0, none⟩)] 23)).alloc (.cells #[.int .i64 0, .int .i64 0, .int .i64 0, .int .i64 0] 39)).alloc (.cells #[.int .i64 ((p.byte : Int) + (k : Int)), .int .i64 p.rune, .int .i64 p.line, .int .i64 p.col] 39)) 9 (.string (strL (l.take k)))
  have hB4 : ∀ A B C D : Obj, Below w.heap.size w ((((w.alloc A).alloc B).alloc C).alloc D) := fun A B C D => (hB3 A B C).alloc (by simp; omega) D
  have hb4 := hB4 (.cells #[.pointer (some ⟨sb, 0, none⟩)] 23) (.cells #[.int .i64 0, .int .i64 0, .int .i64 0, .int .i64 0] 39) (.cells #[.int .i64 ((p.byte : Int) + (k : Int)), .int .i64 p.rune, .int .i64 p.line, .int .i64 p.col] 39) (.cells #[.string (strL (l.take k))] 9)
  simp only [World.size_alloc] at e0 e1 e2 bS
  have f0 := (Below.heap_alloc _ (.cells #[.string (strL (l.take k))] 9) w.heap.size (by simp; omega)).trans ((Below.heap_alloc _ (.cells #[.int .i64 ((p.byte : Int) + (k : Int)), .int .i64 p.rune, .int .i64 p.line, .int .i64 p.col] 39) w.heap.size (by simp; omega)).trans ((Below.heap_alloc _ (.cells #[.int .i64 0, .int .i64 0, .int .i64 0, .int .i64 0] 39) w.heap.size (by simp)).trans e0))
  have f1 := (Below.heap_alloc _ (.cells #[.string (strL (l.take k))] 9) (w.heap.size + 1) (by simp)).trans ((Below.heap_alloc _ (.cells #[.int .i64 ((p.byte : Int) + (k : Int)), .int .i64 p.rune, .int .i64 p.line, .int .i64 p.col] 39) (w.heap.size + 1) (by simp)).trans e1)
  have f2 := (Below.heap_alloc _ (.cells #[.string (strL (l.take k))] 9) (w.heap.size + 1 + 1) (by simp)).trans e2
  have hsz : ((((w.alloc (.cells #[.pointer (some ⟨sb, 0, none⟩)] 23)).alloc (.cells #[.int .i64 0, .int .i64 0, .int .i64 0, .int .i64 0] 39)).alloc (.cells #[.int .i64 ((p.byte : Int) + (k : Int)), .int .i64 p.rune, .int .i64 p.line, .int .i64 p.col] 39)).alloc (.cells #[.string (strL (l.take k))] 9)).heap.size = w.heap.size + 4 := by simp
  generalize ((((w.alloc (.cells #[.pointer (some ⟨sb, 0, none⟩)] 23)).alloc (.cells #[.int .i64 0, .int .i64 0, .int .i64 0, .int .i64 0] 39)).alloc (.cells #[.int .i64 ((p.byte : Int) + (k : Int)), .int .i64 p.rune, .int .i64 p.line, .int .i64 p.col] 39)).alloc (.cells #[.string (strL (l.take k))] 9)) = W3 at *
  clear e0 e1 e2 hB4 hB3 d0' hcv d1 d2 d3 d4 HCV
  have hs4 := hs.below hb4
  have hd4 := (hb4.block sb hlt).trans h
  generalize hB : w.heap.size = B at *
  refine frame_namedI fun T hT => ?_
  have hev : (Act.eval { tmps := T, defers := [] } (.tmp 25)) = .func (.func 41) #[] #[.pointer (some ⟨B + 1 + 1 + 1, 0, none⟩)] := by rw [hT]; rfl
  have hlen : (strL (l.take k)).data.toList.length ≤ n := by rw [strL_data, List.length_take]; omega
  refine wpIn_rangeFunc_ownG rfl (by decide) (gf := 41) (lb := #[.pointer (some ⟨B + 1 + 1 + 1, 0, none⟩)]) hev trivial (enters_of Tryd.func41 (by kernel_rfl) rfl)
    (all_stops 8 (by decide) (B + 1 + 1 + 1) (strL (l.take k)) (fun A C => KpX (fun k => k = B + 1 + 1) (B + 4) A C ∧ KeepsWalks A C) (fun h => h.2) W3 bS n hlen) (fun h1 h2 => ⟨h1.1.trans h2.1, h1.2.trans h2.2⟩) (fun W l' o o' h1 h2 h3 h4 => ⟨kpX_b (w := W3) (by rw [hsz]; omega) W l' o o' h1 h2 h3 h4, KeepsWalks.putObj _ h2 h4⟩) (Below.refl _ _) (fun _ => rfl)
    (fun pre W => W.heap[B + 1 + 1]? = some (.cells (plC (plFold l { p with byte := p.byte + k } (pre.map (·.1)))) 39 (0, 0)) ∧ KpX (fun k => k = B + 1 + 1) (B + 4) W3 W)
    (fun _ _ _ => False)
    ?own
    (fun _ _ _ _ _ hs _ _ => hs)
    ⟨f2, KpX.refl _ _ _⟩
    (fun x => { tmps := frPl B x.1 T, defers := [] }) ?assign ?body ?done ?stop
  case own =>
    exact OwnFrom.and (Own.from (heap_own (B + 1 + 1) 39 (fun pre : List (PlcN n) => plC (plFold l { p with byte := p.byte + k } (pre.map (·.1))))) _) (ownFrom_kpX (by rw [hsz]; omega) (by rw [hsz]; omega))
  case assign =>
    intro l x W K hK
    rw [hT] at hK ⊢
    gi_wp2
    exact hK
  case stop =>
    rintro D c pre W _ _ h _
    exact h.elim
  case body =>
    rintro l' pre ⟨⟨at', r⟩, hx⟩ W ⟨hbox, hK⟩ hlt
    have hx : at' < n := hx
    have hpl : pre.length ≤ n := by
      have := prsF_len (strL (l.take k)).data.toList.length 0 (strL (l.take k)).data.toList
      have : (prs (strL (l.take k)).data.toList).length ≤ (strL (l.take k)).data.toList.length := this
      omega
    obtain ⟨b1, b2, b3, b4⟩ := plFold_le l 2199023255552 { p with byte := p.byte + k } (by show p.rune ≤ _; omega) (by show p.line ≤ _; omega) (by show p.col ≤ _; omega) (pre.map (·.1))
    rw [List.length_map] at b2 b3 b4
    have HSN : Hid (plFold l { p with byte := p.byte + k } ((pre ++ [(⟨(at', r), hx⟩ : PlcN n)]).map (·.1)) = (plFold l { p with byte := p.byte + k } (pre.map (·.1))).step r (decide (l[at' + 1]? = some 10))) := by
      show _ = _
      rw [List.map_append, List.map_singleton, plFold_snoc]
    have hbx : W.cell? ⟨B, 0, none⟩ = some (.pointer (some ⟨sb, 0, none⟩)) := by rw [cell_heap ((hK.block B (by omega) (by omega)).trans f0)]; rfl
    have hsb : W.heap[sb]? = some (.cells (scnC (.slice (some ⟨g, off, none⟩) n c) p e mv) 71 (0, 0)) := (hK.block sb (by omega) (by omega)).trans hd4
    have k0 : W.cell? ⟨sb, 0, none⟩ = some (.slice (some ⟨g, off, none⟩) n c) := by rw [cell_heap hsb]; rfl
    have hgB : g < B := by
      obtain ⟨gb, go, he, hlt', _⟩ := hs.cell at' (by rw [u8s_length]; omega)
      injection he with he
      injection he with e1 e2 e3
      omega
    have hnext : ∀ h : at' + 1 < n, W.cell? ⟨g, off + (at' + 1), none⟩ = some (.int .u8 (l[at' + 1]'(by omega)).toNat) := fun h => by
      obtain ⟨gb, go, he, hlt', hc'⟩ := hs4.cell (at' + 1) (by rw [u8s_length]; omega)
      injection he with he
      injection he with e1 e2 e3
      subst e1; subst e2
      rw [World.cell?_of_block (w := W3) (a := ⟨g, off + (at' + 1), none⟩) (hK.block g (by omega) (by omega)), hc']
      simp [u8s]
    generalize plFold l { p with byte := p.byte + k } (pre.map (·.1)) = q at *
    have c1 : W.cell? ⟨B + 1 + 1, 1, none⟩ = some (.int .i64 q.rune) := by rw [cell_heap hbox]; rfl
    have c2 : W.cell? ⟨B + 1 + 1, 2, none⟩ = some (.int .i64 q.line) := by rw [cell_heap hbox]; rfl
    have c3 : W.cell? ⟨B + 1 + 1, 3, none⟩ = some (.int .i64 q.col) := by rw [cell_heap hbox]; rfl
    have z : ∀ i, W.frozen? ⟨B + 1 + 1, i, none⟩ = false := fun i => frozen_heap hbox
    have z1 := z 1
    have z2 := z 2
    have z3 := z 3
    have hne1 : sb ≠ B + 1 + 1 := by omega
    have hne2 : g ≠ B + 1 + 1 := by omega
    have hne3 : B ≠ B + 1 + 1 := by omega
    have kS : ∀ (i j : Nat) (u v : Value), ((W.setCell ⟨B + 1 + 1, i, none⟩ u).setCell ⟨B + 1 + 1, j, none⟩ v).cell? ⟨sb, 0, none⟩ = some (.slice (some ⟨g, off, none⟩) n c) := fun i j u v => by
      rw [World.cell?_of_block (w := W) (a := ⟨sb, 0, none⟩) ((Below.heap_setCell _ _ _ _ hne1).trans (Below.heap_setCell _ _ _ _ hne1))]; exact k0
    have kB : ∀ (i j : Nat) (u v : Value), ((W.setCell ⟨B + 1 + 1, i, none⟩ u).setCell ⟨B + 1 + 1, j, none⟩ v).cell? ⟨B, 0, none⟩ = some (.pointer (some ⟨sb, 0, none⟩)) := fun i j u v => by
      rw [World.cell?_of_block (w := W) (a := ⟨B, 0, none⟩) ((Below.heap_setCell _ _ _ _ hne3).trans (Below.heap_setCell _ _ _ _ hne3))]; exact hbx
    have kG : ∀ (i j : Nat) (u v : Value) (h : at' + 1 < n), ((W.setCell ⟨B + 1 + 1, i, none⟩ u).setCell ⟨B + 1 + 1, j, none⟩ v).cell? ⟨g, off + (at' + 1), none⟩ = some (.int .u8 (l[at' + 1]'(by omega)).toNat) := fun i j u v h => by
      rw [World.cell?_of_block (w := W) (a := ⟨g, off + (at' + 1), none⟩) ((Below.heap_setCell _ _ _ _ hne2).trans (Below.heap_setCell _ _ _ _ hne2))]; exact hnext h
    clear hnext hev bS f0 f1 f2 hsb hT hd4 hlen hs4 hs d0 h
    have hat0 : (0 : Int) ≤ (at' : Int) + 1 := by omega
    by_cases h13 : r = 13
    · by_cases hnx : at' + 1 < n
      · have kG2 := fun i j u v => kG i j u v hnx
        have hgx : l[at' + 1]? = some (l[at' + 1]'(by omega)) := List.getElem?_eq_getElem _
        generalize l[at' + 1]'(by omega) = x at *
        by_cases hx10 : x.toNat = 10
        · have t1 : ((r : Int) == 13) = true := by simp [h13]
          have t1' : ((r : Int) == 10) = false := by simp [h13]
          have t2 : ((at' : Int) + 1) < (n : Int) := by omega
          have t3 : ((x.toNat : Int) == 10) = true := by simp [hx10]
          clear hnx kG hlt
          have STEP : q.step r (decide (l[at' + 1]? = some 10)) = ⟨q.byte, q.rune + 1, q.line, q.col + 1⟩ := by
            unfold Pl.step
            have hxe : x = 10 := by rw [← byte_of hx10]; rfl
            rw [hgx, hxe, if_neg (by simp; omega)]
          try clear h13
          try clear h10
          dsimp only [frPl]
          gi_wp2
          refine ⟨((KeepsOthers.setCell _ _ _).trans (KeepsOthers.setCell _ _ _)).from _, ⟨KpX.set (X := fun k => k = B + 1 + 1) (KpX.set (X := fun k => k = B + 1 + 1) (KpX.refl _ _ _) rfl _ _) rfl _ _, (KeepsWalks.setCell _ _ _).trans (KeepsWalks.setCell _ _ _)⟩, ?_, KpX.set (X := fun k => k = B + 1 + 1) (KpX.set (X := fun k => k = B + 1 + 1) (hK) rfl _ _) rfl _ _⟩
          exact Eq.trans (setCell_heap (setCell_heap (hbox) _) _) (congrArg (fun z => some (Obj.cells (plC z) 39 (0, 0))) (HSN.out.trans STEP).symm)
        · have t1 : ((r : Int) == 13) = true := by simp [h13]
          have t1' : ((r : Int) == 10) = false := by simp [h13]
          have t2 : ((at' : Int) + 1) < (n : Int) := by omega
          have t3 : ((x.toNat : Int) == 10) = false := by simp; omega
          clear hnx kG hlt
          have STEP : q.step r (decide (l[at' + 1]? = some 10)) = ⟨q.byte, q.rune + 1, q.line + 1, 1⟩ := by
            unfold Pl.step
            rw [hgx, if_pos (Or.inr ⟨h13, decide_eq_false (fun e => hx10 (by injection e with e; rw [e]; rfl))⟩)]
          try clear h13
          try clear h10
          dsimp only [frPl]
          gi_wp2
          refine ⟨((((KeepsOthers.setCell _ _ _).trans (KeepsOthers.setCell _ _ _)).trans (KeepsOthers.setCell _ _ _)).trans (KeepsOthers.setCell _ _ _)).from _, ⟨KpX.set (X := fun k => k = B + 1 + 1) (KpX.set (X := fun k => k = B + 1 + 1) (KpX.set (X := fun k => k = B + 1 + 1) (KpX.set (X := fun k => k = B + 1 + 1) (KpX.refl _ _ _) rfl _ _) rfl _ _) rfl _ _) rfl _ _, (((KeepsWalks.setCell _ _ _).trans (KeepsWalks.setCell _ _ _)).trans (KeepsWalks.setCell _ _ _)).trans (KeepsWalks.setCell _ _ _)⟩, ?_, KpX.set (X := fun k => k = B + 1 + 1) (KpX.set (X := fun k => k = B + 1 + 1) (KpX.set (X := fun k => k = B + 1 + 1) (KpX.set (X := fun k => k = B + 1 + 1) (hK) rfl _ _) rfl _ _) rfl _ _) rfl _ _⟩
          exact Eq.trans (setCell_heap (setCell_heap (setCell_heap (setCell_heap (hbox) _) _) _) _) (congrArg (fun z => some (Obj.cells (plC z) 39 (0, 0))) (HSN.out.trans STEP).symm)
      · have t1 : ((r : Int) == 13) = true := by simp [h13]
        have t1' : ((r : Int) == 10) = false := by simp [h13]
        have t2 : (n : Int) ≤ ((at' : Int) + 1) := by omega
        have hgx : l[at' + 1]? = none := List.getElem?_eq_none (by omega)
        clear hnx kG hlt
        have STEP : q.step r (decide (l[at' + 1]? = some 10)) = ⟨q.byte, q.rune + 1, q.line + 1, 1⟩ := by
          unfold Pl.step
          rw [hgx, if_pos (Or.inr ⟨h13, rfl⟩)]
        try clear h13
        try clear h10
        dsimp only [frPl]
        gi_wp2
        refine ⟨((((KeepsOthers.setCell _ _ _).trans (KeepsOthers.setCell _ _ _)).trans (KeepsOthers.setCell _ _ _)).trans (KeepsOthers.setCell _ _ _)).from _, ⟨KpX.set (X := fun k => k = B + 1 + 1) (KpX.set (X := fun k => k = B + 1 + 1) (KpX.set (X := fun k => k = B + 1 + 1) (KpX.set (X := fun k => k = B + 1 + 1) (KpX.refl _ _ _) rfl _ _) rfl _ _) rfl _ _) rfl _ _, (((KeepsWalks.setCell _ _ _).trans (KeepsWalks.setCell _ _ _)).trans (KeepsWalks.setCell _ _ _)).trans (KeepsWalks.setCell _ _ _)⟩, ?_, KpX.set (X := fun k => k = B + 1 + 1) (KpX.set (X := fun k => k = B + 1 + 1) (KpX.set (X := fun k => k = B + 1 + 1) (KpX.set (X := fun k => k = B + 1 + 1) (hK) rfl _ _) rfl _ _) rfl _ _) rfl _ _⟩
        exact Eq.trans (setCell_heap (setCell_heap (setCell_heap (setCell_heap (hbox) _) _) _) _) (congrArg (fun z => some (Obj.cells (plC z) 39 (0, 0))) (HSN.out.trans STEP).symm)
    · by_cases h10 : r = 10
      · have t1 : ((r : Int) == 13) = false := by simp; omega
        have t1' : ((r : Int) == 10) = true := by simp [h10]
        clear kG hlt
        have STEP : q.step r (decide (l[at' + 1]? = some 10)) = ⟨q.byte, q.rune + 1, q.line + 1, 1⟩ := by
          unfold Pl.step
          rw [if_pos (Or.inl h10)]
        try clear h13
        try clear h10
        dsimp only [frPl]
        gi_wp2
        refine ⟨((((KeepsOthers.setCell _ _ _).trans (KeepsOthers.setCell _ _ _)).trans (KeepsOthers.setCell _ _ _)).trans (KeepsOthers.setCell _ _ _)).from _, ⟨KpX.set (X := fun k => k = B + 1 + 1) (KpX.set (X := fun k => k = B + 1 + 1) (KpX.set (X := fun k => k = B + 1 + 1) (KpX.set (X := fun k => k = B + 1 + 1) (KpX.refl _ _ _) rfl _ _) rfl _ _) rfl _ _) rfl _ _, (((KeepsWalks.setCell _ _ _).trans (KeepsWalks.setCell _ _ _)).trans (KeepsWalks.setCell _ _ _)).trans (KeepsWalks.setCell _ _ _)⟩, ?_, KpX.set (X := fun k => k = B + 1 + 1) (KpX.set (X := fun k => k = B + 1 + 1) (KpX.set (X := fun k => k = B + 1 + 1) (KpX.set (X := fun k => k = B + 1 + 1) (hK) rfl _ _) rfl _ _) rfl _ _) rfl _ _⟩
        exact Eq.trans (setCell_heap (setCell_heap (setCell_heap (setCell_heap (hbox) _) _) _) _) (congrArg (fun z => some (Obj.cells (plC z) 39 (0, 0))) (HSN.out.trans STEP).symm)
      · have t1 : ((r : Int) == 13) = false := by simp; omega
        have t1' : ((r : Int) == 10) = false := by simp; omega
        clear kG hlt
        have STEP : q.step r (decide (l[at' + 1]? = some 10)) = ⟨q.byte, q.rune + 1, q.line, q.col + 1⟩ := by
          unfold Pl.step
          rw [if_neg (by omega)]
        try clear h13
        try clear h10
        dsimp only [frPl]
        gi_wp2
        refine ⟨((KeepsOthers.setCell _ _ _).trans (KeepsOthers.setCell _ _ _)).from _, ⟨KpX.set (X := fun k => k = B + 1 + 1) (KpX.set (X := fun k => k = B + 1 + 1) (KpX.refl _ _ _) rfl _ _) rfl _ _, (KeepsWalks.setCell _ _ _).trans (KeepsWalks.setCell _ _ _)⟩, ?_, KpX.set (X := fun k => k = B + 1 + 1) (KpX.set (X := fun k => k = B + 1 + 1) (hK) rfl _ _) rfl _ _⟩
        exact Eq.trans (setCell_heap (setCell_heap (hbox) _) _) (congrArg (fun z => some (Obj.cells (plC z) 39 (0, 0))) (HSN.out.trans STEP).symm)
  case done =>
    rintro D ys W hD hys ⟨hbox, hK⟩ hKD
    have hfold : plFold l { p with byte := p.byte + k } (ys.map (·.1)) = { plL l k p with byte := p.byte + k } := by
      rw [hys, strL_data, plFold_prs l k (by omega), plL_byte k l k p _ (Nat.le_refl _) (by omega)]
    rw [hfold] at hbox
    generalize hq : ({ plL l k p with byte := p.byte + k } : Pl) = q at *
    have HQ := Lib.hid hq
    clear hq
    have b1 : W.heap[B + 1]? = some (.cells #[.int .i64 0, .int .i64 0, .int .i64 0, .int .i64 0] 39 (0, 0)) := (hK.block (B + 1) (by omega) (by omega)).trans f1
    have HB := Lib.hid hb4
    have HK := Lib.hid hK
    have HBX := Lib.hid hbox
    have HB1 := Lib.hid b1
    have c0 : W.cell? ⟨B + 1 + 1, 0, none⟩ = some (.int .i64 q.byte) := by rw [cell_heap hbox]; rfl
    have c1 : W.cell? ⟨B + 1 + 1, 1, none⟩ = some (.int .i64 q.rune) := by rw [cell_heap hbox]; rfl
    have c2 : W.cell? ⟨B + 1 + 1, 2, none⟩ = some (.int .i64 q.line) := by rw [cell_heap hbox]; rfl
    have c3 : W.cell? ⟨B + 1 + 1, 3, none⟩ = some (.int .i64 q.col) := by rw [cell_heap hbox]; rfl
    have z : ∀ i, W.frozen? ⟨B + 1, i, none⟩ = false := fun i => frozen_heap b1
    have y0 : W.cell? ⟨B + 1, 0, none⟩ = some (.int .i64 0) := by rw [cell_heap b1]; rfl
    have y1 : W.cell? ⟨B + 1, 1, none⟩ = some (.int .i64 0) := by rw [cell_heap b1]; rfl
    have y2 : W.cell? ⟨B + 1, 2, none⟩ = some (.int .i64 0) := by rw [cell_heap b1]; rfl
    have y3 : W.cell? ⟨B + 1, 3, none⟩ = some (.int .i64 0) := by rw [cell_heap b1]; rfl
    have z0 := z 0
    have z1 := z 1
    have z2 := z 2
    have z3 := z 3
    rw [hT]
    clear hfold hbox hK b1 hb4 hev bS f0 f1 f2 hys hd4 hs4 hs d0 h hlen hT
    gi_wp2
    have hDne : D ≠ B + 1 := by rw [hsz] at hD; omega
    have hk1 : ∀ (W' : World) (i : Nat) (u : Value), (W'.setCell ⟨B + 1, i, none⟩ u).heap[D]? = W'.heap[D]? := fun W' i u => Below.heap_setCell _ _ _ _ hDne
    have hKD4 := ((hk1 _ 3 (.int .i64 q.col)).trans ((hk1 _ 2 (.int .i64 q.line)).trans ((hk1 _ 1 (.int .i64 q.rune)).trans (hk1 W 0 (.int .i64 q.byte))))).trans hKD
    have hg4 := setCell_heap (i := 3) (setCell_heap (i := 2) (setCell_heap (i := 1) (setCell_heap (i := 0) HB1.out (.int .i64 q.byte)) (.int .i64 q.rune)) (.int .i64 q.line)) (.int .i64 q.col)
    have hbel : Below B w (((((W.setCell ⟨B + 1, 0, none⟩ (.int .i64 q.byte)).setCell ⟨B + 1, 1, none⟩ (.int .i64 q.rune)).setCell ⟨B + 1, 2, none⟩ (.int .i64 q.line)).setCell ⟨B + 1, 3, none⟩ (.int .i64 q.col))) :=
      (((((HB.out.trans (HK.out.below (by omega) (fun k h1 h2 => by omega))).setCell (p := ⟨B + 1, 0, none⟩) (by show B ≤ B + 1; omega) _).setCell (p := ⟨B + 1, 1, none⟩) (by show B ≤ B + 1; omega) _).setCell (p := ⟨B + 1, 2, none⟩) (by show B ≤ B + 1; omega) _).setCell (p := ⟨B + 1, 3, none⟩) (by show B ≤ B + 1; omega) _)
    generalize ((((W.setCell ⟨B + 1, 0, none⟩ (.int .i64 q.byte)).setCell ⟨B + 1, 1, none⟩ (.int .i64 q.rune)).setCell ⟨B + 1, 2, none⟩ (.int .i64 q.line)).setCell ⟨B + 1, 3, none⟩ (.int .i64 q.col)) = W4 at *
    refine ⟨by simp, .inl ⟨_, _, rfl, run_takeDeferred hKD4, ?_⟩⟩
    refine ⟨_, results_cell_row rfl _ _ (B + 1) 39 (plC q) (0, 0) _ rfl ((World.putObj_heap_other hDne.symm).trans hg4) Tryd.underlying39 rfl (by kernel_rfl), ?_, ?_⟩
    · rw [← HQ.out]
    · exact hbel.trans (belowK_b (w := w) (by omega) W4 D _ _ (by rw [hsz] at hD; omega) hKD4 rfl rfl)
set_option maxRecDepth 1000000 in
set_option maxHeartbeats 4000000 in
theorem place_nil (sb : Nat) (p : Pl) (e : Bool) (mv : Value) (w : World) (h : w.heap[sb]? = some (.cells (scnC (.slice none 0 0) p e mv) 71 (0, 0)))
    (hp1 : p.byte ≤ 1099511627776) :
    Calls Tryd.prog 23 #[.pointer (some ⟨sb, 0, none⟩), .int .i64 0] w fun e w' => e = .returned (.agg (plC p)) ∧ Below w.heap.size w w' := by
  have hro : Fence.wide.round = none := rfl
  have d0 : w.cell? ⟨sb, 0, none⟩ = some (.slice none 0 0) := by rw [cell_heap h]; rfl
  have d1 : w.cell? ⟨sb, 1, none⟩ = some (.int .i64 p.byte) := by rw [cell_heap h]; rfl
  have d2 : w.cell? ⟨sb, 2, none⟩ = some (.int .i64 p.rune) := by rw [cell_heap h]; rfl
  have d3 : w.cell? ⟨sb, 3, none⟩ = some (.int .i64 p.line) := by rw [cell_heap h]; rfl
  have d4 : w.cell? ⟨sb, 4, none⟩ = some (.int .i64 p.col) := by rw [cell_heap h]; rfl
  have hlt := heap_lt h
  have HCV : Hid (∀ W, Below w.heap.size w W → (convert 26 9 (.slice none 0 0)).run Tryd.prog W = .ok (.string (strL [])) W) := Lib.hid fun W hb => by
    exact run_bytes_str (P := Tryd.prog) (s := strL []) (by unfold bytesV; rw [strL_data]; exact Sl.nil W none) 26 9 5 Tryd.underlying26 Tryd.underlying5 Tryd.underlying9 0
  have hB3 : ∀ A B C : Obj, Below w.heap.size w (((w.alloc A).alloc B).alloc C) := fun A B C => (((Below.refl _ w).alloc (Nat.le_refl _) A).alloc (by simp) B).alloc (by simp; omega) C
  have d0' : ∀ A B C : Obj, (((w.alloc A).alloc B).alloc C).cell? ⟨sb, 0, none⟩ = some (.slice none 0 0) := fun A B C => ((hB3 A B C).cell (p := ⟨sb, 0, none⟩) hlt).trans d0
  have hcv : ∀ A B C : Obj, (convert 26 9 (.slice none 0 0)).run Tryd.prog (((w.alloc A).alloc B).alloc C) = .ok (.string (strL [])) (((w.alloc A).alloc B).alloc C) := fun A B C => HCV.out _ (hB3 A B C)
  refine (callsIn_wide (n := 9)).1 ?_
  refine callsIn_of_wp_marks Tryd.func23 rfl trivial ?_ hro
  simp only [Tryd.ntmps23, List.size_toArray, List.length_cons, List.length_nil, Nat.reduceAdd, Nat.reduceSub, Array.replicate_succ, Array.replicate_zero, List.push_toArray, List.append_toArray, List.nil_append, List.cons_append]
  gi_wp2_with (refine ⟨trivial, ?_⟩; gi_at_call 27; refine (callsIn_wide.2 (all_makes _ _)).mono ?_; rintro e w' ⟨rfl, hw⟩; subst w')
  have e0 := heap_alloc_new w (.cells #[.pointer (some ⟨sb, 0, none⟩)] 23)
  have e1 := heap_alloc_new (w.alloc (.cells #[.pointer (some ⟨sb, 0, none⟩)] 23)) (.cells #[.int .i64 0, .int .i64 0, .int .i64 0, .int .i64 0] 39)
  have e2 := heap_alloc_new ((w.alloc (.cells #[.pointer (some ⟨sb, 0, none⟩)] 23)).alloc (.cells #[.int .i64 0, .int .i64 0, .int .i64 0, .int .i64 0] 39)) (.cells #[.int .i64 p.byte, .int .i64 p.rune, .int .i64 p.line, .int .i64 p.col] 39)
  have bS := Boxed.new (((w.alloc (.cells #[.pointer (some ⟨sb, 0, none⟩)] 23)).alloc (.cells #[.int .i64 0, .int .i64 0, .int .i64 0, .int .i64 0] 39)).alloc (.cells #[.int .i64 p.byte, .int .i64 p.rune, .int .i64 p.line, .int .i64 p.col] 39)) 9 (.string (strL []))
  have hB4 : ∀ A B C D : Obj, Below w.heap.size w ((((w.alloc A).alloc B).alloc C).alloc D) := fun A B C D => (hB3 A B C).alloc (by simp; omega) D
  have hb4 := hB4 (.cells #[.pointer (some ⟨sb, 0, none⟩)] 23) (.cells #[.int .i64 0, .int .i64 0, .int .i64 0, .int .i64 0] 39) (.cells #[.int .i64 p.byte, .int .i64 p.rune, .int .i64 p.line, .int .i64 p.col] 39) (.cells #[.string (strL [])] 9)
  simp only [World.size_alloc] at e0 e1 e2 bS
  have f0 := (Below.heap_alloc _ (.cells #[.string (strL [])] 9) w.heap.size (by simp; omega)).trans ((Below.heap_alloc _ (.cells #[.int .i64 p.byte, .int .i64 p.rune, .int .i64 p.line, .int .i64 p.col] 39) w.heap.size (by simp; omega)).trans ((Below.heap_alloc _ (.cells #[.int .i64 0, .int .i64 0, .int .i64 0, .int .i64 0] 39) w.heap.size (by simp)).trans e0))
  have f1 := (Below.heap_alloc _ (.cells #[.string (strL [])] 9) (w.heap.size + 1) (by simp)).trans ((Below.heap_alloc _ (.cells #[.int .i64 p.byte, .int .i64 p.rune, .int .i64 p.line, .int .i64 p.col] 39) (w.heap.size + 1) (by simp)).trans e1)
  have f2 := (Below.heap_alloc _ (.cells #[.string (strL [])] 9) (w.heap.size + 1 + 1) (by simp)).trans e2
  have hsz : ((((w.alloc (.cells #[.pointer (some ⟨sb, 0, none⟩)] 23)).alloc (.cells #[.int .i64 0, .int .i64 0, .int .i64 0, .int .i64 0] 39)).alloc (.cells #[.int .i64 p.byte, .int .i64 p.rune, .int .i64 p.line, .int .i64 p.col] 39)).alloc (.cells #[.string (strL [])] 9)).heap.size = w.heap.size + 4 := by simp
  generalize ((((w.alloc (.cells #[.pointer (some ⟨sb, 0, none⟩)] 23)).alloc (.cells #[.int .i64 0, .int .i64 0, .int .i64 0, .int .i64 0] 39)).alloc (.cells #[.int .i64 p.byte, .int .i64 p.rune, .int .i64 p.line, .int .i64 p.col] 39)).alloc (.cells #[.string (strL [])] 9)) = W3 at *
  clear e0 e1 e2 hB4 hB3 d0' hcv d1 d2 d3 d4 HCV
  have hd4 := (hb4.block sb hlt).trans h
  generalize hB : w.heap.size = B at *
  refine frame_namedI fun T hT => ?_
  have hev : (Act.eval { tmps := T, defers := [] } (.tmp 25)) = .func (.func 41) #[] #[.pointer (some ⟨B + 1 + 1 + 1, 0, none⟩)] := by rw [hT]; rfl
  have hlen : (strL []).data.toList.length ≤ 0 := by rw [strL_data]; exact Nat.le_refl _
  refine wpIn_rangeFunc_ownG rfl (by decide) (gf := 41) (lb := #[.pointer (some ⟨B + 1 + 1 + 1, 0, none⟩)]) hev trivial (enters_of Tryd.func41 (by kernel_rfl) rfl)
    (all_stops 8 (by decide) (B + 1 + 1 + 1) (strL []) (fun A C => KpX (fun k => k = B + 1 + 1) (B + 4) A C ∧ KeepsWalks A C) (fun h => h.2) W3 bS 0 hlen) (fun h1 h2 => ⟨h1.1.trans h2.1, h1.2.trans h2.2⟩) (fun W l' o o' h1 h2 h3 h4 => ⟨kpX_b (w := W3) (by rw [hsz]; omega) W l' o o' h1 h2 h3 h4, KeepsWalks.putObj _ h2 h4⟩) (Below.refl _ _) (fun _ => rfl)
    (fun pre W => W.heap[B + 1 + 1]? = some (.cells (plC (plFold [] p (pre.map (·.1)))) 39 (0, 0)) ∧ KpX (fun k => k = B + 1 + 1) (B + 4) W3 W)
    (fun _ _ _ => False)
    ?own
    (fun _ _ _ _ _ hs _ _ => hs)
    ⟨f2, KpX.refl _ _ _⟩
    (fun x => { tmps := frPl B x.1 T, defers := [] }) ?assign ?body ?done ?stop
  case own =>
    exact OwnFrom.and (Own.from (heap_own (B + 1 + 1) 39 (fun pre : List (PlcN 0) => plC (plFold [] p (pre.map (·.1))))) _) (ownFrom_kpX (by rw [hsz]; omega) (by rw [hsz]; omega))
  case assign =>
    intro l x W K hK
    rw [hT] at hK ⊢
    gi_wp2
    exact hK
  case stop =>
    rintro D c pre W _ _ h _
    exact h.elim
  case body =>
    rintro l' pre ⟨⟨at', r⟩, hx⟩ W ⟨hbox, hK⟩ hlt
    exact absurd hx (Nat.not_lt_zero _)
  case done =>
    rintro D ys W hD hys ⟨hbox, hK⟩ hKD
    have hfold : plFold [] p (ys.map (·.1)) = p := by
      rw [hys, strL_data]; rfl
    rw [hfold] at hbox
    have b1 : W.heap[B + 1]? = some (.cells #[.int .i64 0, .int .i64 0, .int .i64 0, .int .i64 0] 39 (0, 0)) := (hK.block (B + 1) (by omega) (by omega)).trans f1
    have HB := Lib.hid hb4
    have HK := Lib.hid hK
    have HBX := Lib.hid hbox
    have HB1 := Lib.hid b1
    have c0 : W.cell? ⟨B + 1 + 1, 0, none⟩ = some (.int .i64 p.byte) := by rw [cell_heap hbox]; rfl
    have c1 : W.cell? ⟨B + 1 + 1, 1, none⟩ = some (.int .i64 p.rune) := by rw [cell_heap hbox]; rfl
    have c2 : W.cell? ⟨B + 1 + 1, 2, none⟩ = some (.int .i64 p.line) := by rw [cell_heap hbox]; rfl
    have c3 : W.cell? ⟨B + 1 + 1, 3, none⟩ = some (.int .i64 p.col) := by rw [cell_heap hbox]; rfl
    have z : ∀ i, W.frozen? ⟨B + 1, i, none⟩ = false := fun i => frozen_heap b1
    have y0 : W.cell? ⟨B + 1, 0, none⟩ = some (.int .i64 0) := by rw [cell_heap b1]; rfl
    have y1 : W.cell? ⟨B + 1, 1, none⟩ = some (.int .i64 0) := by rw [cell_heap b1]; rfl
    have y2 : W.cell? ⟨B + 1, 2, none⟩ = some (.int .i64 0) := by rw [cell_heap b1]; rfl
    have y3 : W.cell? ⟨B + 1, 3, none⟩ = some (.int .i64 0) := by rw [cell_heap b1]; rfl
    have z0 := z 0
    have z1 := z 1
    have z2 := z 2
    have z3 := z 3
    rw [hT]
    clear hfold hbox hK b1 hb4 hev bS f0 f1 f2 hys hd4 d0 h hlen hT
    gi_wp2
    have hDne : D ≠ B + 1 := by rw [hsz] at hD; omega
    have hk1 : ∀ (W' : World) (i : Nat) (u : Value), (W'.setCell ⟨B + 1, i, none⟩ u).heap[D]? = W'.heap[D]? := fun W' i u => Below.heap_setCell _ _ _ _ hDne
    have hKD4 := ((hk1 _ 3 (.int .i64 p.col)).trans ((hk1 _ 2 (.int .i64 p.line)).trans ((hk1 _ 1 (.int .i64 p.rune)).trans (hk1 W 0 (.int .i64 p.byte))))).trans hKD
    have hg4 := setCell_heap (i := 3) (setCell_heap (i := 2) (setCell_heap (i := 1) (setCell_heap (i := 0) HB1.out (.int .i64 p.byte)) (.int .i64 p.rune)) (.int .i64 p.line)) (.int .i64 p.col)
    have hbel : Below B w (((((W.setCell ⟨B + 1, 0, none⟩ (.int .i64 p.byte)).setCell ⟨B + 1, 1, none⟩ (.int .i64 p.rune)).setCell ⟨B + 1, 2, none⟩ (.int .i64 p.line)).setCell ⟨B + 1, 3, none⟩ (.int .i64 p.col))) :=
      (((((HB.out.trans (HK.out.below (by omega) (fun k h1 h2 => by omega))).setCell (p := ⟨B + 1, 0, none⟩) (by show B ≤ B + 1; omega) _).setCell (p := ⟨B + 1, 1, none⟩) (by show B ≤ B + 1; omega) _).setCell (p := ⟨B + 1, 2, none⟩) (by show B ≤ B + 1; omega) _).setCell (p := ⟨B + 1, 3, none⟩) (by show B ≤ B + 1; omega) _)
    generalize ((((W.setCell ⟨B + 1, 0, none⟩ (.int .i64 p.byte)).setCell ⟨B + 1, 1, none⟩ (.int .i64 p.rune)).setCell ⟨B + 1, 2, none⟩ (.int .i64 p.line)).setCell ⟨B + 1, 3, none⟩ (.int .i64 p.col)) = W4 at *
    refine ⟨by simp, .inl ⟨_, _, rfl, run_takeDeferred hKD4, ?_⟩⟩
    refine ⟨_, results_cell_row rfl _ _ (B + 1) 39 (plC p) (0, 0) _ rfl ((World.putObj_heap_other hDne.symm).trans hg4) Tryd.underlying39 rfl (by kernel_rfl), ?_, ?_⟩
    · rfl
    · rw [hB]; exact hbel.trans (belowK_b (w := w) (by omega) W4 D _ _ (by rw [hsz] at hD; omega) hKD4 rfl rfl)
end Go.Proofs.YtjdmndpadejegaaDoor
