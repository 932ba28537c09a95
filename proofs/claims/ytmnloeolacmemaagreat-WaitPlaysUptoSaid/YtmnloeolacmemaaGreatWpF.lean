/-
  Package tape: New, Add, Place.
-/
import Derived.Test.YtmnloeolacmemaaGreatWpE
import Derived.Deep.RegionLaw
import Derived.Lib.AppendStr
import Derived.IntWalk
namespace Go.Proofs.YtmnloeolacmemaaGreat
open Go.RowKit

theorem step_append_str {P : Program} {ops : Array Oper} {o : Oper} {a : Act} {w : World} {K : Act → World → Prop} {Q : Exit → Act → World → Prop} {E : Prop} (hgd : o.guard = none) (sl x : Operand) (t u : TypeId)
    (ho : o.op = .call { callee := .builtin .append, args := #[sl, x], argTypes := #[t, u] })
    (base : Nat) (e : TypeId) (i : TypeInfo) (ht : P.underlying t = some (.slice e)) (hu : P.underlying u = some .string) (hi : P.info? e = some i) (hz : i.zero = some (.int .u8 0))
    (hsize : i.size = 1) (hby : i.bytes = 1)
    (v : Value) (n : Nat) (xs : List Value) (hs : a.eval sl = v) (hown : w.ownsRow base e 1 v n xs) (s : ByteArray) (hx : a.eval x = .string s)
    (hbytes : n + s.size ≤ 140737488355328) (hbase : base ≤ w.heap.size)
    (h : ∀ v' w', w'.ownsRow base e 1 v' (n + s.size) (xs ++ Lib.strCells s) → w.grownBy w' v.ownBlock → K (a.put o.dst v') w') :
    if Region.wanted o (yielded ops a.tmps) = true then Oper.wp P o a w K Q else E := by
  have hw : Region.wanted o (yielded ops a.tmps) = true := by simp [Region.wanted, hgd]
  rw [if_pos hw]
  obtain ⟨v', w', hr, h2, h3, _⟩ := Lib.run_append_own_string (P := P) w base t u o.type e i ht hu hi hz hsize hby v n xs hown s (by unfold maxLen; omega) hbytes hbase
  unfold Oper.wp execOp
  simp only [ho, resolve, invoke, builtin, Sem.run_bind, Sem.run_pure, Result.andThen_ok, List.map_toArray, List.map_cons, List.map_nil, hs, hx, hr]
  exact h v' w' h2 h3

/-- of the blocks that stood ahead of R, and of those from U on, none but tb has turned -/
structure Only (R tb U : Nat) (w w' : World) : Prop where
  os : w'.os = w.os
  tape : w'.tape = w.tape
  output : w'.output = w.output
  size : w.heap.size ≤ w'.heap.size
  block : ∀ k, k ≠ tb → (k < R ∨ (U ≤ k ∧ k < w.heap.size)) → w'.heap[k]? = w.heap[k]?
theorem Only.refl (R tb U : Nat) (w : World) : Only R tb U w w := ⟨rfl, rfl, rfl, Nat.le_refl _, fun _ _ _ => rfl⟩
theorem Only.trans {R tb U : Nat} {a b c : World} (h : Only R tb U a b) (k : Only R tb U b c) : Only R tb U a c :=
  ⟨k.os.trans h.os, k.tape.trans h.tape, k.output.trans h.output, Nat.le_trans h.size k.size, fun i h1 h2 => (k.block i h1 (h2.imp id (fun x => ⟨x.1, Nat.lt_of_lt_of_le x.2 h.size⟩))).trans (h.block i h1 h2)⟩
theorem Only.of {R tb U : Nat} {w w' : World} (hR : R ≤ w.heap.size) (h : Below w.heap.size w w') : Only R tb U w w' := ⟨h.os, h.tape, h.output, h.size, fun k _ hk => h.block k (by omega)⟩
theorem Only.grown {R tb U : Nat} {w w' : World} {row : Option Nat} (hR : R ≤ w.heap.size) (h : w.grownBy w' row) (hr : ∀ k, row = some k → R ≤ k ∧ k < U) : Only R tb U w w' := by
  have hb : Below R w w' := (Below.refl R w).grown h hR (fun k hk => (hr k hk).1)
  refine ⟨hb.os, hb.tape, hb.output, hb.size, fun k _ hk => ?_⟩
  refine h.block k (by omega) (fun e => ?_)
  have := hr k e.symm
  omega
theorem Only.below {R tb U B : Nat} {w w' : World} (h : Only R tb U w w') (h1 : B ≤ tb) (h2 : B ≤ R) : Below B w w' := ⟨h.os, h.tape, h.output, h.size, fun k hk => h.block k (by omega) (.inl (by omega))⟩
theorem Only.set {R tb U : Nat} {w w' : World} (h : Only R tb U w w') (i : Nat) (v : Value) : Only R tb U w (w'.setCell ⟨tb, i, none⟩ v) :=
  ⟨h.os, h.tape, h.output, by simp [World.setCell]; exact h.size, fun k h1 h2 => (Below.heap_setCell _ _ _ _ h1).trans (h.block k h1 h2)⟩

theorem town_sl {w : World} {base : Nat} {e : TypeId} {v : Value} {n : Nat} {xs : List Value} (h : w.ownsRow base e 1 v n xs) :
    ∃ a c, v = .slice a n c ∧ n ≤ c ∧ Sl w a n xs := by
  obtain ⟨a, c, rfl, hs⟩ := own_sl h
  refine ⟨a, c, rfl, ?_, hs⟩
  rcases h.2 with ⟨e1, e2⟩ | ⟨g, cap, cur, e1, _, _, h5, _⟩
  · omega
  · injection e1 with _ _ e4; omega
/-- a tape at block tb: all that was added, where its data begin, the front; its data's row is one of those from R on -/
structure TapeAt (w : World) (R tb : Nat) (all : List UInt8) (first front : Nat) : Prop where
  lt : tb < R
  le : R ≤ w.heap.size
  ff : first ≤ front
  fa : front ≤ all.length
  small : all.length ≤ 1099511627776
  at' : ∃ v, w.heap[tb]? = some (.cells #[v, .int .i64 first, .int .i64 front] 77 (0, 0)) ∧ w.ownsRow R 5 1 v (all.length - first) (u8s (all.drop first))
/-- a change elsewhere -/
theorem TapeAt.keep {w w' : World} {R tb : Nat} {all : List UInt8} {first front : Nat} (h : TapeAt w R tb all first front) (hs : w.heap.size ≤ w'.heap.size) (h1 : w'.heap[tb]? = w.heap[tb]?) (h2 : ∀ k, R ≤ k → k < w.heap.size → w'.heap[k]? = w.heap[k]?) : TapeAt w' R tb all first front := by
  obtain ⟨a1, a2, a3, a4, a5, v, a6, a7⟩ := h
  refine ⟨a1, Nat.le_trans a2 hs, a3, a4, a5, v, h1.trans a6, ?_⟩
  have hlt := a7.lt
  exact own_block a7 (fun k hk => h2 k (hlt k hk).1 (hlt k hk).2)
theorem TapeAt.below {w w' : World} {R tb : Nat} {all : List UInt8} {first front : Nat} (h : TapeAt w R tb all first front) (hb : Below w.heap.size w w') : TapeAt w' R tb all first front :=
  h.keep hb.size (hb.block tb (Nat.lt_of_lt_of_le h.lt h.le)) (fun k _ hk => hb.block k hk)

set_option maxHeartbeats 1000000 in
theorem tape_new (w : World) :
    Calls Tryz.prog 10 #[] w fun e w' => e = .returned (.pointer (some ⟨w.heap.size, 0, none⟩)) ∧ w' = w.alloc (.cells #[.slice none 0 0, .int .i64 0, .int .i64 0] 77) := by
  go_enter Tryz.func10, Tryz.ntmps10
  go_wp2_with fail
  go_ret
  exact ⟨rfl, rfl⟩
theorem tapeAt_new {w w' : World} (hs : w.heap.size < w'.heap.size) (h : w'.heap[w.heap.size]? = some (.cells #[.slice none 0 0, .int .i64 0, .int .i64 0] 77 (0, 0))) : TapeAt w' w'.heap.size w.heap.size [] 0 0 :=
  ⟨hs, Nat.le_refl _, Nat.le_refl _, Nat.le_refl _, by simp, .slice none 0 0, h, ⟨rfl, .inl ⟨rfl, rfl⟩⟩⟩

set_option maxHeartbeats 1000000 in
theorem tape_place (R tb : Nat) (all : List UInt8) (first front : Nat) (w : World) (h : TapeAt w R tb all first front) :
    Calls Tryz.prog 19 #[.pointer (some ⟨tb, 0, none⟩)] w fun e w' => e = .returned (.int .i64 all.length) ∧ ∃ d, w' = w.drewN d := by
  obtain ⟨v, h1, h2⟩ := h.at'
  obtain ⟨a, c, rfl, _, _⟩ := town_sl h2
  have c0 : w.cell? ⟨tb, 0, none⟩ = some (.slice a (all.length - first) c) := by rw [cell_heap h1]; rfl
  have c1 : w.cell? ⟨tb, 1, none⟩ = some (.int .i64 first) := by rw [cell_heap h1]; rfl
  have hff := h.ff
  have hfa := h.fa
  have hsm := h.small
  obtain ⟨m, hm⟩ : ∃ m, m = all.length - first := ⟨_, rfl⟩
  have hme : all.length = first + m := by omega
  rw [← hm] at c0
  rw [hme]
  clear h1 h2 h hm
  go_enter Tryz.func19, Tryz.ntmps19
  go_wp2_with fail
  go_quiet (fail)
  go_wp2_with fail
  go_ret
  exact ⟨rfl, _, rfl⟩
theorem tape_place_nil (w : World) :
    Calls Tryz.prog 19 #[.pointer none] w fun e w' => e = .returned (.int .i64 0) ∧ w = w' := by
  go_enter Tryz.func19, Tryz.ntmps19
  go_wp2_with fail
  go_ret
  exact ⟨rfl, rfl⟩
/-- the row of a tape that stands as it stood in an earlier world is one of that world's -/
theorem TapeAt.under {w w' : World} {R tb : Nat} {all : List UInt8} {first front : Nat} (h : TapeAt w R tb all first front) (h1 : w'.heap[tb]? = w.heap[tb]?) : ∀ v k, w'.cell? ⟨tb, 0, none⟩ = some v → v.ownBlock = some k → k < w.heap.size := by
  obtain ⟨u, h2, h3⟩ := h.at'
  intro v k hv hk
  rw [cell_heap (h1.trans h2)] at hv
  simp only [List.getElem?_toArray, List.getElem?_cons_zero, Option.some.injEq] at hv
  subst hv
  exact (h3.lt k hk).2
/-- Add -/
theorem infoU8t : (Tryz.prog.info? 5).map (fun i => (i.zero, i.size, i.bytes)) = some (some (.int .u8 0), 1, 1) := by kernel_rfl
theorem eventW_len (kind : Int) (name text : List UInt8) (ats : List (List UInt8 × List UInt8)) (hnm : name.length ≤ 1048576) (ht : text.length ≤ 1048576) (hn : ats.length ≤ 1048576) (hlen : ∀ p ∈ ats, p.1.length ≤ 1048576 ∧ p.2.length ≤ 1048576) :
    (eventW kind name ats text).length ≤ 17592186044416 := by
  have h1 := attrs_len ats hlen
  have hf : ∀ l : List UInt8, (replL textPs l).length ≤ 6 * l.length := by
    intro l
    induction l with
    | nil => simp [replL]
    | cons b l ih =>
      have h : ∀ n : Fin 256, (form textPs (UInt8.ofNat n)).length ≤ 6 := by decide +kernel
      have hb := h ⟨b.toNat, b.toNat_lt⟩
      simp only [UInt8.ofNat_toNat] at hb
      simp only [replL, List.flatMap_cons, List.length_append, List.length_cons] at *
      omega
  have h2 := hf text
  unfold eventW
  split
  · simp only [List.length_append, List.length_cons, List.length_nil]; omega
  · split
    · omega
    · split
      · simp only [List.length_append, List.length_cons, List.length_nil]; omega
      · simp

set_option maxRecDepth 100000 in
set_option maxHeartbeats 8000000 in
theorem tape_add (R tb : Nat) (all : List UInt8) (first front : Nat) (kind num dep fr tt : Int) (name text : List UInt8) (a : Option Addr) (n c : Nat) (out : List UInt8) (w : World) (h : TapeAt w R tb all first front)
    (hE : ∀ w1, Below w.heap.size w w1 → Calls Tryz.prog 27 #[.agg (evC kind num dep name a n c text fr tt)] w1 fun e w' => e = .returned (.string (strL out)) ∧ Below w1.heap.size w1 w')
    (hsm : all.length + out.length ≤ 1099511627776) (U : Nat) (hU : ∀ v k, w.cell? ⟨tb, 0, none⟩ = some v → v.ownBlock = some k → k < U) :
    Calls Tryz.prog 20 #[.pointer (some ⟨tb, 0, none⟩), .agg (evC kind num dep name a n c text fr tt)] w fun e w' => e = .returned (.int .i64 0) ∧ TapeAt w' R tb (all ++ out) first front ∧ Only R tb U w w' := by
  obtain ⟨i0, hi, h3⟩ := Option.map_eq_some_iff.1 infoU8t
  simp only [Prod.mk.injEq] at h3
  obtain ⟨hz0, hz1, hz2⟩ := h3
  obtain ⟨v, g1, g2⟩ := h.at'
  have hlt := h.lt
  have hle := h.le
  have hvne : v.ownBlock ≠ some tb := fun e => by have := (g2.lt tb e).1; omega
  have hvu : ∀ k, v.ownBlock = some k → R ≤ k ∧ k < U := fun k hk => ⟨(g2.lt k hk).1, hU v k (by rw [cell_heap g1]; rfl) hk⟩
  have HVU := Lib.hid hvu
  clear hvu hU
  have HE := Lib.hid hE
  have HT := Lib.hid h
  have G1 := Lib.hid g1
  have G2 := Lib.hid g2
  have hbW : Below w.heap.size w (w.alloc (.cells (evC kind num dep name a n c text fr tt) 36)) := (Below.refl _ _).alloc (Nat.le_refl _) _
  have c0 : (w.alloc (.cells (evC kind num dep name a n c text fr tt) 36)).cell? ⟨tb, 0, none⟩ = some v := by rw [cell_heap ((heap_alloc_old _ _ (by omega)).trans g1)]; rfl
  have HBW := Lib.hid hbW
  have htbW : tb < (w.alloc (.cells (evC kind num dep name a n c text fr tt) 36)).heap.size := by simp; omega
  clear h hE g1 g2 hbW
  go_enter Tryz.func20, Tryz.ntmps20
  unfold evC at *
  go_wp2_with fail
  go_region_law (first | (refine step_append_str rfl (.tmp 11) (.tmp 13) 75 9 rfl R 5 i0 Tryz.underlying75 Tryz.underlying9 hi hz0 hz1 hz2 v (all.length - first) (u8s (all.drop first)) (by rfl) (own_block G2.out (fun k hk => hb6.block k (G2.out.lt k hk).2)) (strL out) (by rfl) (by rw [strL_size]; omega) (Nat.le_trans hle hb6.size) ?_; intro v' w6 hown hgrow; have d0 : w6.heap[tb]? = some (.cells #[v, .int .i64 first, .int .i64 front] 77 (0, 0)) := ((hgrow.block tb (Nat.lt_of_lt_of_le (Nat.lt_of_lt_of_le hlt hle) hb6.size) (fun e => hvne e.symm)).trans ((hb6.block tb (Nat.lt_of_lt_of_le hlt hle)).trans G1.out)); have d1 : w6.cell? ⟨tb, 0, none⟩ = some v := (by rw [cell_heap d0]; rfl); have f1 := frozen_heap (i := 0) d0; obtain ⟨a6, c6, rfl, _, _⟩ := town_sl hown) | (go_simp; go_at_call 27; refine (HE.out _ (HBW.out.trans ((Below.refl _ _).drew))).mono ?_; rintro e w5 ⟨rfl, hb5⟩; have hb6 := HBW.out.trans (((Below.refl _ _).drew).trans (hb5.mono (by exact HBW.out.size))); have z0 := (hb5.cell (p := ⟨tb, 0, none⟩) htbW).trans c0))
  all_goals
    have HBL := Lib.hid (((Below.refl R w5).grown hgrow (Nat.le_trans hle hb6.size) (fun k hk => (G2.out.lt k hk).1)))
    have HON : Hid (Only R tb U w w6) := Lib.hid ((Only.of hle hb6).trans (Only.grown (Nat.le_trans hle hb6.size) hgrow HVU.out))
    have HB6 := Lib.hid hb6
    have HD0 := Lib.hid d0
    have HOWN := Lib.hid hown
    clear hgrow hb6 d0 hown
    go_wp2_with fail
    go_ret
    have hT := HT.out
    refine ⟨rfl, ⟨hT.lt, ?_, hT.ff, ?_, ?_, .slice a6 _ c6, setCell_heap HD0.out _, ?_⟩, HON.out.set _ _⟩
    · have := HBL.out.size
      have := HB6.out.size
      simp [World.setCell]; omega
    · have := hT.fa
      simp; omega
    · simp; omega
    · have hf : first ≤ all.length := Nat.le_trans hT.ff hT.fa
      have e1 : (all ++ out).length - first = all.length - first + (strL out).size := by rw [strL_size]; simp; omega
      have e2 : u8s ((all ++ out).drop first) = u8s (all.drop first) ++ Lib.strCells (strL out) := by
        rw [List.drop_append_of_le_length hf]
        simp [u8s, Lib.strCells, strL_data]
      rw [e1, e2]
      exact own_block HOWN.out (fun k hk => Below.heap_setCell _ _ _ _ (fun e => by have h1 := (HOWN.out.lt k hk).1; have e' : k = tb := e; omega))
end Go.Proofs.YtmnloeolacmemaaGreat

/-
  Package tape: Cut.
-/
namespace Go.Proofs.YtmnloeolacmemaaGreat
open Go.RowKit

theorem TapeAt.drewN {w : World} {R tb : Nat} {all : List UInt8} {first front : Nat} (h : TapeAt w R tb all first front) (n : Nat) : TapeAt (w.drewN n) R tb all first front :=
  h.keep (Nat.le_refl _) rfl (fun _ _ _ => rfl)
theorem Only.drewN {R tb U : Nat} {w w' : World} (h : Only R tb U w w') (n : Nat) : Only R tb U w (w'.drewN n) := ⟨h.os, h.tape, h.output, h.size, h.block⟩

theorem elemBS : Tryz.prog.elem 75 = 5 := by kernel_rfl
theorem sizeU8 (w : World) : (sizeOf 5).run Tryz.prog w = .ok 1 w := by kernel_rfl
/-- a piece of bytes -/
theorem slice_bytes {w : World} {a : Option Addr} {m c : Nat} {l : List UInt8} (hs : Sl w a m (u8s l)) (hmc : m ≤ c) (x y : Nat) (hxy : x ≤ y) (hym : y ≤ m) :
    ∃ a', (∀ W, (Instr.slice 75 (.slice a m c) (some (.int .i64 (x : Int))) (some (.int .i64 (y : Int))) none).run Tryz.prog W = .ok (.slice a' (y - x) (c - x)) W) ∧ Sl w a' (y - x) (u8s ((l.drop x).take (y - x))) := by
  have hm : m = l.length := by have := hs.len; rw [u8s_length] at this; exact this
  refine ⟨if c = x then a else a.map (·.add (x * 1)), fun W => ?_, ?_⟩
  · rw [run_slice_lh (P := Tryz.prog) W 75 a m c (by rw [elemBS]; exact Tryz.underlying75) .i64 .i64 (x : Int) (y : Int) (by omega) (by omega) (by omega), elemBS, sizeU8]
    rfl
  · have hl : ((l.drop x).take (y - x)).length = y - x := by rw [List.length_take, List.length_drop]; omega
    refine ⟨by rw [u8s_length, hl], fun i hi => ?_⟩
    rw [u8s_length, hl] at hi
    rw [if_neg (by omega)]
    obtain ⟨b, o, rfl, hlt, hc⟩ := hs.cell (x + i) (by rw [u8s_length]; omega)
    refine ⟨b, o + x, ?_, hlt, ?_⟩
    · simp only [Option.map_some, Nat.mul_one, Addr.add_lit]
    · rw [show o + x + i = o + (x + i) by omega, hc]
      simp [u8s]

/-- what Cut answers: the bytes and the error's number -/
def cutW (all : List UInt8) (front : Nat) (from' to' : Int) : List UInt8 × Int :=
  if from' < front ∨ (all.length : Int) < to' ∨ to' < from' then ([], 2) else ((all.drop from'.toNat).take (to'.toNat - from'.toNat), 0)
def RetCut (e : Ending) (t : List UInt8 × Int) : Prop := e = .returned (.tuple #[.string (strL t.1), .int .i64 t.2])

set_option maxRecDepth 100000 in
set_option maxHeartbeats 4000000 in
theorem tape_cut (R tb : Nat) (all : List UInt8) (first front : Nat) (from' to' : Int) (w : World) (h : TapeAt w R tb all first front) :
    Calls Tryz.prog 28 #[.pointer (some ⟨tb, 0, none⟩), .int .i64 from', .int .i64 to'] w fun e w' => RetCut e (cutW all front from' to') ∧ ∃ d, w' = w.drewN d := by
  obtain ⟨v, h1, h2⟩ := h.at'
  have c2 : w.cell? ⟨tb, 2, none⟩ = some (.int .i64 front) := by rw [cell_heap h1]; rfl
  have hff := h.ff
  have hfa := h.fa
  have hsm := h.small
  have HP := Lib.hid (fun d => tape_place R tb all first front (w.drewN d) (h.drewN d))
  have HP0 := Lib.hid (tape_place R tb all first front w h)
  obtain ⟨N, hN⟩ : ∃ N, N = all.length := ⟨_, rfl⟩
  by_cases hA : from' < front
  · have e : cutW all front from' to' = ([], 2) := by unfold cutW; rw [if_pos (.inl hA)]
    rw [e]
    clear h1 h2 h e hN
    go_enter Tryz.func28, Tryz.ntmps28
    go_wp2_with fail
    go_ret2
    exact ⟨rfl, 0, rfl⟩
  · have hA' : (front : Int) ≤ from' := by omega
    rw [← hN] at HP HP0 hfa hsm
    by_cases hB : (N : Int) < to'
    · have e : cutW all front from' to' = ([], 2) := by unfold cutW; rw [if_pos (.inr (.inl (by omega)))]
      rw [e]
      clear h1 h2 h e hN hA
      go_enter Tryz.func28, Tryz.ntmps28
      go_wp2_with fail
      (with_reducible refine HP0.out.mono ?_)
      rintro e w1 ⟨rfl, d, rfl⟩
      go_wp2_with fail
      go_ret2
      exact ⟨rfl, _, rfl⟩
    · have hB' : to' ≤ (N : Int) := by omega
      by_cases hC : to' < from'
      · have e : cutW all front from' to' = ([], 2) := by unfold cutW; rw [if_pos (.inr (.inr hC))]
        rw [e]
        clear h1 h2 h e hN hA hB
        go_enter Tryz.func28, Tryz.ntmps28
        go_wp2_with fail
        (with_reducible refine HP0.out.mono ?_)
        rintro e w1 ⟨rfl, d, rfl⟩
        go_wp2_with fail
        go_ret2
        exact ⟨rfl, _, rfl⟩
      · have hC' : from' ≤ to' := by omega
        obtain ⟨i, rfl⟩ : ∃ i : Nat, from' = i := ⟨from'.toNat, by omega⟩
        obtain ⟨j, rfl⟩ : ∃ j : Nat, to' = j := ⟨to'.toNat, by omega⟩
        have e : cutW all front i j = ((all.drop i).take (j - i), 0) := by
          unfold cutW; rw [if_neg (by rintro (h | h | h) <;> omega)]; rfl
        rw [e]
        obtain ⟨a, c, rfl, hmc, hsl⟩ := town_sl h2
        have c0 : w.cell? ⟨tb, 0, none⟩ = some (.slice a (all.length - first) c) := by rw [cell_heap h1]; rfl
        have c1 : w.cell? ⟨tb, 1, none⟩ = some (.int .i64 first) := by rw [cell_heap h1]; rfl
        obtain ⟨a', hr, hs'⟩ := slice_bytes hsl hmc (i - first) (j - first) (by omega) (by omega)
        rw [List.drop_drop, show first + (i - first) = i by omega, show j - first - (i - first) = j - i by omega] at hs'
        rw [show j - first - (i - first) = j - i by omega] at hr
        have hcv : ∀ (c : Nat) (d : Nat), (convert 75 9 (.slice a' (j - i) c)).run Tryz.prog (w.drewN d) = .ok (.string (strL ((all.drop i).take (j - i)))) (w.drewN d) := by
          intro c d
          have hs2 : Sl (w.drewN d) a' (j - i) (bytesV (strL ((all.drop i).take (j - i)))) := by
            have := hs'.keep (w' := w.drewN d) (fun _ _ _ => rfl)
            exact this
          exact run_bytes_str hs2 75 9 5 Tryz.underlying75 Tryz.underlying5 Tryz.underlying9 c
        generalize hSe : strL ((all.drop i).take (j - i)) = S at *
        have HSE := Lib.hid hSe
        clear hSe
        obtain ⟨x, hx⟩ : ∃ x, x = i - first := ⟨_, rfl⟩
        obtain ⟨y, hy⟩ : ∃ y, y = j - first := ⟨_, rfl⟩
        have e1 : IntKind.i64.wrap ((i : Int) - (first : Int)) = (x : Int) := by rw [IntWalk.i64_in _ (by omega)]; omega
        have e2 : IntKind.i64.wrap ((j : Int) - (first : Int)) = (y : Int) := by rw [IntWalk.i64_in _ (by omega)]; omega
        obtain ⟨z, hz⟩ : ∃ z, z = j - i := ⟨_, rfl⟩
        obtain ⟨M, hM⟩ : ∃ M, M = all.length - first := ⟨_, rfl⟩
        rw [← hx, ← hy, ← hz, ← hM] at hr
        rw [← hz] at hcv
        rw [← hM] at c0
        have hji : decide ((j : Int) < (i : Int)) = false := by simp; omega
        have hjN : decide (N < j) = false := by simp; omega
        have hif : decide (i < front) = false := by simp; omega
        clear h1 h2 h e hN hA hB hC hx hy hz hM hsl hs'
        go_enter Tryz.func28, Tryz.ntmps28
        go_wp2_with fail
        (with_reducible refine HP0.out.mono ?_)
        rintro e w1 ⟨rfl, d, rfl⟩
        go_wp2_with fail
        go_quiet (fail)
        go_wp2_with fail
        go_ret2
        refine ⟨?_, d + nq, by rw [World.drewN_drewN]⟩
        show _ = Ending.returned (.tuple #[.string (strL ((all.drop i).take (j - i))), .int .i64 0])
        rw [HSE.out]
        rfl
theorem tape_cut_nil (from' to' : Int) (w : World) :
    Calls Tryz.prog 28 #[.pointer none, .int .i64 from', .int .i64 to'] w fun e w' => RetCut e ([], 1) ∧ w = w' := by
  go_enter Tryz.func28, Tryz.ntmps28
  go_wp2_with fail
  go_ret2
  exact ⟨rfl, rfl⟩
end Go.Proofs.YtmnloeolacmemaaGreat
