/-
  The scanner in memory: New, Push, End, take.
-/
import Derived.Test.YtjdmndpadejegaaDoorMgV
import Derived.Test.YtjdmndpadejegaaDoorMgW
namespace Go.Proofs.YtjdmndpadejegaaDoor
open Go.RowKit

structure RestV (w : World) (rv : Value) (l : List UInt8) : Prop where
  q : QRow w 5 1 rv l.length (u8s l)
  shp : rv = .slice none 0 0 ∨ ∃ g off n c, rv = .slice (some ⟨g, off, none⟩) n c
theorem RestV.keep {w w' : World} {rv : Value} {l : List UInt8} (h : RestV w rv l) (hk : ∀ k, rv.ownBlock = some k → w'.heap[k]? = w.heap[k]?) : RestV w' rv l := ⟨h.q.keep hk, h.shp⟩
theorem RestV.form {w : World} {rv : Value} {l : List UInt8} (h : RestV w rv l) : (rv = .slice none 0 0 ∧ l = []) ∨ ∃ g off c, rv = .slice (some ⟨g, off, none⟩) l.length c ∧ l.length ≤ c ∧ Sl w (some ⟨g, off, none⟩) l.length (u8s l) := by
  obtain ⟨a, c, h1, h2, h3⟩ := h.q.sl
  rcases h.shp with h4 | ⟨g, off, n, c', h4⟩
  · left
    rw [h1] at h4
    injection h4 with e1 e2 e3
    exact ⟨by rw [h1, e1, e2, e3], List.eq_nil_of_length_eq_zero e2⟩
  · right
    rw [h1] at h4
    injection h4 with e1 e2 e3
    subst e1
    exact ⟨g, off, c, h1, h2, h3⟩
def dropV (rv : Value) (k : Nat) : Value :=
  match rv with
  | .slice a n c => .slice (if c = k then a else a.map (·.add k)) (n - k) (c - k)
  | v => v
theorem RestV.drop {w : World} {rv : Value} {l : List UInt8} (h : RestV w rv l) (k : Nat) (hk : k ≤ l.length) : RestV w (dropV rv k) (l.drop k) ∧ (dropV rv k).ownBlock = rv.ownBlock := by
  rcases h.form with ⟨rfl, rfl⟩ | ⟨g, off, c, rfl, h2, h3⟩
  · have hk0 : k = 0 := by simpa using hk
    subst hk0
    exact ⟨h, rfl⟩
  · have hq := h.q.drop k hk
    have hu : (u8s l).drop k = u8s (l.drop k) := by simp [u8s]
    rw [hu] at hq
    by_cases hc : c = k
    · refine ⟨⟨by rw [List.length_drop]; exact hq, .inr ⟨g, off, l.length - k, c - k, by simp [dropV, hc]⟩⟩, by simp [dropV, hc, Value.ownBlock]⟩
    · refine ⟨⟨by rw [List.length_drop]; exact hq, .inr ⟨g, off + k, l.length - k, c - k, by simp [dropV, hc, Addr.add_lit]⟩⟩, by simp [dropV, hc, Addr.add_lit, Value.ownBlock]⟩
def keptC (inn : Nat) (nm : List UInt8) (σ : St) (tv : Value) : Array Value := #[.int .i64 inn, .string (strL nm), .int .i64 σ.i, .int .i64 σ.beg, .int .i64 σ.br, tv]
def MkAt (G : Nat) (w : World) (sb : Nat) (rv : Value) (mv : Value) (fp : Nat → Prop) : Option (Nat × List UInt8 × St) → Prop
  | none => mv = .pointer none
  | some (inn, nm, σ) => ∃ mb tv, mv = .pointer (some ⟨mb, 0, none⟩) ∧ w.heap[mb]? = some (.cells (keptC inn nm σ tv) 75 (0, 0)) ∧ w.ownsRow G 5 1 tv (encs σ.text).length (u8s (encs σ.text)) ∧ (∀ r ∈ σ.text, chr r) ∧
      fp mb ∧ mb ≠ sb ∧ rv.ownBlock ≠ some mb ∧ ∀ k, tv.ownBlock = some k → fp k ∧ k ≠ sb ∧ k ≠ mb ∧ rv.ownBlock ≠ some k
structure SnAt (G : Nat) (w : World) (sb : Nat) (S : Sn) (fp : Nat → Prop) : Prop where
  at' : ∃ rv mv, w.heap[sb]? = some (.cells (scnC rv (PLof S.all S.fr) S.ended mv) 71 (0, 0)) ∧ RestV w rv S.rest ∧ (∀ k, rv.ownBlock = some k → fp k ∧ k ≠ sb) ∧ MkAt G w sb rv mv fp S.mk'
  mem : fp sb
  dom : ∀ k, fp k → G ≤ k ∧ k < w.heap.size
section
variable {G : Nat} {w w' : World} {sb : Nat} {S : Sn} {fp fp' : Nat → Prop} {rv mv : Value} {o : Option (Nat × List UInt8 × St)}
theorem MkAt.keep (h : MkAt G w sb rv mv fp o) (hk : ∀ k, (∃ mb, mv = .pointer (some ⟨mb, 0, none⟩) ∧ k ≠ sb) → fp k → rv.ownBlock ≠ some k → w'.heap[k]? = w.heap[k]?) : MkAt G w' sb rv mv fp o := by
  rcases o with _ | ⟨inn, nm, σ⟩
  · exact h
  · obtain ⟨mb, tv, h1, h2, h3, h4, h5, h6, h7, h8⟩ := h
    exact ⟨mb, tv, h1, (hk _ ⟨mb, h1, h6⟩ h5 h7).trans h2, own_block h3 fun k e => hk _ ⟨mb, h1, (h8 k e).2.1⟩ (h8 k e).1 (h8 k e).2.2.2, h4, h5, h6, h7, h8⟩
theorem MkAt.re {rv' : Value} {fp' : Nat → Prop} (h : MkAt G w sb rv mv fp o) (hf : ∀ k, fp k → fp' k) (hr : ∀ k, fp k → rv.ownBlock ≠ some k → rv'.ownBlock ≠ some k) : MkAt G w sb rv' mv fp' o := by
  rcases o with _ | ⟨inn, nm, σ⟩
  · exact h
  · obtain ⟨mb, tv, h1, h2, h3, h4, h5, h6, h7, h8⟩ := h
    exact ⟨mb, tv, h1, h2, h3, h4, hf _ h5, h6, hr _ h5 h7, fun k e => ⟨hf _ (h8 k e).1, (h8 k e).2.1, (h8 k e).2.2.1, hr _ (h8 k e).1 (h8 k e).2.2.2⟩⟩
theorem SnAt.keep (h : SnAt G w sb S fp) (hs : w.heap.size ≤ w'.heap.size) (hk : ∀ k, fp k → w'.heap[k]? = w.heap[k]?) : SnAt G w' sb S fp := by
  obtain ⟨⟨rv, mv, h1, h2, h3, h4⟩, h5, h6⟩ := h
  exact ⟨⟨rv, mv, (hk _ h5).trans h1, h2.keep fun k e => hk _ (h3 k e).1, h3, h4.keep fun k _ h _ => hk k h⟩, h5, fun k e => ⟨(h6 k e).1, Nat.lt_of_lt_of_le (h6 k e).2 hs⟩⟩
theorem SnAt.keepKp {T : Nat → Prop} (h : SnAt G w sb S fp) (k : Kp T w w') (hd : ∀ k, fp k → ¬ T k) : SnAt G w' sb S fp :=
  h.keep k.size fun j hj => k.block j (h.dom j hj).2 (hd j hj)
theorem SnAt.below (h : SnAt G w sb S fp) (k : Below w.heap.size w w') : SnAt G w' sb S fp := h.keep k.size fun j hj => k.block j (h.dom j hj).2
end
set_option maxHeartbeats 1000000 in
theorem scn_new (w : World) (G : Nat) (hG : G ≤ w.heap.size) :
    Calls Tryd.prog 8 #[] w fun e w' => e = .returned (.pointer (some ⟨w.heap.size, 0, none⟩)) ∧ SnAt G w' w.heap.size .new (· = w.heap.size) ∧ Below w.heap.size w w' := by
  go_enter Tryd.func8, Tryd.ntmps8
  go_wp2_with fail
  go_ret
  refine ⟨rfl, ⟨⟨.slice none 0 0, .pointer none, heap_alloc_new _ _, ⟨QRow.nil _ _ _ _, .inl rfl⟩, fun k e => (by cases e), rfl⟩, rfl, fun k e => by subst e; exact ⟨hG, by simp⟩⟩, (Below.refl _ _).alloc (Nat.le_refl _) _⟩
section
variable {G : Nat} {w : World} {sb : Nat} {S : Sn} {fp : Nat → Prop}
set_option maxHeartbeats 1000000 in
theorem end_ok (h : SnAt G w sb S fp) (he : S.ended = false) :
    Calls Tryd.prog 12 #[.pointer (some ⟨sb, 0, none⟩)] w fun e w' => e = .returned (.int .i64 0) ∧ SnAt G w' sb S.fin fp ∧ Kp fp w w' := by
  obtain ⟨rv, mv, h1, h2, h3, h4⟩ := h.at'
  have c5 : w.cell? ⟨sb, 5, none⟩ = some (.bool false) := by rw [cell_heap h1]; show some (Value.bool S.ended) = _; rw [he]
  have hlt := heap_lt h1
  have f5 : w.frozen? ⟨sb, 5, none⟩ = false := frozen_heap h1
  have HP : Hid (SnAt G (w.setCell ⟨sb, 5, none⟩ (.bool true)) sb S.fin fp ∧ Kp fp w (w.setCell ⟨sb, 5, none⟩ (.bool true))) := Lib.hid (by
    have hk : ∀ k, k ≠ sb → (w.setCell ⟨sb, 5, none⟩ (.bool true)).heap[k]? = w.heap[k]? := fun k hk => Below.heap_setCell _ _ _ _ hk
    refine ⟨⟨⟨rv, mv, setCell_heap h1 _, h2.keep fun k e => hk k (h3 k e).2, h3, h4.keep fun k h _ _ => hk k h.choose_spec.2⟩, h.mem, fun k e => ?_⟩, (Kp.refl fp w).set (.inl h.mem) _ _⟩
    have := h.dom k e
    exact ⟨this.1, by simp [World.setCell]; exact this.2⟩)
  clear h1 h2 h3 h4 h
  go_enter Tryd.func12, Tryd.ntmps12
  go_wp2_with fail
  go_ret
  exact ⟨rfl, HP.out⟩
theorem end_ended (h : SnAt G w sb S fp) (he : S.ended = true) :
    Calls Tryd.prog 12 #[.pointer (some ⟨sb, 0, none⟩)] w fun e w' => e = .returned (.int .i64 5) ∧ w' = w := by
  obtain ⟨rv, mv, h1, h2, h3, h4⟩ := h.at'
  have c5 : w.cell? ⟨sb, 5, none⟩ = some (.bool true) := by rw [cell_heap h1]; show some (Value.bool S.ended) = _; rw [he]
  clear h1 h2 h3 h4 h
  go_enter Tryd.func12, Tryd.ntmps12
  go_wp2_with fail
  go_ret
  exact ⟨rfl, rfl⟩
theorem end_nil (w : World) :
    Calls Tryd.prog 12 #[.pointer none] w fun e w' => e = .returned (.int .i64 1) ∧ w' = w := by
  go_enter Tryd.func12, Tryd.ntmps12
  go_wp2_with fail
  go_ret
  exact ⟨rfl, rfl⟩
theorem push_nil (w : World) (v : Value) :
    Calls Tryd.prog 10 #[.pointer none, v] w fun e w' => e = .returned (.int .i64 1) ∧ w' = w := by
  go_enter Tryd.func10, Tryd.ntmps10
  go_wp2_with fail
  go_ret
  exact ⟨rfl, rfl⟩
theorem push_ended (h : SnAt G w sb S fp) (he : S.ended = true) (v : Value) :
    Calls Tryd.prog 10 #[.pointer (some ⟨sb, 0, none⟩), v] w fun e w' => e = .returned (.int .i64 5) ∧ w' = w := by
  obtain ⟨rv, mv, h1, h2, h3, h4⟩ := h.at'
  have c5 : w.cell? ⟨sb, 2 + 3, none⟩ = some (.bool true) := by rw [cell_heap h1]; show some (Value.bool S.ended) = _; rw [he]
  clear h1 h2 h3 h4 h
  go_enter Tryd.func10, Tryd.ntmps10
  go_wp2_with fail
  go_ret
  exact ⟨rfl, rfl⟩
theorem u8one : (Tryd.prog.info? 5).map (fun i => (i.zero, i.size, i.bytes)) = some (some (.int .u8 0), 1, 1) := by kernel_rfl
set_option maxHeartbeats 1000000 in
theorem push_ok (h : SnAt G w sb S fp) (hcut : RCut S.all S.fr) (he : S.ended = false) (A : Option Addr) (m c : Nat) (bl : List UInt8) (hb : Sl w A m (u8s bl)) (hsm : S.all.length + bl.length ≤ 1073741824) :
    Calls Tryd.prog 10 #[.pointer (some ⟨sb, 0, none⟩), .slice A m c] w fun e w' => e = .returned (.int .i64 0) ∧ ∃ fp', SnAt G w' sb (S.push bl) fp' ∧ Kp fp w w' ∧ ∀ k, fp' k → fp k ∨ w.heap.size ≤ k := by
  obtain ⟨i0, hi, hz0, hz1, hz2⟩ := info_parts u8one
  obtain ⟨rv, mv, h1, h2, h3, h4⟩ := h.at'
  have c5 : w.cell? ⟨sb, 5, none⟩ = some (.bool false) := by rw [cell_heap h1]; show some (Value.bool S.ended) = _; rw [he]
  obtain ⟨ra, rc, hrv, hrc, _⟩ := h2.q.sl
  have c0 : w.cell? ⟨sb, 0, none⟩ = some (.slice ra S.rest.length rc) := by rw [cell_heap h1, ← hrv]; rfl
  have hlt := heap_lt h1
  have hm := hb.len
  rw [u8s_length] at hm
  have hrl : S.rest.length ≤ S.all.length := by unfold Sn.rest; rw [List.length_drop]; omega
  have HD : Hid (∀ v' w', QRow w' 5 1 v' (S.rest.length + m) (u8s S.rest ++ u8s bl) → w.grownBy w' rv.ownBlock → (v'.ownBlock = rv.ownBlock ∨ ∃ g, v'.ownBlock = some g ∧ w.heap.size ≤ g) → (m = 0 → v' = rv) →
      (∃ a1 n1 c1, v' = .slice a1 n1 c1) ∧ w'.cell? ⟨sb, 0, none⟩ = some (.slice ra S.rest.length rc) ∧ w'.frozen? ⟨sb, 0, none⟩ = false ∧ sb < w'.heap.size ∧ ∃ fp', SnAt G (w'.setCell ⟨sb, 0, none⟩ v') sb (S.push bl) fp' ∧ Kp fp w (w'.setCell ⟨sb, 0, none⟩ v') ∧ ∀ k, fp' k → fp k ∨ w.heap.size ≤ k) := Lib.hid fun v' w' hq hg ho h0 => by
    have hsb : w'.heap[sb]? = some (.cells (scnC rv (PLof S.all S.fr) S.ended mv) 71 (0, 0)) := (hg.block sb hlt (fun e => (h3 sb e.symm).2 rfl)).trans h1
    obtain ⟨a1, c1, hv', _⟩ := hq.slice
    refine ⟨⟨a1, _, c1, hv'⟩, by rw [cell_heap hsb, ← hrv]; rfl, frozen_heap hsb, heap_lt hsb, ?_⟩
    have hsh : v' = .slice none 0 0 ∨ ∃ g off n c, v' = .slice (some ⟨g, off, none⟩) n c := by
      rcases Nat.eq_zero_or_pos m with hm0 | hm0
      · rw [h0 hm0]; exact h2.shp
      · right
        obtain ⟨j, hj⟩ : ∃ j, S.rest.length + m = j + 1 := ⟨S.rest.length + m - 1, by omega⟩
        rw [hj] at hq
        obtain ⟨g, off, c2, e, _⟩ := hq.here
        exact ⟨g, off, _, c2, e⟩
    have hne : ∀ k, v'.ownBlock = some k → k ≠ sb := by
      intro k e
      rcases ho with ho | ⟨g, ho, hgs⟩
      · rw [ho] at e; exact (h3 k e).2
      · rw [ho] at e; injection e with e; omega
    have hkk : ∀ k, k ≠ sb → (w'.setCell ⟨sb, 0, none⟩ v').heap[k]? = w'.heap[k]? := fun k hk => Below.heap_setCell _ _ _ _ hk
    refine ⟨fun k => fp k ∨ v'.ownBlock = some k, ⟨⟨v', mv, ?_, ⟨?_, hsh⟩, fun k e => ⟨.inr e, hne k e⟩, ?_⟩, .inl h.mem, fun k e => ?_⟩, ?_, fun k e => ?_⟩
    · have := setCell_heap (i := 0) hsb v'
      show _ = some (Obj.cells (scnC v' (PLof (S.all ++ bl) S.fr) S.ended mv) 71 (0, 0))
      rw [hcut.stays bl]
      exact this
    · rw [Sn.rest_push hcut.1, List.length_append, show u8s (S.rest ++ bl) = u8s S.rest ++ u8s bl by simp [u8s], ← hm]
      exact hq.keep fun k e => hkk k (hne k e)
    · refine ((h4.keep (w' := w'.setCell ⟨sb, 0, none⟩ v') fun k hx hf hr => ?_).re (fun k e => .inl e) fun k hf hr e => ?_)
      · exact (hkk k hx.choose_spec.2).trans (hg.block k (h.dom k hf).2 fun e => hr e.symm)
      · rcases ho with ho | ⟨g, ho, hgs⟩
        · rw [ho] at e; exact hr e
        · rw [ho] at e; injection e with e; have := (h.dom k hf).2; omega
    · have hs : (w'.setCell ⟨sb, 0, none⟩ v').heap.size = w'.heap.size := by simp [World.setCell]
      rw [hs]
      rcases e with e | e
      · exact ⟨(h.dom k e).1, Nat.lt_of_lt_of_le (h.dom k e).2 hg.size⟩
      · rcases ho with ho | ⟨g, ho, hgs⟩
        · rw [ho] at e; have := h.dom k (h3 k e).1; exact ⟨this.1, Nat.lt_of_lt_of_le this.2 hg.size⟩
        · have e' := e
          rw [ho] at e; injection e with e; subst e
          refine ⟨by have := (h.dom _ h.mem); omega, ?_⟩
          obtain ⟨_, hq2⟩ := hq
          rcases hq2 with ⟨A', e1, _⟩ | ⟨g', o', cp, cur, e1, e2, _⟩
          · rcases hsh with e3 | ⟨g2, off, n2, c2, e3⟩
            · rw [e3] at e'; cases e'
            · rw [e3] at e1 e'
              injection e1 with e4 e5 e6
              rcases Nat.eq_zero_or_pos m with hm0 | hm0
              · rw [h0 hm0] at ho; have := (h.dom _ (h3 _ ho).1).2; omega
              · rename_i hh; omega
          · rw [e1] at e'; injection e' with e'; subst e'; exact heap_lt e2
    · exact ((Kp.refl fp w).grown hg fun k e => .inl (h3 k e).1).set (.inl h.mem) _ _
    · rcases e with e | e
      · exact .inl e
      · rcases ho with ho | ⟨g, ho, hgs⟩
        · rw [ho] at e; exact .inl (h3 k e).1
        · rw [ho] at e; injection e with e; exact .inr (by omega)
  have hq := h2.q
  rw [hrv] at hq
  rw [hrv] at HD
  clear h1 h2 h3 h4 h
  go_enter Tryd.func10, Tryd.ntmps10
  go_wp2_with (at_builtin; refine wpList_qappn w rfl _ _ 26 (by rfl) 5 i0 (.int .u8 0) 1 Tryd.underlying26 hi hz0 hz1 hz2 (by decide) _ S.rest.length _ (by rfl) hq A m c (u8s bl) (by rfl) hb (by intro u hu; obtain ⟨b, _, rfl⟩ := List.mem_map.1 hu; rfl) (by omega) (by decide) (fun v3 w3 g1 g2 g3 g4 => ?_); obtain ⟨⟨a1, n1, c1, e1⟩, d0, f0, hl0, hx⟩ := HD.out v3 w3 g1 g2 g3 g4; subst e1; have HX := Lib.hid hx; clear hx g1 g2 g3 g4)
  go_ret
  exact ⟨rfl, HX.out⟩
end
end Go.Proofs.YtjdmndpadejegaaDoor

namespace Go.Proofs.YtjdmndpadejegaaDoor
open Go.RowKit

section
variable {w : World} {sb : Nat} {rv mv : Value} {p : Pl} {e : Bool} {l : List UInt8}
def plTo (l : List UInt8) (k : Nat) (p : Pl) : Pl := { plL l k p with byte := p.byte + k }
structure PlSm (p : Pl) : Prop where
  b : p.byte ≤ 1099511627776
  r : p.rune ≤ 1099511627776
  l : p.line ≤ 1099511627776
  c : p.col ≤ 1099511627776
theorem place_any (h : w.heap[sb]? = some (.cells (scnC rv p e mv) 71 (0, 0))) (hr : RestV w rv l) (k : Nat) (hk : k ≤ l.length) (hl : l.length ≤ 1099511627776) (hp : PlSm p) :
    Calls Tryd.prog 23 #[.pointer (some ⟨sb, 0, none⟩), .int .i64 k] w fun e w' => e = .returned (.agg (plC (plTo l k p))) ∧ Below w.heap.size w w' := by
  rcases hr.form with ⟨rfl, rfl⟩ | ⟨g, off, c, rfl, h2, h3⟩
  · have hk0 : k = 0 := by simpa using hk
    subst hk0
    exact place_nil sb p e mv w h hp.b
  · exact place_at sb g off l.length c l p e mv w h h3 k hk h2 hl hp.b hp.r hp.l hp.c
set_option maxRecDepth 100000 in
set_option maxHeartbeats 1000000 in
theorem take_any (h : w.heap[sb]? = some (.cells (scnC rv p e mv) 71 (0, 0))) (hr : RestV w rv l) (k : Nat) (hk : k ≤ l.length) (hl : l.length ≤ 1099511627776) (hp : PlSm p) :
    Calls Tryd.prog 24 #[.pointer (some ⟨sb, 0, none⟩), .int .i64 k] w fun e' w' => e' = .returned (.tuple #[]) ∧ w'.heap[sb]? = some (.cells (scnC (dropV rv k) (plTo l k p) e (.pointer none)) 71 (0, 0)) ∧ Kp (· = sb) w w' := by
  have HP := Lib.hid (place_any h hr k hk hl hp)
  generalize plTo l k p = q at *
  have HS : Hid (∀ w1, Below w.heap.size w w1 → w1.heap[sb]? = some (.cells (scnC rv p e mv) 71 (0, 0))) := Lib.hid fun w1 hb => (hb.block sb (heap_lt h)).trans h
  have HF : Hid (∀ w1 u, w1.heap[sb]? = some (.cells (scnC rv p e mv) 71 (0, 0)) → Below w.heap.size w w1 → ∀ w5, w5 = (((((w1.setCell ⟨sb, 1, none⟩ (.int .i64 q.byte)).setCell ⟨sb, 2, none⟩ (.int .i64 q.rune)).setCell ⟨sb, 3, none⟩ (.int .i64 q.line)).setCell ⟨sb, 4, none⟩ (.int .i64 q.col)).setCell ⟨sb, 0, none⟩ u).setCell ⟨sb, 6, none⟩ (.pointer none) → w5.heap[sb]? = some (.cells (scnC u q e (.pointer none)) 71 (0, 0)) ∧ Kp (· = sb) w w5) := Lib.hid fun w1 u h1 hb w5 e5 => by
    subst e5
    refine ⟨?_, ((((((Kp.of (S := (· = sb)) hb).set (b := sb) (.inl rfl) _ _).set (b := sb) (.inl rfl) _ _).set (b := sb) (.inl rfl) _ _).set (b := sb) (.inl rfl) _ _).set (b := sb) (.inl rfl) _ _).set (b := sb) (.inl rfl) _ _⟩
    exact setCell_heap (i := 6) (setCell_heap (i := 0) (setCell_heap (i := 4) (setCell_heap (i := 3) (setCell_heap (i := 2) (setCell_heap (i := 1) h1 (.int .i64 q.byte)) (.int .i64 q.rune)) (.int .i64 q.line)) (.int .i64 q.col)) u) (.pointer none)
  rcases hr.form with ⟨rfl, rfl⟩ | ⟨g, off, c, rfl, h2, h3⟩
  · have hk0 : k = 0 := by simpa using hk
    subst hk0
    clear h hr
    rw [show ((0 : Nat) : Int) = 0 from rfl] at HP ⊢
    go_enter Tryd.func24, Tryd.ntmps24
    go_wp2_with (go_at_call 23; (with_reducible refine HP.out.mono ?_); rintro e1 w1 ⟨he, hb⟩; obtain rfl : e1 = .returned (.agg #[.int .i64 q.byte, .int .i64 q.rune, .int .i64 q.line, .int .i64 q.col]) := he; have hs1 := HS.out w1 hb; have hl1 := heap_lt hs1; have HW := Lib.hid (HF.out w1 (.slice none 0 0) hs1 hb); have c0 : w1.cell? ⟨sb, 0, none⟩ = some (.slice none 0 0) := (by rw [cell_heap hs1]; rfl); have c1 : w1.cell? ⟨sb, 1, none⟩ = some (.int .i64 p.byte) := (by rw [cell_heap hs1]; rfl); have c2 : w1.cell? ⟨sb, 2, none⟩ = some (.int .i64 p.rune) := (by rw [cell_heap hs1]; rfl); have c3 : w1.cell? ⟨sb, 3, none⟩ = some (.int .i64 p.line) := (by rw [cell_heap hs1]; rfl); have c4 : w1.cell? ⟨sb, 4, none⟩ = some (.int .i64 p.col) := (by rw [cell_heap hs1]; rfl); have c6 : w1.cell? ⟨sb, 6, none⟩ = some mv := (by rw [cell_heap hs1]; rfl); have z := fun i => frozen_heap (i := i) hs1; have z0 := z 0; have z1 := z 1; have z2 := z 2; have z3 := z 3; have z4 := z 4; have z6 := z 6; clear hs1 hb)
    go_end0
    exact ⟨rfl, HW.out _ rfl⟩
  · have hdv : dropV (.slice (some ⟨g, off, none⟩) l.length c) k = .slice (if c = k then some ⟨g, off, none⟩ else some ⟨g, off + k, none⟩) (l.length - k) (c - k) := by
      simp [dropV, Addr.add_lit]
    rw [hdv]
    have hk1 : (0 : Int) ≤ (k : Int) := by omega
    have hk2 : (k : Int) ≤ (l.length : Int) := by omega
    have hk3 : (k : Int) ≤ (c : Int) := by omega
    generalize hn : l.length = n at *
    by_cases hck : c = k
    · rw [if_pos hck]
      subst hck
      obtain rfl : c = n := by omega
      clear h hr h3 hdv hn
      go_enter Tryd.func24, Tryd.ntmps24
      go_wp2_with (go_at_call 23; (with_reducible refine HP.out.mono ?_); rintro e1 w1 ⟨he, hb⟩; obtain rfl : e1 = .returned (.agg #[.int .i64 q.byte, .int .i64 q.rune, .int .i64 q.line, .int .i64 q.col]) := he; have hs1 := HS.out w1 hb; have hl1 := heap_lt hs1; have HW := Lib.hid (fun u => HF.out w1 u hs1 hb); have c0 : w1.cell? ⟨sb, 0, none⟩ = some (.slice (some ⟨g, off, none⟩) c c) := (by rw [cell_heap hs1]; rfl); have c1 : w1.cell? ⟨sb, 1, none⟩ = some (.int .i64 p.byte) := (by rw [cell_heap hs1]; rfl); have c2 : w1.cell? ⟨sb, 2, none⟩ = some (.int .i64 p.rune) := (by rw [cell_heap hs1]; rfl); have c3 : w1.cell? ⟨sb, 3, none⟩ = some (.int .i64 p.line) := (by rw [cell_heap hs1]; rfl); have c4 : w1.cell? ⟨sb, 4, none⟩ = some (.int .i64 p.col) := (by rw [cell_heap hs1]; rfl); have c6 : w1.cell? ⟨sb, 6, none⟩ = some mv := (by rw [cell_heap hs1]; rfl); have z := fun i => frozen_heap (i := i) hs1; have z0 := z 0; have z1 := z 1; have z2 := z 2; have z3 := z 3; have z4 := z 4; have z6 := z 6; clear hs1 hb)
      go_end0
      exact ⟨rfl, HW.out _ _ (by simp)⟩
    · rw [if_neg hck]
      have hck2 : (c = k) = False := by simp [hck]
      clear h hr h3 hdv hn
      go_enter Tryd.func24, Tryd.ntmps24
      go_wp2_with (go_at_call 23; (with_reducible refine HP.out.mono ?_); rintro e1 w1 ⟨he, hb⟩; obtain rfl : e1 = .returned (.agg #[.int .i64 q.byte, .int .i64 q.rune, .int .i64 q.line, .int .i64 q.col]) := he; have hs1 := HS.out w1 hb; have hl1 := heap_lt hs1; have HW := Lib.hid (fun u => HF.out w1 u hs1 hb); have c0 : w1.cell? ⟨sb, 0, none⟩ = some (.slice (some ⟨g, off, none⟩) n c) := (by rw [cell_heap hs1]; rfl); have c1 : w1.cell? ⟨sb, 1, none⟩ = some (.int .i64 p.byte) := (by rw [cell_heap hs1]; rfl); have c2 : w1.cell? ⟨sb, 2, none⟩ = some (.int .i64 p.rune) := (by rw [cell_heap hs1]; rfl); have c3 : w1.cell? ⟨sb, 3, none⟩ = some (.int .i64 p.line) := (by rw [cell_heap hs1]; rfl); have c4 : w1.cell? ⟨sb, 4, none⟩ = some (.int .i64 p.col) := (by rw [cell_heap hs1]; rfl); have c6 : w1.cell? ⟨sb, 6, none⟩ = some mv := (by rw [cell_heap hs1]; rfl); have z := fun i => frozen_heap (i := i) hs1; have z0 := z 0; have z1 := z 1; have z2 := z 2; have z3 := z 3; have z4 := z 4; have z6 := z 6; clear hs1 hb)
      go_end0
      exact ⟨rfl, HW.out _ _ rfl⟩
end
end Go.Proofs.YtjdmndpadejegaaDoor
