/-
  wait.tell: the nodes that may be told.
-/
import Derived.Test.YtmnloeolacmemaaGreatWpL
import Derived.Deep.RegionLaw
namespace Go.Proofs.YtmnloeolacmemaaGreat
open Go.RowKit

theorem tellW_first (cut : Nat → Nat → List UInt8) (f : Int → Option WN) : ∀ o, tellW cut f (wfirst f o) = tellW cut f o := by
  intro o
  induction o with
  | nil => rfl
  | cons k o ih =>
    cases h : f k with
    | none => simp only [wfirst, h, ih]; simp [tellW, h]
    | some x => simp only [wfirst, h]
theorem wfirst_idem (f : Int → Option WN) : ∀ o, wfirst f (wfirst f o) = wfirst f o := by
  intro o
  induction o with
  | nil => rfl
  | cons k o ih =>
    cases h : f k with
    | none => simp only [wfirst, h, ih]
    | some x => simp [wfirst, h]
theorem wfirst_sub (f : Int → Option WN) : ∀ o, (wfirst f o).Sublist o := by
  intro o
  induction o with
  | nil => exact List.Sublist.refl _
  | cons k o ih =>
    cases h : f k with
    | none => simp only [wfirst, h]; exact ih.cons _
    | some x => simp only [wfirst, h]; exact List.Sublist.refl _
theorem wfirst_live (f : Int → Option WN) : ∀ o, live f (wfirst f o) = live f o := by
  intro o
  induction o with
  | nil => rfl
  | cons k o ih =>
    cases h : f k with
    | none => simp only [wfirst, h, ih]; rw [live_cons, h]
    | some x => simp only [wfirst, h]
theorem live_mem {f : Int → Option WN} {o : List Int} {p : Int × WN} : p ∈ live f o ↔ p.1 ∈ o ∧ f p.1 = some p.2 := by
  unfold live
  rw [List.mem_filterMap]
  constructor
  · rintro ⟨k, hk, h⟩
    cases hf : f k with
    | none => rw [hf] at h; cases h
    | some x => rw [hf] at h; simp at h; subst h; exact ⟨hk, hf⟩
  · rintro ⟨h1, h2⟩
    exact ⟨p.1, h1, by rw [h2]; rfl⟩

/-- items as cells -/
def itemsV (l : List (Int × List UInt8)) : List Value := l.flatMap fun p => [.int .i64 p.1, .string (strL p.2)]
theorem itemsV_snoc (l : List (Int × List UInt8)) (p : Int × List UInt8) : itemsV (l ++ [p]) = itemsV l ++ [.int .i64 p.1, .string (strL p.2)] := by simp [itemsV]
theorem infoItem : (Tryz.prog.info? 51).map (fun i => (i.zero, i.size, i.bytes)) = some (some (.agg #[.int .i64 0, .string ⟨#[]⟩]), 2, 24) := by kernel_rfl

section
variable {C : Nat → Nat} {w w' : World} {wb tb mb : Nat} {fp : Int → Option Nat} {ov lv : Value} {s : WSt} {first front n : Nat}
/-- the tape turns -/
theorem WAt.tape' (h : WAt C w wb tb mb fp ov lv s first front n) {all' : List UInt8} {first' front' : Nat} (ht : TapeAt w' (tb + 1) tb all' first' front') (hm : MovT tb w w') (hr : RowB w w' tb) :
    WAt (paint C w w' 2) w' wb tb mb fp ov lv { s with all := all' } first' front' n ∧ Mv C 1 7 w w' ∧ Paint C (paint C w w' 2) w w' := by
  have hp : Paint C (paint C w w' 2) w w' := Paint.mk' 2 h.top hm.size
  have e : ∀ {k c : Nat}, C k = c → c ≠ 0 → c ≠ 2 → paint C w w' 2 k = c ∧ w'.heap[k]? = w.heap[k]? := fun {k c} hk h0 h2 => by
    have hl := h.lt0 (k := k) (by omega)
    exact ⟨(hp.old k hl).trans hk, hm.block k hl (fun e => h2 (by rw [← hk, e, h.ct])) (fun e => h2 (by rw [← hk, h.crow k e]))⟩
  refine ⟨⟨hp.top, (e h.cw (by decide) (by decide)).2.trans h.blk, (e h.cw (by decide) (by decide)).1, ht, (hp.old tb (h.lt0 (by rw [h.ct]; decide))).trans h.ct, fun k hk => ?_, h.map.keepB (e h.cm (by decide) (by decide)).2, (e h.cm (by decide) (by decide)).1,
    h.ord.keep (fun k hk => (e (h.co k hk) (by decide) (by decide)).2), fun k hk => (e (h.co k hk) (by decide) (by decide)).1, h.opn.keep (fun k hk => (e (h.cl k hk) (by decide) (by decide)).2), fun k hk => (e (h.cl k hk) (by decide) (by decide)).1, fun k x hx => ?_, h.non, h.inj, h.wfo⟩,
    Mv.movT hm (by rw [h.ct]; decide) (fun k hk => by rw [h.crow k hk]; decide), hp⟩
  · rcases hr k hk with h1 | h1
    · exact (hp.old k (h.lt0 (by rw [h.crow k h1]; decide))).trans (h.crow k h1)
    · exact paint_new C w w' 2 h1 (ht.rowlt hk)
  · obtain ⟨b, b1, b2, b3⟩ := h.nds k x hx
    exact ⟨b, b1, (e b2 (by decide) (by decide)).1, (e b2 (by decide) (by decide)).2.trans b3⟩
/-- a node goes out of the map -/
theorem WAt.del (h : WAt C w wb tb mb fp ov lv s first front n) {y : Int} (hp : PMap Tryz.prog 3 w' mb n (fun z => if z = y then none else fp z)) (ht : w.mapTurned w' mb) :
    WAt C w' wb tb mb (fun z => if z = y then none else fp z) ov lv { s with nodes := wupd s.nodes y none } first front n ∧ Mv C 1 7 w w' ∧ w'.heap.size = w.heap.size := by
  have hg := ht.grown
  have hsz : w'.heap.size = w.heap.size := by
    obtain ⟨es, clock, es', clock', hb, rfl⟩ := ht
    simp [ChangeMaps.setBlock]
  have e : ∀ {k c : Nat}, C k = c → c ≠ 0 → c ≠ 3 → w'.heap[k]? = w.heap[k]? := fun {k c} hk h0 h2 => hg.block k (h.lt0 (by omega)) (fun e => h2 (by injection e with e; rw [← hk, e, h.cm]))
  have er : ∀ k, TapeRow w' tb k → TapeRow w tb k := by
    obtain ⟨_, _, _, _, _, u, a6, _⟩ := h.tp
    exact row_of ((e h.ct (by decide) (by decide)).trans a6) (fun k hk => row_mk a6 hk)
  refine ⟨⟨fun k hk => h.top k (by omega), (e h.cw (by decide) (by decide)).trans h.blk, h.cw, h.tp.keepRow (Nat.le_of_eq hsz.symm) (e h.ct (by decide) (by decide)) (fun k hk => e (h.crow k hk) (by decide) (by decide)), h.ct, fun k hk => h.crow k (er k hk), hp, h.cm,
    h.ord.keep (fun k hk => e (h.co k hk) (by decide) (by decide)), h.co, h.opn.keep (fun k hk => e (h.cl k hk) (by decide) (by decide)), h.cl, fun k x hx => ?_, fun k hk => ?_, fun k j b hk hj => ?_, h.wfo⟩,
    Mv.grown hg (fun k hk => by injection hk with hk; rw [← hk, h.cm]; decide), hsz⟩
  · by_cases hky : k = y
    · subst hky; simp [wupd] at hx
    · have hx' : s.nodes k = some x := by simpa [wupd, hky] using hx
      obtain ⟨b, b1, b2, b3⟩ := h.nds k x hx'
      exact ⟨b, by simp only [if_neg hky]; exact b1, b2, (e b2 (by decide) (by decide)).trans b3⟩
  · by_cases hky : k = y
    · simp [hky]
    · simp only [if_neg hky]; exact h.non k (by simpa [wupd, hky] using hk)
  · by_cases h1 : k = y
    · simp [h1] at hk
    · by_cases h2 : j = y
      · simp [h2] at hj
      · simp only [if_neg h1] at hk; simp only [if_neg h2] at hj; exact h.inj k j b hk hj
end
/-- an item more: the row of items lies in new blocks -/
structure ItemsAt (C : Nat → Nat) (B : Nat) (w : World) (v : Value) (l : List (Int × List UInt8)) : Prop where
  own : w.ownsRow B 51 2 v l.length (itemsV l)
  col : ∀ k, v.ownBlock = some k → C k = 0
theorem ItemsAt.mv {C C' : Nat → Nat} {B : Nat} {w w' : World} {v : Value} {l : List (Int × List UInt8)} (h : ItemsAt C B w v l) (hm : Mv C 1 7 w w') (hp : Paint C C' w w') : ItemsAt C' B w' v l :=
  ⟨own_block h.own (fun k hk => hm.block k (h.own.lt k hk).2 (by rw [h.col k hk]; omega)), fun k hk => (hp.old k (h.own.lt k hk).2).trans (h.col k hk)⟩
/-- the row itself may turn -/
structure MvI (C : Nat → Nat) (B : Nat) (w w' : World) : Prop where
  os : w'.os = w.os
  tape : w'.tape = w.tape
  output : w'.output = w.output
  size : w.heap.size ≤ w'.heap.size
  block : ∀ k, k < w.heap.size → k < B ∨ C k ≠ 0 → w'.heap[k]? = w.heap[k]?
theorem ItemsAt.app {C : Nat → Nat} {B : Nat} {w w' : World} {v v' : Value} {l : List (Int × List UInt8)} {p : Int × List UInt8} {o : Obj} (h : ItemsAt C B w v l) (ht : ∀ k, w.heap.size ≤ k → C k = 0) (hap : App (w.alloc o) w' v v')
    (hown : w'.ownsRow B 51 2 v' (l.length + 1) (itemsV l ++ [.int .i64 p.1, .string (strL p.2)])) : ItemsAt C B w' v' (l ++ [p]) ∧ MvI C B w w' := by
  refine ⟨⟨by rw [itemsV_snoc, List.length_append]; exact hown, fun k hk => ?_⟩, ?_⟩
  · rcases hap.own with e | ⟨g, e, hg⟩
    · exact h.col k (e ▸ hk)
    · rw [e] at hk; injection hk with hk
      simp at hg
      exact ht k (by omega)
  · have hg := hap.grown
    refine ⟨hg.os, hg.tape, hg.output, Nat.le_trans (by simp) hg.size, fun k h1 h2 => (hg.block k (by simp; omega) (fun e => ?_)).trans (heap_alloc_old _ _ h1)⟩
    have e1 := (h.own.lt k e.symm).1
    have e2 := h.col k e.symm
    rcases h2 with h2 | h2 <;> omega
theorem Mv.thenI {C : Nat → Nat} {lo hi : Nat} {a b c : World} (h : Mv C lo hi a b) (k : MvI C a.heap.size b c) : Mv C lo hi a c :=
  ⟨k.os.trans h.os, k.tape.trans h.tape, k.output.trans h.output, Nat.le_trans h.size k.size, fun i h1 h2 => (k.block i (Nat.lt_of_lt_of_le h1 h.size) (.inl h1)).trans (h.block i h1 h2)⟩
/-- but for what was drawn the same world -/
def Eqv (w W : World) : Prop := ∃ d, W = { w with drawn := d }
theorem Eqv.below {w W : World} (h : Eqv w W) : Below w.heap.size w W := by obtain ⟨d, rfl⟩ := h; exact ⟨rfl, rfl, rfl, Nat.le_refl _, fun _ _ => rfl⟩
theorem Eqv.size {w W : World} (h : Eqv w W) : W.heap.size = w.heap.size := by obtain ⟨d, rfl⟩ := h; rfl
theorem Eqv.heap {w W : World} (h : Eqv w W) : W.heap = w.heap := by obtain ⟨d, rfl⟩ := h; rfl
theorem Eqv.trans {a b c : World} (h : Eqv a b) (k : Eqv b c) : Eqv a c := by obtain ⟨d, rfl⟩ := h; obtain ⟨d', rfl⟩ := k; exact ⟨_, rfl⟩
theorem Eqv.refl (w : World) : Eqv w w := ⟨w.drawn, rfl⟩
section
variable {C : Nat → Nat} {w : World} {wb tb mb : Nat} {fp : Int → Option Nat} {ov lv : Value} {s : WSt} {first front n : Nat}
theorem WAt.eqv (h : WAt C w wb tb mb fp ov lv s first front n) {W : World} (hq : Eqv w W) : WAt C W wb tb mb fp ov lv s first front n := h.below hq.below
theorem WAt.mvI (h : WAt C w wb tb mb fp ov lv s first front n) {w' : World} {B : Nat} (hm : MvI C B w w') : WAt C w' wb tb mb fp ov lv s first front n :=
  h.keep (Paint.refl h.top hm.size) hm.size (fun k hk h1 _ => hm.block k hk (.inr (by omega)))
theorem WAt.place (h : WAt C w wb tb mb fp ov lv s first front n) (W : World) (hq : Eqv w W) : Calls Tryz.prog 19 #[.pointer (some ⟨tb, 0, none⟩)] W fun e w' => e = .returned (.int .i64 s.all.length) ∧ Eqv w w' :=
  (tape_place (tb + 1) tb s.all first front W (h.eqv hq).tp).mono fun e w' ⟨h1, d, h2⟩ => ⟨h1, hq.trans (by subst h2; exact ⟨_, rfl⟩)⟩
theorem WAt.cutc (h : WAt C w wb tb mb fp ov lv s first front n) (a b : Int) (W : World) (hq : Eqv w W) : Calls Tryz.prog 28 #[.pointer (some ⟨tb, 0, none⟩), .int .i64 a, .int .i64 b] W fun e w' => e = .returned (.tuple #[.string (strL (cutW s.all front a b).1), .int .i64 (cutW s.all front a b).2]) ∧ Eqv w w' :=
  (tape_cut (tb + 1) tb s.all first front a b W (h.eqv hq).tp).mono fun e w' ⟨h1, d, h2⟩ => ⟨h1, hq.trans (by subst h2; exact ⟨_, rfl⟩)⟩
theorem WAt.dropc (h : WAt C w wb tb mb fp ov lv s first front n) (j : Nat) (hj : j ≤ s.all.length) (W : World) (hq : Eqv w W) : Calls Tryz.prog 29 #[.pointer (some ⟨tb, 0, none⟩), .int .i64 (j : Int)] W fun e w' => e = .returned (.int .i64 0) ∧ ∃ first' C', WAt C' w' wb tb mb fp ov lv s first' (max front j) n ∧ Mv C 1 7 w w' ∧ Paint C C' w w' := by
  refine (tape_drop3 (tb + 1) tb s.all first front j W (h.eqv hq).tp hj).mono ?_
  rintro e w' ⟨h1, f, h2, h3, h4⟩
  obtain ⟨g1, g2, g3⟩ := (h.eqv hq).tape' h2 h3 h4
  obtain ⟨d, rfl⟩ := hq
  exact ⟨h1, f, _, g1, ⟨g2.os, g2.tape, g2.output, g2.size, g2.block⟩, ⟨g3.old, g3.top⟩⟩
end
/-- what tell leaves -/
def RetTell (C : Nat → Nat) (w : World) (wb tb mb : Nat) (lv : Value) (s : WSt) (front n : Nat) (t : List (Int × List UInt8) × (Int → Option WN) × List Int) (e : Ending) (w' : World) : Prop :=
  ∃ C' fp' ov' first' ia ic, e = .returned (.slice ia t.1.length ic) ∧ WAt C' w' wb tb mb fp' ov' lv { s with nodes := t.2.1, order := t.2.2 } first' (wdropped t.2.1 t.2.2 s.all.length front) n ∧ ItemsAt C' w.heap.size w' (.slice ia t.1.length ic) t.1 ∧ Mv C 1 7 w w' ∧ Paint C C' w w'

set_option maxRecDepth 1000000 in
set_option maxHeartbeats 40000000 in
theorem tell_any {C : Nat → Nat} {w : World} {wb tb mb : Nat} {fp : Int → Option Nat} {ov lv : Value} {s : WSt} {first front n : Nat} (h : WAt C w wb tb mb fp ov lv s first front n) (hol : s.order.length ≤ 1048576)
    (hb : ∀ p ∈ live s.nodes s.order, front ≤ p.2.bgn ∧ p.2.bgn ≤ p.2.fin ∧ p.2.fin ≤ s.all.length) :
    Calls Tryz.prog 21 #[.pointer (some ⟨wb, 0, none⟩)] w fun e w' => RetTell C w wb tb mb lv s front n (tellW (fun x y => (s.all.drop x).take (y - x)) s.nodes s.order) e w' := by
  obtain ⟨i0, hi, hz0, hz1, hz2⟩ := info_parts infoItem
  obtain ⟨cut, hcut⟩ : ∃ cut : Nat → Nat → List UInt8, (fun x y => (s.all.drop x).take (y - x)) = cut := ⟨_, rfl⟩
  rw [hcut]
  obtain ⟨T, hT⟩ : ∃ T, tellW cut s.nodes s.order = T := ⟨_, rfl⟩
  rw [hT]
  have HT := Lib.hid hT
  have HC := Lib.hid hcut
  have HH := Lib.hid h
  have HB := Lib.hid hb
  have HF := Lib.hid (first_any h hol)
  have hsm := h.tp.small
  have HSM := Lib.hid hsm
  have hl0 : s.order.length ≤ 1048576 := hol
  have HOL := Lib.hid hol
  clear h hb hT hcut hol hsm
  go_enter Tryz.func21, Tryz.ntmps21
  go_wp2_with fail
  (with_reducible refine HF.out.mono ?_)
  rintro r w1 ⟨rfl, ⟨ov1, hW1⟩, hM1, hs1⟩
  have HW1 := Lib.hid (⟨hW1, hM1, hs1⟩ : _ ∧ _ ∧ _)
  clear hW1 hM1 hs1
  obtain ⟨o1, ho1⟩ : ∃ o1, wfirst s.nodes s.order = o1 := ⟨_, rfl⟩
  rw [ho1] at HW1
  have HO1 : Hid (wfirst s.nodes o1 = o1 ∧ tellW cut s.nodes o1 = T ∧ o1.length ≤ 1048576 ∧ ∀ p ∈ live s.nodes o1, front ≤ p.2.bgn ∧ p.2.bgn ≤ p.2.fin ∧ p.2.fin ≤ s.all.length) := Lib.hid ⟨by rw [← ho1, wfirst_idem], by rw [← ho1, tellW_first]; exact HT.out, by rw [← ho1]; exact Nat.le_trans (wfirst_sub _ _).length_le hl0, fun p hp => HB.out p (by rw [← ho1, wfirst_live] at hp; exact hp)⟩
  rw [ho1]
  clear ho1 hl0
  generalize hpv : headP fp o1 = q0
  have HPV := Lib.hid hpv
  clear hpv
  go_wp2_with fail
  go_loopw [3, 4] (fun iv pw wr => ∃ (f : Int → Option WN) (o : List Int) (fpr : Int → Option Nat) (ovr : Value) (its : List (Int × List UInt8)) (ia : Option Addr) (ic m : Nat) (q : Option Nat), iv = .slice ia m ic ∧ m + o.length ≤ 1048576 ∧ pw = ptrVal q ∧ Hid (q = headP fpr o) ∧ Hid (m = its.length ∧ WAt C wr wb tb mb fpr ovr lv { s with nodes := f, order := o } first front n ∧ wfirst f o = o ∧ T = (its ++ (tellW cut f o).1, (tellW cut f o).2) ∧ ItemsAt C w.heap.size wr (.slice ia m ic) its ∧ Mv C 1 7 w wr ∧ ∀ p ∈ live f o, front ≤ p.2.bgn ∧ p.2.bgn ≤ p.2.fin ∧ p.2.fin ≤ s.all.length)) (fun _ _ wr => ordLen wr wb)
  case atStart => exact ⟨s.nodes, o1, fp, ov1, [], none, 0, 0, q0, rfl, by have := HO1.out.2.2.1; simpa using this, rfl, Lib.hid HPV.out.symm, Lib.hid ⟨rfl, HW1.out.1, HO1.out.1, by rw [HO1.out.2.1]; rfl, ⟨World.ownsRow_nil _ _ _ _, fun k hk => by cases hk⟩, HW1.out.2.1, HO1.out.2.2.2⟩⟩
  case round =>
    obtain ⟨f, o, fpr, ovr, its, ia, ic, m, q, rfl, hmo, rfl, HPW, HR⟩ := hrel
    obtain ⟨hm, hW, hfo, hTo, hI, hMv, hbd⟩ := HR.out
    obtain ⟨m0, m1, m2, _, _, _⟩ := hW.cells
    have hsz := hMv.size
    cases o with
    | nil =>
      have hpw : q = none := HPW.out
      subst hpw
      simp only [ptrVal, Option.map_none]
      have HPL := Lib.hid hW.place
      have HM0 : Hid (∀ W, Eqv wr W → W.cell? ⟨wb, 0, none⟩ = some (.pointer (some ⟨tb, 0, none⟩))) := Lib.hid fun W hq => (hW.eqv hq).cells.1
      have HDROP := Lib.hid (hW.dropc s.all.length (Nat.le_refl _))
      have hT2 : T = (its, f, []) := by rw [hTo]; simp [tellW]
      have HT2 := Lib.hid hT2
      clear hW hfo hTo hI hMv hbd hT2
      go_wp2_with fail
      go_region_with (first | (go_at_call 19; (with_reducible refine (HPL.out _ ?_).mono ?_); exact ⟨_, rfl⟩; rintro e w3 ⟨rfl, hq3⟩; have z0 := HM0.out _ hq3) | (go_at_call 29; (with_reducible refine (HDROP.out _ hq3).mono ?_); rintro e w4 ⟨rfl, f4, C4, hW4, hM4, hP4⟩))
      all_goals
        have HX := Lib.hid (⟨hW4, hM4, hP4⟩ : _ ∧ _ ∧ _)
        clear hW4 hM4 hP4
        go_wp2_with fail
        go_ret
        have hR := HR.out
        rw [HT2.out]
        refine ⟨C4, fpr, ovr, f4, ia, ic, by rw [← hR.1]; rfl, ?_, ?_, hR.2.2.2.2.2.1.trans HX.out.2.1, ?_⟩
        · exact HX.out.1
        · have := hR.2.2.2.2.1; rw [hR.1] at this; exact this.mv HX.out.2.1 HX.out.2.2
        · exact (Paint.refl HH.out.top hsz).trans hsz HX.out.2.2
    | cons k o =>
      have hfk : ∃ x, f k = some x := by
        cases hx : f k with
        | some x => exact ⟨x, rfl⟩
        | none =>
          simp only [wfirst, hx] at hfo
          have := (wfirst_sub f o).length_le
          rw [hfo] at this
          simp at this; omega
      obtain ⟨x, hx⟩ := hfk
      obtain ⟨nb, e1, e2, e3⟩ := hW.nds k x hx
      have hpw : q = some nb := HPW.out.trans e1
      subst hpw
      simp only [ptrVal, Option.map_some]
      have hxb := hbd (k, x) (by rw [live_cons, hx]; exact List.mem_cons_self ..)
      simp only at hxb
      have hkw : Wf k := hW.wfo k (List.mem_cons_self ..)
      have HNB : Hid (∀ W, Eqv wr W → W.cell? ⟨nb, 0, none⟩ = some (.int .i64 x.truth) ∧ W.cell? ⟨nb, 1, none⟩ = some (.bool x.whole) ∧ W.cell? ⟨nb, 3, none⟩ = some (.int .i64 x.bgn) ∧ W.cell? ⟨nb, 4, none⟩ = some (.int .i64 x.fin)) := Lib.hid fun W hq => by
        obtain ⟨d, rfl⟩ := hq
        have e : ({ wr with drawn := d } : World).heap[nb]? = _ := e3
        simp only [cell_heap e]
        exact ⟨rfl, rfl, rfl, rfl⟩
      have HM0 : Hid (∀ W, Eqv wr W → W.cell? ⟨wb, 0, none⟩ = some (.pointer (some ⟨tb, 0, none⟩))) := Lib.hid fun W hq => (hW.eqv hq).cells.1
      obtain ⟨n0, n1, n3, n4⟩ := HNB.out wr (Eqv.refl _)
      have HTell : Hid (tellW cut f (k :: o) = if x.truth = 2 ∧ x.whole = true then ((k, cut x.bgn x.fin) :: (tellW cut (wupd f k none) o).1, (tellW cut (wupd f k none) o).2) else ([], f, k :: o)) := Lib.hid (by simp only [tellW, hx])
      by_cases hc : x.truth = 2 ∧ x.whole = true
      · obtain ⟨hc1, hc2⟩ := hc
        have hTo2 : tellW cut f (k :: o) = ((k, cut x.bgn x.fin) :: (tellW cut (wupd f k none) o).1, (tellW cut (wupd f k none) o).2) := by rw [HTell.out, if_pos ⟨hc1, hc2⟩]
        have HTo := Lib.hid (⟨hTo, hTo2⟩ : _ ∧ _)
        rw [hc1] at n0
        rw [hc2] at n1
        obtain ⟨pc, hpc⟩ : ∃ pc, cut x.bgn x.fin = pc := ⟨_, rfl⟩
        have hcw : cutW s.all front (x.bgn : Int) (x.fin : Int) = (pc, 0) := by
          unfold cutW
          rw [if_neg (by rintro (h | h | h) <;> omega), ← hpc, ← HC.out]
          rfl
        have HPC := Lib.hid hpc
        have HCUT : Hid (∀ d, Calls Tryz.prog 28 #[.pointer (some ⟨tb, 0, none⟩), .int .i64 (x.bgn : Int), .int .i64 (x.fin : Int)] (wr.drewN d) fun e w' => e = .returned (.tuple #[.string (strL pc), .int .i64 0]) ∧ ∃ d', w' = (wr.drewN d).drewN d') := Lib.hid fun d => by
          have := tape_cut (tb + 1) tb s.all first front (x.bgn : Int) (x.fin : Int) (wr.drewN d) (hW.drewN d).tp
          unfold RetCut at this
          simp only [hcw] at this
          exact this
        have HW := Lib.hid hW
        have hrd : ∀ w3, Eqv wr w3 → ∃ g off c, ovr = .slice (some ⟨g, off, none⟩) (o.length + 1) c ∧ g < w3.heap.size ∧ C g = 4 ∧ w3.cell? ⟨wb, 1, none⟩ = some (.map (some mb)) ∧ w3.cell? ⟨wb, 2, none⟩ = some (.slice (some ⟨g, off, none⟩) (o.length + 1) c) ∧ w3.cell? ⟨g, off, none⟩ = some (.int .i64 k) := fun w3 hq => by
          have h3 := HW.out.eqv hq
          have hqr := h3.ord
          simp only [List.length_cons, List.map_cons] at hqr
          obtain ⟨g, off, c, rfl, _, hgl, _, hcell⟩ := hqr.here
          obtain ⟨_, a1, a2, _⟩ := h3.cells
          exact ⟨g, off, c, rfl, hgl, h3.co g rfl, a1, a2, by have := hcell 0 (.int .i64 k) rfl; rwa [Nat.add_zero] at this⟩
        have HRD := Lib.hid hrd
        have HXB := Lib.hid hxb
        have HKW := Lib.hid hkw
        have HFK := Lib.hid hx
        clear hW hfo hTo hI hMv hbd hx e1 e2 e3 hc1 hc2 HTell hm hTo2 hpc hcw hrd hxb hkw
        generalize x.bgn = xb at *
        generalize x.fin = xf at *
        go_wp2_with fail
        go_quiet ((go_at_call 28; exact Calls.quiet_of (HCUT.out _)))
        have hq3 : Eqv wr (wr.drewN nq) := ⟨_, rfl⟩
        generalize wr.drewN nq = w3 at *
        clear HCUT
        have z0 := HM0.out _ hq3
        all_goals
          obtain ⟨g, off, c, hov, hgl, hgc, a1, a2, a3⟩ := HRD.out w3 hq3
          obtain ⟨L1, hL⟩ : ∃ L1, o.length + 1 = L1 := ⟨_, rfl⟩
          rw [hL] at a2
          have j0 : (0 : Int) < (L1 : Int) := by omega
          have j1 : 0 < L1 := by omega
          have HL1 := Lib.hid hL
          have HI3 : Hid (ItemsAt C w.heap.size w3 (.slice ia m ic) its ∧ WAt C w3 wb tb mb fpr ovr lv { s with nodes := f, order := k :: o } first front n ∧ w.heap.size ≤ w3.heap.size ∧ its.length + 1 ≤ 4294967296) := Lib.hid ⟨⟨own_block HR.out.2.2.2.2.1.own (fun j _ => by rw [hq3.heap]), HR.out.2.2.2.2.1.col⟩, HW.out.eqv hq3, by rw [hq3.size]; exact hsz, by have := HR.out.1; omega⟩
          have HQ3 := Lib.hid hq3
          have HG := Lib.hid (⟨hgl, hgc, hov⟩ : _ ∧ _ ∧ _)
          clear hL hq3 hgl hgc hov
          go_wp2_with (at_builtin; go_must ((refine wpList_app w3 (by rfl) _ _ 40 (by rfl) w.heap.size 51 i0 (.agg #[.int .i64 0, .string ⟨#[]⟩]) 2 24 Tryz.underlying40 hi hz0 hz1 hz2 (by rfl) (by decide) (.slice ia m ic) its.length _ (by rfl) HI3.out.1.own _ rfl 1 [.int .i64 k, .string (strL pc)] (by rfl) (by rfl) (by intro u hu; simp only [List.mem_cons, List.not_mem_nil, or_false] at hu; rcases hu with rfl | rfl <;> rfl) HI3.out.2.2.2 (by decide) HI3.out.2.2.1 (fun v7 w7 hown7 hap7 => ?_))))
          obtain ⟨hI7, hM7⟩ := HI3.out.1.app (p := (k, pc)) HI3.out.2.1.top hap7 hown7
          have hW7 := HI3.out.2.1.mvI hM7
          obtain ⟨a7, c7, rfl, hmc7, _, _⟩ := own_slice hI7.own
          obtain ⟨b0, b1, b2, _⟩ := hW7.cells
          have e9 := HG.out.2.2
          rw [HL1.out] at e9
          rw [e9] at b2
          have b3 : w7.cell? ⟨g, off, none⟩ = some (.int .i64 k) := by rw [World.cell?_of_block (a := ⟨g, off, none⟩) (hM7.block g HG.out.1 (.inr (by rw [HG.out.2.1]; decide)))]; exact a3
          have HPM7 : Hid (∀ W, Eqv w7 W → PMap Tryz.prog 3 W mb n fpr) := Lib.hid fun W hq => (hW7.eqv hq).map
          have HX7 := Lib.hid (⟨hI7, hM7, hW7⟩ : _ ∧ _ ∧ _)
          clear hown7 hap7 hI7 hM7 hW7 e9 a1 a2 a3 z0
          go_wp2_with fail
          go_region_law (first | (refine step_delete_ptr rfl (.tmp 56) (.tmp 62) 54 3 rfl 68 undInt undMap mb n fpr (by rfl) (HPM7.out _ ⟨_, rfl⟩) k (by rfl) (keyInt HKW.out) ?_; intro w8 hp8 ht8))
          all_goals
            obtain ⟨hW8, hM8, hs8⟩ := (HX7.out.2.2.eqv ⟨_, rfl⟩).del hp8 ht8
            have hl8 : (k :: o).length ≤ 1048576 := by omega
            have HF8 := Lib.hid (first_any hW8 hl8)
            have HX8 : Hid (WAt C w8 wb tb mb (fun z => if z = k then none else fpr z) ovr lv { s with nodes := wupd f k none, order := k :: o } first front n ∧ Mv C 1 7 w7 w8 ∧ w8.heap.size = w7.heap.size) := Lib.hid ⟨hW8, ⟨hM8.os, hM8.tape, hM8.output, hM8.size, hM8.block⟩, hs8⟩
            clear hW8 hM8 hs8 hp8 ht8 b0 b1 b2 b3 hl8
            go_wp2_with fail
            (with_reducible refine HF8.out.mono ?_)
            rintro r w9 ⟨rfl, ⟨ov9, hW9⟩, hM9, hs9⟩
            obtain ⟨o9, ho9⟩ : ∃ o9, wfirst (wupd f k none) (k :: o) = o9 := ⟨_, rfl⟩
            have HO9 := Lib.hid ho9
            simp only [ho9] at hW9 ⊢
            generalize hq9 : headP (fun z => if z = k then none else fpr z) o9 = q9
            have HQ9 := Lib.hid hq9
            have HX9 := Lib.hid (⟨hW9, hM9, hs9⟩ : _ ∧ _ ∧ _)
            have hwo : wfirst (wupd f k none) o = o9 := by rw [← ho9]; simp [wfirst, wupd]
            have ho9l : o9.length ≤ o.length := by rw [← hwo]; exact (wfirst_sub _ _).length_le
            have HWO := Lib.hid (⟨hwo, ho9l⟩ : _ ∧ _)
            clear hW9 hM9 hs9 ho9 hq9 hwo ho9l
            go_wp2_with fail
            go_roundw
            case rel =>
              have hR := HR.out
              refine ⟨wupd f k none, o9, _, ov9, its ++ [(k, pc)], a7, c7, its.length + 1, q9, rfl, by have := HWO.out.2; have := hR.1; simp only [List.length_cons] at hmo; omega, rfl, Lib.hid HQ9.out.symm, Lib.hid ⟨by simp, HX9.out.1, ?_, ?_, ?_, ?_, ?_⟩⟩
              · rw [← HWO.out.1, wfirst_idem]
              · rw [HTo.out.1, HTo.out.2, ← HWO.out.1, tellW_first, HPC.out]; simp
              · have e8 : (its ++ [(k, pc)]).length = its.length + 1 := by simp
                rw [← e8]
                exact (HX7.out.1.mv HX8.out.2.1 (Paint.refl HX7.out.2.2.top HX8.out.2.1.size)).mv HX9.out.2.1 (Paint.refl HX8.out.1.top HX9.out.2.1.size)
              · have e0 : Mv C 1 7 w w3 := hR.2.2.2.2.2.1.trans (Mv.below HQ3.out.below)
                exact ((e0.thenI HX7.out.2.1).trans HX8.out.2.1).trans HX9.out.2.1
              · intro p hp
                rw [← HWO.out.1, wfirst_live] at hp
                obtain ⟨p1, p2⟩ := live_mem.1 hp
                have hpk : p.1 ≠ k := fun e => by rw [e] at p2; simp [wupd] at p2
                exact hR.2.2.2.2.2.2 p (live_mem.2 ⟨List.mem_cons_of_mem _ p1, by simpa [wupd, hpk] using p2⟩)
            case measure =>
              have e1 := HX9.out.1.cells.2.2.1
              obtain ⟨a5, c5, e5, _⟩ := HX9.out.1.ord.slice
              obtain ⟨a6, c6, e6, _⟩ := HW.out.ord.slice
              have e2 := HW.out.cells.2.2.1
              rw [e5] at e1
              rw [e6] at e2
              simp only [ordLen, e1, e2]
              have := HWO.out.2
              simp only [List.length_cons]; omega
      · have hT2 : T = (its, f, k :: o) := by rw [hTo, HTell.out, if_neg hc]; simp
        have HT2 := Lib.hid hT2
        have HDROP := Lib.hid (hW.dropc x.bgn (Nat.le_trans hxb.2.1 hxb.2.2))
        have HX0 := Lib.hid hx
        have hor : x.truth = 2 ∧ x.whole = false ∨ (x.truth == 2) = false := by
          by_cases e : x.truth = 2
          · left; refine ⟨e, ?_⟩
            cases hw : x.whole with
            | false => rfl
            | true => exact absurd ⟨e, hw⟩ hc
          · right; simp [e]
        clear hW hfo hTo hI hMv hbd hT2 hx e1 e2 e3 hc HTell hm
        generalize hxt : x.truth = xt at *
        generalize hxw : x.whole = xw at *
        have HXB := Lib.hid hxb
        clear hxb
        have hfin : ∀ w4 C4 f4, WAt C4 w4 wb tb mb fpr ovr lv { s with nodes := f, order := k :: o } f4 (max front x.bgn) n → Mv C 1 7 wr w4 → Paint C C4 wr w4 → RetTell C w wb tb mb lv s front n T (.returned (.slice ia m ic)) w4 := fun w4 C4 f4 h1 h2 h3 => by
          have hR := HR.out
          rw [HT2.out]
          refine ⟨C4, fpr, ovr, f4, ia, ic, by rw [← hR.1], ?_, ?_, hR.2.2.2.2.2.1.trans h2, (Paint.refl HH.out.top hsz).trans hsz h3⟩
          · have e : wdropped f (k :: o) s.all.length front = max front x.bgn := by unfold wdropped; rw [live_cons, HX0.out]
            rw [e]; exact h1
          · have := hR.2.2.2.2.1; rw [hR.1] at this; exact this.mv h2 h3
        have HFIN := Lib.hid hfin
        clear hfin
        rcases hor with ⟨rfl, rfl⟩ | ht
        · go_wp2_with fail
          go_region_with (first | (go_at_call 29; (with_reducible refine (HDROP.out _ ?_).mono ?_); exact ⟨_, rfl⟩; rintro e w4 ⟨rfl, f4, C4, hW4, hM4, hP4⟩))
          all_goals
            have HX := Lib.hid (⟨hW4, hM4, hP4⟩ : _ ∧ _ ∧ _)
            clear hW4 hM4 hP4
            go_wp2_with fail
            go_ret
            exact HFIN.out _ _ _ HX.out.1 HX.out.2.1 HX.out.2.2
        · go_wp2_with fail
          go_region_with (first | (go_at_call 29; (with_reducible refine (HDROP.out _ ?_).mono ?_); exact ⟨_, rfl⟩; rintro e w4 ⟨rfl, f4, C4, hW4, hM4, hP4⟩))
          all_goals
            have HX := Lib.hid (⟨hW4, hM4, hP4⟩ : _ ∧ _ ∧ _)
            clear hW4 hM4 hP4
            go_wp2_with fail
            go_ret
            exact HFIN.out _ _ _ HX.out.1 HX.out.2.1 HX.out.2.2
end Go.Proofs.YtmnloeolacmemaaGreat
