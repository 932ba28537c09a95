/-
  ScanBad, where what it reads is of bulk at most 1048576: for every such argument the law returns true, and it reads as before: the row's statement and its card. Condition: the bulk bound of the statement itself.
-/
import Derived.Test.YtjdmndpadejegaaDoorMhB
import Derived.Test.YtjdmndpadejegaaDoorMgZC
import Derived.ChangeMaps5
namespace Go.Proofs.YtjdmndpadejegaaDoor
open Go.RowKit

def DrR (F G : Nat) (all : List UInt8) (en : Bool) (w w' : World) (rb sb : Nat) (s' : Dr) (o : Out) (fR fS : Nat → Prop) : Prop :=
  ∃ tks' S' fR' fS', DrJ F G all en w' rb sb s' (howO o) (plO all o) tks' S' fR' fS' ∧ Kp (fun k => fR k ∨ fS k) w w' ∧ (∀ k, fR' k → fR k ∨ w.heap.size ≤ k) ∧ ∀ k, fS' k → fS k ∨ w.heap.size ≤ k
set_option maxRecDepth 100000 in
set_option maxHeartbeats 8000000 in
theorem drain_any (w0 : World) (hL : Laid w0) (F G : Nat) (all : List UInt8) (hall : all.length ≤ 1073741824) (en : Bool) (w : World) (hw0 : Below w0.heap.size w0 w) (hG0 : w0.heap.size ≤ G) (hGw : G ≤ w.heap.size) (rb sb most : Nat) (hmost : most ≤ 1099511627776) (s : Dr) (how : Nat) (p : Pl) (tks : List (TokP × Value)) (S : Sn) (fR fS : Nat → Prop)
    (hJ : DrJ F G all en w rb sb s how p tks S fR fS) (hfr : s.fr ≤ all.length) (htk : s.toks.length ≤ s.fr) (s' : Dr) (o : Out) (hd : drvF F all en (most + 1) s = some (s', o)) :
    Calls Tryd.prog 19 #[.pointer (some ⟨rb, 0, none⟩), .pointer (some ⟨sb, 0, none⟩), .int .i64 (most : Int)] w fun e w' => e = .returned (.bool true) ∧ DrR F G all en w w' rb sb s' o fR fS := by
  have HJ0 : Hid (DrJ F G all en w rb sb s how p tks S fR fS ∧ drvF F all en (most + 1 - 0) s = some (s', o) ∧ s.fr ≤ all.length ∧ s.toks.length ≤ s.fr ∧ Kp (fun k => fR k ∨ fS k) w w ∧ (∀ k, fR k → fR k ∨ w.heap.size ≤ k) ∧ ∀ k, fS k → fS k ∨ w.heap.size ≤ k) := Lib.hid ⟨hJ, hd, hfr, htk, Kp.refl _ _, fun k e => .inl e, fun k e => .inl e⟩
  have HDOM : Hid (∀ w', Kp (fun k => fR k ∨ fS k) w w' → Below w0.heap.size w0 w') := Lib.hid fun w' k => hw0.trans (k.below hw0.size fun j e => e.elim (fun e => Nat.le_trans hG0 (hJ.run.dom j e).1) fun e => Nat.le_trans hG0 (hJ.sn.dom j e).1)
  clear hJ hd hfr htk
  go_enter Tryd.func19, Tryd.ntmps19
  go_wp2_with fail
  refine wp_loop_ghost (fun n a1 wr => ∃ i : Nat, slotOf a1.tmps 7 = .int .i64 (i : Int) ∧ n = most + 1 - i ∧ i ≤ most ∧ a1 = { tmps := frLp rb sb most i a1.tmps, defers := [] } ∧ Hid (∃ s1 how1 p1 tks1 S1 fR1 fS1, DrJ F G all en wr rb sb s1 how1 p1 tks1 S1 fR1 fS1 ∧ drvF F all en (most + 1 - i) s1 = some (s', o) ∧ s1.fr ≤ all.length ∧ s1.toks.length ≤ s1.fr ∧ Kp (fun k => fR k ∨ fS k) w wr ∧ (∀ k, fR1 k → fR k ∨ w.heap.size ≤ k) ∧ ∀ k, fS1 k → fS k ∨ w.heap.size ≤ k)) (most + 1) ?atStart ?round
  case atStart => exact ⟨0, rfl, rfl, Nat.zero_le _, rfl, Lib.hid ⟨_, _, _, _, _, _, _, HJ0.out⟩⟩
  case round =>
    rintro mk ⟨t, dd⟩ wr ⟨i, hi7, rfl, him, ha, HI⟩
    clear hi7 HJ0
    obtain ⟨ha1, ha2⟩ := Act.mk.inj ha
    subst dd
    rw [ha1]
    clear ha ha1
    dsimp only [frLp]
    have hle : (i : Int) ≤ (most : Int) := by omega
    refine wp_seq_k fun K hK => ?_
    have HK := Lib.hid hK
    clear hK
    go_wp2_with fail
    apply HK.out
    clear HK K
    refine wp_seq_k fun K hK => ?_
    have HK := Lib.hid hK
    clear hK
    refine wp_block ?_
    obtain ⟨s1, how1, p1, tks1, S1, fR1, fS1, hJ, hd, hfr, htk, hkp, hs1, hs2⟩ := HI.out
    obtain ⟨m, hm⟩ : ∃ m, most + 1 - i = m + 1 := ⟨most - i, by omega⟩
    rw [hm] at hd
    unfold drvF at hd
    refine drain_rnd w0 hL F G all hall en wr (HDOM.out wr hkp) hG0 (Nat.le_trans hGw hkp.size) rb sb most i s1 how1 p1 tks1 S1 fR1 fS1 hJ hfr htk _ _ (by rfl) ?_ ?_
    · intro tt fr' hn a4 w4 tks' S' fR' fS' ha4 hJ4 hk4 hr4 hs4
      rw [hn] at hd
      dsimp only at hd
      obtain ⟨_, n2, n3⟩ := next_e en hfr hn
      have hx : ∃ s1 how1 p1 tks1 S1 fR1 fS1, DrJ F G all en w4 rb sb s1 how1 p1 tks1 S1 fR1 fS1 ∧ drvF F all en (most + 1 - (i + 1)) s1 = some (s', o) ∧ s1.fr ≤ all.length ∧ s1.toks.length ≤ s1.fr ∧ Kp (fun k => fR k ∨ fS k) w w4 ∧ (∀ k, fR1 k → fR k ∨ w.heap.size ≤ k) ∧ ∀ k, fS1 k → fS k ∨ w.heap.size ≤ k := by
        have hss := hkp.size
        refine ⟨_, _, _, tks', S', fR', fS', hJ4, by rw [show most + 1 - (i + 1) = m by omega]; exact hd, n3, ?_, hkp.trans hk4 fun j e => ?_, fun j e => ?_, fun j e => ?_⟩
        · show (s1.toks ++ [tt]).length ≤ fr'
          rw [List.length_append, List.length_singleton]
          omega
        · rcases e with e | e
          · exact (hs1 j e).elim (fun h => .inl (.inl h)) .inr
          · exact (hs2 j e).elim (fun h => .inl (.inr h)) .inr
        · exact (hr4 j e).elim (hs1 j) fun h => .inr (by omega)
        · exact (hs4 j e).elim (hs2 j) fun h => .inr (by omega)
      have him2 : i + 1 ≤ most := by
        obtain ⟨_, _, _, _, _, _, _, _, hd2, _⟩ := hx
        apply Classical.byContradiction
        intro h
        rw [show most + 1 - (i + 1) = 0 by omega] at hd2
        cases hd2
      have HX := Lib.hid hx
      show K a4 w4
      apply HK.out
      clear hx HK HI hJ hd hfr htk hkp hs1 hs2 hJ4 hk4 hr4 hs4 hn n2 n3 hm
      obtain ⟨t4, dd⟩ := a4
      obtain ⟨ha1, rfl⟩ := Act.mk.inj ha4
      rw [ha1]
      clear ha4 ha1
      dsimp only [frLp]
      obtain ⟨J, hJJ⟩ : ∃ J : Int, (i : Int) = J := ⟨_, rfl⟩
      obtain ⟨J2, hJ2⟩ : ∃ J2 : Int, ((i + 1 : Nat) : Int) = J2 := ⟨_, rfl⟩
      have ewj : IntKind.i64.wrap (J + 1) = J2 := by rw [IntWalk.i64_in _ (by omega)]; omega
      rw [hJJ]
      have HE : Hid (J2 = ((i + 1 : Nat) : Int)) := Lib.hid hJ2.symm
      clear hJJ hJ2 hle
      go_wp2_with fail
      rw [HE.out]
      exact ⟨most + 1 - (i + 1), by omega, i + 1, rfl, rfl, him2, rfl, HX⟩
    · intro O fr' hO hn a2 w2 S' fS' h6 hd2 hJ2 hk2 hs3
      rw [hn] at hd
      have hd' : some (s1, O) = some (s', o) := by
        cases O with
        | tok t => exact hO.elim
        | wait => exact hd
        | bad k => exact hd
        | done => exact hd
      injection hd' with hd'
      obtain ⟨e1, e2⟩ := Prod.mk.inj hd'
      subst e1; subst e2
      have hss := hkp.size
      show bodyPost Tryd.prog Tryd.f19 (fun e w' => e = .returned (.bool true) ∧ DrR F G all en w w' rb sb s1 O fR fS) .ret a2 w2
      refine bodyPost_ret (results_tmp rfl _ _ _) hd2 ⟨congrArg Ending.returned h6, tks1, S', fR1, fS', hJ2, hkp.trans hk2 fun j e => ?_, hs1, fun j e => (hs3 j e).elim (hs2 j) fun h => .inr (by omega)⟩
      rcases e with e | e
      · exact (hs1 j e).elim (fun h => .inl (.inl h)) .inr
      · exact (hs2 j e).elim (fun h => .inl (.inr h)) .inr
end Go.Proofs.YtjdmndpadejegaaDoor

namespace Go.Proofs.YtjdmndpadejegaaDoor
open Go.RowKit

theorem wpList_qappg {P : Program} (w : World) {ops : Array Oper} {rest : List Oper} {o : Oper} {a : Act} {Q : Exit → Act → World → Prop} (hgd : Region.wanted o (yielded ops a.tmps) = true) (s x : Operand) (t : TypeId)
    (ho : o.op = .call { callee := .builtin .append, args := #[s, x], argTypes := #[t, t] })
    (e : TypeId) (i : TypeInfo) (z : Value) (bytes : Nat) (ht : P.underlying t = some (.slice e)) (hi : P.info? e = some i) (hz : i.zero = some z)
    (hsize : i.size = 1) (hby : i.bytes = bytes) (hzs : z.cells.size = 1)
    (v : Value) (n : Nat) (xs : List Value) (hs : a.eval s = v) (hown : QRow w e 1 v n xs)
    (A : Option Addr) (m c : Nat) (news : List Value) (hx : a.eval x = .slice A m c) (hl : Sl w A m news) (h1 : ∀ u ∈ news, u.oneCell' = true)
    (hn : n + m ≤ 4294967296) (hbb : bytes ≤ 16384)
    (h : ∀ v' w', QRow w' e 1 v' (n + m) (xs ++ news) → w.grownBy w' v.ownBlock → (v'.ownBlock = v.ownBlock ∨ ∃ g, v'.ownBlock = some g ∧ w.heap.size ≤ g) → (m = 0 → v' = v) → wpList P ops Q rest (a.put o.dst v') w') :
    wpList P ops Q (o :: rest) a w := by
  have hb : (n + m) * bytes ≤ 140737488355328 := Nat.le_trans (Nat.mul_le_mul hn hbb) (by decide)
  refine wpList_step fun K hK => ?_
  rw [if_pos hgd]
  obtain ⟨v', w', hr, r1, r2, r3, r4⟩ := run_qappn (P := P) (w := w) t o.type i z bytes ht hi hz hsize hby hzs hown A m c news hl h1 (by unfold maxLen; omega) hb
  unfold Oper.wp execOp
  simp only [ho, resolve, invoke, builtin, Sem.run_bind, Sem.run_pure, Result.andThen_ok, List.map_toArray, List.map_cons, List.map_nil, hs, hx, hr]
  exact hK _ _ (h v' w' r1 r2 r3 r4)
def Dr.zero : Dr := ⟨0, [], 0, []⟩
theorem DrOk.zero (N : Nat) : DrOk N .zero := ⟨Nat.zero_le _, fun e => (by cases e), fun q e => (by cases e), Nat.le_refl _⟩
def WhR (G : Nat) (all : List UInt8) (w' : World) (rb : Nat) (s' : Dr) (o : Out) : Prop :=
  ∃ tks fR, RunAt G w' rb all tks s'.stk s'.inn (howO o) (plO all o) fR ∧ tks.map (·.1) = s'.toks ∧ DrOk 1073741824 s'
theorem run_new {G : Nat} {w : World} (hG : G ≤ w.heap.size) (all : List UInt8) : RunAt G (w.alloc (.cells #[.slice none 0 0, .int .i64 0, .int .i64 0, .int .i64 0, .int .i64 0, .int .i64 0, .slice none 0 0, .int .i64 0] 61 (0, 0))) w.heap.size all [] [] 0 0 plz (· = w.heap.size) :=
  ⟨⟨.slice none 0 0, .slice none 0 0, heap_alloc_new w _, QRow.nil _ _ _ _, QRow.nil _ _ _ _, fun k e => (by cases e), fun k e => (by cases e), fun x hx => (by cases hx)⟩, rfl, fun k e => by subst e; exact ⟨hG, by simp⟩⟩
theorem run_start {F G : Nat} {bl : List UInt8} {w5 : World} {en : Bool} {fS : Nat → Prop} {S : Sn} (hF : bl.length < F) (hS : SnAt G w5 G S fS) (hSe : S = { Sn.new.push bl with ended := en }) (hG : G ≤ w5.heap.size) :
    DrJ F G bl en (w5.alloc (.cells #[.slice none 0 0, .int .i64 0, .int .i64 0, .int .i64 0, .int .i64 0, .int .i64 0, .slice none 0 0, .int .i64 0] 61 (0, 0))) w5.heap.size G .zero 0 plz [] S (· = w5.heap.size) fS where
  run := run_new hG bl
  tke := rfl
  sn := hS.below ((Below.refl _ _).alloc (Nat.le_refl _) _)
  ok := by
    have h : SnOk F (Sn.new.push bl) := (SnOk.new (by omega)).push bl (by show 0 + bl.length < F; omega)
    rw [hSe]
    exact ⟨h.cut, h.big, h.mk'⟩
  eall := by rw [hSe]; rfl
  efr := by rw [hSe]; rfl
  een := by rw [hSe]
  dj := fun k e hk => by have := (hS.dom k hk).2; omega
  dr := DrOk.zero _
set_option maxRecDepth 100000 in
set_option maxHeartbeats 8000000 in
theorem whole_any (w0 : World) (hL : Laid w0) (w : World) (hw0 : Below w0.heap.size w0 w) (F : Nat) (A : Option Addr) (m c : Nat) (bl : List UInt8) (hs : Sl w A m (u8s bl)) (hm : m ≤ 1073741824) (hF : m < F) (en : Bool) (s' : Dr) (o : Out) (hd : drvF F bl en (m + 1 + 1) .zero = some (s', o)) :
    Calls Tryd.prog 18 #[.slice A m c, .bool en] w fun e w' => ∃ rb, e = .returned (.tuple #[.pointer (some ⟨rb, 0, none⟩), .bool true]) ∧ WhR w.heap.size bl w' rb s' o ∧ Below w.heap.size w w' := by
  obtain ⟨i0, hi, hz0, hz1, hz2⟩ := info_parts u8one
  have hml : bl.length = m := by have := hs.len; rw [u8s_length] at this; omega
  have HN := Lib.hid (scn_new w w.heap.size (Nat.le_refl _))
  have HBS := Lib.hid hw0.size
  have HSL : Hid (∀ (w1 : World) (o : Obj), Below w.heap.size w w1 → Sl (w1.alloc o) A m (u8s bl)) := Lib.hid fun w1 o hb => hs.below (hb.alloc hb.size o)
  have HG : Hid (∀ (w1 w3 : World) (o : Obj) (v : Value), Below w.heap.size w w1 → SnAt w.heap.size w1 w.heap.size .new (· = w.heap.size) → (w1.alloc o).grownBy w3 v.ownBlock → v = .slice (some ⟨w1.heap.size, 0, none⟩) 0 0 → Below w.heap.size w w3 ∧ SnAt w.heap.size w3 w.heap.size .new (· = w.heap.size)) := Lib.hid fun w1 w3 o v hb hat hg hv => by
    subst hv
    have hlt := (hat.dom _ hat.mem).2
    refine ⟨(hb.alloc hb.size o).grown hg (Nat.le_trans hb.size (by simp)) (fun k hk => by have hk : some w1.heap.size = some k := hk; injection hk with hk; omega), ?_⟩
    refine hat.keep (by have := hg.size; simp at this; omega) fun k hk => ?_
    subst hk
    exact (hg.block _ (by simp; omega) (fun e => by have e : some w.heap.size = some w1.heap.size := e; injection e with e; omega)).trans (Below.heap_alloc _ o _ hlt)
  have HPU : Hid (∀ (w3 : World) a3 c3, SnAt w.heap.size w3 w.heap.size .new (· = w.heap.size) → Sl w3 a3 m (u8s bl) → Below w.heap.size w w3 → Calls Tryd.prog 10 #[.pointer (some ⟨w.heap.size, 0, none⟩), .slice a3 m c3] w3 fun e w' => e = .returned (.int .i64 0) ∧ ∃ fp', SnAt w.heap.size w' w.heap.size (Sn.new.push bl) fp' ∧ Below w.heap.size w w') := Lib.hid fun w3 a3 c3 hat hsl hb =>
    (push_ok hat (RCut.zero _) rfl a3 m c3 bl hsl (by show 0 + bl.length ≤ _; omega)).mono fun e w' ⟨h1, fp', h2, h3, _⟩ => ⟨h1, fp', h2, hb.trans ((h3.below (Nat.le_of_lt (hat.dom _ hat.mem).2) fun k hk => (hat.dom k hk).1))⟩
  have HEN : Hid (∀ (w3 : World) fp, SnAt w.heap.size w3 w.heap.size (Sn.new.push bl) fp → Below w.heap.size w w3 → Calls Tryd.prog 12 #[.pointer (some ⟨w.heap.size, 0, none⟩)] w3 fun e w' => e = .returned (.int .i64 0) ∧ ∃ fp', SnAt w.heap.size w' w.heap.size (Sn.new.push bl).fin fp' ∧ Below w.heap.size w w') := Lib.hid fun w3 fp hat hb =>
    (end_ok hat rfl).mono fun e w' ⟨h1, h2, h3⟩ => ⟨h1, fp, h2, hb.trans ((h3.below (Nat.le_of_lt (hat.dom _ hat.mem).2) fun k hk => (hat.dom k hk).1))⟩
  obtain ⟨M, hM⟩ : ∃ M : Int, ((m + 1 : Nat) : Int) = M := ⟨_, rfl⟩
  have eM : IntKind.i64.wrap ((m : Int) + 1) = M := by rw [IntWalk.i64_in _ (by omega)]; omega
  have HDR : Hid (∀ (w5 : World) fS, SnAt w.heap.size w5 w.heap.size { Sn.new.push bl with ended := en } fS → Below w.heap.size w w5 → Calls Tryd.prog 19 #[.pointer (some ⟨w5.heap.size, 0, none⟩), .pointer (some ⟨w.heap.size, 0, none⟩), .int .i64 M] (w5.alloc (.cells #[.slice none 0 0, .int .i64 0, .int .i64 0, .int .i64 0, .int .i64 0, .int .i64 0, .slice none 0 0, .int .i64 0] 61 (0, 0))) fun e w' => e = .returned (.bool true) ∧ WhR w.heap.size bl w' w5.heap.size s' o ∧ Below w.heap.size w w') := Lib.hid fun w5 fS hat hb => by
    rw [← hM]
    have hJ := run_start (F := F) (en := en) (by omega) hat rfl hb.size
    refine (drain_any w0 hL F w.heap.size bl (by omega) en _ (hw0.trans ((hb.alloc hb.size _).mono hw0.size)) hw0.size (Nat.le_trans hb.size (by simp)) w5.heap.size w.heap.size (m + 1) (by omega) .zero 0 plz [] _ _ _ hJ (Nat.zero_le _) (Nat.le_refl _) s' o hd).mono ?_
    rintro e w' ⟨h1, tks', S', fR', fS', h2, h3, h4, h5⟩
    refine ⟨h1, ⟨tks', fR', h2.run, h2.tke, h2.dr⟩, (hb.alloc hb.size _).trans ((h3.below (B := w.heap.size) (by have := hb.size; simp; omega) fun k e => e.elim (fun e => by have := hb.size; omega) fun e => (hat.dom k e).1))⟩
  clear hs hw0 hd hM hF
  cases en
  · go_enter Tryd.func18, Tryd.ntmps18
    go_wp2_with (first | (go_at_call 8; (with_reducible refine HN.out.mono ?_); rintro e1 w1 ⟨rfl, h1, hb1⟩; have HS1 := Lib.hid h1; have HB1 := Lib.hid hb1; clear h1 hb1) | (at_builtin; go_loud (refine wpList_qappg _ (by rfl) _ _ 26 (by rfl) 5 i0 (.int .u8 0) 1 Tryd.underlying26 hi hz0 hz1 hz2 (by decide) _ 0 [] (by rfl) (QRow.nil _ _ _ _) A m c (u8s bl) (by rfl) (HSL.out _ _ HB1.out) (by intro u hu; obtain ⟨b, _, rfl⟩ := List.mem_map.1 hu; rfl) (by omega) (by decide) (fun v3 w3 g1 g2 g3 g4 => ?_); rw [Nat.zero_add, List.nil_append] at g1; obtain ⟨hb3, hs3⟩ := HG.out _ _ _ _ HB1.out HS1.out g2 rfl; have HB3 := Lib.hid hb3; have HS3 := Lib.hid hs3; obtain ⟨a3, c3, rfl, _, hsl3⟩ := g1.sl; have HSL3 := Lib.hid hsl3; clear hb3 hs3 hsl3 g1 g2 g3 g4)) | (go_at_call 10; go_loud ((with_reducible refine (HPU.out _ _ _ HS3.out HSL3.out HB3.out).mono ?_); rintro e4 w4 ⟨rfl, fp4, h1, hb1⟩; have HS4 := Lib.hid h1; have HB4 := Lib.hid hb1; clear h1 hb1)) | (go_at_call 19; go_loud ((with_reducible refine (HDR.out _ _ HS4.out HB4.out).mono ?_); rintro e6 w6 ⟨rfl, h6, hb6⟩; have H6 := Lib.hid h6; have HB6 := Lib.hid hb6; clear h6 hb6)))
    go_ret2
    exact ⟨_, rfl, H6.out, HB6.out⟩
  · go_enter Tryd.func18, Tryd.ntmps18
    go_wp2_with (first | (go_at_call 8; (with_reducible refine HN.out.mono ?_); rintro e1 w1 ⟨rfl, h1, hb1⟩; have HS1 := Lib.hid h1; have HB1 := Lib.hid hb1; clear h1 hb1) | (at_builtin; go_loud (refine wpList_qappg _ (by rfl) _ _ 26 (by rfl) 5 i0 (.int .u8 0) 1 Tryd.underlying26 hi hz0 hz1 hz2 (by decide) _ 0 [] (by rfl) (QRow.nil _ _ _ _) A m c (u8s bl) (by rfl) (HSL.out _ _ HB1.out) (by intro u hu; obtain ⟨b, _, rfl⟩ := List.mem_map.1 hu; rfl) (by omega) (by decide) (fun v3 w3 g1 g2 g3 g4 => ?_); rw [Nat.zero_add, List.nil_append] at g1; obtain ⟨hb3, hs3⟩ := HG.out _ _ _ _ HB1.out HS1.out g2 rfl; have HB3 := Lib.hid hb3; have HS3 := Lib.hid hs3; obtain ⟨a3, c3, rfl, _, hsl3⟩ := g1.sl; have HSL3 := Lib.hid hsl3; clear hb3 hs3 hsl3 g1 g2 g3 g4)) | (go_at_call 10; go_loud ((with_reducible refine (HPU.out _ _ _ HS3.out HSL3.out HB3.out).mono ?_); rintro e4 w4 ⟨rfl, fp4, h1, hb1⟩; have HS4 := Lib.hid h1; have HB4 := Lib.hid hb1; clear h1 hb1)) | (go_at_call 12; (with_reducible refine (HEN.out _ _ HS4.out HB4.out).mono ?_); rintro e5 w5 ⟨rfl, fp5, h1, hb1⟩; have HS5 := Lib.hid h1; have HB5 := Lib.hid hb1; clear h1 hb1) | (go_at_call 19; go_loud ((with_reducible refine (HDR.out _ _ HS5.out HB5.out).mono ?_); rintro e6 w6 ⟨rfl, h6, hb6⟩; have H6 := Lib.hid h6; have HB6 := Lib.hid hb6; clear h6 hb6)))
    go_ret2
    exact ⟨_, rfl, H6.out, HB6.out⟩
end Go.Proofs.YtjdmndpadejegaaDoor

namespace Go.Proofs.YtjdmndpadejegaaDoor
open Go.RowKit

theorem fin_drv {F : Nat} {bl : List UInt8} {en : Bool} {s' : Dr} {o : Out} (h : Fin' F bl en .zero s' o) (m : Nat) (hm : bl.length = m) : drvF F bl en (m + 1 + 1) .zero = some (s', o) := by
  obtain ⟨l, h1, h2⟩ := h.reach.toks (Nat.zero_le _)
  have h3 := (h.reach.le (Nat.zero_le _)).2
  refine h.drv (Nat.zero_le _) _ ?_
  rw [h1, List.length_append]
  have : Dr.zero.toks.length = 0 := rfl
  have : Dr.zero.fr = 0 := rfl
  omega
theorem fin_out {F : Nat} {bl : List UInt8} {s s' : Dr} {o : Out} (h : Fin' F bl true s s' o) : o = .done ∨ ∃ k, o = .bad k := by
  have := h.last
  unfold nextN at this
  split at this
  · cases this; exact .inr ⟨_, rfl⟩
  · rw [if_neg (by decide)] at this
    have this := congrArg Prod.fst this
    dsimp only at this
    split at this
    · exact .inl this.symm
    · exact .inr ⟨_, this.symm⟩
  · have hno := h.no
    have this := congrArg Prod.fst this
    split at this
    · rw [← show _ = o from this] at hno; exact hno.elim
    · rw [← show _ = o from this] at hno; exact hno.elim
theorem whole_how (w0 : World) (hL : Laid w0) (w : World) (hw0 : Below w0.heap.size w0 w) (F : Nat) (A : Option Addr) (m c : Nat) (bl : List UInt8) (hs : Sl w A m (u8s bl)) (hm : m ≤ 1073741824) (hF : m < F) (en : Bool) (s' : Dr) (o : Out) (hf : Fin' F bl en .zero s' o) :
    Calls Tryd.prog 18 #[.slice A m c, .bool en] w fun e w' => ∃ rb, e = .returned (.tuple #[.pointer (some ⟨rb, 0, none⟩), .bool true]) ∧ rb < w'.heap.size ∧ w'.cell? ⟨rb, 1, none⟩ = some (.int .i64 (howO o)) ∧ w'.cell? ⟨rb, 2, none⟩ = some (.int .i64 (plO bl o).byte) ∧ Below w.heap.size w w' := by
  have hml : bl.length = m := by have := hs.len; rw [u8s_length] at this; omega
  refine (whole_any w0 hL w hw0 F A m c bl hs hm hF en s' o (fin_drv hf m hml)).mono ?_
  rintro e w' ⟨rb, h1, ⟨tks, fR, h2, _⟩, h3⟩
  obtain ⟨tv, ov, g1, _⟩ := h2.at'
  exact ⟨rb, h1, heap_lt g1, by rw [cell_heap g1]; rfl, by rw [cell_heap g1]; rfl, h3⟩
theorem Sl.pre {w : World} {A : Option Addr} {n : Nat} {xs : List Value} (h : Sl w A n xs) (k : Nat) (hk : k ≤ n) : Sl w A k (xs.take k) := by
  have hl := h.len
  refine ⟨by rw [List.length_take]; omega, fun i hi => ?_⟩
  rw [List.length_take] at hi
  obtain ⟨b, o, h1, h2, h3⟩ := h.cell i (by omega)
  exact ⟨b, o, h1, h2, by rw [h3, List.getElem_take]⟩
theorem u8s_take (l : List UInt8) (k : Nat) : (u8s l).take k = u8s (l.take k) := by simp [u8s]
set_option maxRecDepth 100000 in
set_option maxHeartbeats 8000000 in
theorem scanBad_any (w0 : World) (hL : Laid w0) (w : World) (hw0 : Below w0.heap.size w0 w) (A : Option Addr) (m c : Nat) (bl : List UInt8) (hs : Sl w A m (u8s bl)) (hm : m ≤ 1048576) (hc : m ≤ c) (hnil : A = none → c = 0) (B : Option Addr) (n d : Nat) (more : List UInt8) (hsB : Sl w B n (u8s more)) (hn : n ≤ 1048576) :
    Calls Tryd.prog 5 #[.slice A m c, .slice B n d] w fun e w' => e = .returned (.bool true) ∧ Below w.heap.size w w' := by
  obtain ⟨i0, hi, hz0, hz1, hz2⟩ := info_parts u8one
  have hml : bl.length = m := by have := hs.len; rw [u8s_length] at this; omega
  have hnl : more.length = n := by have := hsB.len; rw [u8s_length] at this; omega
  obtain ⟨s', o, hf⟩ := fin_ex 4194304 bl true bl.length .zero (by omega) (Nat.zero_le _)
  have HAW := Lib.hid (awake_any w0 hL w hw0)
  have HW1 : Hid (∀ w1, Below w.heap.size w w1 → Calls Tryd.prog 18 #[.slice A m c, .bool true] w1 fun e w' => ∃ rb, e = .returned (.tuple #[.pointer (some ⟨rb, 0, none⟩), .bool true]) ∧ rb < w'.heap.size ∧ w'.cell? ⟨rb, 1, none⟩ = some (.int .i64 (howO o)) ∧ w'.cell? ⟨rb, 2, none⟩ = some (.int .i64 (plO bl o).byte) ∧ Below w.heap.size w w') := Lib.hid fun w1 hb =>
    (whole_how w0 hL w1 (hw0.trans (hb.mono hw0.size)) 4194304 A m c bl (hs.below hb) (by omega) (by omega) true s' o hf).mono fun e w' ⟨rb, h1, h2, h3, h4, h5⟩ => ⟨rb, h1, h2, h3, h4, Below.tr hb h5⟩
  rcases fin_out hf with rfl | ⟨k, rfl⟩
  · replace HW1 : Hid (∀ w1, Below w.heap.size w w1 → Calls Tryd.prog 18 #[.slice A m c, .bool true] w1 fun e w' => ∃ rb, e = .returned (.tuple #[.pointer (some ⟨rb, 0, none⟩), .bool true]) ∧ rb < w'.heap.size ∧ w'.cell? ⟨rb, 1, none⟩ = some (.int .i64 3) ∧ w'.cell? ⟨rb, 2, none⟩ = some (.int .i64 0) ∧ Below w.heap.size w w') := HW1
    clear hs hsB hw0 hf hc hnil hml hnl hm hn
    go_enter Tryd.func5, Tryd.ntmps5
    go_wp2_with (first | (go_at_call 9; (with_reducible refine HAW.out.mono ?_); rintro e1 w1 ⟨rfl, hb1⟩; have HB1 := Lib.hid hb1; clear hb1) | (go_at_call 18; (with_reducible refine (HW1.out _ HB1.out).mono ?_); rintro e2 w2 ⟨rb, rfl, hl2, c1, c2, hb2⟩; have HB2 := Lib.hid hb2; clear hb2))
    go_ret
    exact ⟨rfl, HB2.out⟩
  · obtain ⟨hk, hk2, hk3, hf2, hf3⟩ := hf.bad (Nat.zero_le _)
    rw [hml] at hk hk3 hf3
    have HW2 : Hid (∀ w1, Below w.heap.size w w1 → Calls Tryd.prog 18 #[.slice A k c, .bool false] w1 fun e w' => ∃ rb, e = .returned (.tuple #[.pointer (some ⟨rb, 0, none⟩), .bool true]) ∧ rb < w'.heap.size ∧ w'.cell? ⟨rb, 1, none⟩ = some (.int .i64 1) ∧ Below w.heap.size w w') := Lib.hid fun w1 hb =>
      (whole_how w0 hL w1 (hw0.trans (hb.mono hw0.size)) 4194304 A k c (bl.take k) (by rw [← u8s_take]; exact (hs.below hb).pre k hk) (by omega) (by omega) false s' .wait hf2).mono fun e w' ⟨rb, h1, h2, h3, h4, h5⟩ => ⟨rb, h1, h2, h3, Below.tr hb h5⟩
    replace HW1 : Hid (∀ w1, Below w.heap.size w w1 → Calls Tryd.prog 18 #[.slice A m c, .bool true] w1 fun e w' => ∃ rb, e = .returned (.tuple #[.pointer (some ⟨rb, 0, none⟩), .bool true]) ∧ rb < w'.heap.size ∧ w'.cell? ⟨rb, 1, none⟩ = some (.int .i64 2) ∧ w'.cell? ⟨rb, 2, none⟩ = some (.int .i64 k) ∧ Below w.heap.size w w') := HW1
    have hkm : (k : Int) ≤ (m : Int) := by omega
    have hk0 : (0 : Int) ≤ (k : Int) := by omega
    have hkc : (k : Int) ≤ (c : Int) := by omega
    rcases Nat.lt_or_ge k m with hlt | hge
    · have hm0 : 0 < (u8s bl).length := by rw [u8s_length]; omega
      obtain ⟨b, off, rfl, hb0, hc0⟩ := hs.cell 0 (by omega)
      obtain ⟨k1, hk1⟩ : ∃ k1, k + 1 = k1 := ⟨_, rfl⟩
      have e57 : ((k : Int) == (m : Int)) = false := by simp; omega
      have eK : IntKind.i64.wrap ((k : Int) + 1) = (k1 : Int) := by rw [IntWalk.i64_in _ (by omega)]; omega
      have hk1c : (k1 : Int) ≤ (c : Int) := by omega
      have hk10 : (0 : Int) ≤ (k1 : Int) := by omega
      have hx := hf3 hlt more false
      rw [hk1] at hx
      have hlen : (bl.take k1 ++ more).length = k1 + n := by rw [List.length_append, List.length_take]; omega
      have HW3 : Hid (∀ w1 a3 c3, Below w.heap.size w w1 → Sl w1 a3 (k1 + n) (u8s (bl.take k1 ++ more)) → Calls Tryd.prog 18 #[.slice a3 (k1 + n) c3, .bool false] w1 fun e w' => ∃ rb, e = .returned (.tuple #[.pointer (some ⟨rb, 0, none⟩), .bool true]) ∧ rb < w'.heap.size ∧ w'.cell? ⟨rb, 1, none⟩ = some (.int .i64 2) ∧ w'.cell? ⟨rb, 2, none⟩ = some (.int .i64 k) ∧ Below w.heap.size w w') := Lib.hid fun w1 a3 c3 hb hs3 =>
        (whole_how w0 hL w1 (hw0.trans (hb.mono hw0.size)) 4194304 a3 (k1 + n) c3 _ hs3 (by omega) (by omega) false s' (.bad k) hx).mono fun e w' ⟨rb, h1, h2, h3, h4, h5⟩ => ⟨rb, h1, h2, h3, h4, Below.tr hb h5⟩
      have HSL : Hid (∀ (w1 : World) (o : Obj), Below w.heap.size w w1 → Sl (w1.alloc o) (some ⟨b, off, none⟩) k1 (u8s (bl.take k1))) := Lib.hid fun w1 o hb => by rw [← u8s_take]; exact (hs.below (hb.alloc hb.size o)).pre k1 (by omega)
      have HSB : Hid (∀ (w1 : World), Below w.heap.size w w1 → Sl w1 B n (u8s more)) := Lib.hid fun w1 hb => hsB.below hb
      have HG : Hid (∀ (w1 w3 : World) (o : Obj) (v : Value), Below w.heap.size w w1 → (w1.alloc o).grownBy w3 v.ownBlock → v = .slice (some ⟨w1.heap.size, 0, none⟩) 0 0 → Below w.heap.size w w3) := Lib.hid fun w1 w3 o v hb hg hv => by
        subst hv
        exact (hb.alloc hb.size o).grown hg (Nat.le_trans hb.size (by simp)) (fun k hk => by have hk : some w1.heap.size = some k := hk; injection hk with hk; have := hb.size; omega)
      have HG2 : Hid (∀ (w1 w3 w4 : World) (o : Obj) (v v3 : Value), Below w.heap.size w w1 → Below w.heap.size w w3 → v = .slice (some ⟨w1.heap.size, 0, none⟩) 0 0 → (v3.ownBlock = v.ownBlock ∨ ∃ g, v3.ownBlock = some g ∧ (w1.alloc o).heap.size ≤ g) → w3.grownBy w4 v3.ownBlock → Below w.heap.size w w4) := Lib.hid fun w1 w3 w4 o v v3 hb hb3 hv ho hg => by
        subst hv
        refine hb3.grown hg hb3.size fun k hk => ?_
        have := hb.size
        rcases ho with ho | ⟨g, ho, hgg⟩
        · rw [ho] at hk; have hk : some w1.heap.size = some k := hk; injection hk with hk; omega
        · rw [ho] at hk; injection hk with hk; simp at hgg; omega
      have HK1 : Hid (k1 ≤ 1048576 + 1) := Lib.hid (by omega)
      have HN := Lib.hid hn
      clear hb0 hc0 hs hsB hw0 hf hf2 hf3 hx hc hnil hml hnl hm0 hlen hk hk2 hk3 hk1 hlt hn
      go_enter Tryd.func5, Tryd.ntmps5
      go_wp2_with (first | (go_at_call 9; (with_reducible refine HAW.out.mono ?_); rintro e1 w1 ⟨rfl, hb1⟩; have HB1 := Lib.hid hb1; clear hb1) | (go_at_call 18; (with_reducible refine (HW1.out _ HB1.out).mono ?_); rintro e2 w2 ⟨rb, rfl, hl2, c1, c2, hb2⟩; have HB2 := Lib.hid hb2; clear hb2) | (go_at_call 18; (with_reducible refine (HW2.out _ HB2.out).mono ?_); rintro e3 w3 ⟨rb3, rfl, hl3, c13, hb3⟩; have HB3 := Lib.hid hb3; clear hb3) | (at_builtin; refine wpList_qappn _ rfl _ _ 26 (by rfl) 5 i0 (.int .u8 0) 1 Tryd.underlying26 hi hz0 hz1 hz2 (by decide) _ 0 [] (by rfl) (QRow.nil _ _ _ _) (some ⟨b, off, none⟩) k1 c (u8s (bl.take k1)) (by rfl) (HSL.out _ _ HB3.out) (by intro u hu; obtain ⟨b, _, rfl⟩ := List.mem_map.1 hu; rfl) (by have := HK1.out; omega) (by decide) (fun v4 w4 g1 g2 g3 g4 => ?_); rw [Nat.zero_add, List.nil_append] at g1; have HB4 := Lib.hid (HG.out _ _ _ _ HB3.out g2 rfl); have HB5 := Lib.hid (fun w5 => HG2.out _ w4 w5 _ _ v4 HB3.out HB4.out rfl g3); obtain ⟨a4, c4, rfl, _⟩ := g1.slice; have HQ4 := Lib.hid g1; clear g1 g2 g3 g4) | (at_builtin; go_loud (refine wpList_qappn _ rfl _ _ 26 (by rfl) 5 i0 (.int .u8 0) 1 Tryd.underlying26 hi hz0 hz1 hz2 (by decide) _ k1 (u8s (bl.take k1)) (by rfl) HQ4.out B n d (u8s more) (by rfl) (HSB.out _ HB4.out) (by intro u hu; obtain ⟨b, _, rfl⟩ := List.mem_map.1 hu; rfl) (by have := HK1.out; have := HN.out; omega) (by decide) (fun v5 w5 g1 g2 g3 g4 => ?_); rw [show u8s (bl.take k1) ++ u8s more = u8s (bl.take k1 ++ more) by simp [u8s]] at g1; have HBB := Lib.hid (HB5.out w5 g2); obtain ⟨a5, c5, rfl, _, hs5⟩ := g1.sl; have HS5 := Lib.hid hs5; clear g1 g2 g3 g4 hs5)) | (go_at_call 18; (with_reducible refine (HW3.out _ _ _ HBB.out HS5.out).mono ?_); rintro e6 w6 ⟨rb6, rfl, hl6, c16, c26, hb6⟩; have HB6 := Lib.hid hb6; clear hb6))
      go_ret
      exact ⟨rfl, HB6.out⟩
    · have hkeq : k = m := by omega
      have e57 : ((k : Int) == (m : Int)) = true := by simp; omega
      rcases A with _ | ⟨b, off, fl⟩
      · obtain rfl := hnil rfl
        obtain rfl : k = 0 := by omega
        obtain rfl : m = 0 := by omega
        clear hs hsB hw0 hf hf2 hf3 hc hml hnl hk hk2 hk3 hge hkeq hn hm hnil
        go_enter Tryd.func5, Tryd.ntmps5
        go_wp2_with (first | (go_at_call 9; (with_reducible refine HAW.out.mono ?_); rintro e1 w1 ⟨rfl, hb1⟩; have HB1 := Lib.hid hb1; clear hb1) | (go_at_call 18; (with_reducible refine (HW1.out _ HB1.out).mono ?_); rintro e2 w2 ⟨rb, rfl, hl2, c1, c2, hb2⟩; have HB2 := Lib.hid hb2; clear hb2) | (go_at_call 18; (with_reducible refine (HW2.out _ HB2.out).mono ?_); rintro e3 w3 ⟨rb3, rfl, hl3, c13, hb3⟩; have HB3 := Lib.hid hb3; clear hb3))
        go_ret
        exact ⟨rfl, HB3.out⟩
      · skip
        clear hs hsB hw0 hf hf2 hf3 hc hml hnl hk hk2 hk3 hge hkeq hn hm hnil
        go_enter Tryd.func5, Tryd.ntmps5
        go_wp2_with (first | (go_at_call 9; (with_reducible refine HAW.out.mono ?_); rintro e1 w1 ⟨rfl, hb1⟩; have HB1 := Lib.hid hb1; clear hb1) | (go_at_call 18; (with_reducible refine (HW1.out _ HB1.out).mono ?_); rintro e2 w2 ⟨rb, rfl, hl2, c1, c2, hb2⟩; have HB2 := Lib.hid hb2; clear hb2) | (go_at_call 18; (with_reducible refine (HW2.out _ HB2.out).mono ?_); rintro e3 w3 ⟨rb3, rfl, hl3, c13, hb3⟩; have HB3 := Lib.hid hb3; clear hb3))
        go_ret
        exact ⟨rfl, HB3.out⟩

end Go.Proofs.YtjdmndpadejegaaDoor

namespace Go.Proofs.YtjdmndpadejegaaDoor.scanBad
open Go.ChangeShapes Go.WideShapes Go.ChangeAt Go.RowKit
open Go.ChangeMaps (open_string shut_string)

theorem at_laid {W : World} (hL : laidMetH Tryd.prog Rows.scanBadUptoRow.laid W) : RangesAt W 0 ∧ Lib.Utf8Tabs 1 2 W := at_laid3 hL

set_option maxRecDepth 100000 in
theorem bytes_nil {H : Type} {enc : TypeId × Value → H} {W : World} {n c : Nat} {d : DataW H} {p : List MemPlace} (h : DataW.Trod enc Tryd.prog W 0 (fun _ => true) true 26 (.slice none n c) d p) : c = 0 := by
  obtain ⟨fuel, hf⟩ := h
  rcases open_ints Tryd.underlying26 Tryd.underlying5 cellsU8 hf with ⟨hcs, hx⟩ | ⟨a, len', cap', zs, hcs, _, hl, hm, hz, hx, hcell, hwz⟩
  · simp [Value.cells] at hcs
    exact hcs.2
  · simp [Value.cells] at hcs
set_option maxRecDepth 100000 in
theorem contract (H : Type) (enc : TypeId × Value → H) (W : World) (base : Nat) (args : Array Value) (ds gs : List (DataW H)) (before : List MemPlace)
    (hval : ∀ (j : Nat) t v, Tryd.f5.params[j]? = some t → args[j]? = some v → Value.okWide Tryd.prog W .any base t v)
    (hW : DataW.Whole enc Tryd.prog Tryd.f5.params.toList Rows.scanBadSpec.vars false W args.toList ds gs before) (hk : Rows.uptoSmall H (ds ++ gs) = true) (hL : laidMetH Tryd.prog Rows.scanBadUptoRow.laid W) :
    Calls Tryd.prog 5 args W fun e W' => ∃ v, e = .returned v ∧ Rows.scanBadSpec.post enc Tryd.prog Tryd.f5 false true false false W args v W' := by
  have hW' := hW
  obtain ⟨p, q, hA0, hV, rfl, hfz, hnd⟩ := hW
  have hA : DataW.TrodAll enc Tryd.prog W 0 (fun _ => true) true Tryd.f5.params.toList args.toList ds p := hA0
  rw [Tryd.params5] at hA hval
  obtain ⟨v0, vs0, d0, ds0, p0, q0, hargs, rfl, rfl, h0, r0⟩ := trodAll_cons hA
  obtain ⟨v1, vs1, d1, ds1, p1, q1, rfl, rfl, rfl, h1, r1⟩ := trodAll_cons r0
  obtain ⟨rfl, rfl, rfl⟩ := trodAll_nil r1
  obtain rfl : args = #[v0, v1] := by cases args; simp_all
  obtain ⟨rfl, rfl⟩ := trodVars_none hV
  obtain ⟨a0, n0, c0, l0, rfl, hs0, hc0, hn0⟩ := bytes_open (hval 0 26 v0 rfl rfl) h0
  obtain ⟨a1, n1, c1, l1, rfl, hs1, hc1, hn1⟩ := bytes_open (hval 1 26 v1 rfl rfl) h1
  clear hA0
  simp only [List.append_nil] at hW' hk
  have hb : Rows.uptoBulkAll [d0, d1] ≤ 1048576 := of_decide_eq_true hk
  simp only [Rows.uptoBulkAll] at hb
  have hlt0 : ∀ x ∈ p0, x.block < W.heap.size := fun x hx => hW'.lt x (by simp [hx])
  have hlt1 : ∀ x ∈ p1, x.block < W.heap.size := fun x hx => hW'.lt x (by simp [hx])
  obtain ⟨hL1, hL2⟩ := at_laid hL
  refine (scanBad_any W ⟨hL1, hL2⟩ W (Below.refl _ _) a0 n0 c0 l0 hs0 (by omega) hc0 (fun e => by subst e; exact bytes_nil h0) a1 n1 c1 l1 hs1 (by omega)).mono fun e W' ⟨he, bel⟩ => ?_
  subst he
  refine ⟨_, rfl, _, _, _, [], p0 ++ (p1 ++ []), [], hW', ?_, ?_, rfl, bel.frame _, fun h => by cases h⟩
  · exact trodAll_cons_mk (shut_bool Tryd.underlying4 _) trodAll_mk0
  · exact trodAll_cons_mk (Below.trod laidOut (by kernel_rfl) (of_decide_eq_true (by kernel_rfl)) h0 bel hlt0) (trodAll_cons_mk (Below.trod laidOut (by kernel_rfl) (of_decide_eq_true (by kernel_rfl)) h1 bel hlt1) trodAll_mk0)

theorem reads (os : Os) {H : Type} (enc : TypeId × Value → H) : ∃ places, DataW.whole enc Tryd.prog ((laidWorld3 os).forCall (fun _ _ => 0) ⟨#[], #[.slice none 0 0, .slice none 0 0], []⟩).memory Tryd.f5.params.toList Rows.scanBadSpec.vars false (#[.slice none 0 0, .slice none 0 0] : Array Value).toList 8 = some ([.nil, .nil], [], places) :=
  ⟨[], by kernel_rfl⟩

set_option maxRecDepth 100000 in
theorem lifted (os : Os) (started : os.Started) (H : Type) (enc : TypeId × Value → H) (F : Stop.Interp) :
    ReturnsInHanded {} Tryd.checked os 5 .any ((Rows.OpenSpec.upto Rows.scanBadSpec).preRow enc Tryd.prog Tryd.f5 Rows.scanBadUptoRow.domain false Rows.scanBadUptoRow.laid) (((Rows.OpenSpec.upto Rows.scanBadSpec).at F).post enc Tryd.prog Tryd.f5 false true false false) := by
  obtain ⟨places, hx⟩ := reads os enc
  refine returnsInHanded_of_row (C := Tryd.checked) (s := Rows.OpenSpec.upto Rows.scanBadSpec) own' started (by kernel_rfl) Tryd.func5
    (witness_row_atRef (enc := enc) (C := Tryd.checked) false (laidWorld3 os) #[.slice none 0 0, .slice none 0 0] rfl (by kernel_rfl) (by kernel_rfl) (by kernel_rfl)
      (OpenSpec.preRow_of_cond 8 hx (by kernel_rfl) (fun k hk => by cases hk; kernel_rfl) (by kernel_rfl) (laid_met3 os _))) ?_
  intro W base args ds gs before hval hW _ hcond _ hL _ _
  exact contract H enc W base args ds gs before hval hW (hcond _ rfl) hL

theorem proved : Rows.ScanBadUptoSaid :=
  OpenClaim.holds_of_cond 5 Tryd.f5 rfl rfl rfl rfl rfl rfl rfl ⟨rfl, rfl, rfl, rfl, rfl⟩ rfl rfl rfl rfl rfl (by kernel_rfl) Tryd.func5 (by kernel_rfl)
    (of_decide_eq_true (by kernel_rfl)) (by unfold Func.isWrapper; first | (rw [if_pos (by decide +kernel)]; kernel_rfl) | (rw [if_neg (by decide +kernel)]; exact ⟨rfl, rfl⟩))
    (fun os started H enc _ F => by rw [OpenClaim.pre_eq_preRow]; exact lifted os started H enc F)

theorem plain (f : FuncId) (fn : Func) (hf : Tryd.pinned.checked.prog.funcNamed "gimlet/gimletlaw06.ScanBad" = some f) (hfn : Tryd.pinned.checked.prog.funcs[f]? = some fn) :
    false = Tryd.pinned.checked.prog.looks [] ∧ ∀ (j : Nat) t, fn.params[j]? = some t → Tryd.pinned.checked.prog.wantsStandIn t = false := by
  obtain rfl : f = 5 := Option.some.inj ((show Tryd.prog.funcNamed "gimlet/gimletlaw06.ScanBad" = some 5 by kernel_rfl).symm.trans hf) |>.symm
  obtain rfl : fn = Tryd.f5 := (Option.some.inj (Tryd.func5.symm.trans hfn)).symm
  refine ⟨by kernel_rfl, fun j t ht => ?_⟩
  rw [Tryd.params5] at ht
  have hm := Array.mem_of_getElem? ht
  obtain rfl : t = 26 := by simpa using hm
  exact (show Tryd.prog.wantsStandIn 26 = false by kernel_rfl)

theorem card : Rows.ScanBadUptoCardSaid :=
  Claim7.holds_tied_plain_at .later [] _ _ _ _ proved (fun _ h => by cases h) (by kernel_rfl) (fun _ h => by cases h) scanBadUpto_row_tie rfl ⟨rfl, rfl⟩ (by kernel_rfl) rfl plain (by kernel_rfl)
#print axioms card
end Go.Proofs.YtjdmndpadejegaaDoor.scanBad
