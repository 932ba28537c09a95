/-
  The scanner's cursor: its text; put.
-/
import Derived.Test.YtjdmndpadejegaaDoorMgG
import Derived.Test.YtjdmndpadejegaaDoorMgK
namespace Go.Proofs.YtjdmndpadejegaaDoor
open Go.RowKit

def encs (t : List Nat) : List UInt8 := t.flatMap encU
theorem encs_app (t u : List Nat) : encs (t ++ u) = encs t ++ encs u := by simp [encs]
theorem encs_one (r : Nat) : encs [r] = encU r := by simp [encs]
theorem encs_len (t : List Nat) : (encs t).length ≤ 4 * t.length := by
  induction t with
  | nil => simp [encs]
  | cons r t ih =>
    have e : encs (r :: t) = encU r ++ encs t := by simp [encs]
    have := (encN_ne r).2
    rw [e, List.length_append, List.length_cons, show (encU r).length = (encN r).length by simp [encU]]
    omega
theorem encs_nil (t : List Nat) : encs t = [] ↔ t = [] := by
  constructor
  · intro h
    rcases t with _ | ⟨r, t⟩
    · rfl
    · exfalso
      have := (encN_ne r).1
      have h2 := congrArg List.length h
      have e : encs (r :: t) = encU r ++ encs t := by simp [encs]
      rw [e, List.length_append, show (encU r).length = (encN r).length by simp [encU]] at h2
      rw [List.length_nil] at h2; omega
  · rintro rfl; rfl
structure TX (G cb : Nat) (a : Option Addr) (w : World) (v : Value) (t : List Nat) : Prop where
  own : w.ownsRow G 5 1 v (encs t).length (u8s (encs t))
  chrs : ∀ r ∈ t, chr r
  ne : v.ownBlock ≠ some cb
  ne2 : ∀ b o, a = some ⟨b, o, none⟩ → v.ownBlock ≠ some b
  le : G ≤ w.heap.size
theorem TX.keep {S : Nat → Prop} {G cb : Nat} {a : Option Addr} {w w' : World} {v : Value} {t : List Nat} (h : TX G cb a w v t) (k : Kp S w w') (hn : ∀ k, v.ownBlock = some k → ¬ S k) : TX G cb a w' v t :=
  ⟨k.own h.own hn, h.chrs, h.ne, h.ne2, Nat.le_trans h.le k.size⟩
theorem TX.keep1 {G cb : Nat} {a : Option Addr} {w w' : World} {v : Value} {t : List Nat} (h : TX G cb a w v t) (k : Kp (· = cb) w w') : TX G cb a w' v t :=
  h.keep k fun k hk e => h.ne (by rw [hk, e])
def SV (cb : Nat) (v : Value) (k : Nat) : Prop := k = cb ∨ v.ownBlock = some k
def InP (v v' : Value) (t t' : List Nat) : Prop := (v' = v ∧ t' = t) ∨ ∃ g cp n k u, v = .slice (some ⟨g, 0, none⟩) n cp ∧ v' = .slice (some ⟨g, 0, none⟩) (n + k) cp ∧ t' = t ++ u
structure TS (G cb : Nat) (a : Option Addr) (w w' : World) (v v' : Value) (t t' : List Nat) : Prop where
  tx : TX G cb a w' v' t'
  old : TX G cb a w' v t
  kp : Kp (SV cb v) w w'
  own : InP v v' t t' ∨ ∃ g, v'.ownBlock = some g ∧ w.heap.size ≤ g
theorem TS.refl {G cb : Nat} {a : Option Addr} {w w' : World} {v : Value} {t : List Nat} (h : TX G cb a w v t) (k : Kp (· = cb) w w') : TS G cb a w w' v v t t :=
  ⟨h.keep1 k, h.keep1 k, k.mono fun _ _ e => .inl e, .inl (.inl ⟨rfl, rfl⟩)⟩
theorem TX.pre {G cb : Nat} {a : Option Addr} {w w1 : World} {v v1 : Value} {t t1 : List Nat} (h : TX G cb a w v t) (hi : InP v v1 t t1) (h1 : TX G cb a w1 v1 t1) : TX G cb a w1 v t := by
  rcases hi with ⟨rfl, rfl⟩ | ⟨g, cp, n, k, u, rfl, rfl, rfl⟩
  · exact h1
  · refine ⟨?_, h.chrs, h.ne, h.ne2, h1.le⟩
    have hn : n = (encs t).length := by
      rcases h.own.2 with ⟨e, _⟩ | ⟨g', cap, cur, e, _⟩
      · cases e
      · injection e
    have h3 := h1.own
    rw [encs_app, u8s, List.map_append, List.length_append] at h3
    have hk : n + k = (encs t).length + (encs u).length := by
      rcases h3.2 with ⟨e, _⟩ | ⟨g', cap, cur, e, _⟩
      · cases e
      · injection e
    have hku : k = (encs u).length := by omega
    subst hn
    subst hku
    exact own_pre h3 (by simp [u8s])
theorem InP.trans {v v1 v2 : Value} {t t1 t2 : List Nat} (h : InP v v1 t t1) (h' : InP v1 v2 t1 t2) : InP v v2 t t2 := by
  rcases h with ⟨rfl, rfl⟩ | ⟨g, cp, n, k, u, rfl, rfl, rfl⟩
  · exact h'
  · rcases h' with ⟨rfl, rfl⟩ | ⟨g', cp', n', k', u', e, rfl, rfl⟩
    · exact .inr ⟨g, cp, n, k, u, rfl, rfl, rfl⟩
    · injection e with e1 e2 e3
      injection e1 with e1
      injection e1 with e1
      subst e1
      subst e2
      subst e3
      exact .inr ⟨g, cp, n, k + k', u ++ u', rfl, by rw [Nat.add_assoc], by rw [List.append_assoc]⟩
theorem InP.block {v v' : Value} {t t' : List Nat} (h : InP v v' t t') : v'.ownBlock = v.ownBlock := by
  rcases h with ⟨rfl, _⟩ | ⟨g, cp, n, k, u, rfl, rfl, _⟩ <;> rfl
theorem TX.lt {G cb : Nat} {a : Option Addr} {w : World} {v : Value} {t : List Nat} (h : TX G cb a w v t) {k : Nat} (hk : v.ownBlock = some k) : G ≤ k ∧ k < w.heap.size := h.own.lt k hk
theorem TS.trans {G cb : Nat} {a : Option Addr} {w w1 w2 : World} {v v1 v2 : Value} {t t1 t2 : List Nat} (h0 : TX G cb a w v t) (h : TS G cb a w w1 v v1 t t1) (k : TS G cb a w1 w2 v1 v2 t1 t2) : TS G cb a w w2 v v2 t t2 := by
  rcases h.own with hi | ⟨g, hg, hlt⟩
  · refine ⟨k.tx, h.old.pre hi k.old, h.kp.trans k.kp fun j e => ?_, ?_⟩
    · rcases e with e | e
      · exact .inl (.inl e)
      · rw [hi.block] at e; exact .inl (.inr e)
    · rcases k.own with ki | ⟨g', e1, e2⟩
      · exact .inl (hi.trans ki)
      · exact .inr ⟨g', e1, Nat.le_trans h.kp.size e2⟩
  · refine ⟨k.tx, h.old.keep k.kp fun j hj e => ?_, h.kp.trans k.kp fun j e => ?_, .inr ?_⟩
    · rcases e with e | e
      · exact h.old.ne (by rw [hj, e])
      · have := (h0.lt hj).2
        rw [hg] at e
        injection e with e
        omega
    · rcases e with e | e
      · exact .inl (.inl e)
      · rw [hg] at e
        injection e with e
        exact .inr (by omega)
    · rcases k.own with ki | ⟨g', e1, e2⟩
      · exact ⟨g, by rw [ki.block]; exact hg, hlt⟩
      · exact ⟨g', e1, Nat.le_trans h.kp.size e2⟩
def crAt (l : List UInt8) (i : Nat) : Bool := decide (1 ≤ i ∧ (l.getD (i - 1) 0).toNat = 13)
def putW (wv cr : Bool) (t : List Nat) (r : Nat) : List Nat := if wv = true then putL cr t r else t ++ [r]
section
variable {w0 w : World} {cb : Nat} {a : Option Addr} {n cap : Nat} {l : List UInt8} {inn : Nat} {nm : List UInt8} {c : Cu} {G : Nat} {t : List Nat}
def PR (G : Nat) (w : World) (cb : Nat) (a : Option Addr) (bv : Value) (inn : Nat) (nm : List UInt8) (c : Cu) (t t' : List Nat) (frm : Nat) (w' : World) : Prop :=
  ∃ v' be, CuAt w' cb bv inn nm { c with tv := v', beg := be } ∧ TS G cb a w w' c.tv v' t t' ∧ be = (if t = [] ∧ t' ≠ [] then (frm : Int) else c.beg)
theorem TS.set {w' : World} {v v' : Value} {t t' : List Nat} (h : TS G cb a w w' v v' t t') (i : Nat) (u : Value) : TS G cb a w (w'.setCell ⟨cb, i, none⟩ u) v v' t t' :=
  ⟨h.tx.keep1 ((Kp.refl (· = cb) w').set (.inl rfl) i u), h.old.keep1 ((Kp.refl (· = cb) w').set (.inl rfl) i u), h.kp.set (.inl (.inl rfl)) i u, h.own⟩
def ArOk (w : World) (cb G : Nat) (v0 v : Value) (t : List Nat) (q : Nat) (z : Int) : Prop :=
  ∀ W, Kp (· = cb) w W → Calls Tryd.prog 46 #[v0, .int .i32 z] W fun e w' => ∃ v', e = .returned v' ∧ w'.ownsRow G 5 1 v' ((encs t).length + (encN q).length) (u8s (encs t) ++ u8s (encU q)) ∧ ∃ o, App2 (W.alloc o) w' v v' (encs t).length (encN q).length
theorem ar_post {W w2 : World} {o : Obj} {v v' : Value} {q : Nat} (hX : TX G cb a w v t) (hcb : cb < w.heap.size) (ha : ∀ b o, a = some ⟨b, o, none⟩ → b < w.heap.size) (hq : chr q) (hK : Kp (· = cb) w W)
    (hown : w2.ownsRow G 5 1 v' ((encs t).length + (encN q).length) (u8s (encs t) ++ u8s (encU q))) (happ : App2 (W.alloc o) w2 v v' (encs t).length (encN q).length) :
    TS G cb a w w2 v v' t (t ++ [q]) ∧ w2.heap[cb]? = W.heap[cb]? ∧ W.heap.size ≤ w2.heap.size := by
  have hX1 := hX.keep1 hK
  have hown' : w2.ownsRow G 5 1 v' (encs (t ++ [q])).length (u8s (encs (t ++ [q]))) := by
    have e1 : (encs (t ++ [q])).length = (encs t).length + (encN q).length := by rw [encs_app, List.length_append, encs_one]; simp [encU]
    have e2 : u8s (encs (t ++ [q])) = u8s (encs t) ++ u8s (encU q) := by rw [encs_app, encs_one]; simp [u8s]
    rw [e1, e2]; exact hown
  have hchr : ∀ r ∈ t ++ [q], chr r := by
    intro r hr
    rcases List.mem_append.1 hr with h | h
    · exact hX.chrs r h
    · rw [List.mem_singleton] at h; rw [h]; exact hq
  rcases happ with ⟨g, cp, rfl, rfl, hg⟩ | ⟨hg, g, e1, e2⟩
  · have hgb : g ≠ cb := fun e => hX.ne (by rw [e]; rfl)
    have hsz : W.heap.size ≤ w2.heap.size := by have := hg.size; simp at this; omega
    have hk2 : Kp (SV cb (.slice (some ⟨g, 0, none⟩) (encs t).length cp)) w w2 := by
      refine (hK.mono (S' := SV cb (.slice (some ⟨g, 0, none⟩) (encs t).length cp)) fun _ _ e => .inl e).trans (S' := fun k => k = g) ?_ ?_
      · exact ((Kp.refl _ W).alloc o).grown hg (fun k hk => by injection hk with hk; exact .inl hk.symm)
      · rintro k rfl; exact .inl (.inr rfl)
    have htx : TX G cb a w2 (.slice (some ⟨g, 0, none⟩) ((encs t).length + (encN q).length) cp) (t ++ [q]) := ⟨hown', hchr, hX.ne, hX.ne2, Nat.le_trans hX1.le hsz⟩
    have hin : InP (.slice (some ⟨g, 0, none⟩) (encs t).length cp) (.slice (some ⟨g, 0, none⟩) ((encs t).length + (encN q).length) cp) t (t ++ [q]) := .inr ⟨g, cp, _, _, [q], rfl, rfl, rfl⟩
    refine ⟨⟨htx, hX.pre hin htx, hk2, .inl hin⟩, ?_, hsz⟩
    exact (hg.block cb (by simp; have := hK.size; omega) (fun e => by injection e with e; exact hgb e.symm)).trans (heap_alloc_old _ _ (Nat.lt_of_lt_of_le hcb hK.size))
  · have hsz : W.heap.size ≤ w2.heap.size := by have := hg.size; simp at this; omega
    have hb : Below W.heap.size W w2 := ((Below.refl W.heap.size W).alloc (Nat.le_refl _) o).grown hg (by simp) (fun k hk => by cases hk)
    have hge : w.heap.size ≤ g := by have := hK.size; simp at e2; omega
    have htx : TX G cb a w2 v' (t ++ [q]) := by
      refine ⟨hown', hchr, ?_, ?_, Nat.le_trans hX1.le hsz⟩
      · rw [e1]; intro e; injection e with e; omega
      · intro b o' hb' e
        rw [e1] at e
        injection e with e
        have := ha b o' hb'
        omega
    refine ⟨⟨htx, hX1.keep (Kp.of (S := fun _ => False) hb) fun _ _ e => e, (hK.on hb).mono fun _ _ e => .inl e, .inr ⟨g, e1, hge⟩⟩, hb.block cb (Nat.lt_of_lt_of_le hcb hK.size), hsz⟩
set_option maxHeartbeats 2000000 in
theorem put_app (hE : CE w0 w cb a n cap l) (hC : CuAt w cb (.slice a n cap) inn nm c) (hX : TX G cb a w c.tv t) (hlen : t.length ≤ 1099511627776) (r : Nat) (hr : chr r) (frm : Nat) (wv : Bool) (q : Nat) (hq : chr q) (hcase : (wv = false ∧ q = r) ∨ (wv = true ∧ r = 13 ∧ q = 10) ∨ (wv = true ∧ r ≠ 13 ∧ r ≠ 10 ∧ q = r) ∨ (wv = true ∧ r = 10 ∧ q = 10 ∧ 1 ≤ c.i ∧ c.i ≤ n ∧ crAt l (c.i - 1) = false)) :
    Calls Tryd.prog 34 #[.pointer (some ⟨cb, 0, none⟩), .int .i32 r, .int .i64 frm, .bool wv] w fun e w' => e = .returned (.tuple #[]) ∧ PR G w cb a (.slice a n cap) inn nm c t (t ++ [q]) frm w' := by
  have HC := Lib.hid hC
  have HX := Lib.hid hX
  have hcb := hC.lt
  have HQ := Lib.hid hq
  have HA := Lib.hid hE.lt
  obtain ⟨ta, tc, htv, htc, _, _⟩ := own_slice hX.own
  obtain ⟨m, hm⟩ : ∃ m, (encs t).length = m := ⟨_, rfl⟩
  have hm4 := encs_len t
  have HM := Lib.hid hm
  rw [hm] at htv htc hm4
  have HTV := Lib.hid htv
  have HAR : Hid (ArOk w cb G (.slice ta m tc) c.tv t q (q : Int)) := by
    intro W hK
    have h1 := (hX.keep1 hK).own
    rw [htv, hm] at h1
    rw [htv, hm]
    exact (appRune_any G (.slice ta m tc) m (u8s (encs t)) q hq W h1 (by omega) (Nat.le_trans hX.le hK.size)).mono fun e w' h => h.ex
  have hc1 := hC.c_i
  have hc0 := hC.c_b
  have hc19 := hC.c_tv
  have hf20 := hC.fz 20
  have hf19 := hC.fz 19
  have hc20 := hC.c_beg
  rw [htv] at hc19
  have HCA := Lib.hid hcase
  have HE := Lib.hid hE
  have hsm := hE.small
  by_cases ht0 : t = []
  · have hm0 : m = 0 := by rw [← hm, (encs_nil t).2 ht0]; rfl
    have HE0 := Lib.hid ht0
    subst hm0
    clear hE hC hX hq htv hm ht0 hcase
    rcases HCA.out with ⟨rfl, rfl⟩ | ⟨rfl, rfl, rfl⟩ | ⟨rfl, h13, h10, rfl⟩ | ⟨rfl, rfl, rfl, h1, h2, hcr⟩
    · clear HCA
      go_enter Tryd.func34, Tryd.ntmps34
      go_wp2_with fail
      go_quiet (fail)
      go_wp2_with fail
      have hKK : Kp (· = cb) w ((w.drewN nq).setCell ⟨cb, 20, none⟩ (.int .i64 frm)) := (((Kp.refl (· = cb) w).drewN _).set (.inl rfl) _ _)
      have har := HAR.out
      unfold ArOk at har
      with_reducible refine (har _ hKK).mono ?_
      clear har
      rintro e w2 ⟨v', rfl, hown2, o2, happ2⟩
      obtain ⟨hts, hbk, hsz2⟩ := ar_post HX.out hcb HA.out HQ.out hKK hown2 happ2
      obtain ⟨a2, c2, rfl, _, _, _⟩ := own_slice hts.tx.own
      have hcu1 := ((HC.out.below (Below.drewN (Below.refl _ w) nq)).set_beg (frm : Int))
      have d19 : w2.cell? ⟨cb, 19, none⟩ = some (.slice ta 0 tc) := (World.cell?_of_block hbk).trans (hcu1.c_tv.trans (congrArg some HTV.out))
      have f19 : w2.frozen? ⟨cb, 19, none⟩ = false := (World.frozen?_of_block hbk).trans (hcu1.fz 19)
      have hcu2 := CuAt.set_tv (show CuAt w2 cb (.slice a n cap) inn nm _ from hbk.trans hcu1) (.slice a2 (encs (t ++ [q])).length c2)
      have HCU := Lib.hid hcu2
      have HTS := Lib.hid hts
      clear hts hcu1 hcu2 hbk hKK
      go_wp2_with fail
      go_end0
      refine ⟨rfl, _, (frm : Int), HCU.out, HTS.out.set _ _, ?_⟩
      rw [if_pos ⟨HE0.out, by simp⟩]
    · clear HCA
      have HAR : Hid (ArOk w cb G (.slice ta 0 tc) c.tv t 10 (10 : Int)) := HAR
      go_enter Tryd.func34, Tryd.ntmps34
      go_wp2_with fail
      go_quiet (fail)
      go_wp2_with fail
      have hKK : Kp (· = cb) w ((w.drewN nq).setCell ⟨cb, 20, none⟩ (.int .i64 frm)) := (((Kp.refl (· = cb) w).drewN _).set (.inl rfl) _ _)
      have har := HAR.out
      unfold ArOk at har
      with_reducible refine (har _ hKK).mono ?_
      clear har
      rintro e w2 ⟨v', rfl, hown2, o2, happ2⟩
      obtain ⟨hts, hbk, hsz2⟩ := ar_post HX.out hcb HA.out HQ.out hKK hown2 happ2
      obtain ⟨a2, c2, rfl, _, _, _⟩ := own_slice hts.tx.own
      have hcu1 := ((HC.out.below (Below.drewN (Below.refl _ w) nq)).set_beg (frm : Int))
      have d19 : w2.cell? ⟨cb, 19, none⟩ = some (.slice ta 0 tc) := (World.cell?_of_block hbk).trans (hcu1.c_tv.trans (congrArg some HTV.out))
      have f19 : w2.frozen? ⟨cb, 19, none⟩ = false := (World.frozen?_of_block hbk).trans (hcu1.fz 19)
      have hcu2 := CuAt.set_tv (show CuAt w2 cb (.slice a n cap) inn nm _ from hbk.trans hcu1) (.slice a2 (encs (t ++ [10])).length c2)
      have HCU := Lib.hid hcu2
      have HTS := Lib.hid hts
      clear hts hcu1 hcu2 hbk hKK
      go_wp2_with fail
      go_end0
      refine ⟨rfl, _, (frm : Int), HCU.out, HTS.out.set _ _, ?_⟩
      rw [if_pos ⟨HE0.out, by simp⟩]
    · clear HCA
      have hr13 : ((q : Int) == 13) = false := by simp; omega
      have hr10 : ((q : Int) == 10) = false := by simp; omega
      go_enter Tryd.func34, Tryd.ntmps34
      go_wp2_with fail
      go_quiet (fail)
      go_wp2_with fail
      have hKK : Kp (· = cb) w ((w.drewN nq).setCell ⟨cb, 20, none⟩ (.int .i64 frm)) := (((Kp.refl (· = cb) w).drewN _).set (.inl rfl) _ _)
      have har := HAR.out
      unfold ArOk at har
      with_reducible refine (har _ hKK).mono ?_
      clear har
      rintro e w2 ⟨v', rfl, hown2, o2, happ2⟩
      obtain ⟨hts, hbk, hsz2⟩ := ar_post HX.out hcb HA.out HQ.out hKK hown2 happ2
      obtain ⟨a2, c2, rfl, _, _, _⟩ := own_slice hts.tx.own
      have hcu1 := ((HC.out.below (Below.drewN (Below.refl _ w) nq)).set_beg (frm : Int))
      have d19 : w2.cell? ⟨cb, 19, none⟩ = some (.slice ta 0 tc) := (World.cell?_of_block hbk).trans (hcu1.c_tv.trans (congrArg some HTV.out))
      have f19 : w2.frozen? ⟨cb, 19, none⟩ = false := (World.frozen?_of_block hbk).trans (hcu1.fz 19)
      have hcu2 := CuAt.set_tv (show CuAt w2 cb (.slice a n cap) inn nm _ from hbk.trans hcu1) (.slice a2 (encs (t ++ [q])).length c2)
      have HCU := Lib.hid hcu2
      have HTS := Lib.hid hts
      clear hts hcu1 hcu2 hbk hKK
      go_wp2_with fail
      go_end0
      refine ⟨rfl, _, (frm : Int), HCU.out, HTS.out.set _ _, ?_⟩
      rw [if_pos ⟨HE0.out, by simp⟩]
    · clear HCA
      have HAR : Hid (ArOk w cb G (.slice ta 0 tc) c.tv t 10 (10 : Int)) := HAR
      obtain ⟨i, hi⟩ : ∃ i, c.i = i := ⟨_, rfl⟩
      rw [hi] at hc1 h1 h2 hcr
      have HI := Lib.hid hi
      by_cases hi1 : i = 1
      · subst hi1
        clear h1 h2 hcr hi
        go_enter Tryd.func34, Tryd.ntmps34
        go_wp2_with fail
        go_quiet (fail)
        go_wp2_with fail
        have hKK : Kp (· = cb) w ((w.drewN nq).setCell ⟨cb, 20, none⟩ (.int .i64 frm)) := (((Kp.refl (· = cb) w).drewN _).set (.inl rfl) _ _)
        have har := HAR.out
        unfold ArOk at har
        with_reducible refine (har _ hKK).mono ?_
        clear har
        rintro e w2 ⟨v', rfl, hown2, o2, happ2⟩
        obtain ⟨hts, hbk, hsz2⟩ := ar_post HX.out hcb HA.out HQ.out hKK hown2 happ2
        obtain ⟨a2, c2, rfl, _, _, _⟩ := own_slice hts.tx.own
        have hcu1 := ((HC.out.below (Below.drewN (Below.refl _ w) nq)).set_beg (frm : Int))
        have d19 : w2.cell? ⟨cb, 19, none⟩ = some (.slice ta 0 tc) := (World.cell?_of_block hbk).trans (hcu1.c_tv.trans (congrArg some HTV.out))
        have f19 : w2.frozen? ⟨cb, 19, none⟩ = false := (World.frozen?_of_block hbk).trans (hcu1.fz 19)
        have hcu2 := CuAt.set_tv (show CuAt w2 cb (.slice a n cap) inn nm _ from hbk.trans hcu1) (.slice a2 (encs (t ++ [10])).length c2)
        have HCU := Lib.hid hcu2
        have HTS := Lib.hid hts
        clear hts hcu1 hcu2 hbk hKK
        go_wp2_with fail
        go_end0
        refine ⟨rfl, _, (frm : Int), HCU.out, HTS.out.set _ _, ?_⟩
        rw [if_pos ⟨HE0.out, by simp⟩]
      · obtain ⟨j, hj⟩ : ∃ j, j + 2 = i := ⟨i - 2, by omega⟩
        have hi2 : (2 : Int) ≤ (i : Int) := by omega
        have hd2 : decide ((2 : Int) ≤ (i : Int)) = true := by simp; omega
        obtain ⟨b, o, x, u, hab, hb, hne, hx, _, e0⟩ := HE.out.byte (i := j) (by omega)
        have hxn : (x.toNat : Int) ≠ 13 := by
          intro e
          have hg : l.getD j 0 = x := by
            have := congrArg (fun q : List UInt8 => q.getD 0 0) hx
            simpa [List.getD_eq_getElem?_getD] using this
          unfold crAt at hcr
          simp only [decide_eq_false_iff_not, not_and] at hcr
          apply hcr (by omega)
          rw [show i - 1 - 1 = j by omega, hg]
          omega
        have hx13 : ((x.toNat : Int) == 13) = false := by simp; omega
        have hj0 : (0 : Int) ≤ (j : Int) := by omega
        have hjn : (j : Int) < (n : Int) := by omega
        have hwj : IntKind.i64.wrap ((i : Int) - 2) = (j : Int) := by rw [IntKind.wrap_i64]; omega
        rw [hab] at hc0
        clear h1 hcr hi hi1 hx hxn h2 hj
        go_enter Tryd.func34, Tryd.ntmps34
        go_wp2_with fail
        go_quiet (fail)
        go_wp2_with fail
        have hKK : Kp (· = cb) w ((w.drewN nq).setCell ⟨cb, 20, none⟩ (.int .i64 frm)) := (((Kp.refl (· = cb) w).drewN _).set (.inl rfl) _ _)
        have har := HAR.out
        unfold ArOk at har
        with_reducible refine (har _ hKK).mono ?_
        clear har
        rintro e w2 ⟨v', rfl, hown2, o2, happ2⟩
        obtain ⟨hts, hbk, hsz2⟩ := ar_post HX.out hcb HA.out HQ.out hKK hown2 happ2
        obtain ⟨a2, c2, rfl, _, _, _⟩ := own_slice hts.tx.own
        have hcu1 := ((HC.out.below (Below.drewN (Below.refl _ w) nq)).set_beg (frm : Int))
        have d19 : w2.cell? ⟨cb, 19, none⟩ = some (.slice ta 0 tc) := (World.cell?_of_block hbk).trans (hcu1.c_tv.trans (congrArg some HTV.out))
        have f19 : w2.frozen? ⟨cb, 19, none⟩ = false := (World.frozen?_of_block hbk).trans (hcu1.fz 19)
        have hcu2 := CuAt.set_tv (show CuAt w2 cb (.slice a n cap) inn nm _ from hbk.trans hcu1) (.slice a2 (encs (t ++ [10])).length c2)
        have HCU := Lib.hid hcu2
        have HTS := Lib.hid hts
        clear hts hcu1 hcu2 hbk hKK
        go_wp2_with fail
        go_end0
        refine ⟨rfl, _, (frm : Int), HCU.out, HTS.out.set _ _, ?_⟩
        rw [if_pos ⟨HE0.out, by simp⟩]
  · have hm0 : ((m : Int) == 0) = false := by
      have : m ≠ 0 := fun e => ht0 ((encs_nil t).1 (List.eq_nil_of_length_eq_zero (by rw [hm, e])))
      simp; omega
    have HE0 := Lib.hid ht0
    clear hE hC hX hq htv hm ht0 hcase
    rcases HCA.out with ⟨rfl, rfl⟩ | ⟨rfl, rfl, rfl⟩ | ⟨rfl, h13, h10, rfl⟩ | ⟨rfl, rfl, rfl, h1, h2, hcr⟩
    · clear HCA
      go_enter Tryd.func34, Tryd.ntmps34
      go_wp2_with fail
      go_quiet (fail)
      go_wp2_with fail
      have hKK : Kp (· = cb) w (w.drewN nq) := ((Kp.refl (· = cb) w).drewN _)
      have har := HAR.out
      unfold ArOk at har
      with_reducible refine (har _ hKK).mono ?_
      clear har
      rintro e w2 ⟨v', rfl, hown2, o2, happ2⟩
      obtain ⟨hts, hbk, hsz2⟩ := ar_post HX.out hcb HA.out HQ.out hKK hown2 happ2
      obtain ⟨a2, c2, rfl, _, _, _⟩ := own_slice hts.tx.own
      have hcu1 := (HC.out.below (Below.drewN (Below.refl _ w) nq))
      have d19 : w2.cell? ⟨cb, 19, none⟩ = some (.slice ta m tc) := (World.cell?_of_block hbk).trans (hcu1.c_tv.trans (congrArg some HTV.out))
      have f19 : w2.frozen? ⟨cb, 19, none⟩ = false := (World.frozen?_of_block hbk).trans (hcu1.fz 19)
      have hcu2 := CuAt.set_tv (show CuAt w2 cb (.slice a n cap) inn nm _ from hbk.trans hcu1) (.slice a2 (encs (t ++ [q])).length c2)
      have HCU := Lib.hid hcu2
      have HTS := Lib.hid hts
      clear hts hcu1 hcu2 hbk hKK
      go_wp2_with fail
      go_end0
      refine ⟨rfl, _, c.beg, HCU.out, HTS.out.set _ _, ?_⟩
      rw [if_neg (fun h => HE0.out h.1)]
    · clear HCA
      have HAR : Hid (ArOk w cb G (.slice ta m tc) c.tv t 10 (10 : Int)) := HAR
      go_enter Tryd.func34, Tryd.ntmps34
      go_wp2_with fail
      go_quiet (fail)
      go_wp2_with fail
      have hKK : Kp (· = cb) w (w.drewN nq) := ((Kp.refl (· = cb) w).drewN _)
      have har := HAR.out
      unfold ArOk at har
      with_reducible refine (har _ hKK).mono ?_
      clear har
      rintro e w2 ⟨v', rfl, hown2, o2, happ2⟩
      obtain ⟨hts, hbk, hsz2⟩ := ar_post HX.out hcb HA.out HQ.out hKK hown2 happ2
      obtain ⟨a2, c2, rfl, _, _, _⟩ := own_slice hts.tx.own
      have hcu1 := (HC.out.below (Below.drewN (Below.refl _ w) nq))
      have d19 : w2.cell? ⟨cb, 19, none⟩ = some (.slice ta m tc) := (World.cell?_of_block hbk).trans (hcu1.c_tv.trans (congrArg some HTV.out))
      have f19 : w2.frozen? ⟨cb, 19, none⟩ = false := (World.frozen?_of_block hbk).trans (hcu1.fz 19)
      have hcu2 := CuAt.set_tv (show CuAt w2 cb (.slice a n cap) inn nm _ from hbk.trans hcu1) (.slice a2 (encs (t ++ [10])).length c2)
      have HCU := Lib.hid hcu2
      have HTS := Lib.hid hts
      clear hts hcu1 hcu2 hbk hKK
      go_wp2_with fail
      go_end0
      refine ⟨rfl, _, c.beg, HCU.out, HTS.out.set _ _, ?_⟩
      rw [if_neg (fun h => HE0.out h.1)]
    · clear HCA
      have hr13 : ((q : Int) == 13) = false := by simp; omega
      have hr10 : ((q : Int) == 10) = false := by simp; omega
      go_enter Tryd.func34, Tryd.ntmps34
      go_wp2_with fail
      go_quiet (fail)
      go_wp2_with fail
      have hKK : Kp (· = cb) w (w.drewN nq) := ((Kp.refl (· = cb) w).drewN _)
      have har := HAR.out
      unfold ArOk at har
      with_reducible refine (har _ hKK).mono ?_
      clear har
      rintro e w2 ⟨v', rfl, hown2, o2, happ2⟩
      obtain ⟨hts, hbk, hsz2⟩ := ar_post HX.out hcb HA.out HQ.out hKK hown2 happ2
      obtain ⟨a2, c2, rfl, _, _, _⟩ := own_slice hts.tx.own
      have hcu1 := (HC.out.below (Below.drewN (Below.refl _ w) nq))
      have d19 : w2.cell? ⟨cb, 19, none⟩ = some (.slice ta m tc) := (World.cell?_of_block hbk).trans (hcu1.c_tv.trans (congrArg some HTV.out))
      have f19 : w2.frozen? ⟨cb, 19, none⟩ = false := (World.frozen?_of_block hbk).trans (hcu1.fz 19)
      have hcu2 := CuAt.set_tv (show CuAt w2 cb (.slice a n cap) inn nm _ from hbk.trans hcu1) (.slice a2 (encs (t ++ [q])).length c2)
      have HCU := Lib.hid hcu2
      have HTS := Lib.hid hts
      clear hts hcu1 hcu2 hbk hKK
      go_wp2_with fail
      go_end0
      refine ⟨rfl, _, c.beg, HCU.out, HTS.out.set _ _, ?_⟩
      rw [if_neg (fun h => HE0.out h.1)]
    · clear HCA
      have HAR : Hid (ArOk w cb G (.slice ta m tc) c.tv t 10 (10 : Int)) := HAR
      obtain ⟨i, hi⟩ : ∃ i, c.i = i := ⟨_, rfl⟩
      rw [hi] at hc1 h1 h2 hcr
      have HI := Lib.hid hi
      by_cases hi1 : i = 1
      · subst hi1
        clear h1 h2 hcr hi
        go_enter Tryd.func34, Tryd.ntmps34
        go_wp2_with fail
        go_quiet (fail)
        go_wp2_with fail
        have hKK : Kp (· = cb) w (w.drewN nq) := ((Kp.refl (· = cb) w).drewN _)
        have har := HAR.out
        unfold ArOk at har
        with_reducible refine (har _ hKK).mono ?_
        clear har
        rintro e w2 ⟨v', rfl, hown2, o2, happ2⟩
        obtain ⟨hts, hbk, hsz2⟩ := ar_post HX.out hcb HA.out HQ.out hKK hown2 happ2
        obtain ⟨a2, c2, rfl, _, _, _⟩ := own_slice hts.tx.own
        have hcu1 := (HC.out.below (Below.drewN (Below.refl _ w) nq))
        have d19 : w2.cell? ⟨cb, 19, none⟩ = some (.slice ta m tc) := (World.cell?_of_block hbk).trans (hcu1.c_tv.trans (congrArg some HTV.out))
        have f19 : w2.frozen? ⟨cb, 19, none⟩ = false := (World.frozen?_of_block hbk).trans (hcu1.fz 19)
        have hcu2 := CuAt.set_tv (show CuAt w2 cb (.slice a n cap) inn nm _ from hbk.trans hcu1) (.slice a2 (encs (t ++ [10])).length c2)
        have HCU := Lib.hid hcu2
        have HTS := Lib.hid hts
        clear hts hcu1 hcu2 hbk hKK
        go_wp2_with fail
        go_end0
        refine ⟨rfl, _, c.beg, HCU.out, HTS.out.set _ _, ?_⟩
        rw [if_neg (fun h => HE0.out h.1)]
      · obtain ⟨j, hj⟩ : ∃ j, j + 2 = i := ⟨i - 2, by omega⟩
        have hi2 : (2 : Int) ≤ (i : Int) := by omega
        have hd2 : decide ((2 : Int) ≤ (i : Int)) = true := by simp; omega
        obtain ⟨b, o, x, u, hab, hb, hne, hx, _, e0⟩ := HE.out.byte (i := j) (by omega)
        have hxn : (x.toNat : Int) ≠ 13 := by
          intro e
          have hg : l.getD j 0 = x := by
            have := congrArg (fun q : List UInt8 => q.getD 0 0) hx
            simpa [List.getD_eq_getElem?_getD] using this
          unfold crAt at hcr
          simp only [decide_eq_false_iff_not, not_and] at hcr
          apply hcr (by omega)
          rw [show i - 1 - 1 = j by omega, hg]
          omega
        have hx13 : ((x.toNat : Int) == 13) = false := by simp; omega
        have hj0 : (0 : Int) ≤ (j : Int) := by omega
        have hjn : (j : Int) < (n : Int) := by omega
        have hwj : IntKind.i64.wrap ((i : Int) - 2) = (j : Int) := by rw [IntKind.wrap_i64]; omega
        rw [hab] at hc0
        clear h1 hcr hi hi1 hx hxn h2 hj
        go_enter Tryd.func34, Tryd.ntmps34
        go_wp2_with fail
        go_quiet (fail)
        go_wp2_with fail
        have hKK : Kp (· = cb) w (w.drewN nq) := ((Kp.refl (· = cb) w).drewN _)
        have har := HAR.out
        unfold ArOk at har
        with_reducible refine (har _ hKK).mono ?_
        clear har
        rintro e w2 ⟨v', rfl, hown2, o2, happ2⟩
        obtain ⟨hts, hbk, hsz2⟩ := ar_post HX.out hcb HA.out HQ.out hKK hown2 happ2
        obtain ⟨a2, c2, rfl, _, _, _⟩ := own_slice hts.tx.own
        have hcu1 := (HC.out.below (Below.drewN (Below.refl _ w) nq))
        have d19 : w2.cell? ⟨cb, 19, none⟩ = some (.slice ta m tc) := (World.cell?_of_block hbk).trans (hcu1.c_tv.trans (congrArg some HTV.out))
        have f19 : w2.frozen? ⟨cb, 19, none⟩ = false := (World.frozen?_of_block hbk).trans (hcu1.fz 19)
        have hcu2 := CuAt.set_tv (show CuAt w2 cb (.slice a n cap) inn nm _ from hbk.trans hcu1) (.slice a2 (encs (t ++ [10])).length c2)
        have HCU := Lib.hid hcu2
        have HTS := Lib.hid hts
        clear hts hcu1 hcu2 hbk hKK
        go_wp2_with fail
        go_end0
        refine ⟨rfl, _, c.beg, HCU.out, HTS.out.set _ _, ?_⟩
        rw [if_neg (fun h => HE0.out h.1)]
set_option maxHeartbeats 2000000 in
theorem put_skip (hE : CE w0 w cb a n cap l) (hC : CuAt w cb (.slice a n cap) inn nm c) (hX : TX G cb a w c.tv t) (frm : Nat) (h2 : c.i ≤ n) (hcr : crAt l (c.i - 1) = true) :
    Calls Tryd.prog 34 #[.pointer (some ⟨cb, 0, none⟩), .int .i32 10, .int .i64 frm, .bool true] w fun e w' => e = .returned (.tuple #[]) ∧ PR G w cb a (.slice a n cap) inn nm c t t frm w' := by
  have HC := Lib.hid hC
  have HX := Lib.hid hX
  have hcb := hC.lt
  have hc1 := hC.c_i
  have hc0 := hC.c_b
  have hsm := hE.small
  unfold crAt at hcr
  simp only [decide_eq_true_eq] at hcr
  obtain ⟨i, hi⟩ : ∃ i, c.i = i := ⟨_, rfl⟩
  rw [hi] at hc1 h2 hcr
  obtain ⟨j, hj⟩ : ∃ j, j + 2 = i := ⟨i - 2, by omega⟩
  have hi2 : (2 : Int) ≤ (i : Int) := by omega
  have hd2 : decide ((2 : Int) ≤ (i : Int)) = true := by simp; omega
  obtain ⟨b, o, x, u, hab, hb, hne, hx, _, e0⟩ := hE.byte (i := j) (by omega)
  have hx13 : ((x.toNat : Int) == 13) = true := by
    have hg : l.getD j 0 = x := by
      have := congrArg (fun q : List UInt8 => q.getD 0 0) hx
      simpa [List.getD_eq_getElem?_getD] using this
    rw [show i - 1 - 1 = j by omega, hg] at hcr
    simp; omega
  have hj0 : (0 : Int) ≤ (j : Int) := by omega
  have hjn : (j : Int) < (n : Int) := by omega
  have hwj : IntKind.i64.wrap ((i : Int) - 2) = (j : Int) := by rw [IntKind.wrap_i64]; omega
  rw [hab] at hc0
  clear hE hC hX hcr hi hx h2 hj
  go_enter Tryd.func34, Tryd.ntmps34
  go_wp2_with fail
  go_quiet (fail)
  go_wp2_with fail
  refine bodyPost_ret (results_none rfl _ _ _) rfl ?_
  have hb := Below.drewN (Below.refl w.heap.size w) nq
  refine ⟨rfl, c.tv, c.beg, HC.out.below hb, TS.refl HX.out ((Kp.refl (· = cb) w).drewN _), ?_⟩
  rw [if_neg (fun h => h.2 h.1)]
theorem putL_eq (cr : Bool) (t : List Nat) (r : Nat) : putL cr t r = if r = 10 ∧ cr = true then t else t ++ [if r = 13 then 10 else r] := rfl
theorem put_any (hE : CE w0 w cb a n cap l) (hC : CuAt w cb (.slice a n cap) inn nm c) (hX : TX G cb a w c.tv t) (hlen : t.length ≤ 1099511627776) (r : Nat) (hr : chr r) (frm : Nat) (wv cr : Bool) (hcr : wv = true → r = 10 → 1 ≤ c.i ∧ c.i ≤ n ∧ crAt l (c.i - 1) = cr) :
    Calls Tryd.prog 34 #[.pointer (some ⟨cb, 0, none⟩), .int .i32 r, .int .i64 frm, .bool wv] w fun e w' => e = .returned (.tuple #[]) ∧ PR G w cb a (.slice a n cap) inn nm c t (putW wv cr t r) frm w' := by
  cases wv with
  | false => exact put_app hE hC hX hlen r hr frm false r hr (.inl ⟨rfl, rfl⟩)
  | true =>
    have e : putW true cr t r = putL cr t r := rfl
    rw [e, putL_eq]
    by_cases h10 : r = 10
    · obtain ⟨h1, h2, h3⟩ := hcr rfl h10
      subst h10
      cases cr with
      | true =>
        rw [if_pos ⟨rfl, rfl⟩]
        exact put_skip hE hC hX frm h2 h3
      | false =>
        rw [if_neg (by simp), if_neg (by decide)]
        exact put_app hE hC hX hlen 10 hr frm true 10 hr (.inr (.inr (.inr ⟨rfl, rfl, rfl, h1, h2, h3⟩)))
    · rw [if_neg (fun h => h10 h.1)]
      by_cases h13 : r = 13
      · subst h13
        rw [if_pos rfl]
        exact put_app hE hC hX hlen 13 hr frm true 10 (.inl (by omega)) (.inr (.inl ⟨rfl, rfl, rfl⟩))
      · rw [if_neg h13]
        exact put_app hE hC hX hlen r hr frm true r hr (.inr (.inr (.inl ⟨rfl, h13, h10, rfl⟩)))
end
end Go.Proofs.YtjdmndpadejegaaDoor
