/-
  The scanner's cursor: between.
-/
import Derived.Test.YtjdmndpadejegaaDoorMgT
import Derived.StillTailTactics
namespace Go.Proofs.YtjdmndpadejegaaDoor
open Go.RowKit

theorem char_head {x : UInt8} {u : List UInt8} {r k : Nat} (h : charL 0 (x :: u) = .ok r k) (q : Nat) (hq : q < 128) : x.toNat = q ↔ r = q := by
  obtain ⟨h1, h2, _, h4, _, h6⟩ := charL_ok (.inl rfl) h
  obtain ⟨k, rfl⟩ : ∃ j, k = j + 1 := ⟨k - 1, by omega⟩
  rw [List.take_succ_cons] at h6
  by_cases hr : r < 128
  · have e : encU r = [UInt8.ofNat r] := by unfold encU encN; rw [if_pos hr]; rfl
    rw [e] at h6
    injection h6 with h6 _
    rw [h6, toNat_of r (by omega)]
  · have := encU_high r (by omega) h4 x (by rw [← h6]; simp)
    omega
theorem act_put {l : List UInt8} {σ : St} {r k br' : Nat} (hk : charL 0 (l.drop σ.i) = .ok r k) (hcr : σ.cr = crAt l σ.i) (hbr : br' = if r = 93 then σ.br + 1 else 0) :
    σ.act (.put r true) (k + 0) = ⟨σ.i + k, if σ.text = [] ∧ putW true (crAt l σ.i) σ.text r ≠ [] then (σ.i : Int) else σ.beg, br', putW true (crAt l σ.i) σ.text r, crAt l (σ.i + k)⟩ := by
  rw [cr_next hk, hbr, show putW true (crAt l σ.i) σ.text r = putL (crAt l σ.i) σ.text r from rfl, putL_eq, ← hcr]
  by_cases h : r = 10 ∧ σ.cr = true
  · obtain ⟨h1, h2⟩ := h
    subst h1
    simp [St.act, h2]
  · rw [if_neg h]
    by_cases h13 : r = 93 <;> simp [St.act, h, h13]
theorem put_hcr {l : List UInt8} {i n r k : Nat} (hn : n = l.length) (h : charL 0 (l.drop i) = .ok r k) (h10 : r = 10) : 1 ≤ i + k ∧ i + k ≤ n ∧ crAt l (i + k - 1) = crAt l i := by
  obtain ⟨h1, h2, _, _, _, h6⟩ := charL_ok (.inl rfl) h
  have hk := congrArg List.length h6
  rw [List.length_take, Nat.min_eq_left h2, h10] at hk
  have : k = 1 := hk
  rw [List.length_drop] at h2
  refine ⟨by omega, by omega, ?_⟩
  rw [this]; rfl
section
variable {w0 w : World} {cb : Nat} {a : Option Addr} {n cap : Nat} {l : List UInt8} {inn : Nat} {nm : List UInt8} {c : Cu} {G : Nat}
theorem markOne : (Tryd.prog.info? 75).map (·.size) = some 6 := by kernel_rfl
theorem wpList_store_mark {ops : Array Oper} {rest : List Oper} {o : Oper} {ac : Act} {Q : Exit → Act → World → Prop} (hgd : o.guard = none) (x y : Operand) (ho : o.op = .store 75 x y) (i : Nat) (be : Int) (br : Nat) (tv : Value) (h1 : tv.oneCell' = true)
    (hx : ac.eval x = .pointer (some ⟨cb, 21, none⟩)) (hy : ac.eval y = .agg (markC i be br tv).toArray) (hC : CuAt w cb (.slice a n cap) inn nm c)
    (h : ∀ w3, CuAt w3 cb (.slice a n cap) inn nm { c with mi := 0, mn := [], mk' := i, mb := be, mr := br, mt := tv } → Kp (· = cb) w w3 → wpList Tryd.prog ops Q rest (ac.put o.dst undef) w3) : wpList Tryd.prog ops Q (o :: rest) ac w := by
  obtain ⟨g1, g2⟩ := mark_set hC i be br tv
  refine wpList_store_mid hgd 75 x y ho cb 21 (markC i be br tv).toArray hx hy (mark_there hC) markOne ?_ (h _ g1 g2)
  refine all_oneCell_toArray fun v hv => ?_
  simp only [markC, List.mem_cons, List.not_mem_nil, or_false] at hv
  rcases hv with rfl | rfl | rfl | rfl | rfl | rfl <;> first | rfl | exact h1
set_option maxRecDepth 100000 in
set_option maxHeartbeats 16000000 in
theorem bet_any (hL : Laid w0) (hE : CE w0 w cb a n cap l) (hG : w0.heap.size ≤ G) (hC : CuAt w cb (.slice a n cap) inn nm c) (σ0 : St) (hX : TX G cb a w c.tv σ0.text) (hin : inn ≤ 2) (hnm : nm.length ≤ 1099511627776) (hn30 : n ≤ 1073741824) (F : Nat) (hF : l.length < F)
    (hi0 : c.i = σ0.i) (hb0 : c.beg = σ0.beg) (hr0 : c.mr = σ0.br) (hin0 : σ0.i ≤ n) (hbr0 : σ0.br ≤ σ0.i) (hlen0 : σ0.text.length ≤ σ0.i) (hcr0 : inn = 1 → σ0.cr = crAt l σ0.i) (hhow : c.how = 0) (hout : c.out = false) :
    Calls Tryd.prog 22 #[.pointer (some ⟨cb, 0, none⟩)] w fun e w' => e = .returned (.tuple #[]) ∧ ∃ c' t', CuAt w' cb (.slice a n cap) inn nm c' ∧ TS G cb a w w' c.tv c'.tv σ0.text t' ∧ BtA w cb a G n inn l c.tv w' c' t' (goL F inn nm σ0 (l.drop σ0.i)).1 (goL F inn nm σ0 (l.drop σ0.i)).2 := by
  have HE := Lib.hid hE
  have HX := Lib.hid hX
  have HL := Lib.hid hL
  have HG := Lib.hid hG
  have hcb := hC.lt
  have hsm := hE.small
  have HLEN := Lib.hid hE.len
  obtain ⟨R, hR⟩ : ∃ R, goL F inn nm σ0 (l.drop σ0.i) = R := ⟨_, rfl⟩
  rw [hR]
  have h25 : w.cell? ⟨cb, 25, none⟩ = some (.int .i64 σ0.br) := by rw [← hr0]; exact hC.cell 25 rfl
  have hvx : c.tv.ownBlock ≠ some w.heap.size := fun e => by have := (hX.lt e).2; omega
  have HF : Hid (∀ i, (l.drop i).length < F) := fun i => by rw [List.length_drop]; omega
  clear hE hL hG hr0 hF
  obtain ⟨v0, hv0⟩ : ∃ v0, c.tv = v0 := ⟨_, rfl⟩
  obtain ⟨t0, ht0⟩ : ∃ t0, σ0.text = t0 := ⟨_, rfl⟩
  rw [hv0, ht0] at HX ⊢
  rw [hv0] at hvx
  go_enter Tryd.func22, Tryd.ntmps22
  go_wp2_with fail
  refine wp_scope_from 0 (JBet (w.alloc (.cells #[.pointer (some ⟨cb, 0, none⟩)] 73)) cb a (.slice a n cap) G n inn nm l v0 t0 w.heap.size F R) (fun _ wr => muI n cb wr) rfl (fun Q2 hp => ?_) ?_
  · go_wp2_with fail
    go_step3
    refine ‹∀ a w, _ → _› _ _ (hp _ _ ⟨σ0, c, rfl, ?_⟩)
    have hb : Below w.heap.size w (w.alloc (.cells #[.pointer (some ⟨cb, 0, none⟩)] 73)) := (Below.refl _ _).alloc (Nat.le_refl _) _
    refine ⟨hC.below hb, ?_, hhow, hout, hi0, hb0, hin0, hbr0, hlen0, hcr0, hR⟩
    rw [hv0, ht0]
    exact TS.refl (HX.out.keep1 (Kp.of hb)) (Kp.refl _ _)
  · have hb : Below w.heap.size w (w.alloc (.cells #[.pointer (some ⟨cb, 0, none⟩)] 73)) := (Below.refl _ _).alloc (Nat.le_refl _) _
    have hxc : (w.alloc (.cells #[.pointer (some ⟨cb, 0, none⟩)] 73)).cell? ⟨w.heap.size, 0, none⟩ = some (.pointer (some ⟨cb, 0, none⟩)) := by simp
    have hxs : w.heap.size < (w.alloc (.cells #[.pointer (some ⟨cb, 0, none⟩)] 73)).heap.size := by simp
    have hxn : w.heap.size ≠ cb := by omega
    generalize w.alloc (.cells #[.pointer (some ⟨cb, 0, none⟩)] 73) = w1 at *
    have HX1 : Hid (TX G cb a w1 v0 t0) := HX.out.keep1 (Kp.of hb)
    have HE1 : Hid (CE w0 w1 cb a n cap l) := HE.out.below hb
    have HBX : Hid (∀ W v t, TS G cb a w1 W v0 v t0 t → W.cell? ⟨w.heap.size, 0, none⟩ = some (.pointer (some ⟨cb, 0, none⟩))) := fun W v t h => bt_box h hxc hxs hxn hvx
    have HEK : Hid (∀ W v t, TS G cb a w1 W v0 v t0 t → CE w0 W cb a n cap l) := fun W v t h => HE1.out.keep h.kp (fun k e => by rcases e with e | e; rw [e]; exact HE.out.low; exact Nat.le_trans HG.out (HX1.out.lt e).1) (fun b o hb e => by rcases e with e | e; exact HE.out.ne b o hb e; exact HX1.out.ne2 b o hb e)
    have HFIN : Hid (∀ w', (∃ c' t', CuAt w' cb (.slice a n cap) inn nm c' ∧ TS G cb a w1 w' v0 c'.tv t0 t' ∧ BtA w1 cb a G n inn l v0 w' c' t' R.1 R.2) → ∃ c' t', CuAt w' cb (.slice a n cap) inn nm c' ∧ TS G cb a w w' v0 c'.tv t0 t' ∧ BtA w cb a G n inn l v0 w' c' t' R.1 R.2) := by
      rintro w' ⟨c', t', h1, h2, h3⟩
      refine ⟨c', t', h1, TS.trans HX.out (TS.refl HX.out (Kp.of hb)) h2, ?_⟩
      cases hr : R.2 with
      | wait =>
        rw [hr] at h3
        obtain ⟨g1, g2, g3, g4, g5, g6, g7, g8, g9, g10, g11, g12, g13⟩ := h3
        exact ⟨g1, g2, g3, g4, g5, g6, g7, g8, g9, g10, g11, g12, g13.imp id fun ⟨g, e1, e2⟩ => ⟨g, e1, Nat.le_trans hb.size e2⟩⟩
      | bad k => rw [hr] at h3; exact h3
      | ok t k =>
        rw [hr] at h3
        obtain ⟨g1, g2, g3, g4, g5, g6, g7, g8⟩ := h3
        exact ⟨g1, g2, g3, g4, g5, g6, g7, own_base g8 hb.size⟩
    clear hxc hxs hvx hb hX hC h25 hR hi0 hb0 hin0 hbr0 hlen0 hcr0 hhow hout hv0 ht0
    generalize hxb : w.heap.size = xb at *
    rintro ⟨t, dd⟩ wr ⟨σ, c2, ha, hJ⟩
    obtain ⟨ha1, rfl⟩ := Act.mk.inj ha
    rw [ha1]
    clear ha ha1
    dsimp only [frBet]
    have HJ := Lib.hid hJ
    have hmu := muI_eq (n := n) hJ.cu
    rw [hJ.i] at hmu
    rw [hmu]
    have hcb2 := hJ.cu.lt
    have hci := hJ.cu.c_i
    have hbe := hJ.cu.c_beg
    have htv := hJ.cu.c_tv
    have hbx := HBX.out _ _ _ hJ.ts
    rw [hJ.i] at hci
    rw [hJ.be] at hbe
    obtain ⟨va, vc, hv, _⟩ := own_slice hJ.ts.tx.own
    have HV := Lib.hid hv
    rw [hv] at htv
    clear hJ hmu hv
    go_wp2_with fail
    go_still_tail 17, (by kernel_rfl)
    change wpList _ _ _ _ _ wr.drew
    refine wpList_store_mark rfl _ _ rfl σ.i σ.beg σ.br (.slice va (encs σ.text).length vc) rfl ?_ ?_ (HJ.out.cu.below ((Below.refl _ _).drew)) ?_
    · rfl
    · rfl
    intro w3 h3 k3
    rw [← HV.out] at h3
    obtain ⟨c3, hJ3, hm3⟩ : ∃ c3, BtJ w1 cb a (.slice a n cap) G n inn nm l v0 t0 F R σ c3 w3 ∧ c3.mk' = σ.i ∧ c3.mb = σ.beg ∧ c3.mr = σ.br ∧ c3.mi = 0 ∧ c3.mn = [] ∧ c3.mt = c3.tv := ⟨_, HJ.out.mark (w3 := w3) HX1.out h3 (((Kp.refl (· = cb) wr).drew).trans k3 fun _ e => .inl e), rfl, rfl, rfl, rfl, rfl, rfl⟩
    have HJ3 := Lib.hid hJ3
    have HM3 := Lib.hid hm3
    clear h3 k3 hci hbe htv hbx HJ HV hcb2 hm3
    have hcb3 := hJ3.cu.lt
    have hci := hJ3.cu.c_i
    have hc2i := hJ3.cu.c_in
    have hbx := HBX.out _ _ _ hJ3.ts
    have HE3 := Lib.hid (HEK.out _ _ _ hJ3.ts)
    have hi3 := hJ3.i
    have HI3 := Lib.hid hi3
    have hle := hJ3.le
    have hbrl := hJ3.br
    have hlen := hJ3.len
    rw [hi3] at hci
    have hfz1 := hJ3.cu.fz 1
    have hfz5 := hJ3.cu.fz 5
    have hc5 := hJ3.cu.c_out
    have HTX3 := Lib.hid hJ3.ts.tx
    have HK3 : Hid (∀ W, Below w3.heap.size w3 W → CuAt W cb (.slice a n cap) inn nm c3 ∧ W.cell? ⟨xb, 0, none⟩ = some (.pointer (some ⟨cb, 0, none⟩)) ∧ W.cell? ⟨cb, 2, none⟩ = some (.int .i64 inn) ∧ W.cell? ⟨cb, 1, none⟩ = some (.int .i64 σ.i) ∧ W.frozen? ⟨cb, 1, none⟩ = false ∧ cb < W.heap.size) := fun W hbW => ⟨hJ3.cu.below hbW, HBX.out _ _ _ (TS.trans HX1.out hJ3.ts (TS.refl HTX3.out (Kp.of hbW))), (hJ3.cu.below hbW).c_in, by rw [← hi3]; exact (hJ3.cu.below hbW).c_i, (hJ3.cu.below hbW).fz 1, (hJ3.cu.below hbW).lt⟩
    cases hx : l.drop σ.i with
    | nil =>
      have HB := Lib.hid (byte_none HE3.out hJ3.cu (by rw [hi3]; exact hx))
      have HS : Hid (stepF F inn nm (decide (2 ≤ σ.br)) (l.drop σ.i) = .wait) := by rw [hx]; rfl
      have HNI : Hid (σ.i = n) := by have := congrArg List.length hx; rw [List.length_drop, ← HLEN.out, List.length_nil] at this; show σ.i = n; omega
      clear hJ3 hx hi3
      go_wp2_with (go_at_call 28; (with_reducible refine HB.out.mono ?_); rintro e w4 ⟨rfl, h1, h2⟩; have d5 := h1.c_out; have f5 := h1.fz 5; have dx := HBX.out _ _ _ (TS.trans HX1.out HJ3.out.ts (TS.refl HTX3.out h2)); have hcb4 := h1.lt)
      simp only [Exit.jump]
      go_end0
      refine ⟨rfl, HFIN.out _ (HJ3.out.wait HX1.out HS.out HM3.out (h1.set_out true) (TS.refl HTX3.out (h2.set (.inl rfl) _ _)) rfl ?_ ⟨rfl, rfl, rfl, rfl, rfl, rfl⟩)⟩
      rw [HNI.out]; simp
    | cons x u =>
      have hlt : σ.i < n := HE3.out.lt_of hx
      have hu := drop_tail hx
      have hBs : stepF F inn nm (decide (2 ≤ σ.br)) (l.drop σ.i) = (if x.toNat = 60 then on1 (lessF F inn nm) (x :: u) else if inn ≠ 1 then (if blankB x = true then on1 (doneP .skip) (x :: u) else badP (x :: u))
        else if x.toNat = 38 then (refL (x :: u)).next (x :: u) fun r l => doneP (.put r false) l else if x.toNat = 62 ∧ decide (2 ≤ σ.br) = true then badP (x :: u) else (charL 0 (x :: u)).next (x :: u) fun r l => doneP (.put r true) l) := by rw [hx]; rfl
      have HB := Lib.hid (byte_some HE3.out hJ3.cu x u (by rw [hi3]; exact hx))
      have hx256 := x.toNat_lt
      by_cases hx60 : x.toNat = 60
      · have hxe : ((x.toNat : Int) == 60) = true := by simp; omega
        rw [if_pos hx60] at hBs
        have hs : stepF F inn nm (decide (2 ≤ σ.br)) (l.drop σ.i) = (lessF F inn nm (l.drop (σ.i + 1))).up 1 := by rw [hBs, hu]; rfl
        have HS := Lib.hid hs
        have HLS := Lib.hid (fun W (hbW : Below w3.heap.size w3 W) => less_any HL.out (HE3.out.below hbW) HG.out (hJ3.cu.below hbW) (t0 := σ.text) (HTX3.out.keep1 (Kp.of hbW)) (by rw [hi3]; exact hlt) (by rw [hi3]; exact hlen) hin hnm hn30 F (HF.out _))
        rw [hi3] at HLS
        cases hls : lessF F inn nm (l.drop (σ.i + 1)) with
        | wait =>
          rw [hls] at HLS HS
          clear hJ3 hs hx hi3 hu hBs hls hx60
          go_wp2_with (first | (go_at_call 28; (with_reducible refine HB.out.mono ?_); rintro e w4 ⟨rfl, hb4⟩; obtain ⟨k1, k2, k3, k4, k5, k6⟩ := HK3.out w4 hb4; have HK1 := Lib.hid k1; clear k1) | (go_at_call 29; (with_reducible refine (HLS.out _ hb4).mono ?_); rintro e w5 ⟨he, c5, t5, h5, h6, h7, h8⟩; obtain rfl : e = .returned (.bool false) := he; have H5 := Lib.hid h5; have H6 := Lib.hid h6; have H7 := Lib.hid h7; clear h5 h6 h7 h8))
          simp only [Exit.jump]
          go_end0
          have h6 := H6.out
          have h7 := TS.trans HTX3.out (TS.refl HTX3.out (Kp.of hb4)) H7.out
          obtain ⟨i5, v5, be5, rfl⟩ := H5.out
          exact ⟨rfl, HFIN.out _ (HJ3.out.wait HX1.out HS.out HM3.out h6 h7 rfl (by rw [decide_eq_false (by omega)]; exact HJ3.out.out) ⟨rfl, rfl, rfl, rfl, rfl, rfl⟩)⟩
        | bad k =>
          rw [hls] at HLS HS
          clear hJ3 hs hx hi3 hu hBs hls hx60
          go_wp2_with (first | (go_at_call 28; (with_reducible refine HB.out.mono ?_); rintro e w4 ⟨rfl, hb4⟩; obtain ⟨k1, k2, k3, k4, k5, k6⟩ := HK3.out w4 hb4; have HK1 := Lib.hid k1; clear k1) | (go_at_call 29; (with_reducible refine (HLS.out _ hb4).mono ?_); rintro e w5 ⟨he, c5, t5, h5, h6, h7, h8⟩; obtain rfl : e = .returned (.bool false) := he; have H5 := Lib.hid h5; have H6 := Lib.hid h6; have H7 := Lib.hid h7; clear h5 h6 h7 h8))
          simp only [Exit.jump]
          go_end0
          have h6 := H6.out
          have h7 := TS.trans HTX3.out (TS.refl HTX3.out (Kp.of hb4)) H7.out
          obtain ⟨v5, be5, rfl⟩ := H5.out
          exact ⟨rfl, HFIN.out _ (HJ3.out.bad HX1.out HS.out h6 h7 rfl (by show c3.i + 1 + k = _; rw [HI3.out]; omega))⟩
        | ok m k =>
          rw [hls] at HLS HS
          cases m with
          | tag tk =>
            clear hJ3 hs hx hi3 hu hBs hls hx60
            go_wp2_with (first | (go_at_call 28; (with_reducible refine HB.out.mono ?_); rintro e w4 ⟨rfl, hb4⟩; obtain ⟨k1, k2, k3, k4, k5, k6⟩ := HK3.out w4 hb4; have HK1 := Lib.hid k1; clear k1) | (go_at_call 29; (with_reducible refine (HLS.out _ hb4).mono ?_); rintro e w5 ⟨he, c5, t5, h5, h6, h7, h8⟩; obtain rfl : e = .returned (.bool false) := he; have H5 := Lib.hid h5; have H6 := Lib.hid h6; have H7 := Lib.hid h7; have H8 := Lib.hid h8; clear h5 h6 h7 h8))
            simp only [Exit.jump]
            go_end0
            have h6 := H6.out
            have h7 := TS.trans HTX3.out (TS.refl HTX3.out (Kp.of hb4)) H7.out
            obtain ⟨⟨ta, rfl⟩, rfl⟩ := H5.out
            have h8 := H8.out
            exact ⟨rfl, HFIN.out _ (HJ3.out.tag HX1.out HS.out h6 h7 rfl (by show c3.i + 1 + k = _; rw [HI3.out]; omega) HI3.out HJ3.out.be rfl rfl (own_base h8 hb4.size))⟩
          | com =>
            have hcr : crAt l (σ.i + (1 + k)) = false := by
              obtain ⟨p1, _, y, p2, p3⟩ := step_less _ _ _ _ _ _ _ HS.out ⟨by simp, by simp⟩
              exact cr_no (by omega) ⟨y, p2, p3⟩ (by decide)
            have HCR := Lib.hid hcr
            clear hJ3 hs hx hi3 hu hBs hls hx60 hcr
            go_wp2_with (first | (go_at_call 28; (with_reducible refine HB.out.mono ?_); rintro e w4 ⟨rfl, hb4⟩; obtain ⟨k1, k2, k3, k4, k5, k6⟩ := HK3.out w4 hb4; have HK1 := Lib.hid k1; clear k1) | (go_at_call 29; (with_reducible refine (HLS.out _ hb4).mono ?_); rintro e w5 ⟨he, c5, t5, h5, h6, h7, h8⟩; obtain rfl : e = .returned (.bool true) := he; have H5 := Lib.hid h5; have H6 := Lib.hid h6; have H7 := Lib.hid h7; clear h5 h6 h7 h8))
            have h6 := H6.out
            have h7 := TS.trans HTX3.out (TS.refl HTX3.out (Kp.of hb4)) H7.out
            obtain ⟨rfl, rfl⟩ := H5.out
            have hn := HJ3.out.next HLEN.out HX1.out HS.out (by simp) h6 h7 HJ3.out.how HJ3.out.out (by show c3.i + 1 + k = _; rw [HI3.out]; omega) HJ3.out.be (fun _ => HCR.out.symm)
            have hmu := muI_eq (n := n) h6
            have HN := Lib.hid hn
            have HMU := Lib.hid hmu
            clear hn hmu h6 h7
            go_step3
            refine ⟨rfl, ⟨_, _, by rfl, HN.out.1⟩, ?_⟩
            rw [HMU.out]
            have := HN.out.2
            show n - (c3.i + 1 + k) < n - σ.i
            rw [HI3.out]
            omega
          | sec ts =>
            have hcr : crAt l (σ.i + (1 + k)) = false := by
              obtain ⟨p1, _, y, p2, p3⟩ := step_less _ _ _ _ _ _ _ HS.out ⟨by simp, by simp⟩
              exact cr_no (by omega) ⟨y, p2, p3⟩ (by decide)
            have HCR := Lib.hid hcr
            clear hJ3 hs hx hi3 hu hBs hls hx60 hcr
            go_wp2_with (first | (go_at_call 28; (with_reducible refine HB.out.mono ?_); rintro e w4 ⟨rfl, hb4⟩; obtain ⟨k1, k2, k3, k4, k5, k6⟩ := HK3.out w4 hb4; have HK1 := Lib.hid k1; clear k1) | (go_at_call 29; (with_reducible refine (HLS.out _ hb4).mono ?_); rintro e w5 ⟨he, c5, t5, h5, h6, h7, h8⟩; obtain rfl : e = .returned (.bool true) := he; have H5 := Lib.hid h5; have H6 := Lib.hid h6; have H7 := Lib.hid h7; clear h5 h6 h7 h8))
            have h6 := H6.out
            have h7 := TS.trans HTX3.out (TS.refl HTX3.out (Kp.of hb4)) H7.out
            obtain ⟨v5, rfl, rfl⟩ := H5.out
            have hn := HJ3.out.next HLEN.out HX1.out HS.out (by simp) h6 h7 HJ3.out.how HJ3.out.out (by show c3.i + 1 + k = _; rw [HI3.out]; omega) (by show (if σ.text = [] ∧ ts ≠ [] then (c3.i : Int) else c3.beg) = (if σ.text = [] ∧ ts ≠ [] then (σ.i : Int) else σ.beg); rw [HJ3.out.be, HI3.out]) (fun _ => HCR.out.symm)
            have hmu := muI_eq (n := n) h6
            have HN := Lib.hid hn
            have HMU := Lib.hid hmu
            clear hn hmu h6 h7
            go_step3
            refine ⟨rfl, ⟨_, _, by rfl, HN.out.1⟩, ?_⟩
            rw [HMU.out]
            have := HN.out.2
            show n - (c3.i + 1 + k) < n - σ.i
            rw [HI3.out]
            omega
          | skip =>
            clear hJ3 hs hx hi3 hu hBs hls hx60
            go_wp2_with (first | (go_at_call 28; (with_reducible refine HB.out.mono ?_); rintro e w4 ⟨rfl, hb4⟩; obtain ⟨k1, k2, k3, k4, k5, k6⟩ := HK3.out w4 hb4; have HK1 := Lib.hid k1; clear k1) | (go_at_call 29; (with_reducible refine (HLS.out _ hb4).mono ?_); rintro e w5 ⟨he, c5, t5, h5, h6, h7, h8⟩; exact (show False from h5).elim))
          | put r wv =>
            clear hJ3 hs hx hi3 hu hBs hls hx60
            go_wp2_with (first | (go_at_call 28; (with_reducible refine HB.out.mono ?_); rintro e w4 ⟨rfl, hb4⟩; obtain ⟨k1, k2, k3, k4, k5, k6⟩ := HK3.out w4 hb4; have HK1 := Lib.hid k1; clear k1) | (go_at_call 29; (with_reducible refine (HLS.out _ hb4).mono ?_); rintro e w5 ⟨he, c5, t5, h5, h6, h7, h8⟩; exact (show False from h5).elim))
      · have hxe : ((x.toNat : Int) == 60) = false := by simp; omega
        rw [if_neg hx60] at hBs
        by_cases hin1 : inn = 1
        · have hie : ((inn : Int) != 1) = false := by simp; omega
          rw [if_neg (fun h => h hin1)] at hBs
          have HCR := Lib.hid (hJ3.cr hin1)
          by_cases hx38 : x.toNat = 38
          · have hxe2 : ((x.toNat : Int) == 38) = true := by simp; omega
            rw [if_pos hx38] at hBs
            have hs : stepF F inn nm (decide (2 ≤ σ.br)) (l.drop σ.i) = (refL (l.drop σ.i)).next (l.drop σ.i) fun r l => doneP (.put r false) l := by rw [hBs, hx]
            have HS := Lib.hid hs
            have HRF := Lib.hid (fun W (hbW : Below w3.heap.size w3 W) => refer_put HL.out (HE3.out.below hbW) (hJ3.cu.below hbW) (by rw [hi3]; exact hlt) xb
              (fun r w' => ∃ k W', refL (l.drop c3.i) = .ok r k ∧ Kp (· = cb) W W' ∧ PR G W' cb a (.slice a n cap) inn nm { c3 with i := c3.i + k } σ.text (σ.text ++ [r]) c3.i w')
              (fun r k W' h1 h2 h3 => by
                obtain ⟨_, _, _, hir, _⟩ := refL_ok _ _ _ h1
                have hK : Kp (· = cb) w3 W' := (Kp.of hbW).trans h3 fun _ e => .inl e
                refine (betc_any xb (HBX.out _ _ _ (TS.trans HX1.out hJ3.ts (TS.refl HTX3.out hK))) (HE3.out.keep1 hK) h2 (t0 := σ.text) (HTX3.out.keep1 hK) (by omega) r (chr_of hir) c3.i).mono ?_
                rintro e w' ⟨rfl, hp⟩
                exact ⟨rfl, k, W', h1, h3, hp⟩))
            rw [hi3] at HRF
            cases hrl : refL (l.drop σ.i) with
            | wait =>
              rw [hrl] at HRF HS
              clear hJ3 hs hx hi3 hu hBs hrl hx60 hx38 hin1
              go_wp2_with (first | (go_at_call 28; (with_reducible refine HB.out.mono ?_); rintro e w4 ⟨rfl, hb4⟩; obtain ⟨k1, k2, k3, k4, k5, k6⟩ := HK3.out w4 hb4; have HK1 := Lib.hid k1; clear k1) | (go_at_call 32; (with_reducible refine (HRF.out _ hb4).mono ?_); rintro e w5 ⟨he, h5⟩; obtain rfl : e = .returned (.bool false) := he; have H5 := Lib.hid h5; clear h5))
              simp only [Exit.jump]
              go_end0
              obtain ⟨i', h5, h6⟩ := H5.out
              exact ⟨rfl, HFIN.out _ (HJ3.out.wait HX1.out HS.out HM3.out h5 (TS.refl HTX3.out ((Kp.of hb4).trans h6 fun _ e => .inl e)) rfl (by rw [decide_eq_false (by omega)]; exact HJ3.out.out) ⟨rfl, rfl, rfl, rfl, rfl, rfl⟩)⟩
            | bad k =>
              rw [hrl] at HRF HS
              clear hJ3 hs hx hi3 hu hBs hrl hx60 hx38 hin1
              go_wp2_with (first | (go_at_call 28; (with_reducible refine HB.out.mono ?_); rintro e w4 ⟨rfl, hb4⟩; obtain ⟨k1, k2, k3, k4, k5, k6⟩ := HK3.out w4 hb4; have HK1 := Lib.hid k1; clear k1) | (go_at_call 32; (with_reducible refine (HRF.out _ hb4).mono ?_); rintro e w5 ⟨he, h5⟩; obtain rfl : e = .returned (.bool false) := he; have H5 := Lib.hid h5; clear h5))
              simp only [Exit.jump]
              go_end0
              obtain ⟨h5, h6⟩ := H5.out
              exact ⟨rfl, HFIN.out _ (HJ3.out.bad HX1.out HS.out h5 (TS.refl HTX3.out ((Kp.of hb4).trans h6 fun _ e => .inl e)) rfl (by show c3.i + k = _; rw [HI3.out]))⟩
            | ok r k =>
              have HRL := Lib.hid hrl
              rw [hrl] at HRF HS
              clear hJ3 hs hx hi3 hu hBs hrl hx60 hx38 hin1
              go_wp2_with (first | (go_at_call 28; (with_reducible refine HB.out.mono ?_); rintro e w4 ⟨rfl, hb4⟩; obtain ⟨k1, k2, k3, k4, k5, k6⟩ := HK3.out w4 hb4; have HK1 := Lib.hid k1; clear k1) | (go_at_call 32; (with_reducible refine (HRF.out _ hb4).mono ?_); rintro e w5 ⟨he, h5⟩; obtain rfl : e = .returned (.bool true) := he; have H5 := Lib.hid h5; clear h5))
              obtain ⟨k', W', hk', hK, v5, be5, h6, h7, h8⟩ : ∃ k' W', (Sc.ok r k : Sc Nat) = .ok r k' ∧ Kp (· = cb) w4 W' ∧ PR G W' cb a (.slice a n cap) inn nm { c3 with i := σ.i + k' } σ.text (σ.text ++ [r]) σ.i w5 := H5.out
              have hkk : k' = k := by injection hk' with _ e; exact e.symm
              subst hkk
              obtain ⟨p1, _, _, _, ⟨y, p2, p3⟩, _⟩ := refL_ok _ _ _ HRL.out
              have hcr := cr_no (l := l) (i := σ.i) (n := k') p1 ⟨y, p2, p3⟩ (by decide)
              have hT := TS.trans HTX3.out (TS.refl HTX3.out ((Kp.of hb4).trans hK fun _ e => .inl e)) h7
              have hs6 : stepF F inn nm (decide (2 ≤ σ.br)) (l.drop σ.i) = .ok (.put r false) (k' + 0) := HS.out
              have ea : σ.act (.put r false) (k' + 0) = ⟨σ.i + k', if σ.text = [] then (σ.i : Int) else σ.beg, 0, σ.text ++ [r], false⟩ := by
                simp [St.act]
              have hn := HJ3.out.next HLEN.out HX1.out hs6 (by simp) h6 (by rw [ea]; exact hT) HJ3.out.how HJ3.out.out rfl (by
                rw [ea]
                show be5 = _
                rw [h8]
                show (if σ.text = [] ∧ σ.text ++ [r] ≠ [] then (σ.i : Int) else c3.beg) = if σ.text = [] then (σ.i : Int) else σ.beg
                rw [HJ3.out.be]; simp) (fun _ => by rw [ea]; exact hcr.symm)
              have hmu := muI_eq (n := n) h6
              rw [ea] at hn
              have HN := Lib.hid hn
              have HMU := Lib.hid hmu
              clear hn hmu h6 h7 h8 hT hs6 ea hcr hK hk' p1 p2 p3
              go_step3
              refine ⟨rfl, ⟨_, _, by rfl, HN.out.1⟩, ?_⟩
              rw [HMU.out]
              have := HN.out.2
              show n - (σ.i + k') < n - σ.i
              omega
          · have hxe2 : ((x.toNat : Int) == 38) = false := by simp; omega
            rw [if_neg hx38] at hBs
            by_cases h62 : x.toNat = 62 ∧ decide (2 ≤ σ.br) = true
            · have hxe3 : ((x.toNat : Int) == 62) = true := by simp; omega
              have hb2 : (2 : Int) ≤ (σ.br : Int) := by have := of_decide_eq_true h62.2; omega
              rw [if_pos h62] at hBs
              have HS : Hid (stepF F inn nm (decide (2 ≤ σ.br)) (l.drop σ.i) = .bad 0) := hBs
              have HWR := Lib.hid (fun W (h1 : CuAt W cb (.slice a n cap) inn nm c3) => wrong_any h1)
              clear hJ3 hx hi3 hu hBs hx60 hx38 hin1 h62
              go_wp2_with (first | (go_at_call 28; (with_reducible refine HB.out.mono ?_); rintro e w4 ⟨rfl, hb4⟩; obtain ⟨k1, k2, k3, k4, k5, k6⟩ := HK3.out w4 hb4; have HK1 := Lib.hid k1; clear k1) | (go_at_call 31; (with_reducible refine (HWR.out _ HK1.out).mono ?_); rintro e w5 ⟨rfl, h5, h6⟩))
              simp only [Exit.jump]
              go_end0
              exact ⟨rfl, HFIN.out _ (HJ3.out.bad HX1.out HS.out h5 (TS.refl HTX3.out ((Kp.of hb4).trans h6 fun _ e => .inl e)) rfl (by show c3.i = _; rw [HI3.out]; rfl))⟩
            · rw [if_neg h62] at hBs
              have hs : stepF F inn nm (decide (2 ≤ σ.br)) (l.drop σ.i) = (charL 0 (l.drop σ.i)).next (l.drop σ.i) fun r l => doneP (.put r true) l := by rw [hBs, hx]
              have HS := Lib.hid hs
              have HCH := Lib.hid (fun W (hbW : Below w3.heap.size w3 W) => char0 HL.out (HE3.out.below hbW) (hJ3.cu.below hbW) (by rw [hi3]; exact hle))
              rw [hi3] at HCH
              by_cases hx62 : x.toNat = 62
              · have hnb : σ.br < 2 := by
                  apply Nat.lt_of_not_le; intro hh; exact h62 ⟨hx62, decide_eq_true hh⟩
                have hxe3 : ((x.toNat : Int) == 62) = true := by simp; omega
                have hxe4 : ((x.toNat : Int) != 93) = true := by simp; omega
                have hxe5 : ((x.toNat : Int) == 93) = false := by simp; omega
                have hnb2 : (σ.br : Int) < 2 := by omega
                have hn93 : ¬ x.toNat = 93 := by omega
                clear hx62
                cases hcl : charL 0 (l.drop σ.i) with
                | wait =>
                  rw [hcl] at HCH HS
                  clear hJ3 hs hx hi3 hu hBs hcl hx60 hx38 hin1 h62
                  go_wp2_with (first | (go_at_call 28; (with_reducible refine HB.out.mono ?_); rintro e w4 ⟨rfl, hb4⟩; obtain ⟨k1, k2, k3, k4, k5, k6⟩ := HK3.out w4 hb4; have HK1 := Lib.hid k1; clear k1) | (go_at_call 35; (with_reducible refine (HCH.out _ hb4).mono ?_); rintro e w5 ⟨he, c5, h5, h6, h7⟩; obtain rfl : e = .returned (.tuple #[.int .i32 0, .bool false]) := he; have H5 := Lib.hid h5; have H6 := Lib.hid h6; have H7 := Lib.hid h7; clear h5 h6 h7))
                  simp only [Exit.jump]
                  go_end0
                  obtain ⟨i', rfl⟩ := H5.out
                  exact ⟨rfl, HFIN.out _ (HJ3.out.wait HX1.out HS.out HM3.out H6.out (TS.refl HTX3.out ((Kp.of hb4).trans H7.out fun _ e => .inl e)) rfl (by rw [decide_eq_false (by omega)]; exact HJ3.out.out) ⟨rfl, rfl, rfl, rfl, rfl, rfl⟩)⟩
                | bad k =>
                  rw [hcl] at HCH HS
                  clear hJ3 hs hx hi3 hu hBs hcl hx60 hx38 hin1 h62
                  go_wp2_with (first | (go_at_call 28; (with_reducible refine HB.out.mono ?_); rintro e w4 ⟨rfl, hb4⟩; obtain ⟨k1, k2, k3, k4, k5, k6⟩ := HK3.out w4 hb4; have HK1 := Lib.hid k1; clear k1) | (go_at_call 35; (with_reducible refine (HCH.out _ hb4).mono ?_); rintro e w5 ⟨he, c5, h5, h6, h7⟩; obtain rfl : e = .returned (.tuple #[.int .i32 0, .bool false]) := he; have H5 := Lib.hid h5; have H6 := Lib.hid h6; have H7 := Lib.hid h7; clear h5 h6 h7))
                  simp only [Exit.jump]
                  go_end0
                  obtain rfl := H5.out
                  exact ⟨rfl, HFIN.out _ (HJ3.out.bad HX1.out HS.out H6.out (TS.refl HTX3.out ((Kp.of hb4).trans H7.out fun _ e => .inl e)) rfl (by show c3.i + k = _; rw [HI3.out]))⟩
                | ok r k =>
                  have hcl2 := hcl
                  rw [hx] at hcl2
                  have hbq := (char_head hcl2 93 (by decide))
                  have ea := act_put (br' := 0) hcl HCR.out (by rw [if_neg (fun e => hn93 (hbq.2 e))])
                  have hPU : ∀ c5 W, c5 = { c3 with i := c3.i + k } → CuAt W cb (.slice a n cap) inn nm c5 → Kp (· = cb) w3 W → Calls Tryd.prog 34 #[.pointer (some ⟨cb, 0, none⟩), .int .i32 r, .int .i64 σ.i, .bool true] W fun e w' => e = .returned (.tuple #[]) ∧ PR G W cb a (.slice a n cap) inn nm { c3 with i := c3.i + k } σ.text (putW true (crAt l σ.i) σ.text r) σ.i w' := fun c5 W hc5 h1 h2 => by
                    subst hc5
                    exact put_any (HE3.out.keep1 h2) h1 (HTX3.out.keep1 h2) (by omega) r (charL_ok (.inl rfl) hcl).2.2.2.1 σ.i true (crAt l σ.i) (fun _ h10 => by show 1 ≤ c3.i + k ∧ c3.i + k ≤ n ∧ crAt l (c3.i + k - 1) = _; rw [HI3.out]; exact put_hcr HLEN.out hcl h10)
                  have HPU := Lib.hid hPU
                  have EA := Lib.hid ea
                  rw [hcl] at HCH HS
                  clear hJ3 hs hx hi3 hu hBs hcl hcl2 hbq hx60 hx38 hin1 h62 ea hPU
                  go_wp2_with (first | (go_at_call 28; (with_reducible refine HB.out.mono ?_); rintro e w4 ⟨rfl, hb4⟩; obtain ⟨k1, k2, k3, k4, k5, k6⟩ := HK3.out w4 hb4; have HK1 := Lib.hid k1; clear k1) | (go_at_call 35; (with_reducible refine (HCH.out _ hb4).mono ?_); rintro e w5 ⟨he, c5, h5, h6, h7⟩; obtain rfl : e = .returned (.tuple #[.int .i32 (r : Int), .bool true]) := he; have H5 : Hid (c5 = { c3 with i := c3.i + k }) := h5; have H6 := Lib.hid h6; have H7 : Hid (Kp (· = cb) w3 w5) := (Kp.of (S := (· = cb)) hb4).trans h7 fun k e => .inl e; have hx5 := HBX.out _ _ _ (TS.trans HX1.out HJ3.out.ts (TS.refl HTX3.out H7.out)); have hl5 := h6.lt; clear h5 h6 h7) | (go_at_call 34; (with_reducible refine (HPU.out _ _ H5.out H6.out H7.out).mono ?_); rintro e w6 ⟨rfl, v', be, g1, g2, g3⟩; have G1 := Lib.hid g1; have G2 := Lib.hid g2; have G3 := Lib.hid g3; clear g1 g2 g3))
                  have h6 := G1.out
                  have hT := TS.trans HTX3.out (TS.refl HTX3.out H7.out) G2.out
                  have hs6 : stepF F inn nm (decide (2 ≤ σ.br)) (l.drop σ.i) = .ok (.put r true) (k + 0) := HS.out
                  have hn := HJ3.out.next HLEN.out HX1.out hs6 (by simp) h6 (by rw [EA.out]; exact hT) HJ3.out.how HJ3.out.out (by show c3.i + k = _; rw [HI3.out]; rfl) (by
                    rw [EA.out]
                    show be = _
                    rw [G3.out]
                    show (if σ.text = [] ∧ putW true (crAt l σ.i) σ.text r ≠ [] then (σ.i : Int) else c3.beg) = if σ.text = [] ∧ putW true (crAt l σ.i) σ.text r ≠ [] then (σ.i : Int) else σ.beg
                    rw [HJ3.out.be]) (fun _ => by rw [EA.out]; rfl)
                  have hmu := muI_eq (n := n) h6
                  rw [EA.out] at hn
                  have HN := Lib.hid hn
                  have HMU := Lib.hid hmu
                  clear hn hmu h6 hT hs6
                  go_step3
                  refine ⟨rfl, ⟨_, _, by rfl, HN.out.1⟩, ?_⟩
                  rw [HMU.out]
                  have := HN.out.2
                  show n - (c3.i + k) < n - σ.i
                  rw [HI3.out]
                  omega
              · by_cases hx93 : x.toNat = 93
                · have hxe3 : ((x.toNat : Int) == 62) = false := by simp; omega
                  have hxe4 : ((x.toNat : Int) != 93) = false := by simp; omega
                  have hxe5 : ((x.toNat : Int) == 93) = true := by simp; omega
                  have hn93 : x.toNat = 93 := hx93
                  clear hx62 hx93
                  cases hcl : charL 0 (l.drop σ.i) with
                  | wait =>
                    rw [hcl] at HCH HS
                    clear hJ3 hs hx hi3 hu hBs hcl hx60 hx38 hin1 h62
                    go_wp2_with (first | (go_at_call 28; (with_reducible refine HB.out.mono ?_); rintro e w4 ⟨rfl, hb4⟩; obtain ⟨k1, k2, k3, k4, k5, k6⟩ := HK3.out w4 hb4; have HK1 := Lib.hid k1; clear k1) | (go_at_call 35; (with_reducible refine (HCH.out _ hb4).mono ?_); rintro e w5 ⟨he, c5, h5, h6, h7⟩; obtain rfl : e = .returned (.tuple #[.int .i32 0, .bool false]) := he; have H5 := Lib.hid h5; have H6 := Lib.hid h6; have H7 := Lib.hid h7; clear h5 h6 h7))
                    simp only [Exit.jump]
                    go_end0
                    obtain ⟨i', rfl⟩ := H5.out
                    exact ⟨rfl, HFIN.out _ (HJ3.out.wait HX1.out HS.out HM3.out H6.out (TS.refl HTX3.out ((Kp.of hb4).trans H7.out fun _ e => .inl e)) rfl (by rw [decide_eq_false (by omega)]; exact HJ3.out.out) ⟨rfl, rfl, rfl, rfl, rfl, rfl⟩)⟩
                  | bad k =>
                    rw [hcl] at HCH HS
                    clear hJ3 hs hx hi3 hu hBs hcl hx60 hx38 hin1 h62
                    go_wp2_with (first | (go_at_call 28; (with_reducible refine HB.out.mono ?_); rintro e w4 ⟨rfl, hb4⟩; obtain ⟨k1, k2, k3, k4, k5, k6⟩ := HK3.out w4 hb4; have HK1 := Lib.hid k1; clear k1) | (go_at_call 35; (with_reducible refine (HCH.out _ hb4).mono ?_); rintro e w5 ⟨he, c5, h5, h6, h7⟩; obtain rfl : e = .returned (.tuple #[.int .i32 0, .bool false]) := he; have H5 := Lib.hid h5; have H6 := Lib.hid h6; have H7 := Lib.hid h7; clear h5 h6 h7))
                    simp only [Exit.jump]
                    go_end0
                    obtain rfl := H5.out
                    exact ⟨rfl, HFIN.out _ (HJ3.out.bad HX1.out HS.out H6.out (TS.refl HTX3.out ((Kp.of hb4).trans H7.out fun _ e => .inl e)) rfl (by show c3.i + k = _; rw [HI3.out]))⟩
                  | ok r k =>
                    have hcl2 := hcl
                    rw [hx] at hcl2
                    have hbq := (char_head hcl2 93 (by decide))
                    have ea := act_put (br' := σ.br + 1) hcl HCR.out (by rw [if_pos (hbq.1 hn93)])
                    have hPU : ∀ c5 W, c5 = { c3 with i := c3.i + k } → CuAt W cb (.slice a n cap) inn nm c5 → Kp (· = cb) w3 W → Calls Tryd.prog 34 #[.pointer (some ⟨cb, 0, none⟩), .int .i32 r, .int .i64 σ.i, .bool true] W fun e w' => e = .returned (.tuple #[]) ∧ PR G W cb a (.slice a n cap) inn nm { c3 with i := c3.i + k } σ.text (putW true (crAt l σ.i) σ.text r) σ.i w' := fun c5 W hc5 h1 h2 => by
                      subst hc5
                      exact put_any (HE3.out.keep1 h2) h1 (HTX3.out.keep1 h2) (by omega) r (charL_ok (.inl rfl) hcl).2.2.2.1 σ.i true (crAt l σ.i) (fun _ h10 => by show 1 ≤ c3.i + k ∧ c3.i + k ≤ n ∧ crAt l (c3.i + k - 1) = _; rw [HI3.out]; exact put_hcr HLEN.out hcl h10)
                    have HPU := Lib.hid hPU
                    have EA := Lib.hid ea
                    rw [hcl] at HCH HS
                    clear hJ3 hs hx hi3 hu hBs hcl hcl2 hbq hx60 hx38 hin1 h62 ea hPU
                    go_wp2_with (first | (go_at_call 28; (with_reducible refine HB.out.mono ?_); rintro e w4 ⟨rfl, hb4⟩; obtain ⟨k1, k2, k3, k4, k5, k6⟩ := HK3.out w4 hb4; have HK1 := Lib.hid k1; clear k1) | (go_at_call 35; (with_reducible refine (HCH.out _ hb4).mono ?_); rintro e w5 ⟨he, c5, h5, h6, h7⟩; obtain rfl : e = .returned (.tuple #[.int .i32 (r : Int), .bool true]) := he; have H5 : Hid (c5 = { c3 with i := c3.i + k }) := h5; have H6 := Lib.hid h6; have H7 : Hid (Kp (· = cb) w3 w5) := (Kp.of (S := (· = cb)) hb4).trans h7 fun k e => .inl e; have hx5 := HBX.out _ _ _ (TS.trans HX1.out HJ3.out.ts (TS.refl HTX3.out H7.out)); have hl5 := h6.lt; clear h5 h6 h7) | (go_at_call 34; (with_reducible refine (HPU.out _ _ H5.out H6.out H7.out).mono ?_); rintro e w6 ⟨rfl, v', be, g1, g2, g3⟩; have G1 := Lib.hid g1; have G2 := Lib.hid g2; have G3 := Lib.hid g3; clear g1 g2 g3))
                    have h6 := G1.out
                    have hT := TS.trans HTX3.out (TS.refl HTX3.out H7.out) G2.out
                    have hs6 : stepF F inn nm (decide (2 ≤ σ.br)) (l.drop σ.i) = .ok (.put r true) (k + 0) := HS.out
                    have hn := HJ3.out.next HLEN.out HX1.out hs6 (by simp) h6 (by rw [EA.out]; exact hT) HJ3.out.how HJ3.out.out (by show c3.i + k = _; rw [HI3.out]; rfl) (by
                      rw [EA.out]
                      show be = _
                      rw [G3.out]
                      show (if σ.text = [] ∧ putW true (crAt l σ.i) σ.text r ≠ [] then (σ.i : Int) else c3.beg) = if σ.text = [] ∧ putW true (crAt l σ.i) σ.text r ≠ [] then (σ.i : Int) else σ.beg
                      rw [HJ3.out.be]) (fun _ => by rw [EA.out]; rfl)
                    have hmu := muI_eq (n := n) h6
                    rw [EA.out] at hn
                    have HN := Lib.hid hn
                    have HMU := Lib.hid hmu
                    clear hn hmu h6 hT hs6
                    go_step3
                    refine ⟨rfl, ⟨_, _, by rfl, HN.out.1⟩, ?_⟩
                    rw [HMU.out]
                    have := HN.out.2
                    show n - (c3.i + k) < n - σ.i
                    rw [HI3.out]
                    omega
                · have hxe3 : ((x.toNat : Int) == 62) = false := by simp; omega
                  have hxe4 : ((x.toNat : Int) != 93) = true := by simp; omega
                  have hxe5 : ((x.toNat : Int) == 93) = false := by simp; omega
                  have hn93 : ¬ x.toNat = 93 := hx93
                  clear hx62 hx93
                  cases hcl : charL 0 (l.drop σ.i) with
                  | wait =>
                    rw [hcl] at HCH HS
                    clear hJ3 hs hx hi3 hu hBs hcl hx60 hx38 hin1 h62
                    go_wp2_with (first | (go_at_call 28; (with_reducible refine HB.out.mono ?_); rintro e w4 ⟨rfl, hb4⟩; obtain ⟨k1, k2, k3, k4, k5, k6⟩ := HK3.out w4 hb4; have HK1 := Lib.hid k1; clear k1) | (go_at_call 35; (with_reducible refine (HCH.out _ hb4).mono ?_); rintro e w5 ⟨he, c5, h5, h6, h7⟩; obtain rfl : e = .returned (.tuple #[.int .i32 0, .bool false]) := he; have H5 := Lib.hid h5; have H6 := Lib.hid h6; have H7 := Lib.hid h7; clear h5 h6 h7))
                    simp only [Exit.jump]
                    go_end0
                    obtain ⟨i', rfl⟩ := H5.out
                    exact ⟨rfl, HFIN.out _ (HJ3.out.wait HX1.out HS.out HM3.out H6.out (TS.refl HTX3.out ((Kp.of hb4).trans H7.out fun _ e => .inl e)) rfl (by rw [decide_eq_false (by omega)]; exact HJ3.out.out) ⟨rfl, rfl, rfl, rfl, rfl, rfl⟩)⟩
                  | bad k =>
                    rw [hcl] at HCH HS
                    clear hJ3 hs hx hi3 hu hBs hcl hx60 hx38 hin1 h62
                    go_wp2_with (first | (go_at_call 28; (with_reducible refine HB.out.mono ?_); rintro e w4 ⟨rfl, hb4⟩; obtain ⟨k1, k2, k3, k4, k5, k6⟩ := HK3.out w4 hb4; have HK1 := Lib.hid k1; clear k1) | (go_at_call 35; (with_reducible refine (HCH.out _ hb4).mono ?_); rintro e w5 ⟨he, c5, h5, h6, h7⟩; obtain rfl : e = .returned (.tuple #[.int .i32 0, .bool false]) := he; have H5 := Lib.hid h5; have H6 := Lib.hid h6; have H7 := Lib.hid h7; clear h5 h6 h7))
                    simp only [Exit.jump]
                    go_end0
                    obtain rfl := H5.out
                    exact ⟨rfl, HFIN.out _ (HJ3.out.bad HX1.out HS.out H6.out (TS.refl HTX3.out ((Kp.of hb4).trans H7.out fun _ e => .inl e)) rfl (by show c3.i + k = _; rw [HI3.out]))⟩
                  | ok r k =>
                    have hcl2 := hcl
                    rw [hx] at hcl2
                    have hbq := (char_head hcl2 93 (by decide))
                    have ea := act_put (br' := 0) hcl HCR.out (by rw [if_neg (fun e => hn93 (hbq.2 e))])
                    have hPU : ∀ c5 W, c5 = { c3 with i := c3.i + k } → CuAt W cb (.slice a n cap) inn nm c5 → Kp (· = cb) w3 W → Calls Tryd.prog 34 #[.pointer (some ⟨cb, 0, none⟩), .int .i32 r, .int .i64 σ.i, .bool true] W fun e w' => e = .returned (.tuple #[]) ∧ PR G W cb a (.slice a n cap) inn nm { c3 with i := c3.i + k } σ.text (putW true (crAt l σ.i) σ.text r) σ.i w' := fun c5 W hc5 h1 h2 => by
                      subst hc5
                      exact put_any (HE3.out.keep1 h2) h1 (HTX3.out.keep1 h2) (by omega) r (charL_ok (.inl rfl) hcl).2.2.2.1 σ.i true (crAt l σ.i) (fun _ h10 => by show 1 ≤ c3.i + k ∧ c3.i + k ≤ n ∧ crAt l (c3.i + k - 1) = _; rw [HI3.out]; exact put_hcr HLEN.out hcl h10)
                    have HPU := Lib.hid hPU
                    have EA := Lib.hid ea
                    rw [hcl] at HCH HS
                    clear hJ3 hs hx hi3 hu hBs hcl hcl2 hbq hx60 hx38 hin1 h62 ea hPU
                    go_wp2_with (first | (go_at_call 28; (with_reducible refine HB.out.mono ?_); rintro e w4 ⟨rfl, hb4⟩; obtain ⟨k1, k2, k3, k4, k5, k6⟩ := HK3.out w4 hb4; have HK1 := Lib.hid k1; clear k1) | (go_at_call 35; (with_reducible refine (HCH.out _ hb4).mono ?_); rintro e w5 ⟨he, c5, h5, h6, h7⟩; obtain rfl : e = .returned (.tuple #[.int .i32 (r : Int), .bool true]) := he; have H5 : Hid (c5 = { c3 with i := c3.i + k }) := h5; have H6 := Lib.hid h6; have H7 : Hid (Kp (· = cb) w3 w5) := (Kp.of (S := (· = cb)) hb4).trans h7 fun k e => .inl e; have hx5 := HBX.out _ _ _ (TS.trans HX1.out HJ3.out.ts (TS.refl HTX3.out H7.out)); have hl5 := h6.lt; clear h5 h6 h7) | (go_at_call 34; (with_reducible refine (HPU.out _ _ H5.out H6.out H7.out).mono ?_); rintro e w6 ⟨rfl, v', be, g1, g2, g3⟩; have G1 := Lib.hid g1; have G2 := Lib.hid g2; have G3 := Lib.hid g3; clear g1 g2 g3))
                    have h6 := G1.out
                    have hT := TS.trans HTX3.out (TS.refl HTX3.out H7.out) G2.out
                    have hs6 : stepF F inn nm (decide (2 ≤ σ.br)) (l.drop σ.i) = .ok (.put r true) (k + 0) := HS.out
                    have hn := HJ3.out.next HLEN.out HX1.out hs6 (by simp) h6 (by rw [EA.out]; exact hT) HJ3.out.how HJ3.out.out (by show c3.i + k = _; rw [HI3.out]; rfl) (by
                      rw [EA.out]
                      show be = _
                      rw [G3.out]
                      show (if σ.text = [] ∧ putW true (crAt l σ.i) σ.text r ≠ [] then (σ.i : Int) else c3.beg) = if σ.text = [] ∧ putW true (crAt l σ.i) σ.text r ≠ [] then (σ.i : Int) else σ.beg
                      rw [HJ3.out.be]) (fun _ => by rw [EA.out]; rfl)
                    have hmu := muI_eq (n := n) h6
                    rw [EA.out] at hn
                    have HN := Lib.hid hn
                    have HMU := Lib.hid hmu
                    clear hn hmu h6 hT hs6
                    go_step3
                    refine ⟨rfl, ⟨_, _, by rfl, HN.out.1⟩, ?_⟩
                    rw [HMU.out]
                    have := HN.out.2
                    show n - (c3.i + k) < n - σ.i
                    rw [HI3.out]
                    omega
        · have hie : ((inn : Int) != 1) = true := by simp; omega
          rw [if_pos hin1] at hBs
          by_cases hbl : blankB x = true
          · rw [if_pos hbl] at hBs
            have HS := Lib.hid (show stepF F inn nm (decide (2 ≤ σ.br)) (l.drop σ.i) = .ok .skip 1 from hBs)
            have HBL : Hid (∀ W, Calls Tryd.prog 30 #[.int .u8 x.toNat] W fun e w' => e = .returned (.bool true) ∧ w' = W) := fun W => by have := blank_any x W; rwa [hbl] at this
            have HNI := Lib.hid hin1
            clear hJ3 hx hi3 hu hBs hx60 hin1 hbl
            go_wp2_with (first | (go_at_call 28; (with_reducible refine HB.out.mono ?_); rintro e w4 ⟨rfl, hb4⟩; obtain ⟨k1, k2, k3, k4, k5, k6⟩ := HK3.out w4 hb4; have HK1 := Lib.hid k1; clear k1) | (go_at_call 30; (with_reducible refine (HBL.out _).mono ?_); rintro e w5 ⟨rfl, hw5⟩; have hw : w4 = w5 := hw5.symm; subst hw))
            have h6 := HK1.out.set_iz ((σ.i : Int) + 1) (σ.i + 1) rfl
            have hn := HJ3.out.next HLEN.out HX1.out HS.out (by simp) h6 (TS.refl HTX3.out (Kp.set (S := (· = cb)) (Kp.of hb4) (.inl rfl) _ _)) HJ3.out.how HJ3.out.out rfl HJ3.out.be (fun e => absurd e HNI.out)
            have hmu := muI_eq (n := n) h6
            have HN := Lib.hid hn
            have HMU := Lib.hid hmu
            clear hn hmu h6
            go_step3
            refine ⟨rfl, ⟨_, _, by rfl, HN.out.1⟩, ?_⟩
            rw [HMU.out]
            exact HN.out.2
          · rw [if_neg hbl] at hBs
            have HS := Lib.hid (show stepF F inn nm (decide (2 ≤ σ.br)) (l.drop σ.i) = .bad 0 from hBs)
            have HBL : Hid (∀ W, Calls Tryd.prog 30 #[.int .u8 x.toNat] W fun e w' => e = .returned (.bool false) ∧ w' = W) := fun W => by have := blank_any x W; rwa [Bool.eq_false_iff.2 hbl] at this
            have HWR := Lib.hid (fun W (h1 : CuAt W cb (.slice a n cap) inn nm c3) => wrong_any h1)
            clear hJ3 hx hi3 hu hBs hx60 hin1 hbl
            go_wp2_with (first | (go_at_call 28; (with_reducible refine HB.out.mono ?_); rintro e w4 ⟨rfl, hb4⟩; obtain ⟨k1, k2, k3, k4, k5, k6⟩ := HK3.out w4 hb4; have HK1 := Lib.hid k1; clear k1) | (go_at_call 30; (with_reducible refine (HBL.out _).mono ?_); rintro e w5 ⟨rfl, hw5⟩; have hw : w4 = w5 := hw5.symm; subst hw) | (go_at_call 31; (with_reducible refine (HWR.out _ HK1.out).mono ?_); rintro e w6 ⟨rfl, h5, h6⟩))
            simp only [Exit.jump]
            go_end0
            exact ⟨rfl, HFIN.out _ (HJ3.out.bad HX1.out HS.out h5 (TS.refl HTX3.out ((Kp.of hb4).trans h6 fun _ e => .inl e)) rfl (by show c3.i = _; rw [HI3.out]; rfl))⟩
end
end Go.Proofs.YtjdmndpadejegaaDoor
