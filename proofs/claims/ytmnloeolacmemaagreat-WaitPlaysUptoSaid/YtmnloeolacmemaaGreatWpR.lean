/-
  gimletref08: Event, Print.
-/
import Derived.Test.YtmnloeolacmemaaGreatWpQ
import Derived.Test.YtmnloeolacmemaaGreatWpK
namespace Go.Proofs.YtmnloeolacmemaaGreat
open Go.RowKit

theorem flat_drop8 {α : Type} (f : α → List UInt8) (l : List α) (k : Nat) (h : k < l.length) : (l.take (k + 1)).flatMap f = (l.take k).flatMap f ++ f l[k] := by
  rw [List.take_succ_eq_append_getElem h, List.flatMap_append]; simp
set_option maxRecDepth 1000000 in
set_option maxHeartbeats 4000000 in
theorem event8_any (kd num dep fr tt : Int) (name text : List UInt8) (A : Option Addr) (m c : Nat) (ats : List (List UInt8 × List UInt8)) (w : World) (hA : AttrsAt w A m ats) (hk : kd = 0 ∨ kd = 1 ∨ kd = 2)
    (hn : name.length ≤ 1048576) (ht : text.length ≤ 1048576) (hm : m ≤ 1048576) (hal : ∀ p ∈ ats, p.1.length ≤ 1048576 ∧ p.2.length ≤ 1048576) (htot : (ats.flatMap attrW).length ≤ 67108864) :
    Calls Tryz.prog 30 #[.agg (evC kd num dep name A m c text fr tt)] w fun e w' => e = .returned (.string (strL (eventW kd name ats text))) ∧ Below w.heap.size w w' := by
  have HA := Lib.hid hA
  have HAL := Lib.hid hal
  have hb : ∀ o, Below w.heap.size w (w.alloc o) := fun o => (Below.refl _ _).alloc (Nat.le_refl _) o
  have HBO := Lib.hid hb
  clear hA hal hb
  rcases hk with rfl | rfl | rfl
  · have HEV : Hid (eventW 0 name ats text = [60] ++ name ++ ats.flatMap attrW ++ [62]) := Lib.hid (by unfold eventW; rw [if_pos rfl])
    obtain ⟨q0, hq0⟩ : ∃ q0, [60] ++ name = q0 := ⟨_, rfl⟩
    have hq0l : q0.length ≤ 1048577 := by rw [← hq0]; simp; omega
    have k1 : ∀ W, (Op.stringOp .add ⟨#[60]⟩ (strL name)).run Tryz.prog W = .ok (.string (strL q0)) W := fun W => by rw [← hq0]; exact run_catL [60] name (by simp; omega) W
    have HQ0 := Lib.hid hq0
    have HTK : Hid (∀ i, ((ats.take i).flatMap attrW).length ≤ 67108864) := Lib.hid fun i => by
      have h : ats.flatMap attrW = (ats.take i).flatMap attrW ++ (ats.drop i).flatMap attrW := by rw [← List.flatMap_append, List.take_append_drop]
      rw [h, List.length_append] at htot
      omega
    clear hq0
    unfold evC
    go_enter Tryz.func30, Tryz.ntmps30
    go_wp2_with fail
    go_loopw [3, 16] (fun sv iv wr => ∃ (i : Nat) (s0 : List UInt8), iv = .int .i64 i ∧ i ≤ m ∧ sv = .string (strL s0) ∧ Hid (Below w.heap.size w wr ∧ s0 = q0 ++ (ats.take i).flatMap attrW)) (fun _ iv _ => m - (intOf iv).toNat)
    case atStart => exact ⟨0, q0, rfl, Nat.zero_le _, rfl, Lib.hid ⟨HBO.out _, by simp⟩⟩
    case round =>
      obtain ⟨i, s0, rfl, hi', rfl, HR⟩ := hrel
      have hs0l : s0.length ≤ 68157441 := by have := HTK.out i; rw [HR.out.2, List.length_append]; omega
      by_cases him : i < m
      · have hil : i < ats.length := by rw [← HA.out.1]; exact him
        obtain ⟨b, o, rfl, hbl, p1, p2⟩ := (HA.out.below HR.out.1).2 i hil
        have hpl := HAL.out _ (List.getElem_mem hil)
        have hstep : (ats.take (i + 1)).flatMap attrW = (ats.take i).flatMap attrW ++ ([32] ++ ats[i].1 ++ [61, 34] ++ replL valuePs ats[i].2 ++ [34]) := flat_drop8 attrW ats i hil
        have hv6 := replL_len valuePs form_value_len ats[i].2
        have HQU : Hid (∀ W, Calls Tryz.prog 36 #[.string (strL ats[i].2)] W fun e w' => e = .returned (.string (strL (replL valuePs ats[i].2))) ∧ Below W.heap.size W w') := Lib.hid fun W => Value5_any ats[i].2 hpl.2 W
        generalize ats[i].1 = an at *
        generalize ats[i].2 = av at *
        obtain ⟨rv, hrv⟩ : ∃ rv, replL valuePs av = rv := ⟨_, rfl⟩
        rw [hrv] at hstep hv6 HQU
        obtain ⟨hp1, hp2⟩ := hpl
        obtain ⟨s1, h1⟩ : ∃ s1, [32] ++ an = s1 := ⟨_, rfl⟩
        obtain ⟨s2, h2⟩ : ∃ s2, s1 ++ [61, 34] = s2 := ⟨_, rfl⟩
        obtain ⟨s3, h3⟩ : ∃ s3, s2 ++ rv = s3 := ⟨_, rfl⟩
        obtain ⟨s4, h4⟩ : ∃ s4, s3 ++ [34] = s4 := ⟨_, rfl⟩
        obtain ⟨s5, h5⟩ : ∃ s5, s0 ++ s4 = s5 := ⟨_, rfl⟩
        have l1 : s1.length = an.length + 1 := by rw [← h1]; simp
        have l2 : s2.length = s1.length + 2 := by rw [← h2]; simp
        have l3 : s3.length = s2.length + rv.length := by rw [← h3]; simp
        have l4 : s4.length = s3.length + 1 := by rw [← h4]; simp
        have c1 : ∀ W, (Op.stringOp .add ⟨#[32]⟩ (strL an)).run Tryz.prog W = .ok (.string (strL s1)) W := fun W => by rw [← h1]; exact run_catL [32] an (by simp; omega) W
        have c2 : ∀ W, (Op.stringOp .add (strL s1) ⟨#[61, 34]⟩).run Tryz.prog W = .ok (.string (strL s2)) W := fun W => by rw [← h2]; exact run_catL s1 [61, 34] (by simp; omega) W
        have c3 : ∀ W, (Op.stringOp .add (strL s2) (strL rv)).run Tryz.prog W = .ok (.string (strL s3)) W := fun W => by rw [← h3]; exact run_catL s2 rv (by omega) W
        have c4 : ∀ W, (Op.stringOp .add (strL s3) ⟨#[34]⟩).run Tryz.prog W = .ok (.string (strL s4)) W := fun W => by rw [← h4]; exact run_catL s3 [34] (by simp; omega) W
        have c5 : ∀ W, (Op.stringOp .add (strL s0) (strL s4)).run Tryz.prog W = .ok (.string (strL s5)) W := fun W => by rw [← h5]; exact run_catL s0 s4 (by omega) W
        have HNX : Hid (s5 = q0 ++ (ats.take (i + 1)).flatMap attrW) := Lib.hid (by rw [hstep, ← h5, ← h4, ← h3, ← h2, ← h1, HR.out.2]; simp only [List.append_assoc])
        have i1 : (0 : Int) ≤ (i : Int) := by omega
        have i2 : (i : Int) < (m : Int) := by omega
        have ew : IntKind.i64.wrap ((i : Int) + 1) = (i : Int) + 1 := IntWalk.i64_in _ (by omega)
        obtain ⟨wx, hwx⟩ : ∃ wx, wr.alloc (.cells #[.string (strL an), .string (strL av)] 63) = wx := ⟨_, rfl⟩
        have hbx : Below wr.heap.size wr wx := by rw [← hwx]; exact (Below.refl _ _).alloc (Nat.le_refl _) _
        have hxc : wx.heap[wr.heap.size]? = some (.cells #[.string (strL an), .string (strL av)] 63 (0, 0)) := by rw [← hwx]; exact heap_alloc_new wr _
        have x0 : wx.cell? ⟨wr.heap.size, 0, none⟩ = some (.string (strL an)) := by rw [cell_heap hxc]; rfl
        have x1 : wx.cell? ⟨wr.heap.size, 1, none⟩ = some (.string (strL av)) := by rw [cell_heap hxc]; rfl
        have hlx := heap_lt hxc
        have HS : Hid (∀ W, Below wx.heap.size wx W → W.cell? ⟨wr.heap.size, 0, none⟩ = some (.string (strL an)) ∧ W.cell? ⟨wr.heap.size, 1, none⟩ = some (.string (strL av)) ∧ Below wx.heap.size wx W) := Lib.hid fun W hW => ⟨(hW.cell (p := ⟨wr.heap.size, 0, none⟩) hlx).trans x0, (hW.cell (p := ⟨wr.heap.size, 1, none⟩) hlx).trans x1, hW⟩
        have HDR := (Below.refl wx.heap.size wx).drew
        have HQK : Hid (∀ W, Below wx.heap.size wx W → Calls Tryz.prog 36 #[.string (strL av)] W fun e w' => e = .returned (.string (strL rv)) ∧ Below wx.heap.size wx w') := Lib.hid fun W hW => (HQU.out W).mono fun e w' ⟨h1, h2⟩ => ⟨h1, hW.trans (h2.mono hW.size)⟩
        have HBX := Lib.hid (HR.out.1.trans (hbx.mono HR.out.1.size))
        have HWX := Lib.hid hwx
        clear h1 h2 h3 h4 h5 l1 l2 l3 l4 hstep hrv hv6 hwx hbx hxc hlx
        go_wp2_with fail
        simp only [HWX.out]
        go_region_held3 (fun w' => w'.cell? ⟨wr.heap.size, 0, none⟩ = some (.string (strL an)) ∧ w'.cell? ⟨wr.heap.size, 1, none⟩ = some (.string (strL av)) ∧ Below wx.heap.size wx w') (first | exact HS.out _ ‹_› | exact HS.out _ HDR) (first | (go_at_call 36; (with_reducible refine (HQK.out _ ‹_›).mono ?_); rintro e w3 ⟨rfl, hb3⟩))
        have HB3 := Lib.hid hb3
        clear hb3
        go_wp2_with fail
        go_roundw
        case rel => exact ⟨i + 1, s5, by go_num, by omega, rfl, Lib.hid ⟨HBX.out.trans (HB3.out.mono HBX.out.size), HNX.out⟩⟩
        case measure => simp [intOf]; omega
      · have him2 : i = m := by omega
        subst him2
        have hfull : ats.take i = ats := List.take_of_length_le (by rw [← HA.out.1]; exact Nat.le_refl _)
        obtain ⟨s1, h1⟩ : ∃ s1, s0 ++ [62] = s1 := ⟨_, rfl⟩
        have c1 : ∀ W, (Op.stringOp .add (strL s0) ⟨#[62]⟩).run Tryz.prog W = .ok (.string (strL s1)) W := fun W => by rw [← h1]; exact run_catL s0 [62] (by simp; omega) W
        have HF : Hid (s1 = eventW 0 name ats text) := Lib.hid (by rw [HEV.out, ← h1, HR.out.2, hfull, HQ0.out])
        clear h1 hfull
        go_wp2_with fail
        go_ret
        exact ⟨by rw [← HF.out]; rfl, HR.out.1⟩
  · have HTX : Hid (∀ W, Calls Tryz.prog 37 #[.string (strL text)] W fun e w' => e = .returned (.string (strL (replL textPs text))) ∧ Below W.heap.size W w') := Lib.hid fun W => Text5_any text ht W
    have HEV : Hid (eventW 1 name ats text = replL textPs text) := Lib.hid (by unfold eventW; rw [if_neg (by decide), if_pos rfl])
    unfold evC
    go_enter Tryz.func30, Tryz.ntmps30
    go_wp2_with fail
    (with_reducible refine (HTX.out _).mono ?_)
    rintro e w2 ⟨rfl, hb2⟩
    have HB2 := Lib.hid ((HBO.out _).trans (hb2.mono (HBO.out _).size))
    clear hb2
    go_wp2_with fail
    go_ret
    exact ⟨by rw [HEV.out]; rfl, HB2.out⟩
  · obtain ⟨q0, hq0⟩ : ∃ q0, [60, 47] ++ name = q0 := ⟨_, rfl⟩
    have hq0l : q0.length ≤ 1048578 := by rw [← hq0]; simp; omega
    obtain ⟨q1, hq1⟩ : ∃ q1, q0 ++ [62] = q1 := ⟨_, rfl⟩
    have k1 : ∀ W, (Op.stringOp .add ⟨#[60, 47]⟩ (strL name)).run Tryz.prog W = .ok (.string (strL q0)) W := fun W => by rw [← hq0]; exact run_catL [60, 47] name (by simp; omega) W
    have k2 : ∀ W, (Op.stringOp .add (strL q0) ⟨#[62]⟩).run Tryz.prog W = .ok (.string (strL q1)) W := fun W => by rw [← hq1]; exact run_catL q0 [62] (by simp; omega) W
    have HEV : Hid (eventW 2 name ats text = q1) := Lib.hid (by unfold eventW; rw [if_neg (by decide), if_neg (by decide), if_pos rfl, ← hq1, ← hq0])
    clear hq0 hq1
    unfold evC
    go_enter Tryz.func30, Tryz.ntmps30
    go_wp2_with fail
    go_ret
    exact ⟨by rw [HEV.out]; rfl, HBO.out _⟩
theorem EvsAt.at8r {w : World} {a : Option Addr} {n : Nat} {evs : List Ev} (h : EvsAt w a n evs) (i : Nat) (hi : i < evs.length) :
    ∃ b o A m c, a = some ⟨b, o, none⟩ ∧ b < w.heap.size ∧ m ≤ c ∧ AttrsAt w A m evs[i].ats ∧ ∀ W, Below w.heap.size w W →
      W.cell? ⟨b, o + i * 8, none⟩ = some (.int .i64 evs[i].kind) ∧ W.cell? ⟨b, o + i * 8 + 1, none⟩ = some (.int .i64 evs[i].num) ∧ W.cell? ⟨b, o + i * 8 + 2, none⟩ = some (.int .i64 evs[i].dep) ∧ W.cell? ⟨b, o + i * 8 + 3, none⟩ = some (.string (strL evs[i].name)) ∧
      W.cell? ⟨b, o + i * 8 + 4, none⟩ = some (.slice A m c) ∧ W.cell? ⟨b, o + i * 8 + 5, none⟩ = some (.string (strL evs[i].text)) ∧ W.cell? ⟨b, o + i * 8 + 6, none⟩ = some (.int .i64 evs[i].fr) ∧ W.cell? ⟨b, o + i * 8 + 7, none⟩ = some (.int .i64 evs[i].tt) := by
  obtain ⟨b, o, A, m, c, e, hb, hmc, hA, hc⟩ := h.2 i hi
  refine ⟨b, o, A, m, c, e, hb, hmc, hA, fun W hW => ?_⟩
  have k := fun j (hj : j < 8) => (hW.cell (p := ⟨b, o + i * 8 + j, none⟩) hb).trans (hc j hj)
  exact ⟨k 0 (by decide), k 1 (by decide), k 2 (by decide), k 3 (by decide), k 4 (by decide), k 5 (by decide), k 6 (by decide), k 7 (by decide)⟩
theorem flat_len8 {α : Type} (f : α → List UInt8) (N : Nat) (l : List α) (h : ∀ x ∈ l, (f x).length ≤ N) : (l.flatMap f).length ≤ l.length * N := by
  induction l with
  | nil => simp
  | cons x l ih =>
    rw [List.flatMap_cons, List.length_append, List.length_cons, Nat.succ_mul]
    have h1 := h x List.mem_cons_self
    have h2 := ih (fun y hy => h y (List.mem_cons_of_mem _ hy))
    omega
set_option maxRecDepth 1000000 in
set_option maxHeartbeats 4000000 in
theorem print8_any (a : Option Addr) (n c : Nat) (evs : List Ev) (w : World) (hE : EvsAt w a n evs) (hn : n ≤ 1048576)
    (hP : ∀ e ∈ evs, ∀ W A m c, AttrsAt W A m e.ats → Calls Tryz.prog 30 #[.agg (evC e.kind e.num e.dep e.name A m c e.text e.fr e.tt)] W fun r w' => r = .returned (.string (strL (evOut e))) ∧ Below W.heap.size W w')
    (hL : ∀ e ∈ evs, (evOut e).length ≤ 134217728) :
    Calls Tryz.prog 26 #[.slice a n c] w fun e w' => e = .returned (.string (strL (evs.flatMap evOut))) ∧ Below w.heap.size w w' := by
  have HE := Lib.hid hE
  have HN : Hid (n = evs.length) := Lib.hid hE.1
  have HP := Lib.hid hP
  have HL := Lib.hid hL
  clear hE hP hL
  go_enter Tryz.func26, Tryz.ntmps26
  go_wp2_with fail
  have hLt : ∀ i, ((evs.take i).flatMap evOut).length ≤ 1048576 * 134217728 := fun i => by
    have h1 := flat_len8 evOut 134217728 (evs.take i) (fun x hx => HL.out x (List.mem_of_mem_take hx))
    have h2 : (evs.take i).length ≤ 1048576 := by rw [List.length_take]; have := HN.out; omega
    exact Nat.le_trans h1 (Nat.mul_le_mul_right _ h2)
  have HLT := Lib.hid hLt
  clear hLt
  go_loopw [3, 8] (fun sv iv wr => ∃ (i : Nat) (s0 : List UInt8), iv = .int .i64 i ∧ i ≤ n ∧ sv = .string (strL s0) ∧ Hid (s0 = (evs.take i).flatMap evOut ∧ Below w.heap.size w wr)) (fun _ iv _ => n - (intOf iv).toNat)
  case atStart => exact ⟨0, [], rfl, Nat.zero_le _, rfl, Lib.hid ⟨by simp, Below.refl _ _⟩⟩
  case round =>
    obtain ⟨i, s0, rfl, hi', rfl, HR⟩ := hrel
    by_cases hi : i < n
    · have hil : i < evs.length := by rw [← HN.out]; omega
      obtain ⟨b, o, A, m, c2, rfl, _, _, hA, k0⟩ := HE.out.at8r i hil
      obtain ⟨e0, e1, e2, e3, e4, e5, e6, e7⟩ := k0 wr HR.out.2
      have hba : ∀ o, Below w.heap.size w (wr.alloc o) := fun o => HR.out.2.alloc HR.out.2.size o
      have HPK : Hid (∀ o, Calls Tryz.prog 30 #[.agg (evC evs[i].kind evs[i].num evs[i].dep evs[i].name A m c2 evs[i].text evs[i].fr evs[i].tt)] (wr.alloc o) fun r w' => r = .returned (.string (strL (evOut evs[i]))) ∧ Below (wr.alloc o).heap.size (wr.alloc o) w') := Lib.hid fun o => HP.out _ (List.getElem_mem hil) _ A m c2 (hA.below (hba o))
      have HBA := Lib.hid hba
      have hl1 := HL.out _ (List.getElem_mem hil)
      have hl0 : s0.length ≤ 1048576 * 134217728 := by rw [HR.out.1]; exact HLT.out i
      have hst : (evs.take (i + 1)).flatMap evOut = (evs.take i).flatMap evOut ++ evOut evs[i] := flat_drop8 evOut evs i hil
      obtain ⟨s1, h1⟩ : ∃ s1, s0 ++ evOut evs[i] = s1 := ⟨_, rfl⟩
      have HS1 : Hid (s1 = (evs.take (i + 1)).flatMap evOut) := Lib.hid (by rw [hst, ← h1, HR.out.1])
      have c1 : ∀ W, (Op.stringOp .add (strL s0) (strL (evOut evs[i]))).run Tryz.prog W = .ok (.string (strL s1)) W := fun W => by rw [← h1]; exact run_catL s0 _ (by omega) W
      have i1 : (0 : Int) ≤ (i : Int) := by omega
      have i2 : (i : Int) < (n : Int) := by omega
      have ew : IntKind.i64.wrap ((i : Int) + 1) = (i : Int) + 1 := IntWalk.i64_in _ (by omega)
      clear hst h1 hA k0 hba
      unfold evC at HPK
      generalize evOut evs[i] = pc at *
      generalize evs[i] = ev at *
      go_wp2_with fail
      (with_reducible refine (HPK.out _).mono ?_)
      rintro e w2 ⟨rfl, hb2⟩
      have HB2 := Lib.hid ((HBA.out _).trans (hb2.mono (HBA.out _).size))
      clear hb2
      go_wp2_with fail
      go_roundw
      case rel => exact ⟨i + 1, s1, by go_num, by omega, rfl, Lib.hid ⟨HS1.out, HB2.out⟩⟩
      case measure => simp [intOf]; omega
    · have hiq2 : i = n := by omega
      subst hiq2
      have HF : Hid (s0 = evs.flatMap evOut) := Lib.hid (by rw [HR.out.1, List.take_of_length_le (by rw [HN.out]; exact Nat.le_refl _)])
      go_wp2_with fail
      go_ret
      exact ⟨by rw [← HF.out]; rfl, HR.out.2⟩
end Go.Proofs.YtmnloeolacmemaaGreat
