/-
  (asked).holds, one depth further: Or.
-/
import Derived.Test.YtekoflcioooncaaDoorMxZ
import Derived.Test.YtekoflcioooncaaDoorMxE
import Derived.Test.YtekoflcioooncaaDoorMxF
import Derived.Test.YtekoflcioooncaaDoorMxH
import Derived.Test.YtekoflcioooncaaDoorMxJ
import Derived.Test.YtekoflcioooncaaDoorMxG
import Derived.Test.YtekoflcioooncaaDoorMxP
import Derived.Test.YtekoflcioooncaaDoorMxM
namespace Go.Proofs.YtekoflcioooncaaDoor
open Go.RowKit

set_option maxRecDepth 100000 in
set_option maxHeartbeats 4000000 in
theorem holdsOr_any {tb : Nat} {evs : List Ev} {f : Nat} (HX : HoldX tb evs f) (v : Int) (x0 : PX) (cs : List Value) (w : World) (hv1 : -1 ≤ v) (hv2 : v < (nodesB evs).length) (hq : TQ w tb evs) (h : XAt (f + 1) w x0 cs) (hg : goodXB (f + 1) x0 = true) (hop : x0.op = 1) :
    Calls Tryd.prog 49 #[.agg #[.pointer (some ⟨tb, 0, none⟩)], .int .i64 v, .agg cs.toArray] w fun e w' => e = .returned (.bool (holdP (treePT evs) (f + 1) v x0)) ∧ Below w.heap.size w w' := by
  obtain ⟨aa, ac, pa, pc, rfl, hal, hpl, _, _, _, hatl, htxl, hn, hpathl, hx, hpath⟩ := h
  obtain ⟨_, hga⟩ := goodXB_args hg (by rw [hop]; decide)
  rw [show holdP (treePT evs) (f + 1) v x0 = x0.args.any (holdP (treePT evs) f v) by rw [holdP_succ, if_neg (by rw [hop]; decide), if_pos hop]]
  obtain ⟨l, hl⟩ : ∃ l, x0.args = l := ⟨_, rfl⟩
  have HROW : Hid (XsAt f w aa l) := Lib.hid (hl ▸ hx)
  have HG : Hid (∀ x ∈ l, goodXB f x = true) := Lib.hid (hl ▸ hga)
  have HCA : Hid (∀ (x : PX) (cs : List Value) (W : World), x ∈ l → Below w.heap.size w W → XAt f W x cs → Calls Tryd.prog 49 #[.agg #[.pointer (some ⟨tb, 0, none⟩)], .int .i64 v, .agg cs.toArray] W fun e w' => e = .returned (.bool (holdP (treePT evs) f v x)) ∧ Below W.heap.size W w') := Lib.hid fun x cs W hxl hW hxa =>
    HX v x cs W hv1 hv2 (hq.below hW) hxa (HG.out x hxl)
  obtain ⟨ow, how⟩ : ∃ o, o = Obj.cells (exprC x0 aa ac pa pc).toArray 61 := ⟨_, rfl⟩
  obtain ⟨W0, hW0⟩ : ∃ W0, W0 = (w.alloc (.cells #[.pointer (some ⟨tb, 0, none⟩)] 91)).alloc ow := ⟨_, rfl⟩
  have hb0 : Below w.heap.size w W0 := by rw [hW0]; exact ((Below.refl w.heap.size w).alloc (Nat.le_refl _) _).alloc (by simp) _
  have hsz0 : W0.heap.size = w.heap.size + 2 := by rw [hW0]; simp
  have hk3 : W0.heap[w.heap.size]? = some (.cells #[.pointer (some ⟨tb, 0, none⟩)] 91 (0, 0)) := by
    rw [hW0, Below.heap_alloc _ _ _ (by simp)]; exact heap_alloc_new w _
  have HB0 : Hid (Below w.heap.size w W0) := Lib.hid hb0
  have HCL : Hid (∀ W, Below (w.heap.size + 2) W0 W → W.cell? ⟨w.heap.size, 0, none⟩ = some (.pointer (some ⟨tb, 0, none⟩))) := Lib.hid fun W hW => by
    rw [cell_heap ((hW.block w.heap.size (by omega)).trans hk3)]; rfl
  have HBB : Hid (Below (w.heap.size + 2) W0 W0) := Lib.hid (Below.refl _ _)
  have HSZ : Hid (w.heap.size + 2 ≤ W0.heap.size) := Lib.hid (by omega)
  rw [hl]
  obtain ⟨R, hR⟩ : ∃ R, l.any (holdP (treePT evs) f v) = R := ⟨_, rfl⟩
  rw [hR]
  have HT : Hid (∀ x ∈ l, holdP (treePT evs) f v x = true → true = R) := Lib.hid fun x hxl h => by rw [← hR]; exact (List.any_eq_true.2 ⟨x, hxl, h⟩).symm
  have HF : Hid ((∀ x ∈ l, holdP (treePT evs) f v x = false) → false = R) := Lib.hid fun h => by
    rw [← hR]
    exact (List.any_eq_false.2 fun x hx => by rw [h x hx]; decide).symm
  have hn' : l.length ≤ 1048576 := hl ▸ hn
  unfold exprC at how
  rw [hop, hl] at how
  clear hR hx hq hn hga hg hpath hatl htxl hb0 hsz0 hk3
  try unfold exprC
  rw [hop]
  try rw [hl]
  generalize hq : l.length = q at *
  have HQQ := Lib.hid hq
  have HHW := Lib.hid (And.intro hW0 how)
  clear hq hl hop hW0 how
  go_enter Tryd.func49, Tryd.ntmps49
  go_wp2_with fail
  rw [← HHW.out.2, ← HHW.out.1]
  go_loopw [26] (fun jv wr => ∃ j : Nat, jv = .int .i64 j ∧ j ≤ q ∧ Hid ((∀ i (hi : i < l.length), i < j → holdP (treePT evs) f v l[i] = false) ∧ Below w.heap.size w wr ∧ Below (w.heap.size + 2) W0 wr ∧ w.heap.size + 2 ≤ wr.heap.size)) (fun jv _ => q - (intOf jv).toNat)
  case atStart => exact ⟨0, rfl, Nat.zero_le _, Lib.hid ⟨fun _ _ h => absurd h (Nat.not_lt_zero _), HB0.out, HBB.out, HSZ.out⟩⟩
  case round =>
    obtain ⟨j, rfl, hjq, HJ⟩ := hrel
    obtain ⟨w13, rfl⟩ : ∃ w13, w13 = wr := ⟨_, rfl⟩
    by_cases hjl : j < q
    · have hjw : j < l.length := by rw [HQQ.out]; exact hjl
      obtain ⟨b2, o2, ya, yc, yp, yd, rfl, hb2, hx, hcs⟩ := HROW.out.get' j hjw
      obtain ⟨x0, x1, x2, x3, x4, x5, x6⟩ := hcs w13 HJ.out.2.1
      have HMEM : Hid (l[j] ∈ l) := Lib.hid (List.getElem_mem hjw)
      have HNX : Hid (holdP (treePT evs) f v l[j] = false → ∀ i (hi : i < l.length), i < j + 1 → holdP (treePT evs) f v l[i] = false) := Lib.hid fun h2 i hi hij => by
        rcases Nat.lt_or_ge i j with h | h
        · exact HJ.out.1 i hi h
        · have : i = j := by omega
          subst this; exact h2
      have HDX : Hid (∀ W, Below w.heap.size w W → Calls Tryd.prog 49 #[.agg #[.pointer (some ⟨tb, 0, none⟩)], .int .i64 v, .agg (exprC l[j] ya yc yp yd).toArray] W fun e w' => e = .returned (.bool (holdP (treePT evs) f v l[j])) ∧ Below W.heap.size W w') := Lib.hid fun W hW =>
        HCA.out l[j] _ W (List.getElem_mem hjw) hW (XAt.turn hW (Nat.le_refl _) hx)
      clear hcs hx hb2
      generalize l[j] = y at *
      unfold exprC at HDX
      generalize hhv : holdP (treePT evs) f v y = hb at *
      have i3 : (0 : Int) ≤ (j : Int) := by omega
      have i4 : (j : Int) < (q : Int) := by omega
      have ewj : IntKind.i64.wrap ((j : Int) + 1) = (j : Int) + 1 := IntWalk.i64_in _ (by omega)
      have HB14 : Hid (∀ o, Below w.heap.size w (w13.alloc o) ∧ Below (w.heap.size + 2) W0 (w13.alloc o) ∧ w.heap.size + 2 ≤ (w13.alloc o).heap.size) := Lib.hid fun o => ⟨HJ.out.2.1.alloc HJ.out.2.1.size _, HJ.out.2.2.1.alloc HJ.out.2.2.2 _, by have := HJ.out.2.2.2; simp; omega⟩
      have c3 := HCL.out _ (HB14.out (.cells #[.int .i64 y.op, .slice ya y.args.length yc, .slice yp y.path.length yd, .string (strL y.attr), .int .i64 y.cmp, .string (strL y.text), .int .i64 y.num] 61)).2.1
      have HHV := Lib.hid hhv
      clear hhv
      have HB15 := Lib.hid (HB14.out (.cells #[.int .i64 y.op, .slice ya y.args.length yc, .slice yp y.path.length yd, .string (strL y.attr), .int .i64 y.cmp, .string (strL y.text), .int .i64 y.num] 61))
      clear HB14
      go_wp2_with fail
      generalize w13.alloc (.cells #[.int .i64 y.op, .slice ya y.args.length yc, .slice yp y.path.length yd, .string (strL y.attr), .int .i64 y.cmp, .string (strL y.text), .int .i64 y.num] 61) = w14 at *
      (with_reducible refine (HDX.out _ HB15.out.1).mono ?_)
      rintro e w15 ⟨rfl, hb15⟩
      have HB16 : Hid (Below w.heap.size w w15 ∧ Below (w.heap.size + 2) W0 w15 ∧ w.heap.size + 2 ≤ w15.heap.size) := Lib.hid ⟨HB15.out.1.trans (hb15.mono HB15.out.1.size), HB15.out.2.1.trans (hb15.mono HB15.out.2.2), Nat.le_trans HB15.out.2.2 hb15.size⟩
      clear hb15
      cases hb with
      | false =>
        have HN := Lib.hid (HNX.out rfl)
        go_wp2_with fail
        go_roundw
        case rel => exact ⟨j + 1, by go_num, by omega, Lib.hid ⟨HN.out, HB16.out⟩⟩
        case measure => simp [intOf]; omega
      | true =>
        have HFF := Lib.hid (HT.out y HMEM.out HHV.out)
        go_wp2_with fail
        go_ret
        exact ⟨ret_bool HFF.out, HB16.out.1⟩
    · have i4 : (q : Int) ≤ (j : Int) := by omega
      have HTT : Hid (false = R) := Lib.hid (HF.out fun x hx => by
        obtain ⟨i, hi, rfl⟩ := List.getElem_of_mem hx
        exact HJ.out.1 i hi (by have := HQQ.out; omega))
      go_wp2_with fail
      go_ret
      exact ⟨ret_bool HTT.out, HJ.out.2.1⟩
end Go.Proofs.YtekoflcioooncaaDoor

namespace Go.Proofs.YtekoflcioooncaaDoor
open Go.RowKit

theorem own_sl9 {w : World} {base n : Nat} {e : TypeId} {a : Option Addr} {c : Nat} {xs : List Value} (h : w.ownsRow base e 1 (.slice a n c) n xs) : Sl w a n xs := by
  obtain ⟨a', c', e', h2⟩ := own_sl h
  cases e'
  exact h2
theorem form_text6 (c : UInt8) : (form textPs c).length ≤ 6 := by
  have h : ∀ n : Fin 256, (form textPs (UInt8.ofNat n)).length ≤ 6 := by decide +kernel
  have := h ⟨c.toNat, c.toNat_lt⟩
  simpa using this
theorem form_value6 (c : UInt8) : (form valuePs c).length ≤ 6 := by
  have h : ∀ n : Fin 256, (form valuePs (UInt8.ofNat n)).length ≤ 6 := by decide +kernel
  have := h ⟨c.toNat, c.toNat_lt⟩
  simpa using this
theorem replL_len6 (ps : List (UInt8 × ByteArray)) (hf : ∀ c, (form ps c).length ≤ 6) (l : List UInt8) : (replL ps l).length ≤ 6 * l.length := by
  induction l with
  | nil => simp [replL]
  | cons b l ih =>
    have := hf b
    simp only [replL, List.flatMap_cons, List.length_append, List.length_cons] at *
    omega
theorem replL_step (ps : List (UInt8 × ByteArray)) (l : List UInt8) (i : Nat) (h : i < l.length) : replL ps (l.take (i + 1)) = replL ps (l.take i) ++ form ps l[i] := by
  unfold replL
  rw [List.take_succ_eq_append_getElem h, List.flatMap_append]
  simp
theorem form_text_else (x : UInt8) (h1 : x.toNat ≠ 38) (h2 : x.toNat ≠ 60) (h3 : x.toNat ≠ 13) (h4 : x.toNat ≠ 62) : form textPs x = [x] := by
  have h : ∀ n : Fin 256, n.val ≠ 38 → n.val ≠ 60 → n.val ≠ 13 → n.val ≠ 62 → form textPs (UInt8.ofNat n) = [UInt8.ofNat n] := by decide +kernel
  have := h ⟨x.toNat, x.toNat_lt⟩ h1 h2 h3 h4
  simpa using this
theorem form_value_else (x : UInt8) (h1 : x.toNat ≠ 38) (h2 : x.toNat ≠ 60) (h3 : x.toNat ≠ 13) (h4 : x.toNat ≠ 34) (h5 : x.toNat ≠ 9) (h6 : x.toNat ≠ 10) : form valuePs x = [x] := by
  have h : ∀ n : Fin 256, n.val ≠ 38 → n.val ≠ 60 → n.val ≠ 13 → n.val ≠ 34 → n.val ≠ 9 → n.val ≠ 10 → form valuePs (UInt8.ofNat n) = [UInt8.ofNat n] := by decide +kernel
  have := h ⟨x.toNat, x.toNat_lt⟩ h1 h2 h3 h4 h5 h6
  simpa using this
theorem u8_of {x : UInt8} {n : Nat} (h : x.toNat = n) : x = UInt8.ofNat n := by rw [← h]; simp
end Go.Proofs.YtekoflcioooncaaDoor

namespace Go.Proofs.YtekoflcioooncaaDoor
open Go.RowKit

end Go.Proofs.YtekoflcioooncaaDoor

namespace Go.Proofs.YtekoflcioooncaaDoor
open Go.RowKit

def RNodes (w : World) (an : Option Addr) (evs : List Ev) : Prop :=
  ∀ i x, (nodesB evs)[i]? = some x → ∃ (b : Nat) (e : Ev) (A : Option Addr) (m c : Nat), an = some ⟨b, 0, none⟩ ∧ b < w.heap.size ∧ evs[x.pos]? = some e ∧ AttrsAt w A m e.ats ∧ (∀ j, j < 8 → w.cell? ⟨b, i * 13 + j, none⟩ = (evL e A m c)[j]?) ∧
    w.cell? ⟨b, i * 13 + 8, none⟩ = some (.int .i64 x.par) ∧ w.cell? ⟨b, i * 13 + 9, none⟩ = some (.int .i64 x.last) ∧ w.cell? ⟨b, i * 13 + 10, none⟩ = some (.int .i64 (x.pos : Nat)) ∧ w.cell? ⟨b, i * 13 + 11, none⟩ = some (.int .i64 ((x.fin : Int) - 1)) ∧
    w.cell? ⟨b, i * 13 + 12, none⟩ = some (.string (strL (txtR evs i (x.last.toNat + 1))))
theorem RNodes.below {w w' : World} {an : Option Addr} {evs : List Ev} (h : RNodes w an evs) (hb : Below w.heap.size w w') : RNodes w' an evs := by
  intro i x hx
  obtain ⟨b, e, A, m, c, h1, h2, h3, h4, h5, h6, h7, h8, h9, h10⟩ := h i x hx
  have k := fun j => hb.cell (p := ⟨b, j, none⟩) h2
  exact ⟨b, e, A, m, c, h1, Nat.lt_of_lt_of_le h2 hb.size, h3, h4.below hb, fun j hj => (k _).trans (h5 j hj), (k _).trans h6, (k _).trans h7, (k _).trans h8, (k _).trans h9, (k _).trans h10⟩
theorem flat_len {α : Type} (f : α → List UInt8) (N : Nat) (l : List α) (h : ∀ x ∈ l, (f x).length ≤ N) : (l.flatMap f).length ≤ l.length * N := by
  induction l with
  | nil => simp
  | cons x l ih =>
    rw [List.flatMap_cons, List.length_append, List.length_cons, Nat.succ_mul]
    have h1 := h x List.mem_cons_self
    have h2 := ih (fun y hy => h y (List.mem_cons_of_mem _ hy))
    omega
set_option maxRecDepth 1000000 in
set_option maxHeartbeats 4000000 in
theorem value9_any (an : Option Addr) (cn i : Nat) (v : Int) (x : Nd) (evs : List Ev) (w : World) (hR : RNodes w an evs) (hx : (nodesB evs)[i]? = some x) (hi : v = (i : Nat) ∨ v = -1 ∧ i = 0) :
    Calls Tryd.prog 50 #[.slice an (nodesB evs).length cn, .int .i64 v] w fun e w' => e = .returned (.string (strL (txtR evs i (x.last.toNat + 1)))) ∧ w' = w := by
  have hil := get_lt hx
  obtain ⟨b, e, A, m, c, rfl, hb, _, _, _, _, _, _, _, h12⟩ := hR i x hx
  generalize strL (txtR evs i (x.last.toNat + 1)) = T at *
  generalize (nodesB evs).length = L at *
  have hne : ((L : Int) == 0) = false := by simp; omega
  have i2 : (i : Int) < (L : Int) := by omega
  have i1 : (0 : Int) ≤ (i : Int) := by omega
  have i3 : (0 : Int) < (L : Int) := by omega
  have i4 : 0 < L := by omega
  clear hR hx
  rcases hi with rfl | ⟨rfl, rfl⟩
  · go_enter Tryd.func50, Tryd.ntmps50
    go_wp2_with fail
    go_ret
    exact ⟨rfl, rfl⟩
  · simp only [Nat.zero_mul, Nat.zero_add] at h12
    go_enter Tryd.func50, Tryd.ntmps50
    go_wp2_with fail
    go_ret
    exact ⟨rfl, rfl⟩
end Go.Proofs.YtekoflcioooncaaDoor

namespace Go.Proofs.YtekoflcioooncaaDoor
open Go.RowKit

structure IntsAt (w : World) (a : Option Addr) (n : Nat) (l : List Int) : Prop where
  len : n = l.length
  at' : ∀ i, (h : i < l.length) → ∃ b o, a = some ⟨b, o, none⟩ ∧ b < w.heap.size ∧ w.cell? ⟨b, o + i, none⟩ = some (.int .i64 l[i])
theorem IntsAt.below {w w' : World} {a : Option Addr} {n : Nat} {l : List Int} (h : IntsAt w a n l) (hb : Below w.heap.size w w') : IntsAt w' a n l :=
  ⟨h.len, fun i hi => by
    obtain ⟨b, o, e, hlt, hc⟩ := h.at' i hi
    exact ⟨b, o, e, Nat.lt_of_lt_of_le hlt hb.size, (hb.cell (p := ⟨b, o + i, none⟩) hlt).trans hc⟩⟩
theorem own_ints {w : World} {base n : Nat} {e : TypeId} {v : Value} {l : List Int} (h : w.ownsRow base e 1 v n (l.map (Value.int .i64))) : ∃ a c, v = .slice a n c ∧ n ≤ c ∧ IntsAt w a n l := by
  have hn : n = l.length := by have := h.1; simp at this; omega
  obtain ⟨a, c, rfl, h1, h2, h3⟩ := own_slice h
  refine ⟨a, c, rfl, h1, hn, fun i hi => ?_⟩
  cases a with
  | none => have := h2 rfl; omega
  | some ad =>
    obtain ⟨g, rfl, hg, hl, _, hc⟩ := h3 _ rfl
    exact ⟨g, 0, rfl, hl, by rw [Nat.zero_add]; exact hc _ _ (by simp [hi])⟩
set_option maxRecDepth 1000000 in
set_option maxHeartbeats 4000000 in
theorem lawInts_any (a b : Option Addr) (n m c d : Nat) (l k : List Int) (w : World) (h1 : IntsAt w a n l) (h2 : IntsAt w b m k) (hn : n ≤ 1048576) :
    Calls Tryd.prog 16 #[.slice a n c, .slice b m d] w fun e w' => e = .returned (.bool (decide (l = k))) ∧ Below w.heap.size w w' := by
  by_cases hnm : n = m
  · subst hnm
    have HLK : Hid (l.length = n ∧ k.length = n) := Lib.hid ⟨h1.len.symm, h2.len.symm⟩
    have H1 := Lib.hid h1.at'
    have H2 := Lib.hid h2.at'
    clear h1 h2
    go_enter Tryd.func16, Tryd.ntmps16
    go_wp2_with fail
    go_loopw [5] (fun iv wr => ∃ i : Nat, iv = .int .i64 i ∧ i ≤ n ∧ Hid (l.take i = k.take i) ∧ Below w.heap.size w wr) (fun iv _ => n - (intOf iv).toNat)
    case atStart => exact ⟨0, rfl, Nat.zero_le _, Lib.hid rfl, Below.refl _ _⟩
    case round =>
      obtain ⟨i, rfl, hi, htk, hbr⟩ := hrel
      by_cases hin : i < n
      · obtain ⟨b1, o1, rfl, hb1, hc1⟩ := H1.out i (by have := HLK.out.1; omega)
        obtain ⟨b2, o2, rfl, hb2, hc2⟩ := H2.out i (by have := HLK.out.2; omega)
        have hil : i < l.length := by have := HLK.out.1; omega
        have hik : i < k.length := by have := HLK.out.2; omega
        have e1 := (hbr.cell (p := ⟨b1, o1 + i, none⟩) hb1).trans hc1
        have e2 := (hbr.cell (p := ⟨b2, o2 + i, none⟩) hb2).trans hc2
        have i1 : (0 : Int) ≤ (i : Int) := by omega
        have i2 : (i : Int) < (n : Int) := by omega
        have ew : IntKind.i64.wrap ((i : Int) + 1) = (i : Int) + 1 := IntWalk.i64_in _ (by omega)
        obtain ⟨x, hx⟩ : ∃ x, l[i] = x := ⟨_, rfl⟩
        obtain ⟨y, hy⟩ : ∃ y, k[i] = y := ⟨_, rfl⟩
        rw [hx] at e1
        rw [hy] at e2
        have HXY := Lib.hid (⟨hx, hy⟩ : _ ∧ _)
        have HB := Lib.hid (hbr.drew)
        clear hc1 hc2 hx hy hbr
        by_cases hxy : x = y
        · subst hxy
          have HT : Hid (l.take (i + 1) = k.take (i + 1)) := Lib.hid (by
            rw [List.take_succ_eq_append_getElem hil, List.take_succ_eq_append_getElem hik, htk.out, HXY.out.1, HXY.out.2])
          clear htk
          go_wp2_with fail
          go_region
          go_wp2_with fail
          go_roundw
          case rel => exact ⟨i + 1, by go_num, by omega, HT, HB.out⟩
          case measure => simp [intOf]; omega
        · have hd : (x != y) = true := by simp [hxy]
          have hf : Hid (decide (l = k) = false) := Lib.hid (decide_eq_false fun e => by
            subst e
            exact hxy (HXY.out.1.symm.trans HXY.out.2))
          go_wp2_with fail
          go_region
          go_wp2_with fail
          go_ret
          exact ⟨by rw [hf.out]; rfl, HB.out⟩
      · have hi2 : i = n := by omega
        subst hi2
        have hlk : Hid (decide (l = k) = true) := Lib.hid (decide_eq_true (by
          have := htk.out
          rw [List.take_of_length_le (by have := HLK.out.1; omega), List.take_of_length_le (by have := HLK.out.2; omega)] at this
          exact this))
        go_wp2_with fail
        go_ret
        exact ⟨by rw [hlk.out]; rfl, hbr⟩
  · have hd : ((n : Int) != (m : Int)) = true := by simp; omega
    have hf : Hid (decide (l = k) = false) := Lib.hid (decide_eq_false fun e => hnm (by rw [h1.len, h2.len, e]))
    clear h1 h2
    go_enter Tryd.func16, Tryd.ntmps16
    go_wp2_with fail
    go_ret
    exact ⟨by rw [hf.out]; rfl, Below.refl _ _⟩
end Go.Proofs.YtekoflcioooncaaDoor
