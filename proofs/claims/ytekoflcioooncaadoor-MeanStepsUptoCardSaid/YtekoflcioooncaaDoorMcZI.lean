/-
  (asked).holds, one depth further: Or.
-/
import Derived.Test.YtekoflcioooncaaDoorMcY
import Derived.Test.YtekoflcioooncaaDoorMcE
import Derived.Test.YtekoflcioooncaaDoorMcF
import Derived.Test.YtekoflcioooncaaDoorMcH
import Derived.Test.YtekoflcioooncaaDoorMcJ
import Derived.Test.YtekoflcioooncaaDoorMcG
import Derived.Test.YtekoflcioooncaaDoorMcP
namespace Go.Proofs.YtekoflcioooncaaDoor
open Go.RowKit

set_option maxRecDepth 100000 in
set_option maxHeartbeats 4000000 in
theorem holdsOr_any {tb : Nat} {evs : List Ev} {f : Nat} (HX : HoldX tb evs f) (v : Int) (x0 : PX) (cs : List Value) (w : World) (hv1 : -1 ≤ v) (hv2 : v < (nodesB evs).length) (hq : TQ w tb evs) (h : XAt (f + 1) w x0 cs) (hg : goodXB (f + 1) x0 = true) (hop : x0.op = 1) :
    Calls Tryd.prog 49 #[.agg #[.pointer (some ⟨tb, 0, none⟩)], .int .i64 v, .agg cs.toArray] w fun e w' => e = .returned (.bool (holdP (treePT evs) (f + 1) v x0)) ∧ Below w.heap.size w w' := by
  obtain ⟨aa, ac, pa, pc, rfl, hal, hpl, _, _, _, hatl, htxl, hn, hpathl, hx, hpath⟩ := h
  obtain ⟨_, hga⟩ := goodXB_args hg (by rw [hop]; decide)
  rw [show holdP (treePT evs) (f + 1) v x0 = x0.args.any (holdP (treePT evs) f v) by rw [holdP_succ, if_neg (by rw [hop]; decide), if_pos hop]]
  obtain ⟨l, hl⟩ : ∃ l, x0.args = l := ⟨_, rfl⟩
  have HROW : Hid (XsAt f w aa l) := Lib.hid (hl ▸ hx)
  have HG : Hid (∀ x ∈ l, goodXB f x = true) := Lib.hid (hl ▸ hga)
  have HCA : Hid (∀ (x : PX) (cs : List Value) (W : World), x ∈ l → Below w.heap.size w W → XAt f W x cs → Calls Tryd.prog 49 #[.agg #[.pointer (some ⟨tb, 0, none⟩)], .int .i64 v, .agg cs.toArray] W fun e w' => e = .returned (.bool (holdP (treePT evs) f v x)) ∧ Below W.heap.size W w') := Lib.hid fun x cs W hxl hW hxa =>
    HX v x cs W hv1 hv2 (hq.below hW) hxa (HG.out x hxl)
  obtain ⟨ow, how⟩ : ∃ o, o = Obj.cells (exprC x0 aa ac pa pc).toArray 61 := ⟨_, rfl⟩
  obtain ⟨W0, hW0⟩ : ∃ W0, W0 = (w.alloc (.cells #[.pointer (some ⟨tb, 0, none⟩)] 91)).alloc ow := ⟨_, rfl⟩
  have hb0 : Below w.heap.size w W0 := by rw [hW0]; exact ((Below.refl w.heap.size w).alloc (Nat.le_refl _) _).alloc (by simp) _
  have hsz0 : W0.heap.size = w.heap.size + 2 := by rw [hW0]; simp
  have hk3 : W0.heap[w.heap.size]? = some (.cells #[.pointer (some ⟨tb, 0, none⟩)] 91 (0, 0)) := by
    rw [hW0, Below.heap_alloc _ _ _ (by simp)]; exact heap_alloc_new w _
  have HB0 : Hid (Below w.heap.size w W0) := Lib.hid hb0
  have HCL : Hid (∀ W, Below (w.heap.size + 2) W0 W → W.cell? ⟨w.heap.size, 0, none⟩ = some (.pointer (some ⟨tb, 0, none⟩))) := Lib.hid fun W hW => by
    rw [cell_heap ((hW.block w.heap.size (by omega)).trans hk3)]; rfl
  have HBB : Hid (Below (w.heap.size + 2) W0 W0) := Lib.hid (Below.refl _ _)
  have HSZ : Hid (w.heap.size + 2 ≤ W0.heap.size) := Lib.hid (by omega)
  rw [hl]
  obtain ⟨R, hR⟩ : ∃ R, l.any (holdP (treePT evs) f v) = R := ⟨_, rfl⟩
  rw [hR]
  have HT : Hid (∀ x ∈ l, holdP (treePT evs) f v x = true → true = R) := Lib.hid fun x hxl h => by rw [← hR]; exact (List.any_eq_true.2 ⟨x, hxl, h⟩).symm
  have HF : Hid ((∀ x ∈ l, holdP (treePT evs) f v x = false) → false = R) := Lib.hid fun h => by
    rw [← hR]
    exact (List.any_eq_false.2 fun x hx => by rw [h x hx]; decide).symm
  have hn' : l.length ≤ 1048576 := hl ▸ hn
  unfold exprC at how
  rw [hop, hl] at how
  clear hR hx hq hn hga hg hpath hatl htxl hb0 hsz0 hk3
  try unfold exprC
  rw [hop]
  try rw [hl]
  generalize hq : l.length = q at *
  have HQQ := Lib.hid hq
  have HHW := Lib.hid (And.intro hW0 how)
  clear hq hl hop hW0 how
  go_enter Tryd.func49, Tryd.ntmps49
  go_wp2_with fail
  rw [← HHW.out.2, ← HHW.out.1]
  go_loopw [26] (fun jv wr => ∃ j : Nat, jv = .int .i64 j ∧ j ≤ q ∧ Hid ((∀ i (hi : i < l.length), i < j → holdP (treePT evs) f v l[i] = false) ∧ Below w.heap.size w wr ∧ Below (w.heap.size + 2) W0 wr ∧ w.heap.size + 2 ≤ wr.heap.size)) (fun jv _ => q - (intOf jv).toNat)
  case atStart => exact ⟨0, rfl, Nat.zero_le _, Lib.hid ⟨fun _ _ h => absurd h (Nat.not_lt_zero _), HB0.out, HBB.out, HSZ.out⟩⟩
  case round =>
    obtain ⟨j, rfl, hjq, HJ⟩ := hrel
    obtain ⟨w13, rfl⟩ : ∃ w13, w13 = wr := ⟨_, rfl⟩
    by_cases hjl : j < q
    · have hjw : j < l.length := by rw [HQQ.out]; exact hjl
      obtain ⟨b2, o2, ya, yc, yp, yd, rfl, hb2, hx, hcs⟩ := HROW.out.get' j hjw
      obtain ⟨x0, x1, x2, x3, x4, x5, x6⟩ := hcs w13 HJ.out.2.1
      have HMEM : Hid (l[j] ∈ l) := Lib.hid (List.getElem_mem hjw)
      have HNX : Hid (holdP (treePT evs) f v l[j] = false → ∀ i (hi : i < l.length), i < j + 1 → holdP (treePT evs) f v l[i] = false) := Lib.hid fun h2 i hi hij => by
        rcases Nat.lt_or_ge i j with h | h
        · exact HJ.out.1 i hi h
        · have : i = j := by omega
          subst this; exact h2
      have HDX : Hid (∀ W, Below w.heap.size w W → Calls Tryd.prog 49 #[.agg #[.pointer (some ⟨tb, 0, none⟩)], .int .i64 v, .agg (exprC l[j] ya yc yp yd).toArray] W fun e w' => e = .returned (.bool (holdP (treePT evs) f v l[j])) ∧ Below W.heap.size W w') := Lib.hid fun W hW =>
        HCA.out l[j] _ W (List.getElem_mem hjw) hW (XAt.turn hW (Nat.le_refl _) hx)
      clear hcs hx hb2
      generalize l[j] = y at *
      unfold exprC at HDX
      generalize hhv : holdP (treePT evs) f v y = hb at *
      have i3 : (0 : Int) ≤ (j : Int) := by omega
      have i4 : (j : Int) < (q : Int) := by omega
      have ewj : IntKind.i64.wrap ((j : Int) + 1) = (j : Int) + 1 := IntWalk.i64_in _ (by omega)
      have HB14 : Hid (∀ o, Below w.heap.size w (w13.alloc o) ∧ Below (w.heap.size + 2) W0 (w13.alloc o) ∧ w.heap.size + 2 ≤ (w13.alloc o).heap.size) := Lib.hid fun o => ⟨HJ.out.2.1.alloc HJ.out.2.1.size _, HJ.out.2.2.1.alloc HJ.out.2.2.2 _, by have := HJ.out.2.2.2; simp; omega⟩
      have c3 := HCL.out _ (HB14.out (.cells #[.int .i64 y.op, .slice ya y.args.length yc, .slice yp y.path.length yd, .string (strL y.attr), .int .i64 y.cmp, .string (strL y.text), .int .i64 y.num] 61)).2.1
      have HHV := Lib.hid hhv
      clear hhv
      have HB15 := Lib.hid (HB14.out (.cells #[.int .i64 y.op, .slice ya y.args.length yc, .slice yp y.path.length yd, .string (strL y.attr), .int .i64 y.cmp, .string (strL y.text), .int .i64 y.num] 61))
      clear HB14
      go_wp2_with fail
      generalize w13.alloc (.cells #[.int .i64 y.op, .slice ya y.args.length yc, .slice yp y.path.length yd, .string (strL y.attr), .int .i64 y.cmp, .string (strL y.text), .int .i64 y.num] 61) = w14 at *
      (with_reducible refine (HDX.out _ HB15.out.1).mono ?_)
      rintro e w15 ⟨rfl, hb15⟩
      have HB16 : Hid (Below w.heap.size w w15 ∧ Below (w.heap.size + 2) W0 w15 ∧ w.heap.size + 2 ≤ w15.heap.size) := Lib.hid ⟨HB15.out.1.trans (hb15.mono HB15.out.1.size), HB15.out.2.1.trans (hb15.mono HB15.out.2.2), Nat.le_trans HB15.out.2.2 hb15.size⟩
      clear hb15
      cases hb with
      | false =>
        have HN := Lib.hid (HNX.out rfl)
        go_wp2_with fail
        go_roundw
        case rel => exact ⟨j + 1, by go_num, by omega, Lib.hid ⟨HN.out, HB16.out⟩⟩
        case measure => simp [intOf]; omega
      | true =>
        have HFF := Lib.hid (HT.out y HMEM.out HHV.out)
        go_wp2_with fail
        go_ret
        exact ⟨ret_bool HFF.out, HB16.out.1⟩
    · have i4 : (q : Int) ≤ (j : Int) := by omega
      have HTT : Hid (false = R) := Lib.hid (HF.out fun x hx => by
        obtain ⟨i, hi, rfl⟩ := List.getElem_of_mem hx
        exact HJ.out.1 i hi (by have := HQQ.out; omega))
      go_wp2_with fail
      go_ret
      exact ⟨ret_bool HTT.out, HJ.out.2.1⟩
end Go.Proofs.YtekoflcioooncaaDoor

/-
  gimletref09: sign, Text, Quoted.
-/
namespace Go.Proofs.YtekoflcioooncaaDoor
open Go.RowKit

theorem own_sl9 {w : World} {base n : Nat} {e : TypeId} {a : Option Addr} {c : Nat} {xs : List Value} (h : w.ownsRow base e 1 (.slice a n c) n xs) : Sl w a n xs := by
  obtain ⟨a', c', e', h2⟩ := own_sl h
  cases e'
  exact h2
theorem form_text6 (c : UInt8) : (form textPs c).length ≤ 6 := by
  have h : ∀ n : Fin 256, (form textPs (UInt8.ofNat n)).length ≤ 6 := by decide +kernel
  have := h ⟨c.toNat, c.toNat_lt⟩
  simpa using this
theorem form_value6 (c : UInt8) : (form valuePs c).length ≤ 6 := by
  have h : ∀ n : Fin 256, (form valuePs (UInt8.ofNat n)).length ≤ 6 := by decide +kernel
  have := h ⟨c.toNat, c.toNat_lt⟩
  simpa using this
theorem replL_len6 (ps : List (UInt8 × ByteArray)) (hf : ∀ c, (form ps c).length ≤ 6) (l : List UInt8) : (replL ps l).length ≤ 6 * l.length := by
  induction l with
  | nil => simp [replL]
  | cons b l ih =>
    have := hf b
    simp only [replL, List.flatMap_cons, List.length_append, List.length_cons] at *
    omega
theorem replL_step (ps : List (UInt8 × ByteArray)) (l : List UInt8) (i : Nat) (h : i < l.length) : replL ps (l.take (i + 1)) = replL ps (l.take i) ++ form ps l[i] := by
  unfold replL
  rw [List.take_succ_eq_append_getElem h, List.flatMap_append]
  simp
theorem form_text_else (x : UInt8) (h1 : x.toNat ≠ 38) (h2 : x.toNat ≠ 60) (h3 : x.toNat ≠ 13) (h4 : x.toNat ≠ 62) : form textPs x = [x] := by
  have h : ∀ n : Fin 256, n.val ≠ 38 → n.val ≠ 60 → n.val ≠ 13 → n.val ≠ 62 → form textPs (UInt8.ofNat n) = [UInt8.ofNat n] := by decide +kernel
  have := h ⟨x.toNat, x.toNat_lt⟩ h1 h2 h3 h4
  simpa using this
theorem form_value_else (x : UInt8) (h1 : x.toNat ≠ 38) (h2 : x.toNat ≠ 60) (h3 : x.toNat ≠ 13) (h4 : x.toNat ≠ 34) (h5 : x.toNat ≠ 9) (h6 : x.toNat ≠ 10) : form valuePs x = [x] := by
  have h : ∀ n : Fin 256, n.val ≠ 38 → n.val ≠ 60 → n.val ≠ 13 → n.val ≠ 34 → n.val ≠ 9 → n.val ≠ 10 → form valuePs (UInt8.ofNat n) = [UInt8.ofNat n] := by decide +kernel
  have := h ⟨x.toNat, x.toNat_lt⟩ h1 h2 h3 h4 h5 h6
  simpa using this
theorem u8_of {x : UInt8} {n : Nat} (h : x.toNat = n) : x = UInt8.ofNat n := by rw [← h]; simp
end Go.Proofs.YtekoflcioooncaaDoor

/-
  gimletref09: Piece, Print.
-/
namespace Go.Proofs.YtekoflcioooncaaDoor
open Go.RowKit

end Go.Proofs.YtekoflcioooncaaDoor

/-
  gimletref09: Print, Form, Value.
-/
namespace Go.Proofs.YtekoflcioooncaaDoor
open Go.RowKit

/-- the answer's nodes in memory -/
def RNodes (w : World) (an : Option Addr) (evs : List Ev) : Prop :=
  ∀ i x, (nodesB evs)[i]? = some x → ∃ (b : Nat) (e : Ev) (A : Option Addr) (m c : Nat), an = some ⟨b, 0, none⟩ ∧ b < w.heap.size ∧ evs[x.pos]? = some e ∧ AttrsAt w A m e.ats ∧ (∀ j, j < 8 → w.cell? ⟨b, i * 13 + j, none⟩ = (evL e A m c)[j]?) ∧
    w.cell? ⟨b, i * 13 + 8, none⟩ = some (.int .i64 x.par) ∧ w.cell? ⟨b, i * 13 + 9, none⟩ = some (.int .i64 x.last) ∧ w.cell? ⟨b, i * 13 + 10, none⟩ = some (.int .i64 (x.pos : Nat)) ∧ w.cell? ⟨b, i * 13 + 11, none⟩ = some (.int .i64 ((x.fin : Int) - 1)) ∧
    w.cell? ⟨b, i * 13 + 12, none⟩ = some (.string (strL (txtR evs i (x.last.toNat + 1))))
theorem RNodes.below {w w' : World} {an : Option Addr} {evs : List Ev} (h : RNodes w an evs) (hb : Below w.heap.size w w') : RNodes w' an evs := by
  intro i x hx
  obtain ⟨b, e, A, m, c, h1, h2, h3, h4, h5, h6, h7, h8, h9, h10⟩ := h i x hx
  have k := fun j => hb.cell (p := ⟨b, j, none⟩) h2
  exact ⟨b, e, A, m, c, h1, Nat.lt_of_lt_of_le h2 hb.size, h3, h4.below hb, fun j hj => (k _).trans (h5 j hj), (k _).trans h6, (k _).trans h7, (k _).trans h8, (k _).trans h9, (k _).trans h10⟩
theorem flat_len {α : Type} (f : α → List UInt8) (N : Nat) (l : List α) (h : ∀ x ∈ l, (f x).length ≤ N) : (l.flatMap f).length ≤ l.length * N := by
  induction l with
  | nil => simp
  | cons x l ih =>
    rw [List.flatMap_cons, List.length_append, List.length_cons, Nat.succ_mul]
    have h1 := h x List.mem_cons_self
    have h2 := ih (fun y hy => h y (List.mem_cons_of_mem _ hy))
    omega
set_option maxRecDepth 1000000 in
set_option maxHeartbeats 4000000 in
theorem value9_any (an : Option Addr) (cn i : Nat) (v : Int) (x : Nd) (evs : List Ev) (w : World) (hR : RNodes w an evs) (hx : (nodesB evs)[i]? = some x) (hi : v = (i : Nat) ∨ v = -1 ∧ i = 0) :
    Calls Tryd.prog 50 #[.slice an (nodesB evs).length cn, .int .i64 v] w fun e w' => e = .returned (.string (strL (txtR evs i (x.last.toNat + 1)))) ∧ w' = w := by
  have hil := get_lt hx
  obtain ⟨b, e, A, m, c, rfl, hb, _, _, _, _, _, _, _, h12⟩ := hR i x hx
  generalize strL (txtR evs i (x.last.toNat + 1)) = T at *
  generalize (nodesB evs).length = L at *
  have hne : ((L : Int) == 0) = false := by simp; omega
  have i2 : (i : Int) < (L : Int) := by omega
  have i1 : (0 : Int) ≤ (i : Int) := by omega
  have i3 : (0 : Int) < (L : Int) := by omega
  have i4 : 0 < L := by omega
  clear hR hx
  rcases hi with rfl | ⟨rfl, rfl⟩
  · go_enter Tryd.func50, Tryd.ntmps50
    go_wp2_with fail
    go_ret
    exact ⟨rfl, rfl⟩
  · simp only [Nat.zero_mul, Nat.zero_add] at h12
    go_enter Tryd.func50, Tryd.ntmps50
    go_wp2_with fail
    go_ret
    exact ⟨rfl, rfl⟩
end Go.Proofs.YtekoflcioooncaaDoor

/-
  The plain law of a document's nodes: children, and what is below each.
-/
namespace Go.Proofs.YtekoflcioooncaaDoor
open Go.RowKit

def isOpn (s : BegS) (i : Int) : Prop := ∃ o ∈ s.opn, o.1 = i
def topOf (l : List (Int × Int × List UInt8)) : Int := (l.head?.map (·.1)).getD (-1)
structure NdAx (s : BegS) (nds : List Nd) : Prop where
  par : ∀ a r, (a :: r) <:+ s.opn → ∃ x, nds[a.1.toNat]? = some x ∧ x.par = topOf r
  first : ∀ (i : Nat) (x y : Nd), nds[i]? = some x → nds[i + 1]? = some y → (isOpn s i ∨ (i : Int) + 1 ≤ x.last) → y.par = (i : Int)
  sib : ∀ (k : Nat) (x y : Nd), nds[k]? = some x → ¬ isOpn s k → nds[(x.last + 1).toNat]? = some y → (x.par = -1 ∨ isOpn s x.par ∨ ∃ p, nds[x.par.toNat]? = some p ∧ x.last + 1 ≤ p.last) → y.par = x.par
  ins : ∀ (k : Nat) (x : Nd), nds[k]? = some x → ¬ isOpn s k → 0 ≤ x.par → ∃ p, nds[x.par.toNat]? = some p ∧ (isOpn s x.par ∨ x.last ≤ p.last)
  top : ∀ (k : Nat) (x : Nd), nds[k]? = some x → ¬ isOpn s k → x.last + 1 = (nds.length : Int) → x.par = topOf s.opn ∨ (0 ≤ x.par ∧ ¬ isOpn s x.par ∧ ∃ p, nds[x.par.toNat]? = some p ∧ p.last + 1 = (nds.length : Int))
  plt : ∀ (k : Nat) (x : Nd), nds[k]? = some x → -1 ≤ x.par ∧ x.par < (k : Int)
  root : ∀ (x : Nd), nds[0]? = some x → x.par = -1
theorem NdAx.start : NdAx beg0 [] :=
  ⟨fun a r h => by simp [beg0] at h, fun i x y h => by simp at h, fun i x y h => by simp at h, fun i x h => by simp at h, fun i x h => by simp at h, fun i x h => by simp at h, fun x h => by simp at h⟩
theorem topOf_lt {pre : List Ev} {s : BegS} {nds : List Nd} (h : NdInv pre s nds) : -1 ≤ topOf s.opn ∧ topOf s.opn < (nds.length : Int) ∧ (topOf s.opn = -1 ∨ isOpn s (topOf s.opn)) := by
  cases ho : s.opn with
  | nil => simp [topOf]; omega
  | cons a r =>
    have ha : a ∈ s.opn := by rw [ho]; exact List.mem_cons_self
    have := h.opn a ha
    have hn := h.nxt
    refine ⟨by simp [topOf]; omega, by simp [topOf]; omega, .inr ⟨a, ha, by simp [topOf]⟩⟩
theorem NdAx.step {pre : List Ev} {s : BegS} {nds : List Nd} {e : Ev} (hi : NdInv pre s nds) (hl : NdLast nds) (h : NdAx s nds) (he : begOk s e = true) : NdAx (begNext s e) (ndNext s nds e) := by
  have hnx := hi.nxt
  by_cases hk : e.kind = 2
  · have hh := begOk_close he hk
    obtain ⟨rest, hr⟩ : ∃ rest, s.opn = (e.num, e.dep, e.name) :: rest := by
      cases ho : s.opn with
      | nil => rw [ho] at hh; cases hh
      | cons a r => rw [ho] at hh; simp at hh; exact ⟨r, by rw [hh]⟩
    have hnum := hi.opn _ (by rw [hr]; exact List.mem_cons_self)
    simp only at hnum
    have hop : (begNext s e).opn = rest := by unfold begNext; simp [hk, hr]
    have hsrt := hi.srt
    rw [hr] at hsrt
    have hp := List.pairwise_cons.1 hsrt
    have hopn : ∀ i, isOpn s i ↔ i = e.num ∨ isOpn (begNext s e) i := by
      intro i
      unfold isOpn
      rw [hop, hr]
      constructor
      · rintro ⟨o, ho, rfl⟩
        rcases List.mem_cons.1 ho with rfl | ho
        · exact .inl rfl
        · exact .inr ⟨o, ho, rfl⟩
      · rintro (rfl | ⟨o, ho, rfl⟩)
        · exact ⟨_, List.mem_cons_self, rfl⟩
        · exact ⟨o, List.mem_cons_of_mem _ ho, rfl⟩
    have hnot : ¬ isOpn (begNext s e) e.num := by
      rintro ⟨o, ho, hoe⟩
      rw [hop] at ho
      have := hp.1 o ho
      simp only at this
      omega
    have hm : ∀ (n : Nat) (x : Nd), (ndNext s nds e)[n]? = some x → ∃ y, nds[n]? = some y ∧ x.par = y.par ∧ (((n : Int) = e.num ∧ x.last = (nds.length : Int) - 1) ∨ ((n : Int) ≠ e.num ∧ x.last = y.last)) := by
      intro n x hx
      unfold ndNext at hx
      rw [if_pos hk, List.getElem?_modify] at hx
      cases hy : nds[n]? with
      | none => rw [hy] at hx; simp at hx
      | some y =>
        rw [hy] at hx
        by_cases hn : e.num.toNat = n
        · simp [hn] at hx; subst hx; exact ⟨y, rfl, rfl, .inl ⟨by omega, rfl⟩⟩
        · simp [hn] at hx; subst hx; exact ⟨y, rfl, rfl, .inr ⟨by omega, rfl⟩⟩
    have hm2 : ∀ (n : Nat) (y : Nd), nds[n]? = some y → ∃ x, (ndNext s nds e)[n]? = some x ∧ x.par = y.par ∧ (((n : Int) = e.num ∧ x.last = (nds.length : Int) - 1) ∨ ((n : Int) ≠ e.num ∧ x.last = y.last)) := by
      intro n y hy
      unfold ndNext
      rw [if_pos hk, List.getElem?_modify, hy]
      by_cases hn : e.num.toNat = n
      · exact ⟨⟨y.pos, y.par, (nds.length : Int) - 1, s.cnt + 1⟩, by simp [hn], rfl, .inl ⟨by omega, rfl⟩⟩
      · exact ⟨y, by simp [hn], rfl, .inr ⟨by omega, rfl⟩⟩
    have hlen : (ndNext s nds e).length = nds.length := by unfold ndNext; rw [if_pos hk, List.length_modify]
    obtain ⟨xt, hxt, hxtp⟩ := h.par (e.num, e.dep, e.name) rest (by rw [hr]; exact List.suffix_rfl)
    simp only at hxt
    refine ⟨?_, ?_, ?_, ?_, ?_, ?_, ?_⟩
    · intro a r hs
      rw [hop] at hs
      obtain ⟨x, hx, hxp⟩ := h.par a r (by rw [hr]; exact hs.trans (List.suffix_cons _ _))
      obtain ⟨x', hx', hp', _⟩ := hm2 _ _ hx
      exact ⟨x', hx', by rw [hp', hxp]⟩
    · intro i x' y' hx' hy' hc
      obtain ⟨x, hx, hxp, hxl⟩ := hm i x' hx'
      obtain ⟨y, hy, hyp, _⟩ := hm _ y' hy'
      rw [hyp]
      refine h.first i x y hx hy ?_
      rcases hxl with ⟨h1, _⟩ | ⟨_, h2⟩
      · exact .inl ((hopn _).2 (.inl h1))
      · rcases hc with hc | hc
        · exact .inl ((hopn _).2 (.inr hc))
        · exact .inr (by omega)
    · intro k x' y' hx' hno hy' hc
      obtain ⟨x, hx, hxp, hxl⟩ := hm k x' hx'
      obtain ⟨y, hy, hyp, _⟩ := hm _ y' hy'
      have hyl := get_lt hy
      rcases hxl with ⟨h1, h2⟩ | ⟨h1, h2⟩
      · omega
      · rw [hyp, hxp]
        rw [h2] at hy
        refine h.sib k x y hx ?_ hy ?_
        · intro hc'
          rcases (hopn _).1 hc' with h3 | h3
          · exact h1 h3
          · exact hno h3
        · rw [hxp] at hc
          rcases hc with hc | hc | ⟨p', hp', hpl⟩
          · exact .inl hc
          · exact .inr (.inl ((hopn _).2 (.inr hc)))
          · obtain ⟨p, hp0, _, hpl0⟩ := hm _ p' hp'
            have hxge := h.plt k x hx
            by_cases hneg : x.par = -1
            · exact .inl hneg
            rcases hpl0 with ⟨h3, h4⟩ | ⟨h3, h4⟩
            · exact .inr (.inl ((hopn _).2 (.inl (by omega))))
            · exact .inr (.inr ⟨p, hp0, by omega⟩)
    · intro k x' hx' hno h0
      obtain ⟨x, hx, hxp, hxl⟩ := hm k x' hx'
      rw [hxp] at h0 ⊢
      rcases hxl with ⟨h1, h2⟩ | ⟨h1, h2⟩
      · have hkn : e.num.toNat = k := by omega
        rw [hkn] at hxt
        obtain rfl : xt = x := by rw [hxt] at hx; exact Option.some.inj hx
        cases rest with
        | nil => rw [hxtp] at h0; simp [topOf] at h0
        | cons b r2 =>
          have hb : xt.par = b.1 := by rw [hxtp]; simp [topOf]
          obtain ⟨p, hp1, _⟩ := h.par b r2 (by rw [hr]; exact List.suffix_cons _ _)
          obtain ⟨p', hp', _⟩ := hm2 _ _ hp1
          exact ⟨p', by rw [hb]; exact hp', .inl ⟨b, by rw [hop]; exact List.mem_cons_self, hb.symm⟩⟩
      · have hno' : ¬ isOpn s k := by
          intro hc'
          rcases (hopn _).1 hc' with h3 | h3
          · exact h1 h3
          · exact hno h3
        obtain ⟨p, hp1, hpo⟩ := h.ins k x hx hno' h0
        obtain ⟨p', hp', _, hpl⟩ := hm2 _ _ hp1
        refine ⟨p', hp', ?_⟩
        have hxl := (hl k x hx).2
        rcases hpl with ⟨h3, h4⟩ | ⟨h3, h4⟩
        · exact .inr (by omega)
        · rcases hpo with hpo | hpo
          · rcases (hopn _).1 hpo with h5 | h5
            · omega
            · exact .inl h5
          · exact .inr (by omega)
    · intro k x' hx' hno hlast
      rw [hlen] at hlast ⊢
      rw [hop]
      obtain ⟨x, hx, hxp, hxl⟩ := hm k x' hx'
      rw [hxp]
      rcases hxl with ⟨h1, h2⟩ | ⟨h1, h2⟩
      · have hkn : e.num.toNat = k := by omega
        rw [hkn] at hxt
        obtain rfl : xt = x := by rw [hxt] at hx; exact Option.some.inj hx
        exact .inl hxtp
      · have hno' : ¬ isOpn s k := by
          intro hc'
          rcases (hopn _).1 hc' with h3 | h3
          · exact h1 h3
          · exact hno h3
        rcases h.top k x hx hno' (by omega) with h3 | ⟨h3, h4, p, hp1, hp2⟩
        · have h4 : x.par = e.num := by rw [h3, hr]; simp [topOf]
          obtain ⟨p', hp', _, hpl⟩ := hm2 _ _ hxt
          refine .inr ⟨by omega, by rw [h4]; exact hnot, p', by rw [h4]; exact hp', ?_⟩
          rcases hpl with ⟨_, h6⟩ | ⟨h5, _⟩
          · omega
          · omega
        · obtain ⟨p', hp', _, hpl⟩ := hm2 _ _ hp1
          refine .inr ⟨h3, fun hc => h4 ((hopn _).2 (.inr hc)), p', hp', ?_⟩
          rcases hpl with ⟨h5, _⟩ | ⟨_, h6⟩
          · exact absurd ((hopn _).2 (.inl (by omega))) h4
          · omega
    · intro k x' hx'
      obtain ⟨x, hx, hxp, _⟩ := hm k x' hx'
      rw [hxp]
      exact h.plt k x hx
    · intro x' hx'
      obtain ⟨x, hx, hxp, _⟩ := hm 0 x' hx'
      rw [hxp]
      exact h.root x hx
  · obtain ⟨hn, hk01⟩ := begOk_new he hk
    have hnd : ndNext s nds e = nds ++ [⟨s.cnt, topOf s.opn, e.num, s.cnt + 1⟩] := by unfold ndNext; rw [if_neg hk]; rfl
    rw [hnd]
    have htop := topOf_lt hi
    have hopn : ∀ i, isOpn (begNext s e) i ↔ isOpn s i ∨ (e.kind = 0 ∧ i = (nds.length : Int)) := by
      intro i
      unfold isOpn begNext
      simp only [hk, if_false]
      by_cases h0 : e.kind = 0
      · simp only [h0, if_true, true_and]
        constructor
        · rintro ⟨o, ho, rfl⟩
          rcases List.mem_cons.1 ho with rfl | ho
          · exact .inr (by simp only; omega)
          · exact .inl ⟨o, ho, rfl⟩
        · rintro (⟨o, ho, rfl⟩ | rfl)
          · exact ⟨o, List.mem_cons_of_mem _ ho, rfl⟩
          · exact ⟨_, List.mem_cons_self, by simp only; omega⟩
      · simp [h0]
    have hlt : ∀ i, isOpn s i → 0 ≤ i ∧ i < (nds.length : Int) := by
      rintro i ⟨o, ho, rfl⟩
      have := hi.opn o ho
      omega
    refine ⟨?_, ?_, ?_, ?_, ?_, ?_, ?_⟩
    · intro a r hs
      have hs' : (a :: r) <:+ s.opn ∨ (e.kind = 0 ∧ a.1 = e.num ∧ r = s.opn) := by
        unfold begNext at hs
        simp only [hk, if_false] at hs
        by_cases h0 : e.kind = 0
        · rw [if_pos h0] at hs
          rcases List.suffix_cons_iff.1 hs with h1 | h1
          · simp only [List.cons.injEq] at h1
            exact .inr ⟨h0, by rw [h1.1], h1.2⟩
          · exact .inl h1
        · rw [if_neg h0] at hs; exact .inl hs
      rcases hs' with h1 | ⟨_, h1, rfl⟩
      · obtain ⟨x, hx, hxp⟩ := h.par a r h1
        exact ⟨x, get_snoc hx, hxp⟩
      · exact ⟨⟨s.cnt, topOf s.opn, e.num, s.cnt + 1⟩, by rw [show a.1.toNat = nds.length by omega]; exact get_last _ _, rfl⟩
    · intro i x y hx hy hc
      rcases snoc_get hy with ⟨hil, hy⟩ | ⟨hil, rfl⟩
      · rcases snoc_get hx with ⟨_, hx⟩ | ⟨hx, _⟩
        · refine h.first i x y hx hy ?_
          rcases hc with hc | hc
          · rcases (hopn _).1 hc with h1 | ⟨_, h1⟩
            · exact .inl h1
            · omega
          · exact .inr hc
        · omega
      · rcases snoc_get hx with ⟨_, hx⟩ | ⟨hx, _⟩
        · have hxl := (hl i x hx).2
          rcases hc with hc | hc
          · rcases (hopn _).1 hc with ⟨o, ho, hoi⟩ | ⟨_, h1⟩
            · cases hs : s.opn with
              | nil => rw [hs] at ho; cases ho
              | cons b r =>
                have hsrt := hi.srt
                rw [hs] at hsrt
                have hb := hi.opn b (by rw [hs]; exact List.mem_cons_self)
                rw [hs] at ho
                simp only [topOf, List.head?_cons, Option.map_some, Option.getD_some]
                rcases List.mem_cons.1 ho with rfl | ho
                · exact hoi
                · have := (List.pairwise_cons.1 hsrt).1 o ho
                  omega
            · omega
          · omega
        · omega
    · intro k x y hx hno hy hc
      rcases snoc_get hx with ⟨hkl, hx⟩ | ⟨hkl, rfl⟩
      · have hno' : ¬ isOpn s k := fun hc' => hno ((hopn _).2 (.inl hc'))
        have hxl := hl k x hx
        have hxp := h.plt k x hx
        have hcs : x.par = -1 ∨ isOpn s x.par ∨ ∃ p, nds[x.par.toNat]? = some p ∧ x.last + 1 ≤ p.last := by
          rcases hc with hc | hc | ⟨p, hp, hpl⟩
          · exact .inl hc
          · rcases (hopn _).1 hc with h1 | ⟨_, h1⟩
            · exact .inr (.inl h1)
            · omega
          · by_cases hneg : x.par = -1
            · exact .inl hneg
            rcases snoc_get hp with ⟨_, hp⟩ | ⟨hp, _⟩
            · exact .inr (.inr ⟨p, hp, hpl⟩)
            · omega
        rcases snoc_get hy with ⟨_, hy⟩ | ⟨hyl, rfl⟩
        · exact h.sib k x y hx hno' hy hcs
        · rcases h.top k x hx hno' (by omega) with h1 | ⟨h1, h2, p, hp, hpl⟩
          · exact h1.symm
          · rcases hcs with h3 | h3 | ⟨q, hq, hql⟩
            · omega
            · exact absurd h3 h2
            · rw [hp] at hq
              obtain rfl := Option.some.inj hq
              omega
      · have := get_lt hy
        rw [List.length_append, List.length_singleton] at this
        simp only at this
        omega
    · intro k x hx hno h0
      rcases snoc_get hx with ⟨hkl, hx⟩ | ⟨hkl, rfl⟩
      · obtain ⟨p, hp, hpo⟩ := h.ins k x hx (fun hc' => hno ((hopn _).2 (.inl hc'))) h0
        refine ⟨p, get_snoc hp, ?_⟩
        rcases hpo with hpo | hpo
        · exact .inl ((hopn _).2 (.inl hpo))
        · exact .inr hpo
      · simp only at h0 ⊢
        rcases htop.2.2 with h1 | h1
        · omega
        · have hlt' : (topOf s.opn).toNat < nds.length := by omega
          exact ⟨_, get_snoc (List.getElem?_eq_getElem hlt'), .inl ((hopn _).2 (.inl h1))⟩
    · intro k x hx hno hlast
      rw [List.length_append, List.length_singleton] at hlast ⊢
      rcases snoc_get hx with ⟨hkl, hx⟩ | ⟨hkl, rfl⟩
      · have := hl k x hx
        omega
      · refine .inl ?_
        have h0 : e.kind ≠ 0 := fun h0 => hno ((hopn _).2 (.inr ⟨h0, by omega⟩))
        unfold begNext
        simp only [hk, h0, if_false]
    · intro k x hx
      rcases snoc_get hx with ⟨hkl, hx⟩ | ⟨hkl, rfl⟩
      · exact h.plt k x hx
      · simp only
        omega
    · intro x hx
      rcases snoc_get hx with ⟨hkl, hx⟩ | ⟨hkl, rfl⟩
      · exact h.root x hx
      · simp only
        omega
theorem NdAx.all {pre : List Ev} {s : BegS} {nds : List Nd} (hi : NdInv pre s nds) (hl : NdLast nds) (h : NdAx s nds) : ∀ (l : List Ev) {t : BegS}, begAll s l = some t → NdAx t (ndAll s nds l) := by
  intro l
  induction l generalizing pre s nds with
  | nil => intro t ht; simp only [begAll, Option.some.injEq] at ht; subst ht; exact h
  | cons e l ih =>
    intro t ht
    unfold begAll at ht
    split at ht
    · rename_i he
      exact ih (hi.step he) (hl.step hi he) (h.step hi hl he) ht
    · cases ht
theorem nodesB_ax {l : List Ev} {t : BegS} (h : begAll beg0 l = some t) : NdAx t (nodesB l) :=
  NdAx.all NdInv.start (fun n x hx => by simp at hx) NdAx.start l h

/-- what node i is in -/
def parN (evs : List Ev) (i : Nat) : Int := ((nodesB evs)[i]?.map (·.par)).getD (-1)
/-- where the nodes in n end -/
def hiP (L : Nat) (f : Nat → Nat) (n : Int) : Nat := if n < 0 then L else f n.toNat + 1
structure AxF (L : Nat) (f : Nat → Nat) (p : Nat → Int) : Prop where
  rng : ∀ i, i < L → i ≤ f i ∧ f i < L
  root : 0 < L → p 0 = -1
  plt : ∀ k, k < L → -1 ≤ p k ∧ p k < k
  first : ∀ i, i < L → i + 1 ≤ f i → p (i + 1) = i
  sib : ∀ k, k < L → f k + 1 < hiP L f (p k) → p (f k + 1) = p k
  ins : ∀ k, k < L → f k < hiP L f (p k)
theorem axF_of {evs : List Ev} (h : wholeB evs = true) : AxF (nodesB evs).length (lastN evs) (parN evs) := by
  obtain ⟨t, ht, _, ho⟩ := wholeB_some h
  have hx := nodesB_ax ht
  have hr := lastN_rng ht
  have hno : ∀ i, ¬ isOpn t i := by rintro i ⟨o, ho', _⟩; rw [ho] at ho'; cases ho'
  have hat : ∀ i, i < (nodesB evs).length → ∃ x, (nodesB evs)[i]? = some x ∧ ((lastN evs i : Nat) : Int) = x.last ∧ parN evs i = x.par := by
    intro i hi
    exact ⟨_, List.getElem?_eq_getElem hi, lastN_at ht (List.getElem?_eq_getElem hi), by unfold parN; rw [List.getElem?_eq_getElem hi]; rfl⟩
  refine ⟨hr, ?_, ?_, ?_, ?_, ?_⟩
  · intro h0
    obtain ⟨x, hx0, _, hp⟩ := hat 0 h0
    rw [hp]; exact hx.root x hx0
  · intro k hk
    obtain ⟨x, hx0, _, hp⟩ := hat k hk
    rw [hp]; exact hx.plt k x hx0
  · intro i hi h1
    obtain ⟨x, hx0, hl, _⟩ := hat i hi
    obtain ⟨y, hy0, _, hp⟩ := hat (i + 1) (by have := hr i hi; omega)
    rw [hp]
    exact hx.first i x y hx0 hy0 (.inr (by omega))
  · intro k hk h1
    obtain ⟨x, hx0, hl, hp⟩ := hat k hk
    have hpk := hx.plt k x hx0
    unfold hiP at h1
    have h2 : lastN evs k + 1 < (nodesB evs).length := by
      split at h1
      · exact h1
      · have := hr (parN evs k).toNat (by omega); omega
    obtain ⟨y, hy0, _, hpy⟩ := hat _ h2
    rw [hpy, hp]
    refine hx.sib k x y hx0 (hno _) (by rw [← hl, show ((lastN evs k : Nat) : Int) + 1 = ((lastN evs k + 1 : Nat) : Int) by omega, Int.toNat_natCast]; exact hy0) ?_
    by_cases hneg : x.par = -1
    · exact .inl hneg
    · obtain ⟨p, hp0, hpl, _⟩ := hat x.par.toNat (by omega)
      rw [hp, if_neg (by omega)] at h1
      exact .inr (.inr ⟨p, hp0, by omega⟩)
  · intro k hk
    obtain ⟨x, hx0, hl, hp⟩ := hat k hk
    unfold hiP
    split
    · exact (hr k hk).2
    · rename_i h1
      obtain ⟨p, hp0, hc⟩ := hx.ins k x hx0 (hno _) (by omega)
      have hplt := hx.plt k x hx0
      obtain ⟨p', hp0', hpl, _⟩ := hat x.par.toNat (by omega)
      rw [hp0] at hp0'
      obtain rfl := Option.some.inj hp0'
      rcases hc with hc | hc
      · exact absurd hc (hno _)
      · rw [hp]; omega
end Go.Proofs.YtekoflcioooncaaDoor
