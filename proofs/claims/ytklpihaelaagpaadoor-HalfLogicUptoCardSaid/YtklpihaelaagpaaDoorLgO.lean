/-
  slices.ContainsFunc over steps and over expressions.
-/
import Derived.Test.YtklpihaelaagpaaDoorLgN
namespace Go.Proofs.YtklpihaelaagpaaDoor
open Go.RowKit

set_option maxRecDepth 100000 in
set_option maxHeartbeats 2000000 in
theorem indexStep_any (f c : Nat) (a : Option Addr) (l : List PS) (p : PS → Bool) (w : World) (h : SsAt f w a l) (hn : l.length ≤ 1048576)
    (hF : ∀ (x : PS) (cs : List Value) (W : World), x ∈ l → Below w.heap.size w W → StepAt (XAt f) W x cs → Calls Tryd.prog 25 #[.agg cs.toArray] W fun e w' => e = .returned (.bool (p x)) ∧ Below W.heap.size W w') :
    Calls Tryd.prog 40 #[.slice a l.length c, .func (.func 25) #[] #[]] w fun e w' => ∃ r : Int, e = .returned (.int .i64 r) ∧ decide (0 ≤ r) = l.any p ∧ Below w.heap.size w w' := by
  have HH := Lib.hid h
  have HF := Lib.hid hF
  have HL : Hid (∀ i, i < l.length → (∀ j (hj : j < l.length), j < i → p l[j] = false) → ∀ hi : i < l.length, p l[i] = true → decide ((0 : Int) ≤ (i : Int)) = l.any p) := Lib.hid fun i hi _ hi2 hp => by
    rw [decide_eq_true (by omega)]
    exact (List.any_eq_true.2 ⟨l[i], List.getElem_mem hi, hp⟩).symm
  have HNO : Hid ((∀ j (hj : j < l.length), p l[j] = false) → decide ((0 : Int) ≤ -1) = l.any p) := Lib.hid fun hno => by
    rw [decide_eq_false (by omega)]
    refine (List.any_eq_false.2 fun x hx => ?_).symm
    obtain ⟨j, hj, rfl⟩ := List.getElem_of_mem hx
    rw [hno j hj]; decide
  clear h hF
  obtain ⟨n, hnl⟩ : ∃ n, l.length = n := ⟨_, rfl⟩
  rw [hnl] at hn ⊢
  have HN := Lib.hid hnl
  clear hnl
  go_enter Tryd.func40, Tryd.ntmps40
  go_wp2_with fail
  go_loopw [8] (fun iv wr => ∃ i : Nat, iv = .int .i64 i ∧ i ≤ n ∧ Hid (Below w.heap.size w wr ∧ ∀ j (hj : j < l.length), j < i → p l[j] = false)) (fun iv _ => n - (intOf iv).toNat)
  case atStart => exact ⟨0, rfl, Nat.zero_le _, Lib.hid ⟨Below.refl _ _, fun j _ h => absurd h (Nat.not_lt_zero _)⟩⟩
  case round =>
    obtain ⟨i, rfl, hi, HR⟩ := hrel
    by_cases hin : i < n
    · have hil : i < l.length := by rw [HN.out]; exact hin
      obtain ⟨b, o, wa, wc, rfl, hb, hp, hcs⟩ := HH.out.get' i hil
      obtain ⟨k0, k1, k2, k3⟩ := hcs wr HR.out.1
      obtain ⟨R, hR⟩ : ∃ R, p l[i] = R := ⟨_, rfl⟩
      have HP : Hid (Calls Tryd.prog 25 #[.agg #[.int .i64 l[i].axis, .int .i64 l[i].test, .string (strL l[i].name), .slice wa l[i].wher.length wc]] wr fun e w' => e = .returned (.bool R) ∧ Below wr.heap.size wr w') := Lib.hid ((HF.out l[i] _ wr (List.getElem_mem hil) HR.out.1 (hp.turn HR.out.1 fun _ _ => XAt.turn HR.out.1 (Nat.le_refl _))).mono fun _ _ h => ⟨h.1.trans (congrArg (fun b => Ending.returned (.bool b)) hR), h.2⟩)
      clear hp hcs hb
      have HIL := Lib.hid hil
      have h1 : (i : Int) < (n : Int) := by omega
      have h2 : (0 : Int) ≤ (i : Int) := by omega
      have ew : IntKind.i64.wrap ((i : Int) + 1) = (i : Int) + 1 := IntWalk.i64_in _ (by omega)
      have HRR := Lib.hid hR
      clear hR
      go_wp2_with fail
      (with_reducible refine HP.out.mono ?_)
      rintro e w2 ⟨rfl, hb2⟩
      have HB2 := Lib.hid (HR.out.1.trans (hb2.mono HR.out.1.size))
      clear hb2
      cases R with
      | true =>
        have HFI := Lib.hid (HL.out i HIL.out HR.out.2 HIL.out HRR.out)
        go_wp2_with fail
        go_ret
        exact ⟨_, rfl, HFI.out, HB2.out⟩
      | false =>
        go_wp2_with fail
        go_roundw
        case rel => exact ⟨i + 1, by go_num, by omega, Lib.hid ⟨HB2.out, fun j hj hji => by
          rcases Nat.lt_or_ge j i with h | h
          · exact HR.out.2 j hj h
          · have e : j = i := by omega
            subst e; exact HRR.out⟩⟩
        case measure => simp [intOf]; omega
    · have h1 : (n : Int) ≤ (i : Int) := by omega
      have HFI := Lib.hid (HNO.out fun j hj => HR.out.2 j hj (by have := HN.out; omega))
      go_wp2_with fail
      go_ret
      exact ⟨_, rfl, HFI.out, HR.out.1⟩
set_option maxRecDepth 100000 in
set_option maxHeartbeats 2000000 in
theorem containsStep_any (f c : Nat) (a : Option Addr) (l : List PS) (p : PS → Bool) (w : World) (h : SsAt f w a l) (hn : l.length ≤ 1048576)
    (hF : ∀ (x : PS) (cs : List Value) (W : World), x ∈ l → Below w.heap.size w W → StepAt (XAt f) W x cs → Calls Tryd.prog 25 #[.agg cs.toArray] W fun e w' => e = .returned (.bool (p x)) ∧ Below W.heap.size W w') :
    Calls Tryd.prog 24 #[.slice a l.length c, .func (.func 25) #[] #[]] w fun e w' => e = .returned (.bool (l.any p)) ∧ Below w.heap.size w w' := by
  have HI := Lib.hid (indexStep_any f c a l p w h hn hF)
  clear h hn hF
  generalize l.any p = R at *
  go_enter Tryd.func24, Tryd.ntmps24
  go_wp2_with fail
  (with_reducible refine HI.out.mono ?_)
  rintro e w2 ⟨r, rfl, hr, hb⟩
  have HR := Lib.hid hr
  clear hr
  go_wp2_with fail
  go_ret
  exact ⟨ret_bool HR.out, hb⟩
set_option maxRecDepth 100000 in
set_option maxHeartbeats 2000000 in
theorem indexWhere_any (f c : Nat) (a : Option Addr) (l : List PX) (p : PX → Bool) (w : World) (h : XsAt f w a l) (hn : l.length ≤ 1048576)
    (hF : ∀ (x : PX) (cs : List Value) (W : World), x ∈ l → Below w.heap.size w W → XAt f W x cs → Calls Tryd.prog 43 #[.agg cs.toArray] W fun e w' => e = .returned (.bool (p x)) ∧ Below W.heap.size W w') :
    Calls Tryd.prog 59 #[.slice a l.length c, .func (.func 43) #[] #[]] w fun e w' => ∃ r : Int, e = .returned (.int .i64 r) ∧ decide (0 ≤ r) = l.any p ∧ Below w.heap.size w w' := by
  have HH := Lib.hid h
  have HF := Lib.hid hF
  have HL : Hid (∀ i, i < l.length → (∀ j (hj : j < l.length), j < i → p l[j] = false) → ∀ hi : i < l.length, p l[i] = true → decide ((0 : Int) ≤ (i : Int)) = l.any p) := Lib.hid fun i hi _ hi2 hp => by
    rw [decide_eq_true (by omega)]
    exact (List.any_eq_true.2 ⟨l[i], List.getElem_mem hi, hp⟩).symm
  have HNO : Hid ((∀ j (hj : j < l.length), p l[j] = false) → decide ((0 : Int) ≤ -1) = l.any p) := Lib.hid fun hno => by
    rw [decide_eq_false (by omega)]
    refine (List.any_eq_false.2 fun x hx => ?_).symm
    obtain ⟨j, hj, rfl⟩ := List.getElem_of_mem hx
    rw [hno j hj]; decide
  clear h hF
  obtain ⟨n, hnl⟩ : ∃ n, l.length = n := ⟨_, rfl⟩
  rw [hnl] at hn ⊢
  have HN := Lib.hid hnl
  clear hnl
  go_enter Tryd.func59, Tryd.ntmps59
  go_wp2_with fail
  go_loopw [8] (fun iv wr => ∃ i : Nat, iv = .int .i64 i ∧ i ≤ n ∧ Hid (Below w.heap.size w wr ∧ ∀ j (hj : j < l.length), j < i → p l[j] = false)) (fun iv _ => n - (intOf iv).toNat)
  case atStart => exact ⟨0, rfl, Nat.zero_le _, Lib.hid ⟨Below.refl _ _, fun j _ h => absurd h (Nat.not_lt_zero _)⟩⟩
  case round =>
    obtain ⟨i, rfl, hi, HR⟩ := hrel
    by_cases hin : i < n
    · have hil : i < l.length := by rw [HN.out]; exact hin
      obtain ⟨b, o, aa, ac, pa, pc, rfl, hb, hp, hcs⟩ := HH.out.get' i hil
      obtain ⟨k0, k1, k2, k3, k4, k5, k6⟩ := hcs wr HR.out.1
      obtain ⟨R, hR⟩ : ∃ R, p l[i] = R := ⟨_, rfl⟩
      have HP : Hid (Calls Tryd.prog 43 #[.agg #[.int .i64 l[i].op, .slice aa l[i].args.length ac, .slice pa l[i].path.length pc, .string (strL l[i].attr), .int .i64 l[i].cmp, .string (strL l[i].text), .int .i64 l[i].num]] wr fun e w' => e = .returned (.bool R) ∧ Below wr.heap.size wr w') := Lib.hid ((HF.out l[i] _ wr (List.getElem_mem hil) HR.out.1 (XAt.turn HR.out.1 (Nat.le_refl _) hp)).mono fun _ _ h => ⟨h.1.trans (congrArg (fun b => Ending.returned (.bool b)) hR), h.2⟩)
      clear hp hcs hb
      have HIL := Lib.hid hil
      have h1 : (i : Int) < (n : Int) := by omega
      have h2 : (0 : Int) ≤ (i : Int) := by omega
      have ew : IntKind.i64.wrap ((i : Int) + 1) = (i : Int) + 1 := IntWalk.i64_in _ (by omega)
      have HRR := Lib.hid hR
      clear hR
      go_wp2_with fail
      (with_reducible refine HP.out.mono ?_)
      rintro e w2 ⟨rfl, hb2⟩
      have HB2 := Lib.hid (HR.out.1.trans (hb2.mono HR.out.1.size))
      clear hb2
      cases R with
      | true =>
        have HFI := Lib.hid (HL.out i HIL.out HR.out.2 HIL.out HRR.out)
        go_wp2_with fail
        go_ret
        exact ⟨_, rfl, HFI.out, HB2.out⟩
      | false =>
        go_wp2_with fail
        go_roundw
        case rel => exact ⟨i + 1, by go_num, by omega, Lib.hid ⟨HB2.out, fun j hj hji => by
          rcases Nat.lt_or_ge j i with h | h
          · exact HR.out.2 j hj h
          · have e : j = i := by omega
            subst e; exact HRR.out⟩⟩
        case measure => simp [intOf]; omega
    · have h1 : (n : Int) ≤ (i : Int) := by omega
      have HFI := Lib.hid (HNO.out fun j hj => HR.out.2 j hj (by have := HN.out; omega))
      go_wp2_with fail
      go_ret
      exact ⟨_, rfl, HFI.out, HR.out.1⟩
set_option maxRecDepth 100000 in
set_option maxHeartbeats 2000000 in
theorem containsWhere_any (f c : Nat) (a : Option Addr) (l : List PX) (p : PX → Bool) (w : World) (h : XsAt f w a l) (hn : l.length ≤ 1048576)
    (hF : ∀ (x : PX) (cs : List Value) (W : World), x ∈ l → Below w.heap.size w W → XAt f W x cs → Calls Tryd.prog 43 #[.agg cs.toArray] W fun e w' => e = .returned (.bool (p x)) ∧ Below W.heap.size W w') :
    Calls Tryd.prog 42 #[.slice a l.length c, .func (.func 43) #[] #[]] w fun e w' => e = .returned (.bool (l.any p)) ∧ Below w.heap.size w w' := by
  have HI := Lib.hid (indexWhere_any f c a l p w h hn hF)
  clear h hn hF
  generalize l.any p = R at *
  go_enter Tryd.func42, Tryd.ntmps42
  go_wp2_with fail
  (with_reducible refine HI.out.mono ?_)
  rintro e w2 ⟨r, rfl, hr, hb⟩
  have HR := Lib.hid hr
  clear hr
  go_wp2_with fail
  go_ret
  exact ⟨ret_bool HR.out, hb⟩
set_option maxRecDepth 100000 in
set_option maxHeartbeats 2000000 in
theorem indexArgs_any (f c : Nat) (a : Option Addr) (l : List PX) (p : PX → Bool) (w : World) (h : XsAt f w a l) (hn : l.length ≤ 1048576)
    (hF : ∀ (x : PX) (cs : List Value) (W : World), x ∈ l → Below w.heap.size w W → XAt f W x cs → Calls Tryd.prog 61 #[.agg cs.toArray] W fun e w' => e = .returned (.bool (p x)) ∧ Below W.heap.size W w') :
    Calls Tryd.prog 59 #[.slice a l.length c, .func (.func 61) #[] #[]] w fun e w' => ∃ r : Int, e = .returned (.int .i64 r) ∧ decide (0 ≤ r) = l.any p ∧ Below w.heap.size w w' := by
  have HH := Lib.hid h
  have HF := Lib.hid hF
  have HL : Hid (∀ i, i < l.length → (∀ j (hj : j < l.length), j < i → p l[j] = false) → ∀ hi : i < l.length, p l[i] = true → decide ((0 : Int) ≤ (i : Int)) = l.any p) := Lib.hid fun i hi _ hi2 hp => by
    rw [decide_eq_true (by omega)]
    exact (List.any_eq_true.2 ⟨l[i], List.getElem_mem hi, hp⟩).symm
  have HNO : Hid ((∀ j (hj : j < l.length), p l[j] = false) → decide ((0 : Int) ≤ -1) = l.any p) := Lib.hid fun hno => by
    rw [decide_eq_false (by omega)]
    refine (List.any_eq_false.2 fun x hx => ?_).symm
    obtain ⟨j, hj, rfl⟩ := List.getElem_of_mem hx
    rw [hno j hj]; decide
  clear h hF
  obtain ⟨n, hnl⟩ : ∃ n, l.length = n := ⟨_, rfl⟩
  rw [hnl] at hn ⊢
  have HN := Lib.hid hnl
  clear hnl
  go_enter Tryd.func59, Tryd.ntmps59
  go_wp2_with fail
  go_loopw [8] (fun iv wr => ∃ i : Nat, iv = .int .i64 i ∧ i ≤ n ∧ Hid (Below w.heap.size w wr ∧ ∀ j (hj : j < l.length), j < i → p l[j] = false)) (fun iv _ => n - (intOf iv).toNat)
  case atStart => exact ⟨0, rfl, Nat.zero_le _, Lib.hid ⟨Below.refl _ _, fun j _ h => absurd h (Nat.not_lt_zero _)⟩⟩
  case round =>
    obtain ⟨i, rfl, hi, HR⟩ := hrel
    by_cases hin : i < n
    · have hil : i < l.length := by rw [HN.out]; exact hin
      obtain ⟨b, o, aa, ac, pa, pc, rfl, hb, hp, hcs⟩ := HH.out.get' i hil
      obtain ⟨k0, k1, k2, k3, k4, k5, k6⟩ := hcs wr HR.out.1
      obtain ⟨R, hR⟩ : ∃ R, p l[i] = R := ⟨_, rfl⟩
      have HP : Hid (Calls Tryd.prog 61 #[.agg #[.int .i64 l[i].op, .slice aa l[i].args.length ac, .slice pa l[i].path.length pc, .string (strL l[i].attr), .int .i64 l[i].cmp, .string (strL l[i].text), .int .i64 l[i].num]] wr fun e w' => e = .returned (.bool R) ∧ Below wr.heap.size wr w') := Lib.hid ((HF.out l[i] _ wr (List.getElem_mem hil) HR.out.1 (XAt.turn HR.out.1 (Nat.le_refl _) hp)).mono fun _ _ h => ⟨h.1.trans (congrArg (fun b => Ending.returned (.bool b)) hR), h.2⟩)
      clear hp hcs hb
      have HIL := Lib.hid hil
      have h1 : (i : Int) < (n : Int) := by omega
      have h2 : (0 : Int) ≤ (i : Int) := by omega
      have ew : IntKind.i64.wrap ((i : Int) + 1) = (i : Int) + 1 := IntWalk.i64_in _ (by omega)
      have HRR := Lib.hid hR
      clear hR
      go_wp2_with fail
      (with_reducible refine HP.out.mono ?_)
      rintro e w2 ⟨rfl, hb2⟩
      have HB2 := Lib.hid (HR.out.1.trans (hb2.mono HR.out.1.size))
      clear hb2
      cases R with
      | true =>
        have HFI := Lib.hid (HL.out i HIL.out HR.out.2 HIL.out HRR.out)
        go_wp2_with fail
        go_ret
        exact ⟨_, rfl, HFI.out, HB2.out⟩
      | false =>
        go_wp2_with fail
        go_roundw
        case rel => exact ⟨i + 1, by go_num, by omega, Lib.hid ⟨HB2.out, fun j hj hji => by
          rcases Nat.lt_or_ge j i with h | h
          · exact HR.out.2 j hj h
          · have e : j = i := by omega
            subst e; exact HRR.out⟩⟩
        case measure => simp [intOf]; omega
    · have h1 : (n : Int) ≤ (i : Int) := by omega
      have HFI := Lib.hid (HNO.out fun j hj => HR.out.2 j hj (by have := HN.out; omega))
      go_wp2_with fail
      go_ret
      exact ⟨_, rfl, HFI.out, HR.out.1⟩
set_option maxRecDepth 100000 in
set_option maxHeartbeats 2000000 in
theorem containsArgs_any (f c : Nat) (a : Option Addr) (l : List PX) (p : PX → Bool) (w : World) (h : XsAt f w a l) (hn : l.length ≤ 1048576)
    (hF : ∀ (x : PX) (cs : List Value) (W : World), x ∈ l → Below w.heap.size w W → XAt f W x cs → Calls Tryd.prog 61 #[.agg cs.toArray] W fun e w' => e = .returned (.bool (p x)) ∧ Below W.heap.size W w') :
    Calls Tryd.prog 42 #[.slice a l.length c, .func (.func 61) #[] #[]] w fun e w' => e = .returned (.bool (l.any p)) ∧ Below w.heap.size w w' := by
  have HI := Lib.hid (indexArgs_any f c a l p w h hn hF)
  clear h hn hF
  generalize l.any p = R at *
  go_enter Tryd.func42, Tryd.ntmps42
  go_wp2_with fail
  (with_reducible refine HI.out.mono ?_)
  rintro e w2 ⟨r, rfl, hr, hb⟩
  have HR := Lib.hid hr
  clear hr
  go_wp2_with fail
  go_ret
  exact ⟨ret_bool HR.out, hb⟩
end Go.Proofs.YtklpihaelaagpaaDoor

namespace Go.Proofs.YtklpihaelaagpaaDoor
open Go.RowKit

def GoodX (f : Nat) : Prop := ∀ (x : PX) (cs : List Value) (W : World), EnvT W → XAt f W x cs → Calls Tryd.prog 44 #[.agg cs.toArray] W fun e w' => e = .returned (.bool (goodXB f x)) ∧ Below W.heap.size W w'
theorem XAt.form {f : Nat} {w : World} {x : PX} {cs : List Value} (h : XAt f w x cs) : ∃ aa ac pa pc, cs = exprC x aa ac pa pc := by
  cases f with
  | zero => exact h.elim
  | succ f => obtain ⟨a, c, p, d, h1, _⟩ := h; exact ⟨a, c, p, d, h1⟩
theorem StepAt.form {P : World → PX → List Value → Prop} {w : World} {s : PS} {cs : List Value} (h : StepAt P w s cs) : ∃ wa wc, cs = stepC s wa wc := by
  obtain ⟨a, c, h1, _⟩ := h; exact ⟨a, c, h1⟩
theorem any_not {α : Type} (l : List α) (p : α → Bool) : (!l.any fun x => !p x) = l.all p := by
  induction l with
  | nil => rfl
  | cons x l ih => simp only [List.any_cons, List.all_cons, ← ih]; cases p x <;> simp

set_option maxRecDepth 100000 in
set_option maxHeartbeats 2000000 in
theorem gstep1_any {f : Nat} (GX : GoodX f) (x : PX) (cs : List Value) (w : World) (hE : EnvT w) (h : XAt f w x cs) :
    Calls Tryd.prog 43 #[.agg cs.toArray] w fun e w' => e = .returned (.bool (!goodXB f x)) ∧ Below w.heap.size w w' := by
  obtain ⟨aa, ac, pa, pc, rfl⟩ := h.form
  have hb0 := (Below.refl w.heap.size w).alloc (Nat.le_refl _) (.cells (exprC x aa ac pa pc).toArray 30)
  have HX := Lib.hid (GX x _ _ (hE.below hb0) (h.turn hb0 (Nat.le_refl _)))
  have HB := Lib.hid hb0
  clear hb0 h hE
  unfold exprC at *
  generalize goodXB f x = R at *
  go_enter Tryd.func43, Tryd.ntmps43
  go_wp2_with fail
  (with_reducible refine HX.out.mono ?_)
  rintro e w2 ⟨rfl, hb⟩
  go_wp2_with fail
  go_ret
  exact ⟨rfl, HB.out.trans (hb.mono HB.out.size)⟩
set_option maxRecDepth 100000 in
set_option maxHeartbeats 2000000 in
theorem gexpr1_any {f : Nat} (GX : GoodX f) (x : PX) (cs : List Value) (w : World) (hE : EnvT w) (h : XAt f w x cs) :
    Calls Tryd.prog 61 #[.agg cs.toArray] w fun e w' => e = .returned (.bool (!goodXB f x)) ∧ Below w.heap.size w w' := by
  obtain ⟨aa, ac, pa, pc, rfl⟩ := h.form
  have hb0 := (Below.refl w.heap.size w).alloc (Nat.le_refl _) (.cells (exprC x aa ac pa pc).toArray 30)
  have HX := Lib.hid (GX x _ _ (hE.below hb0) (h.turn hb0 (Nat.le_refl _)))
  have HB := Lib.hid hb0
  clear hb0 h hE
  unfold exprC at *
  generalize goodXB f x = R at *
  go_enter Tryd.func61, Tryd.ntmps61
  go_wp2_with fail
  (with_reducible refine HX.out.mono ?_)
  rintro e w2 ⟨rfl, hb⟩
  go_wp2_with fail
  go_ret
  exact ⟨rfl, HB.out.trans (hb.mono HB.out.size)⟩

set_option maxRecDepth 100000 in
set_option maxHeartbeats 4000000 in
theorem goodStep_any {f : Nat} (GX : GoodX f) (s : PS) (cs : List Value) (w : World) (hE : EnvT w) (h : StepAt (XAt f) w s cs) :
    Calls Tryd.prog 26 #[.agg cs.toArray] w fun e w' => e = .returned (.bool (goodSB (goodXB f) s)) ∧ Below w.heap.size w w' := by
  obtain ⟨wa, wc, rfl⟩ := h.form
  obtain ⟨wa', wc', hcs, _, _, _, hnl, hwl, hrow⟩ := h
  have hwa : wa' = wa := by have h3 := congrArg (fun l => l[3]?) hcs; simp [stepC] at h3; exact h3.1.symm
  subst hwa
  have hb0 := (Below.refl w.heap.size w).alloc (Nat.le_refl _) (.cells (stepC s wa' wc).toArray 48)
  have HB0 := Lib.hid hb0
  have HCW : Hid (∀ W, Below w.heap.size w W → Calls Tryd.prog 42 #[.slice wa' s.wher.length wc, .func (.func 43) #[] #[]] W fun e w' => e = .returned (.bool (s.wher.any fun x => !goodXB f x)) ∧ Below W.heap.size W w') := Lib.hid fun W hW =>
    containsWhere_any f wc wa' s.wher (fun x => !goodXB f x) W (XsAt.below hrow hW) hwl fun x cs W' _ hW' hx => gstep1_any GX x cs W' ((hE.below hW).below hW') hx
  have HNM : Hid (∀ W, Below w.heap.size w W → Calls Tryd.prog 41 #[.string (strL s.name)] W fun e w' => e = .returned (.bool (nameB s.name)) ∧ Below W.heap.size W w') := Lib.hid fun W hW => nameL_any s.name W hnl (hE.below hW)
  have hse := strL_isE2 s.name
  clear hb0 hE hrow hcs hnl
  obtain ⟨R, hR⟩ : ∃ R, goodSB (goodXB f) s = R := ⟨_, rfl⟩
  rw [hR]
  have HR : Hid (((decide (0 ≤ s.axis) && decide (s.axis ≤ 3) && decide (0 ≤ s.test) && decide (s.test ≤ 3)) && (if s.test = 0 then nameB s.name else s.name.isEmpty) && !(s.wher.any fun x => !goodXB f x)) = R) := Lib.hid (by rw [any_not]; exact hR)
  clear hR
  unfold stepC at *
  generalize s.axis = ax at *
  generalize s.test = te at *
  generalize (s.wher.any fun x => !goodXB f x) = Q at *
  generalize nameB s.name = V at *
  generalize s.name.isEmpty = E at *
  generalize strL s.name = nm at *
  generalize s.wher.length = n at *
  by_cases g1 : ax < 0
  · have HF : Hid (false = R) := Lib.hid (by rw [← HR.out, decide_eq_false (show ¬ 0 ≤ ax by omega)]; simp)
    go_enter Tryd.func26, Tryd.ntmps26
    go_wp2_with fail
    go_ret
    exact ⟨ret_bool HF.out, HB0.out⟩
  have g1' : 0 ≤ ax := by omega
  by_cases g2 : 3 < ax
  · have HF : Hid (false = R) := Lib.hid (by rw [← HR.out, decide_eq_false (show ¬ ax ≤ 3 by omega)]; simp)
    go_enter Tryd.func26, Tryd.ntmps26
    go_wp2_with fail
    go_ret
    exact ⟨ret_bool HF.out, HB0.out⟩
  have g2' : ax ≤ 3 := by omega
  by_cases g3 : te < 0
  · have HF : Hid (false = R) := Lib.hid (by rw [← HR.out, decide_eq_false (show ¬ 0 ≤ te by omega)]; simp)
    go_enter Tryd.func26, Tryd.ntmps26
    go_wp2_with fail
    go_ret
    exact ⟨ret_bool HF.out, HB0.out⟩
  have g3' : 0 ≤ te := by omega
  by_cases g4 : 3 < te
  · have HF : Hid (false = R) := Lib.hid (by rw [← HR.out, decide_eq_false (show ¬ te ≤ 3 by omega)]; simp)
    go_enter Tryd.func26, Tryd.ntmps26
    go_wp2_with fail
    go_ret
    exact ⟨ret_bool HF.out, HB0.out⟩
  have g4' : te ≤ 3 := by omega
  rw [decide_eq_true g1', decide_eq_true g2', decide_eq_true g3', decide_eq_true g4'] at HR
  simp only [Bool.true_and] at HR
  by_cases g5 : te = 0
  · subst g5
    rw [if_pos rfl] at HR
    clear g3 g4
    go_enter Tryd.func26, Tryd.ntmps26
    go_wp2_with fail
    (with_reducible refine (HNM.out _ HB0.out).mono ?_)
    rintro e w2 ⟨rfl, hb⟩
    have HB2 := Lib.hid (HB0.out.trans (hb.mono HB0.out.size))
    have HKB := Lib.hid hb
    have q0 : ∀ j, w2.cell? ⟨w.heap.size, j, none⟩ = (w.alloc (.cells #[.int .i64 ax, .int .i64 0, .string nm, .slice wa' n wc] 48)).cell? ⟨w.heap.size, j, none⟩ := fun j => HKB.out.cell (p := ⟨w.heap.size, j, none⟩) (by simp)
    have c1 : w2.cell? ⟨w.heap.size, 1, none⟩ = some (.int .i64 0) := by rw [q0 1, cell_heap (heap_alloc_new w _)]; rfl
    have c2 : w2.cell? ⟨w.heap.size, 2, none⟩ = some (.string nm) := by rw [q0 2, cell_heap (heap_alloc_new w _)]; rfl
    have c3 : w2.cell? ⟨w.heap.size, 3, none⟩ = some (.slice wa' n wc) := by rw [q0 3, cell_heap (heap_alloc_new w _)]; rfl
    clear hb q0
    cases V with
    | false =>
      go_wp2_with fail
      go_ret
      exact ⟨ret_bool HR.out, HB2.out⟩
    | true =>
      go_wp2_with fail
      (with_reducible refine (HCW.out _ HB2.out).mono ?_)
      rintro e w3 ⟨rfl, hb3⟩
      go_wp2_with fail
      go_ret
      exact ⟨ret_bool HR.out, HB2.out.trans (hb3.mono HB2.out.size)⟩
  · rw [if_neg g5] at HR
    have t0 : ((te : Int) == 0) = false := by simpa using g5
    have t1 : ((te : Int) != 0) = true := by simpa using g5
    clear g3 g4 g5
    cases E with
    | false =>
      go_enter Tryd.func26, Tryd.ntmps26
      go_wp2_with fail
      go_ret
      exact ⟨ret_bool HR.out, HB0.out⟩
    | true =>
      go_enter Tryd.func26, Tryd.ntmps26
      go_wp2_with fail
      (with_reducible refine (HCW.out _ HB0.out).mono ?_)
      rintro e w3 ⟨rfl, hb3⟩
      go_wp2_with fail
      go_ret
      exact ⟨ret_bool HR.out, HB0.out.trans (hb3.mono HB0.out.size)⟩
set_option maxRecDepth 100000 in
set_option maxHeartbeats 2000000 in
theorem gpath1_any {f : Nat} (GX : GoodX f) (s : PS) (cs : List Value) (w : World) (hE : EnvT w) (h : StepAt (XAt f) w s cs) :
    Calls Tryd.prog 25 #[.agg cs.toArray] w fun e w' => e = .returned (.bool (!goodSB (goodXB f) s)) ∧ Below w.heap.size w w' := by
  obtain ⟨wa, wc, rfl⟩ := h.form
  have hb0 := (Below.refl w.heap.size w).alloc (Nat.le_refl _) (.cells (stepC s wa wc).toArray 48)
  have HX := Lib.hid (goodStep_any GX s _ _ (hE.below hb0) (h.turn hb0 fun _ _ => XAt.turn hb0 (Nat.le_refl _)))
  have HB := Lib.hid hb0
  clear hb0 h hE
  unfold stepC at *
  generalize goodSB (goodXB f) s = R at *
  go_enter Tryd.func25, Tryd.ntmps25
  go_wp2_with fail
  (with_reducible refine HX.out.mono ?_)
  rintro e w2 ⟨rfl, hb⟩
  go_wp2_with fail
  go_ret
  exact ⟨rfl, HB.out.trans (hb.mono HB.out.size)⟩
set_option maxRecDepth 100000 in
set_option maxHeartbeats 2000000 in
theorem goodPath_any {f : Nat} (GX : GoodX f) (a : Option Addr) (c : Nat) (ss : List PS) (w : World) (hE : EnvT w) (h : SsAt f w a ss) (hn : ss.length ≤ 1048576) :
    Calls Tryd.prog 14 #[.agg #[.slice a ss.length c]] w fun e w' => e = .returned (.bool (goodPB (goodXB f) ss)) ∧ Below w.heap.size w w' := by
  have hb0 := (Below.refl w.heap.size w).alloc (Nat.le_refl _) (.cells #[.slice a ss.length c] 27)
  have HB0 := Lib.hid hb0
  have HCS : Hid (Calls Tryd.prog 24 #[.slice a ss.length c, .func (.func 25) #[] #[]] (w.alloc (.cells #[.slice a ss.length c] 27)) fun e w' => e = .returned (.bool (ss.any fun s => !goodSB (goodXB f) s)) ∧ Below (w.alloc (.cells #[.slice a ss.length c] 27)).heap.size (w.alloc (.cells #[.slice a ss.length c] 27)) w') := Lib.hid
    (containsStep_any f c a ss (fun s => !goodSB (goodXB f) s) _ (SsAt.below h hb0) hn fun s cs W' _ hW' hx => gpath1_any GX s cs W' ((hE.below hb0).below hW') hx)
  obtain ⟨R, hR⟩ : ∃ R, goodPB (goodXB f) ss = R := ⟨_, rfl⟩
  rw [hR]
  have HR : Hid ((!ss.isEmpty && !(ss.any fun s => !goodSB (goodXB f) s)) = R) := Lib.hid (by rw [any_not]; exact hR)
  clear hR hb0 h hE
  generalize (ss.any fun s => !goodSB (goodXB f) s) = Q at *
  cases hz : ss.isEmpty with
  | true =>
    have hl : ss.length = 0 := by rw [List.isEmpty_iff.1 hz]; rfl
    rw [hz] at HR
    generalize ss.length = n at *
    subst hl
    clear hz
    go_enter Tryd.func14, Tryd.ntmps14
    go_wp2_with fail
    go_ret
    exact ⟨ret_bool HR.out, HB0.out⟩
  | false =>
    have hl : 0 < ss.length := by
      rcases Nat.eq_zero_or_pos ss.length with h | h
      · rw [List.eq_nil_of_length_eq_zero h] at hz; cases hz
      · exact h
    rw [hz] at HR
    generalize ss.length = n at *
    have i1 : (0 : Int) < (n : Int) := by omega
    clear hz
    go_enter Tryd.func14, Tryd.ntmps14
    go_wp2_with fail
    (with_reducible refine HCS.out.mono ?_)
    rintro e w3 ⟨rfl, hb3⟩
    go_wp2_with fail
    go_ret
    exact ⟨ret_bool HR.out, HB0.out.trans (hb3.mono HB0.out.size)⟩
end Go.Proofs.YtklpihaelaagpaaDoor
