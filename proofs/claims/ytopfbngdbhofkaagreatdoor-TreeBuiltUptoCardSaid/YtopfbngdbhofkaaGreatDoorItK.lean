/-
  Several operations of a region that is walked under a condition are skipped at once.
-/
import Derived.Deep.RegionHeld3
import Derived.RowKit
import Derived.Test.YtopfbngdbhofkaaGreatDoorItE
import Derived.Test.YtopfbngdbhofkaaGreatDoorProg
import Derived.Shelf.Unicode.ValidAny
import Derived.Lib.LaidU8T
import Derived.Test.YtopfbngdbhofkaaGreatDoorItF
namespace Go.Proofs.YtopfbngdbhofkaaGreatDoor
open Go.RowKit

/-- the operations that have come up, with these, too -/
def listedAfter : List Nat → Array Bool → Array Bool
  | [], l => l
  | i :: is, l => listedAfter is (l.setIfInBounds i true)
/-- their temporaries hold nothing -/
def putU : List (Option Tmp) → Act → Act
  | [], a => a
  | d :: ds, a => putU ds (a.put d undef)
/-- these operations may be skipped, one behind the other -/
def skipOk (md : Region.Mode) (ops : Array Oper) : List Nat → List (Option Tmp) → Array Bool → Act → Bool
  | [], [], _, _ => true
  | i :: is, d :: ds, l, a => (match ops[i]? with
      | some o => o.dst == d && !(Region.wanted o (yielded ops a.tmps))
      | none => false) && Region.free md ops l i && (Region.ready md ops l).contains i && skipOk md ops is ds (l.setIfInBounds i true) (a.put d undef)
  | _, _, _, _ => false
theorem wpAnyH_skips {P : Program} {md : Region.Mode} {ops : Array Oper} {Q : Exit → Act → World → Prop} {S : World → Prop} {fuel : Nat} {w : World} (hs : Region.noSelect ops = true)
    (hQ : ∀ d c a w, Q (.panic c) (Act.put a d undef) w → Q (.panic c) a w) (hS : S w) :
    ∀ (is : List Nat) (ds : List (Option Tmp)) (n : Nat) (listed : Array Bool) (a : Act), is.length = n → skipOk md ops is ds listed a = true →
      wpAnyH P md ops Q S fuel (listedAfter is listed) (putU ds a) w → wpAnyH P md ops Q S (fuel + n) listed a w
  | [], [], n, listed, a, hn, _, h => by
    subst hn
    exact h
  | [], _ :: _, _, _, _, _, hk, _ => by simp [skipOk] at hk
  | _ :: _, [], _, _, _, _, hk, _ => by simp [skipOk] at hk
  | i :: is, d :: ds, n, listed, a, hn, hk, h => by
    subst hn
    unfold skipOk at hk
    simp only [Bool.and_eq_true] at hk
    obtain ⟨⟨⟨hk0, hk1⟩, hk2⟩, hk3⟩ := hk
    cases ho : ops[i]? with
    | none => rw [ho] at hk0; simp at hk0
    | some o =>
      rw [ho] at hk0
      simp only [Bool.and_eq_true, Bool.not_eq_true', beq_iff_eq] at hk0
      obtain ⟨rfl, hw⟩ := hk0
      exact wpAnyH_take (v := undef) (fuel := fuel + is.length) ho hs hk1 hk2 (hQ o.dst) (Or.inr ⟨hw, rfl⟩) hS (wpAnyH_skips hs hQ hS is ds is.length _ _ rfl hk3 h)
end Go.Proofs.YtopfbngdbhofkaaGreatDoor

/-
  Strings that are given by the list of their bytes.
-/
namespace Go.Proofs.YtopfbngdbhofkaaGreatDoor
open Go.RowKit

theorem extU (l : List UInt8) (i j : Nat) : (strU l).extract i j = strU ((l.drop i).take (j - i)) := by rw [strU, ByteArray.extract_mk]; rfl
theorem strU_add (l m : List UInt8) : strU l ++ strU m = strU (l ++ m) := by
  apply ByteArray.ext
  simp [strU]
theorem bytesV_strU (l : List UInt8) : bytesV (strU l) = u8s l := rfl
theorem strU_nil : strU [] = ⟨#[]⟩ := rfl
theorem run_catU {P : Program} (a b : List UInt8) (ha : a.length ≤ 8388608) (hb : b.length ≤ 8388608) (w : World) : (Op.stringOp .add (strU a) (strU b)).run P w = .ok (.string (strU (a ++ b))) w := by
  rw [run_string_add (P := P) w _ _ (by rw [strU_size]; omega) (by rw [strU_size]; omega), strU_add]
theorem cmpU_eq {a b : List UInt8} (h : a = b) : ((strU a).toList == (strU b).toList) = true := by rw [h]; simp
theorem strU_toList (l : List UInt8) : (strU l).toList = l := by rw [ByteArray.toList_eq]; simp [strU]
theorem cmpU_ne {a b : List UInt8} (h : a ≠ b) : ((strU a).toList == (strU b).toList) = false := by rw [strU_toList, strU_toList]; simpa using h
theorem strU_empty (l : List UInt8) : (strU l).toList.isEmpty = l.isEmpty := by
  rw [ByteArray.toList_eq]
  simp [strU]
end Go.Proofs.YtopfbngdbhofkaaGreatDoor

/-
  unicode/utf8.ValidString: its contract laid at this dump (the shelf's table does not name it).
-/
namespace Go.Proofs.YtopfbngdbhofkaaGreatDoor
open Go.RowKit

def validRen : Go.Shelf.Ren := ⟨fun | 196 => 52 | 259 => 64 | n => n, fun | 12 => 12 | 46 => 116 | 53 => 126 | 119 => 112 | 138 => 114 | 139 => 115 | n => n, fun | 3 => 0 | 4 => 1 | n => n⟩
theorem laysValid : Go.Proofs.Lays.n196 Tryz.prog validRen where
  mixed := by kernel_rfl
  f196 := Tryz.func52.trans (congrArg some (by kernel_rfl))
  f259 := Tryz.func64.trans (congrArg some (by kernel_rfl))
  t0 := Tryz.underlying0
  a0 := Tryz.isAgg0
  z0 := Tryz.sizeOf0
  v0 := Tryz.zeroValue0
  t3 := Tryz.underlying3
  a3 := Tryz.isAgg3
  z3 := Tryz.sizeOf3
  v3 := Tryz.zeroValue3
  t4 := Tryz.underlying4
  a4 := Tryz.isAgg4
  z4 := Tryz.sizeOf4
  v4 := Tryz.zeroValue4
  t5 := Tryz.underlying5
  a5 := Tryz.isAgg5
  z5 := Tryz.sizeOf5
  v5 := Tryz.zeroValue5
  t9 := Tryz.underlying9
  a9 := Tryz.isAgg9
  z9 := Tryz.sizeOf9
  v9 := Tryz.zeroValue9
  t12 := Tryz.underlying12
  a12 := Tryz.isAgg12
  z12 := Tryz.sizeOf12
  v12 := Tryz.zeroValue12
  t46 := Tryz.underlying116
  a46 := Tryz.isAgg116
  z46 := Tryz.sizeOf116
  v46 := Tryz.zeroValue116
  t53 := Tryz.underlying126
  a53 := Tryz.isAgg126
  z53 := Tryz.sizeOf126
  v53 := Tryz.zeroValue126
  t119 := Tryz.underlying112
  a119 := Tryz.isAgg112
  z119 := Tryz.sizeOf112
  t138 := Tryz.underlying114
  a138 := Tryz.isAgg114
  z138 := Tryz.sizeOf114
  v138 := Tryz.zeroValue114
  t139 := Tryz.underlying115
  a139 := Tryz.isAgg115
  z139 := Tryz.sizeOf115
  v139 := Tryz.zeroValue115
  g3 := by kernel_rfl
  g4 := by kernel_rfl
theorem Valid_any (s : ByteArray) (w : World) (hs : s.size ≤ 9223372036854775807) (hT : Lib.Utf8Tabs 0 1 w) :
    Calls Tryz.prog 52 #[.string s] w fun e w' => e = .returned (.bool (Lib.validD s.data.toList)) ∧ Below w.heap.size w w' :=
  Any.utf8_ValidString laysValid s w hs hT
theorem u8types : U8Types Tryz.prog validRen := U8Types.of196 laysValid
end Go.Proofs.YtopfbngdbhofkaaGreatDoor

/-
  chars.Name: is the text a name?
-/
namespace Go.Proofs.YtopfbngdbhofkaaGreatDoor
open Go.RowKit

set_option maxRecDepth 100000 in
set_option maxHeartbeats 1000000 in
theorem Name_any (l : List UInt8) (w : World) (hl : l.length ≤ 1073741824) (hR : RangesAt w 2) (hT : Lib.Utf8Tabs 0 1 w) :
    Calls Tryz.prog 50 #[.string (strU l)] w fun e w' => e = .returned (.bool (nameB l)) ∧ Below w.heap.size w w' := by
  have HR := Lib.hid hR
  have HT := Lib.hid hT
  have HV : Hid (∀ W, Below w.heap.size w W → Calls Tryz.prog 52 #[.string (strU l)] W fun e w' => e = .returned (.bool (Lib.validD l)) ∧ Below W.heap.size W w') := Lib.hid fun W hW => by
    have := Valid_any (strU l) W (by rw [strU_size]; omega) (Utf8Tabs_below HT.out hW)
    rw [strU_data] at this
    exact this
  have HI : Hid (∀ (c r : Nat) W, c < 6 → Below w.heap.size w W → Calls Tryz.prog 51 #[.int .i64 c, .int .i32 r] W fun e w' => e = .returned (.bool (isR (rng c) r)) ∧ Below W.heap.size W w') := Lib.hid fun c r W hc hW => Is_any c hc r W (HR.out.below hW)
  have HD : Hid (∀ pos, decL (l.drop pos) = Utf8.decode (strU l) pos) := Lib.hid (decL_str l)
  have HE : Hid (nameB l = (!l.isEmpty && (clsL 2 l && Lib.validD l))) := Lib.hid rfl
  have hse := strU_empty l
  have HZ : Hid ((strU l).size = l.length) := Lib.hid (strU_size l)
  clear hR hT HR HT
  generalize Lib.validD l = V at *
  generalize nameB l = T at *
  generalize hS : strU l = S at *
  have HS := Lib.hid hS
  clear hS
  go_enter Tryz.func50, Tryz.ntmps50
  go_wp2_with fail
  go_loopw [3] (fun cv wr => ∃ pos cc, cv = .int .i64 (cc : Nat) ∧ cc < 6 ∧ (pos = 0 ∨ l.isEmpty = false) ∧ wr.heap[w.heap.size]? = some (.stringIter S pos) ∧ Below w.heap.size w wr ∧ Hid (clsL cc (l.drop pos) = clsL 2 l)) (fun _ wr => S.size - wr.iterPos w.heap.size)
  case atStart => exact ⟨0, 2, rfl, by decide, .inl rfl, World.iter_heap _ _ _, (Below.refl _ _).alloc (Nat.le_refl _) _, rfl⟩
  case round =>
    obtain ⟨pos, cc, rfl, hcc, hpe, hit, hbw, hr⟩ := hrel
    have hsz : w.heap.size < wr.heap.size := (Array.getElem?_eq_some_iff.1 hit).1
    by_cases hp : pos < S.size
    · have hnx : ∀ ty, (Instr.next (.pointer (some ⟨w.heap.size, 0, none⟩)) true ty).run Tryz.prog wr = _ := fun ty => Lib.run_next_any_at wr w.heap.size S pos ty hit hp
      have hwd := width_pos S pos hp
      have hst := hr.out
      have hne : l.drop pos ≠ [] := by
        intro h
        have := congrArg List.length h
        rw [List.length_drop] at this
        have := HZ.out
        simp at *; omega
      rw [clsL_step _ _ hne, List.drop_drop, HD.out pos] at hst
      have HST := Lib.hid hst
      have HIT := Lib.hid hit
      generalize hw2 : wr.iterAt w.heap.size S (pos + (Utf8.decode S pos).2) = w2 at hnx
      have hit2 : w2.heap[w.heap.size]? = some (.stringIter S (pos + (Utf8.decode S pos).2)) := by rw [← hw2]; exact Lib.iterAt_heap wr w.heap.size S pos _ hit
      have hbw2 : Below w.heap.size w w2 := by rw [← hw2]; exact Lib.below_iterAt hbw (by omega) S _
      have hsz2 : w2.heap.size = wr.heap.size := by rw [← hw2, Lib.iterAt_size]
      clear hw2 hit hbw hst hne hr
      have HC := Lib.hid (HI.out cc (Utf8.decode S pos).1 w2 hcc hbw2)
      have hle : l.isEmpty = false := by
        cases hq : l with
        | nil => have := HZ.out; rw [hq, List.length_nil] at this; omega
        | cons _ _ => rfl
      have HLE := Lib.hid hle
      clear hle hpe hcc
      generalize (Utf8.decode S pos).1 = r at *
      generalize (Utf8.decode S pos).2 = wd at *
      cases hb : isR (rng cc) r with
      | false =>
        rw [hb] at HC HST
        go_wp2_with fail
        (with_reducible refine HC.out.mono ?_)
        rintro e w3 ⟨rfl, hb3⟩
        go_wp2_with fail
        go_ret
        exact ⟨ret_bool (by rw [HE.out, ← HST.out]; simp), hbw2.trans (hb3.mono hbw2.size)⟩
      | true =>
        rw [hb] at HC HST
        go_wp2_with fail
        (with_reducible refine HC.out.mono ?_)
        rintro e w3 ⟨rfl, hb3⟩
        have hit3 := (hb3.block w.heap.size (by omega)).trans hit2
        go_wp2_with fail
        go_roundw
        case rel => exact ⟨pos + wd, 3, rfl, by decide, .inr HLE.out, hit3, hbw2.trans (hb3.mono hbw2.size), by have := HST.out; rw [Bool.true_and] at this; exact this⟩
        case measure =>
          have e1 : w3.iterPos w.heap.size = pos + wd := by unfold World.iterPos; rw [hit3]
          have e2 : wr.iterPos w.heap.size = pos := by unfold World.iterPos; rw [HIT.out]
          rw [e1, e2]
          omega
    · have hnx : ∀ ty, (Instr.next (.pointer (some ⟨w.heap.size, 0, none⟩)) true ty).run Tryz.prog wr = _ := fun ty => Lib.run_next_end_at wr w.heap.size S pos ty hit hp
      have hst := hr.out
      rw [List.drop_of_length_le (by have := HZ.out; omega)] at hst
      have HST := Lib.hid hst
      clear hst hr
      clear hpe hcc
      cases hq : l.isEmpty with
      | true =>
        rw [hq] at hse HE
        have HE2 := HE
        clear hq
        go_wp2_with fail
        go_ret
        exact ⟨ret_bool (by rw [HE2.out]; rfl), hbw⟩
      | false =>
        rw [hq] at hse HE
        have HE2 := HE
        clear hq
        go_wp2_with fail
        (with_reducible refine (HV.out _ hbw).mono ?_)
        rintro e w3 ⟨rfl, hb3⟩
        go_wp2_with fail
        go_ret
        exact ⟨ret_bool (by rw [HE2.out, ← HST.out]; simp [clsL_nil]), hbw.trans (hb3.mono hbw.size)⟩
end Go.Proofs.YtopfbngdbhofkaaGreatDoor
