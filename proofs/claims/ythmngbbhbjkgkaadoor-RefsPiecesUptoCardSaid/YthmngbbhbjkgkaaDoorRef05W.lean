/-
  gimletref05: written, Text, Value.
-/
import Derived.Test.YthmngbbhbjkgkaaDoorLawDig
import Derived.Test.YthmngbbhbjkgkaaDoorText
namespace Go.Proofs.YthmngbbhbjkgkaaDoor
open Go.RowKit

theorem keys_small : ∀ p ∈ textPs ++ valuePs, p.2.size ≤ 6 := by decide
/-- a byte's form behind j of the pairs -/
def formJ (ps : List (UInt8 × ByteArray)) (c : UInt8) (j : Nat) : List UInt8 := (ps.take j).foldl (fun f p => if c.toNat = p.1.toNat then p.2.data.toList else f) [c]
theorem formJ_succ (ps : List (UInt8 × ByteArray)) (c : UInt8) (j : Nat) (h : j < ps.length) : formJ ps c (j + 1) = if c.toNat = ps[j].1.toNat then ps[j].2.data.toList else formJ ps c j := by
  unfold formJ
  rw [List.take_succ_eq_append_getElem h, List.foldl_append]
  rfl
theorem formJ_text (c : UInt8) : formJ textPs c 4 = form textPs c := by
  have : ∀ c : UInt8, formJ textPs c 4 = form textPs c := by
    intro c
    have h : ∀ n : Fin 256, formJ textPs (UInt8.ofNat n) 4 = form textPs (UInt8.ofNat n) := by decide +kernel
    have := h ⟨c.toNat, c.toNat_lt⟩
    simpa using this
  exact this c
theorem formJ_value (c : UInt8) : formJ valuePs c 6 = form valuePs c := by
  have h : ∀ n : Fin 256, formJ valuePs (UInt8.ofNat n) 6 = form valuePs (UInt8.ofNat n) := by decide +kernel
  have := h ⟨c.toNat, c.toNat_lt⟩
  simpa using this
/-- how long a byte's form may be -/
theorem form_text_len (c : UInt8) : (form textPs c).length ≤ 6 := by
  have h : ∀ n : Fin 256, (form textPs (UInt8.ofNat n)).length ≤ 6 := by decide +kernel
  have := h ⟨c.toNat, c.toNat_lt⟩
  simpa using this
theorem form_value_len (c : UInt8) : (form valuePs c).length ≤ 6 := by
  have h : ∀ n : Fin 256, (form valuePs (UInt8.ofNat n)).length ≤ 6 := by decide +kernel
  have := h ⟨c.toNat, c.toNat_lt⟩
  simpa using this
theorem replL_len (ps : List (UInt8 × ByteArray)) (hf : ∀ c, (form ps c).length ≤ 6) (l : List UInt8) : (replL ps l).length ≤ 6 * l.length := by
  induction l with
  | nil => simp [replL]
  | cons b l ih =>
    have := hf b
    simp only [replL, List.flatMap_cons, List.length_append, List.length_cons] at *
    omega

theorem str_at' (l : List UInt8) (k : Nat) (h : k < l.length) : (digS l).data.toList[k]? = some l[k] := by simp [digS, h]
/-- the forms in memory -/
def FormsAt (w : World) (b : Nat) (ps : List (UInt8 × ByteArray)) : Prop := ∀ j, (h : j < ps.length) → w.cell? ⟨b, j, none⟩ = some (.string (digS ps[j].2.data.toList))

set_option maxRecDepth 100000 in
set_option maxHeartbeats 4000000 in
theorem written_any (ps : List (UInt8 × ByteArray)) (m : Nat) (hm : ps.length = m) (hm6 : m ≤ 6) (hfj : ∀ c, formJ ps c m = form ps c) (hf : ∀ c, (form ps c).length ≤ 6)
    (l : List UInt8) (n : Nat) (hl : l.length = n) (hn : n ≤ 1048576) (b : Nat) (w : World) (hF : FormsAt w b ps) :
    Calls Tryd.prog 29 #[.string (digS l), .string (digS (ps.map (·.1))), .slice (some ⟨b, 0, none⟩) m m] w fun e w' => e = .returned (.string (digS (replL ps l))) ∧ Below w.heap.size w w' := by
  have hsz : (digS l).size = n := by rw [digS_size, hl]
  have hszb : (digS (ps.map (·.1))).size = m := by rw [digS_size, List.length_map, hm]
  have HL := Lib.hid hl
  have HM := Lib.hid hm
  have HFJ := Lib.hid hfj
  have HF := Lib.hid hf
  have HFA := Lib.hid hF
  clear hl hm hfj hf hF
  go_enter Tryd.func29, Tryd.ntmps29
  go_wp2_with fail
  go_loopw [7, 8, 9, 10] (fun ox ix _ _ wr => ∃ i : Nat, ix = .int .i64 i ∧ i ≤ n ∧ ox = .string (digS (replL ps (l.take i))) ∧ ∃ d, wr = w.drewN d) (fun _ ix _ _ _ => n - (intOf ix).toNat)
  case atStart => exact ⟨0, rfl, Nat.zero_le _, rfl, 0, rfl⟩
  case round =>
    obtain ⟨i, rfl, hi, rfl, d, rfl⟩ := hrel
    by_cases hin : i < n
    · have hil : i < l.length := by rw [HL.out]; exact hin
      have hxs : (digS l).extract i (i + 1) = digS [l[i]] := by
        rw [digS, ByteArray.extract_mk, show i + 1 - i = 1 by omega, List.drop_eq_getElem_cons hil]; rfl
      have hlc : (l.take i).length ≤ 1048576 := by rw [List.length_take]; omega
      have hcat : ∀ W, (Op.stringOp .add (digS (replL ps (l.take i))) (digS (form ps l[i]))).run Tryd.prog W = .ok (.string (digS (replL ps (l.take (i + 1))))) W := by
        intro W
        have h1 := replL_len ps HF.out (l.take i)
        have h2 := HF.out l[i]
        rw [run_cat _ _ (by omega) (by omega), List.take_succ_eq_append_getElem hil, replL_snoc]
      have HC := Lib.hid hcat
      have hx := fun W => run_index_str (P := Tryd.prog) 9 Tryd.underlying9 (digS l) i l[i] (str_at' l i hil) W
      have hc256 : l[i].toNat < 256 := l[i].toNat_lt
      clear hcat hlc
      generalize l[i] = c at *
      go_wp2_with fail
      clear hxs
      go_loopw [9, 10] (fun fx jx wr => ∃ j : Nat, jx = .int .i64 j ∧ j ≤ m ∧ fx = .string (digS (formJ ps c j)) ∧ ∃ d, wr = w.drewN d) (fun _ jx _ => m - (intOf jx).toNat)
      case atStart => exact ⟨0, rfl, Nat.zero_le _, rfl, _, rfl⟩
      case round =>
        obtain ⟨j, rfl, hj, rfl, d2, rfl⟩ := hrel
        by_cases hjm : j < m
        · have hjl : j < ps.length := by rw [HM.out]; exact hjm
          have e0 := HFA.out j hjl
          have hfs := formJ_succ ps c j hjl
          have hy := fun W => run_index_str (P := Tryd.prog) 9 Tryd.underlying9 (digS (ps.map (·.1))) j ps[j].1 (by rw [show (digS (ps.map (·.1))).data.toList = ps.map (·.1) by simp [digS]]; simp [hjl]) W
          have hk256 : ps[j].1.toNat < 256 := ps[j].1.toNat_lt
          generalize ps[j] = q at *
          obtain ⟨k, s⟩ := q
          simp only at e0 hfs hy hk256
          by_cases hck : c.toNat = k.toNat
          · rw [if_pos hck] at hfs
            have HFS := Lib.hid hfs
            have ht : ((c.toNat : Int) == (k.toNat : Int)) = true := by simp [hck]
            clear hfs hck
            go_wp2_with fail
            go_quiet (fail)
            go_wp2_with fail
            go_roundw
            case rel => exact ⟨j + 1, by go_num, by omega, by rw [HFS.out], _, rfl⟩
            case measure => simp [intOf]; omega
          · rw [if_neg hck] at hfs
            have HFS := Lib.hid hfs
            have ht : ((c.toNat : Int) == (k.toNat : Int)) = false := by simp; omega
            clear hfs hck
            go_wp2_with fail
            go_quiet (fail)
            go_wp2_with fail
            go_roundw
            case rel => exact ⟨j + 1, by go_num, by omega, by rw [HFS.out], _, rfl⟩
            case measure => simp [intOf]; omega
        · have hfj : formJ ps c j = form ps c := by rw [show j = m by omega]; exact HFJ.out c
          rw [hfj]
          clear hfj
          have hcat := HC.out
          go_wp2_with fail
          go_roundw
          case rel => exact ⟨i + 1, by go_num, by omega, rfl, _, rfl⟩
          case measure => simp [intOf]; omega
    · have he : l.take i = l := by rw [List.take_of_length_le (by rw [HL.out]; omega)]
      rw [he]
      clear he
      go_wp2_with fail
      go_ret
      exact ⟨rfl, Below.drewN (Below.refl _ _) _⟩

set_option maxRecDepth 100000 in
set_option maxHeartbeats 1000000 in
theorem Text5_any (l : List UInt8) (hn : l.length ≤ 1048576) (w : World) :
    Calls Tryd.prog 16 #[.string (digS l)] w fun e w' => e = .returned (.string (digS (replL textPs l))) ∧ Below w.heap.size w w' := by
  have HW : Hid (∀ w1 : World, FormsAt w1 w.heap.size textPs → Calls Tryd.prog 29 #[.string (digS l), .string ⟨#[38, 60, 62, 13]⟩, .slice (some ⟨w.heap.size, 0, none⟩) 4 4] w1 fun e w' => e = .returned (.string (digS (replL textPs l))) ∧ Below w1.heap.size w1 w') :=
    Lib.hid (fun w1 h => written_any textPs 4 rfl (by decide) formJ_text form_text_len l _ rfl hn w.heap.size w1 h)
  clear hn
  go_enter Tryd.func16, Tryd.ntmps16
  go_wp2_with fail
  (with_reducible refine (HW.out _ ?_).mono ?_)
  · intro j hj
    rw [cell_heap (heap_alloc_new w _)]
    have hj' : j < 4 := hj
    iterate 4 (rcases j with _ | j; · rfl)
    omega
  rintro e w1 ⟨rfl, hb⟩
  have hb1 := ((Below.refl w.heap.size w).alloc (Nat.le_refl _) _).trans (hb.mono (by simp))
  go_wp2_with fail
  go_ret
  exact ⟨rfl, hb1⟩

set_option maxRecDepth 100000 in
set_option maxHeartbeats 1000000 in
theorem Value5_any (l : List UInt8) (hn : l.length ≤ 1048576) (w : World) :
    Calls Tryd.prog 18 #[.string (digS l)] w fun e w' => e = .returned (.string (digS (replL valuePs l))) ∧ Below w.heap.size w w' := by
  have HW : Hid (∀ w1 : World, FormsAt w1 w.heap.size valuePs → Calls Tryd.prog 29 #[.string (digS l), .string ⟨#[38, 60, 34, 9, 10, 13]⟩, .slice (some ⟨w.heap.size, 0, none⟩) 6 6] w1 fun e w' => e = .returned (.string (digS (replL valuePs l))) ∧ Below w1.heap.size w1 w') :=
    Lib.hid (fun w1 h => written_any valuePs 6 rfl (by decide) formJ_value form_value_len l _ rfl hn w.heap.size w1 h)
  clear hn
  go_enter Tryd.func18, Tryd.ntmps18
  go_wp2_with fail
  (with_reducible refine (HW.out _ ?_).mono ?_)
  · intro j hj
    rw [cell_heap (heap_alloc_new w _)]
    have hj' : j < 6 := hj
    iterate 6 (rcases j with _ | j; · rfl)
    omega
  rintro e w1 ⟨rfl, hb⟩
  have hb1 := ((Below.refl w.heap.size w).alloc (Nat.le_refl _) _).trans (hb.mono (by simp))
  go_wp2_with fail
  go_ret
  exact ⟨rfl, hb1⟩
end Go.Proofs.YthmngbbhbjkgkaaDoor
