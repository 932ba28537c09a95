/-
  gimletlaw05.RefsPieces: the walk.
-/
import Derived.Test.YthmngbbhbjkgkaaDoorLawWrites
import Derived.Test.YthmngbbhbjkgkaaDoorPiecesP
import Derived.Test.YthmngbbhbjkgkaaDoorRef05D
namespace Go.Proofs.YthmngbbhbjkgkaaDoor
open Go.RowKit

set_option maxRecDepth 100000 in
theorem run_str_runes {w : World} {a : Addr} {n : Nat} {zs : List Int} (h : Sl w (some a) n (zs.map (Value.int .i32))) (c : Nat) :
    (convert 53 9 (.slice (some a) n c)).run Tryd.prog w = .ok (.string (runesBytes zs)) w := by
  have hn : n = zs.length := by have := h.len; simpa using this
  by_cases h0 : zs = []
  · subst h0
    obtain rfl : n = 0 := hn
    rw [run_convert_runes_string w 53 9 21 _ _ _ Tryd.underlying53 Tryd.underlying21 Tryd.underlying9]
    exact run_runesToString w a 0 c [] rfl
  · have hl := List.length_pos_iff.2 h0
    obtain ⟨b, o, e, _, _⟩ := h.cell 0 (by simpa using hl)
    injection e with e
    subst e
    have := run_convert_runes (P := Tryd.prog) w 53 9 21 ⟨b, o, none⟩ n c zs (by omega) Tryd.underlying53 Tryd.underlying21 Tryd.underlying9 (by
      intro j hj
      obtain ⟨b', o', e, _, hc⟩ := h.cell j (by simpa using hj)
      injection e with e
      injection e with e1 e2
      subst e1
      subst e2
      rw [Addr.add_lit, hc]
      simp [hj])
    rw [hn, List.take_length] at this
    rw [hn]
    exact this
set_option maxHeartbeats 1000000 in
theorem Mend_any (l : List UInt8) (hl : l.length ≤ 16777216) (w : World) :
    Calls Tryd.prog 19 #[.string (digS l)] w fun e w' => e = .returned (.string (digS (mendL l))) ∧ Below w.heap.size w w' := by
  have h1 := fun W => run_runes (P := Tryd.prog) 9 53 21 Tryd.underlying9 Tryd.underlying53 Tryd.underlying21 W (digS l) (by rw [digS_size]; omega)
  have h2 : ∀ c, (convert 53 9 (.slice (some ⟨w.heap.size, 0, none⟩) (runesOf (digS l)).length c)).run Tryd.prog (runesW w 21 (digS l)) = .ok (.string (digS (mendL l))) (runesW w 21 (digS l)) := by
    intro c
    rw [run_str_runes (runesW_sl w 21 (digS l)) c]
    congr 2
    exact mend_model l
  have HB := Lib.hid (runesW_below w 21 (digS l))
  clear hl
  go_enter Tryd.func19, Tryd.ntmps19
  go_wp2_with fail
  go_ret
  exact ⟨rfl, HB.out⟩

theorem replL_size (ps : List (UInt8 × ByteArray)) (hf : ∀ c, (form ps c).length ≤ 6) (l : List UInt8) (h : l.length ≤ 1048576) : (replL ps l).length ≤ 6291456 := by
  have := replL_len ps hf l
  omega

set_option maxRecDepth 100000 in
set_option maxHeartbeats 8000000 in
theorem pieces_any (l m : List UInt8) (hlm : l.length + m.length ≤ 1048576) (w : World) (hR : RangesAt w 0) :
    Calls Tryd.prog 8 #[.string (digS l), .string (digS m)] w fun e w' => e = .returned (.bool true) ∧ Below w.heap.size w w' := by
  have HR := Lib.hid hR
  have hal : (l ++ m).length ≤ 1048576 := by rw [List.length_append]; omega
  have tl := replL_size textPs form_text_len l (by omega)
  have tm := replL_size textPs form_text_len m (by omega)
  have vl := replL_size valuePs form_value_len l (by omega)
  have vm := replL_size valuePs form_value_len m (by omega)
  have C0 := Lib.hid (fun w => run_cat (P := Tryd.prog) l m (by omega) (by omega) w)
  have CT := Lib.hid (fun w => run_cat (P := Tryd.prog) (replL textPs l) (replL textPs m) (by omega) (by omega) w)
  have CV := Lib.hid (fun w => run_cat (P := Tryd.prog) (replL valuePs l) (replL valuePs m) (by omega) (by omega) w)
  have HTA := Lib.hid (fun w => TextL_any (l ++ m) w hal)
  have HTL := Lib.hid (fun w => TextL_any l w (by omega))
  have HTM := Lib.hid (fun w => TextL_any m w (by omega))
  have HVA := Lib.hid (fun w => ValueL_any (l ++ m) w hal)
  have HVL := Lib.hid (fun w => ValueL_any l w (by omega))
  have HVM := Lib.hid (fun w => ValueL_any m w (by omega))
  have HM1 := Lib.hid (fun w => Mend_any (replL textPs l) (by omega) w)
  have HM2 := Lib.hid (fun w => Mend_any l (by omega) w)
  have HTN : Hid (∀ w, Calls Tryd.prog 15 #[.string (digS (mendL l))] w fun e w' => e = .returned (.string (digS (mendL (replL textPs l)))) ∧ Below w.heap.size w w') := Lib.hid (fun w => by
    rw [mend_text]
    exact Text_any (digS (mendL l)) w (by have := mendL_len _ l (Nat.le_refl _); rw [digS_size]; omega))
  have PT := Lib.hid (plainly_text l)
  have PV := Lib.hid (plainly_value l)
  obtain ⟨T, hT⟩ : ∃ T, T = replL textPs l := ⟨_, rfl⟩
  obtain ⟨V, hV⟩ : ∃ V, V = replL valuePs l := ⟨_, rfl⟩
  rw [replL_app, ← hT] at HTA
  rw [replL_app, ← hV] at HVA
  rw [← hT] at CT HTL HM1 HTN PT
  rw [← hV] at CV HVL PV
  have htl : T.length ≤ 6291456 := by rw [hT]; exact tl
  have hvl : V.length ≤ 6291456 := by rw [hV]; exact vl
  have HTL2 := Lib.hid htl
  have HVL2 := Lib.hid hvl
  clear hR hal tl tm vl vm hT hV hlm htl hvl
  go_enter Tryd.func8, Tryd.ntmps8
  go_wp2_with fail
  refine (fixed_any w HR.out).mono ?_
  rintro e w1 ⟨rfl, hb1⟩
  have c0 := C0.out
  go_wp2_with fail
  (with_reducible refine (HTA.out _).mono ?_)
  rintro e w2 ⟨rfl, hb2⟩
  have b2 := hb1.trans (hb2.mono hb1.size)
  clear hb1 hb2
  go_wp2_with fail
  (with_reducible refine (HTL.out _).mono ?_)
  rintro e w3 ⟨rfl, hb3⟩
  have b3 := b2.trans (hb3.mono b2.size)
  clear b2 hb3
  go_wp2_with fail
  (with_reducible refine (HTM.out _).mono ?_)
  rintro e w4 ⟨rfl, hb4⟩
  have b4 := b3.trans (hb4.mono b3.size)
  clear b3 hb4
  have ct := CT.out
  go_wp2_with fail
  clear ct
  (with_reducible refine (HVA.out _).mono ?_)
  rintro e w5 ⟨rfl, hb5⟩
  have b5 := b4.trans (hb5.mono b4.size)
  clear b4 hb5
  go_wp2_with fail
  (with_reducible refine (HVL.out _).mono ?_)
  rintro e w6 ⟨rfl, hb6⟩
  have b6 := b5.trans (hb6.mono b5.size)
  clear b5 hb6
  go_wp2_with fail
  (with_reducible refine (HVM.out _).mono ?_)
  rintro e w7 ⟨rfl, hb7⟩
  have b7 := b6.trans (hb7.mono b6.size)
  clear b6 hb7
  have cv := CV.out
  go_wp2_with fail
  clear cv c0
  (with_reducible refine (HTL.out _).mono ?_)
  rintro e w8 ⟨rfl, hb8⟩
  have b8 := b7.trans (hb8.mono b7.size)
  clear b7 hb8
  go_wp2_with fail
  (with_reducible refine (HVL.out _).mono ?_)
  rintro e w9 ⟨rfl, hb9⟩
  have b9 := b8.trans (hb9.mono b8.size)
  clear b8 hb9
  go_wp2_with fail
  go_loopw [43] (fun kx wr => ∃ k : Nat, kx = .int .i64 k ∧ k ≤ 2 ∧ Below (w9.heap.size + 1) (w9.alloc (.cells #[.string (digS T), .string (digS V)] 9)) wr) (fun kx _ => 2 - (intOf kx).toNat)
  case atStart => exact ⟨0, rfl, Nat.zero_le _, Below.refl _ _⟩
  case round =>
    obtain ⟨k, rfl, hk, hbk⟩ := hrel
    by_cases hk0 : k = 0
    · subst hk0
      rw [show ((0 : Nat) : Int) = 0 from rfl]
      have e0 : wr.cell? ⟨w9.heap.size, 0, none⟩ = some (.string (digS T)) := by rw [(hbk.cell (p := ⟨w9.heap.size, 0, none⟩) (by simp)), cell_heap (heap_alloc_new w9 _)]; rfl
      obtain ⟨N, hN⟩ : ∃ N, N = T.length := ⟨_, rfl⟩
      have hsz : (digS T).size = N := by rw [digS_size, hN]
      have hNb : N ≤ 6291456 := by rw [hN]; exact HTL2.out
      have HN := Lib.hid hN
      clear hN
      go_wp2_with fail
      clear e0
      go_loopw [7] (fun ix wi => ∃ i : Nat, ix = .int .i64 i ∧ i ≤ N ∧ Below (w9.heap.size + 1) (w9.alloc (.cells #[.string (digS T), .string (digS V)] 9)) wi) (fun ix _ => N - (intOf ix).toNat)
      case atStart => exact ⟨0, rfl, Nat.zero_le _, hbk⟩
      case round =>
        obtain ⟨i, rfl, hi, hbi⟩ := hrel
        by_cases hin : i < N
        · have hil : i < T.length := by rw [← HN.out]; exact hin
          obtain ⟨x, hx⟩ : ∃ x, T[i]? = some x := ⟨_, List.getElem?_eq_getElem hil⟩
          obtain ⟨hp1, hp2, hp3, hp4⟩ := PT.out i x hx
          have hix := fun W => run_index_str (P := Tryd.prog) 9 Tryd.underlying9 (digS T) i x (by simpa [digS] using hx) W
          have hx256 : x.toNat < 256 := x.toNat_lt
          have hxs := ext_drop T i N HN.out.symm
          have hdl : (T.drop i).length ≤ 6291456 := by have := HTL2.out; rw [List.length_drop]; omega
          have hcv := fun W => Lib.run_convert_string_bytes (P := Tryd.prog) W 9 22 5 (digS (T.drop i)) Tryd.underlying9 Tryd.underlying22 Tryd.underlying5
          have t60 : ((x.toNat : Int) == 60) = false := by simp; omega
          have t13 : ((x.toNat : Int) == 13) = false := by simp; omega
          have hwb : w9.heap.size + 1 ≤ wr.heap.size := by have := hbi.size; simp at this; omega
          have hbW := bytesW_below wr 5 (digS (T.drop i))
          have hbi2 := hbi.trans (hbW.mono hwb)
          have hbw9 := (b9.alloc b9.size (.cells #[.string (digS T), .string (digS V)] 9)).trans (hbi2.mono (by have := b9.size; omega))
          have HRD := Lib.hid (Read_any _ _ _ (T.drop i) _ (bytesW_sl wr 5 (digS (T.drop i))) (grownCap_ge wr _ 0 5) (by rw [digS_size]; omega) (HR.out.below hbw9))
          have H4 := Lib.hid hp4
          have HX := Lib.hid hx
          have HB2 := Lib.hid hbi2
          have HBS := Lib.hid hbi2.size
          have HWB := Lib.hid hwb
          clear hx hp1 hp2 hp3 hp4 hbi hbW hbi2 hbw9 hwb hdl hil
          generalize readF (T.drop i) = t at *
          obtain ⟨t1, t2, t3⟩ := t
          by_cases h38 : x.toNat = 38
          · obtain rfl : t3 = 0 := H4.out h38
            have tx : ((x.toNat : Int) == 38) = true := by simp [h38]
            clear h38
            go_wp2_with fail
            (with_reducible refine HRD.out.mono ?_)
            rintro e wj ⟨rfl, hbj⟩
            have hbj2 := HB2.out.trans (hbj.mono (by have := HBS.out; simp at this ⊢; omega))
            clear hbj HRD
            go_wp2_with fail
            go_roundw
            case rel => exact ⟨i + 1, by go_num, by omega, hbj2⟩
            case measure => simp [intOf]; omega
          · have tx : ((x.toNat : Int) == 38) = false := by simp; omega
            clear h38
            go_wp2_with fail
            (with_reducible refine HRD.out.mono ?_)
            rintro e wj ⟨rfl, hbj⟩
            have hbj2 := HB2.out.trans (hbj.mono (by have := HBS.out; simp at this ⊢; omega))
            clear hbj HRD
            go_wp2_with fail
            go_roundw
            case rel => exact ⟨i + 1, by go_num, by omega, hbj2⟩
            case measure => simp [intOf]; omega
        · go_wp2_with fail
          go_roundw
          case rel => exact ⟨1, rfl, by omega, hbi⟩
          case measure => simp [intOf]
    · by_cases hk1 : k = 1
      · subst hk1
        rw [show ((1 : Nat) : Int) = 1 from rfl]
        have e0 : wr.cell? ⟨w9.heap.size, 1, none⟩ = some (.string (digS V)) := by rw [(hbk.cell (p := ⟨w9.heap.size, 1, none⟩) (by simp)), cell_heap (heap_alloc_new w9 _)]; rfl
        obtain ⟨N, hN⟩ : ∃ N, N = V.length := ⟨_, rfl⟩
        have hsz : (digS V).size = N := by rw [digS_size, hN]
        have hNb : N ≤ 6291456 := by rw [hN]; exact HVL2.out
        have HN := Lib.hid hN
        clear hN
        go_wp2_with fail
        clear e0
        go_loopw [7] (fun ix wi => ∃ i : Nat, ix = .int .i64 i ∧ i ≤ N ∧ Below (w9.heap.size + 1) (w9.alloc (.cells #[.string (digS T), .string (digS V)] 9)) wi) (fun ix _ => N - (intOf ix).toNat)
        case atStart => exact ⟨0, rfl, Nat.zero_le _, hbk⟩
        case round =>
          obtain ⟨i, rfl, hi, hbi⟩ := hrel
          by_cases hin : i < N
          · have hil : i < V.length := by rw [← HN.out]; exact hin
            obtain ⟨x, hx⟩ : ∃ x, V[i]? = some x := ⟨_, List.getElem?_eq_getElem hil⟩
            obtain ⟨hp1, hp2, hp3, hp4⟩ := PV.out i x hx
            have hix := fun W => run_index_str (P := Tryd.prog) 9 Tryd.underlying9 (digS V) i x (by simpa [digS] using hx) W
            have hx256 : x.toNat < 256 := x.toNat_lt
            have hxs := ext_drop V i N HN.out.symm
            have hdl : (V.drop i).length ≤ 6291456 := by have := HVL2.out; rw [List.length_drop]; omega
            have hcv := fun W => Lib.run_convert_string_bytes (P := Tryd.prog) W 9 22 5 (digS (V.drop i)) Tryd.underlying9 Tryd.underlying22 Tryd.underlying5
            have t60 : ((x.toNat : Int) == 60) = false := by simp; omega
            have t13 : ((x.toNat : Int) == 13) = false := by simp; omega
            have t34 : ((x.toNat : Int) == 34) = false := by have := hp3 rfl; simp; omega
            have hwb : w9.heap.size + 1 ≤ wr.heap.size := by have := hbi.size; simp at this; omega
            have hbW := bytesW_below wr 5 (digS (V.drop i))
            have hbi2 := hbi.trans (hbW.mono hwb)
            have hbw9 := (b9.alloc b9.size (.cells #[.string (digS T), .string (digS V)] 9)).trans (hbi2.mono (by have := b9.size; omega))
            have HRD := Lib.hid (Read_any _ _ _ (V.drop i) _ (bytesW_sl wr 5 (digS (V.drop i))) (grownCap_ge wr _ 0 5) (by rw [digS_size]; omega) (HR.out.below hbw9))
            have H4 := Lib.hid hp4
            have HX := Lib.hid hx
            have HB2 := Lib.hid hbi2
            have HBS := Lib.hid hbi2.size
            have HWB := Lib.hid hwb
            clear hx hp1 hp2 hp3 hp4 hbi hbW hbi2 hbw9 hwb hdl hil
            generalize readF (V.drop i) = t at *
            obtain ⟨t1, t2, t3⟩ := t
            by_cases h38 : x.toNat = 38
            · obtain rfl : t3 = 0 := H4.out h38
              have tx : ((x.toNat : Int) == 38) = true := by simp [h38]
              clear h38
              go_wp2_with fail
              (with_reducible refine HRD.out.mono ?_)
              rintro e wj ⟨rfl, hbj⟩
              have hbj2 := HB2.out.trans (hbj.mono (by have := HBS.out; simp at this ⊢; omega))
              clear hbj HRD
              go_wp2_with fail
              go_roundw
              case rel => exact ⟨i + 1, by go_num, by omega, hbj2⟩
              case measure => simp [intOf]; omega
            · have tx : ((x.toNat : Int) == 38) = false := by simp; omega
              clear h38
              go_wp2_with fail
              (with_reducible refine HRD.out.mono ?_)
              rintro e wj ⟨rfl, hbj⟩
              have hbj2 := HB2.out.trans (hbj.mono (by have := HBS.out; simp at this ⊢; omega))
              clear hbj HRD
              go_wp2_with fail
              go_roundw
              case rel => exact ⟨i + 1, by go_num, by omega, hbj2⟩
              case measure => simp [intOf]; omega
          · go_wp2_with fail
            go_roundw
            case rel => exact ⟨2, rfl, by omega, hbi⟩
            case measure => simp [intOf]
      · obtain rfl : k = 2 := by omega
        have b10 := (b9.alloc b9.size (.cells #[.string (digS T), .string (digS V)] 9)).trans (hbk.mono (by have := b9.size; omega))
        clear hbk hk0 hk1
        go_wp2_with fail
        (with_reducible refine (HTL.out _).mono ?_)
        rintro e wa ⟨rfl, hba⟩
        have ba := b10.trans (hba.mono b10.size)
        go_wp2_with fail
        (with_reducible refine (HM1.out _).mono ?_)
        rintro e wb ⟨rfl, hbb⟩
        have bb := ba.trans (hbb.mono ba.size)
        go_wp2_with fail
        (with_reducible refine (HM2.out _).mono ?_)
        rintro e wc ⟨rfl, hbc⟩
        have bc := bb.trans (hbc.mono bb.size)
        go_wp2_with fail
        (with_reducible refine (HTN.out _).mono ?_)
        rintro e wd ⟨rfl, hbd⟩
        have bd := bc.trans (hbd.mono bc.size)
        go_wp2_with fail
        go_ret
        exact ⟨rfl, bd⟩
theorem piecesS_any (s t : ByteArray) (h : s.size + t.size ≤ 1048576) (w : World) (hR : RangesAt w 0) :
    Calls Tryd.prog 8 #[.string s, .string t] w fun e w' => e = .returned (.bool true) ∧ Below w.heap.size w w' := by
  rw [← digS_data s, ← digS_data t]
  exact pieces_any _ _ (by rw [Array.length_toList, Array.length_toList]; exact h) w hR
end Go.Proofs.YthmngbbhbjkgkaaDoor
