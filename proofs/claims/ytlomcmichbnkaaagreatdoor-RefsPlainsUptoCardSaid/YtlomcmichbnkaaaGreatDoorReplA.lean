/-
  strings.Replacer over pairs of one byte and a text: its build, the walk.
-/
import Derived.Test.YtlomcmichbnkaaaGreatDoorReplT
import Derived.Deep.CutBlock
namespace Go.Proofs.YtlomcmichbnkaaaGreatDoor
open Go.RowKit

/-- the ending is the table of ps -/
def RetTab (w : World) (e : Ending) (w' : World) (ps : List (UInt8 × ByteArray)) : Prop :=
  ∃ G, e = .returned (.iface 128 (.pointer (some ⟨G, 0, none⟩))) ∧ BuildInv w w' G ps

set_option maxRecDepth 100000 in
set_option maxHeartbeats 1600000 in
theorem build_any (ps : List (UInt8 × ByteArray)) (b : Nat) (a : Option Addr) (n c : Nat) (d0 d1 d2 x3 : Value) (w : World)
    (hw : w.heap[b]? = some (.cells #[d0, d1, d2, x3, .slice a n c] 100 (0, 0))) (hs : Sl w a n (strsOf ps))
    (hlen : 2 ≤ ps.length) (hsm : ps.length ≤ 256) (hnd : (ps.map (·.1)).Nodup) (hbig : ∀ p ∈ ps, p.2.size ≤ 1048576) (hwide : ps.all (fun p => p.2.size == 1) = false) :
    Calls Tryz.prog 57 #[.pointer (some ⟨b, 0, none⟩)] w fun e w' => RetTab w e w' ps := by
  have c4 := cell_heap (i := 4) hw
  simp only [List.getElem?_toArray, List.getElem?_cons_zero, List.getElem?_cons_succ] at c4
  have hn : n = 2 * ps.length := by have := hs.len; rw [strsOf_length] at this; exact this
  obtain ⟨ba, oa, rfl, hba, hcs⟩ := strs_cells hs (by omega)
  have hs1 : ∀ o, (str1 o).size = 1 := fun _ => rfl
  have hn2 : ((n : Int) == 2) = false := by simp; omega
  have HN := Lib.hid hn
  have HCS := Lib.hid hcs
  have hnb : n ≤ 512 := by omega
  clear hn hcs
  go_enter Tryz.func57, Tryz.ntmps57
  go_wp2_with fail
  go_loop [4, 5] (fun al i => ∃ (j : Nat) (f : Bool), al = .bool f ∧ i = .int .i64 j ∧ j ≤ n ∧ Hid (∃ k, j = 2 * k ∧ f = (ps.take k).all (fun p => p.2.size == 1))) (fun _ i => n - (intOf i).toNat)
  case atStart => exact ⟨0, true, rfl, rfl, Nat.zero_le _, 0, rfl, rfl⟩
  case round =>
    obtain ⟨j, f, rfl, rfl, hj, hk⟩ := hrel
    by_cases hlt : j < n
    · obtain ⟨k, hjk, hf⟩ := hk.out
      have hkl : k < ps.length := by have := HN.out; omega
      obtain ⟨e1, e2⟩ := HCS.out k hkl
      rw [← hjk] at e1 e2
      have hnext : j + 2 ≤ n := by have := HN.out; omega
      have HK : Hid (∃ k', j + 2 = 2 * k' ∧ (f && (ps[k].2.size == 1)) = (ps.take k').all (fun p => p.2.size == 1)) := by
        refine ⟨k + 1, by omega, ?_⟩
        rw [List.take_succ_eq_append_getElem hkl, List.all_append, ← hf]
        simp
      have hsz : ps[k].2.size ≤ 1048576 := hbig _ (List.getElem_mem hkl)
      clear hf hjk hk
      generalize ps[k].1 = o at e1
      generalize ps[k].2 = nn at e2 HK hsz
      by_cases h1 : nn.size = 1
      · have HK2 : Hid (∃ k', j + 2 = 2 * k' ∧ f = (ps.take k').all (fun p => p.2.size == 1)) := by
          obtain ⟨k', h3, h4⟩ := HK; exact ⟨k', h3, by rw [← h4, h1]; simp⟩
        go_wp2_with fail
        go_round
        case rel => exact ⟨j + 2, f, rfl, by go_num, hnext, HK2⟩
        case measure => simp [intOf]; omega
      · have HK2 : Hid (∃ k', j + 2 = 2 * k' ∧ false = (ps.take k').all (fun p => p.2.size == 1)) := by
          obtain ⟨k', h3, h4⟩ := HK; exact ⟨k', h3, by rw [← h4]; simp [h1]⟩
        go_wp2_with fail
        go_round
        case rel => exact ⟨j + 2, false, rfl, by go_num, hnext, HK2⟩
        case measure => simp [intOf]; omega
    · have hff : f = false := by
        obtain ⟨k, hjk, hf⟩ := hk.out
        rw [List.take_of_length_le (by have := HN.out; omega), hwide] at hf
        exact hf
      subst hff
      obtain ⟨is, his, hisz, his1, his2⟩ := info_parts info_str
      obtain ⟨it, hit, hitz, hits⟩ := info_parts2 info_tab
      have hh : ((n / 2 : Nat) : Int) = (n : Int) / 2 := by omega
      go_upto_region 26 with (fail)
      apply wp_region_lit
      go_wp2_with (at_make; go_loud (refine wpList_make_own _ rfl _ _ 81 rfl w.heap.size 9 is (.string ByteArray.empty) 1 Tryz.underlying81 his hisz his1 .i64 .i64 _ (n / 2) (by rfl) (by rfl) (by omega) (by rw [his2]; omega) (by unfold maxLen; omega) (Nat.le_refl _) (fun w1 hown1 hgrow1 => ?_); refine wpList_new _ _ _ rfl rfl rfl 127 [(1, .tmp 94)] 95 11 rfl rfl rfl rfl rfl rfl (by decide) (by simp [Act.put]) (by simp [Act.put]) (build_tab _ _ _ _) hit hitz (by rw [hits, tab0_size]) (by rw [tab0_size, tab0_size]) (tab0_one _ _ _) ?_))
      have hb1 : Below w.heap.size w w1 := (Below.refl _ _).grown hgrow1 (Nat.le_refl _) (by intro k hk; cases hk)
      have hlt1 := hown1.lt _ rfl
      have hgt : w.heap.size < w1.heap.size := by have := hlt1.2; simpa using this
      have hst : Hid (BuildInv w (w1.alloc (.cells (tab0 (.slice (some ⟨w.heap.size, 0, none⟩) 0 (n / 2))) 127)) w1.heap.size (ps.drop ps.length)) := by
        rw [List.drop_of_length_le (Nat.le_refl _)]
        refine ⟨hb1.alloc hb1.size _, hgt, _, .slice (some ⟨w.heap.size, 0, none⟩) 0 (n / 2), heap_alloc_new _ _, tab0_size _, by unfold tab0; rw [Array.getElem?_push, if_pos (by simp)], hown1.alloc _, ?_, ?_⟩
        · intro e; injection e with e; simp at e; omega
        · intro o
          have ho : o.toNat < 256 := o.toNat_lt
          refine ⟨.slice none 0 0, ?_, rfl, fun h hh => by cases hh⟩
          unfold tab0
          rw [Array.getElem?_push, if_neg (by simp; omega), Array.getElem?_replicate, if_pos ho]
      generalize w1.alloc (.cells (tab0 (.slice (some ⟨w.heap.size, 0, none⟩) 0 (n / 2))) 127) = ws at hst
      generalize w1.heap.size = G at hgt hst
      clear hown1 hgrow1 hb1 hlt1
      have hlast : ((n : Int) - 2) = 2 * (ps.length : Int) - 2 := by have := HN.out; omega
      rw [hlast]
      clear hlast hh
      go_loopw [12, 13, 14] (fun i _ _ wr => ∃ (j : Nat), i = .int .i64 (2 * (j : Int) - 2) ∧ j ≤ ps.length ∧ Hid (BuildInv w wr G (ps.drop j))) (fun i _ _ _ => (intOf i + 2).toNat)
      case atStart => exact ⟨ps.length, rfl, Nat.le_refl _, hst⟩
      case round =>
        clear hst
        obtain ⟨j, rfl, hj, hI⟩ := hrel
        cases j with
        | zero =>
          go_wp2
          go_ret
          exact ⟨G, rfl, hI.out⟩
        | succ j =>
          have hjl : j < ps.length := by omega
          rw [show (2 * ((j + 1 : Nat) : Int) - 2) = ((2 * j : Nat) : Int) by omega]
          obtain ⟨e1, e2⟩ := HCS.out j hjl
          have hI' := hI.out
          obtain ⟨below, hGlt, C, v, hG, hC, hC256, hown, hvG, hents⟩ := hI'
          have hnotin : look (ps.drop (j + 1)) ps[j].1 = none := by
            refine look_none _ _ fun hm => ?_
            rw [List.map_drop] at hm
            have hnd2 := hnd
            rw [← List.take_append_drop j (ps.map (·.1)), List.nodup_append] at hnd2
            have hdj : (ps.map (·.1)).drop j = ps[j].1 :: (ps.map (·.1)).drop (j + 1) := by
              rw [List.drop_eq_getElem_cons (by simpa using hjl)]; simp
            have hnd3 := hnd2.2.1
            rw [hdj, List.nodup_cons] at hnd3
            exact hnd3.1 hm
          have hdrop : ps.drop j = (ps[j].1, ps[j].2) :: ps.drop (j + 1) := by rw [List.drop_eq_getElem_cons hjl]
          generalize ps[j].1 = o at e1 hnotin hdrop
          generalize ps[j].2 = nn at e2 hdrop
          generalize hk : 2 * j = k at e1 e2
          rw [← below.cell (p := ⟨ba, oa + k, none⟩) hba] at e1
          rw [← below.cell (p := ⟨ba, oa + (k + 1), none⟩) hba] at e2
          have hkb : k + 1 < n := by have := HN.out; omega
          have HK := Lib.hid hk
          have HD := Lib.hid hdrop
          have HE := Lib.hid hents
          obtain ⟨m, hm⟩ : ∃ m, (ps.drop (j + 1)).length = m := ⟨_, rfl⟩
          rw [hm] at hown
          have hm256 : m ≤ 256 := by rw [← hm, List.length_drop]; omega
          have HM := Lib.hid hm
          clear hm
          have HO := Lib.hid hown
          have HV := Lib.hid hvG
          have HB := Lib.hid below
          obtain ⟨u0, hu0, he0, _⟩ := hents o
          rw [hnotin] at he0
          have he0' : u0 = .slice none 0 0 := he0
          rw [he0'] at hu0
          have g0 : wr.cell? ⟨G, o.toNat, none⟩ = some (.slice none 0 0) := by rw [cell_heap hG]; exact hu0
          have g1 : wr.cell? ⟨G, 256, none⟩ = some v := by rw [cell_heap hG]; exact hC256
          have ho : o.toNat < 256 := o.toNat_lt
          have hidx : ∀ W, (Instr.index 9 (.string (str1 o)) (.int .i64 0)).run Tryz.prog W = .ok (.int .u8 o.toNat) W := fun W => by kernel_rfl
          have HG := Lib.hid hG
          have H256 := Lib.hid hC256
          clear he0' he0 hu0 hnotin hk hents hown hvG below hI hdrop hG hC256
          have hnil : ∀ W, (binOp .eql 31 (.slice none 0 0) (.slice none 0 0)).run Tryz.prog W = .ok (.bool true) W := fun W => Lib.run_eql_slice_nil W 31 5 none 0 0 0 0 Tryz.underlying31
          have hcs : ∀ W, (convert 31 9 (.slice (some ⟨wr.heap.size, 0, none⟩) 1 1)).run Tryz.prog (W : World) = (convert 31 9 (.slice (some ⟨wr.heap.size, 0, none⟩) 1 1)).run Tryz.prog W := fun _ => rfl
          clear hcs
          have hcs : (convert 31 9 (.slice (some ⟨wr.heap.size, 0, none⟩) 1 1)).run Tryz.prog (wr.alloc (.cells #[.int .u8 o.toNat] 5)) = .ok (.string (str1 o)) (wr.alloc (.cells #[.int .u8 o.toNat] 5)) := by
            refine run_bytes_str (s := str1 o) ⟨rfl, fun i hi => ?_⟩ 31 9 5 Tryz.underlying31 Tryz.underlying5 Tryz.underlying9 1
            have hi0 : i = 0 := by have : (bytesV (str1 o)).length = 1 := rfl; omega
            subst hi0
            refine ⟨wr.heap.size, 0, rfl, by simp, ?_⟩
            rw [cell_heap (heap_alloc_new wr _)]
            rfl
          have HST := Lib.hid (show str1 o = str1 o from rfl)
          have hGl : G < wr.heap.size := heap_lt HG.out
          have hGl1 : G < (wr.alloc (.cells #[.int .u8 o.toNat] 5)).heap.size := by simp; omega
          have hbl : w.heap.size ≤ wr.heap.size := HB.out.size
          generalize hon : o.toNat = on at *
          have HON := Lib.hid hon
          clear hon
          go_upto_region 34 with (at_builtin; go_loud (refine wpList_app (wr.alloc (.cells #[.int .u8 on] 5)) rfl _ _ 81 (by rfl) w.heap.size 9 is (.string ByteArray.empty) 1 16 Tryz.underlying81 his hisz his1 his2 rfl (by decide) _ _ _ (by rfl) (HO.out.alloc _) (wr.heap.size + 1) (by simp) 1 [.string (str1 o)] (by rfl) rfl (by simp [Value.oneCell']) (by simp; omega) (by decide) (by simp; omega) (fun v3 w3 hown3 happ3 => ?_)); obtain ⟨av, cv, rfl, hsl3⟩ := own_sl hown3; have c3 : w3.heap[G]? = some (.cells C 127 (0, 0)) := (happ3.keep (by simp; omega) HV.out).trans ((Below.heap_alloc _ _ _ (by simp; omega)).trans ((Below.heap_alloc _ _ _ (by omega)).trans HG.out)); have g3 : w3.cell? ⟨G, 256, none⟩ = some v := (cell_heap c3).trans H256.out; have f3 : w3.frozen? ⟨G, 256, none⟩ = false := frozen_heap c3; have H3 := Lib.hid c3; clear c3; have HA3 := Lib.hid happ3; clear happ3; have HO3 := Lib.hid hown3; clear hown3)
          have c5 := (Lib.bytesWorld_at_old (w3.setCell ⟨G, 256, none⟩ (.slice av (m + 1) cv)) 5 nn G (by simp [World.setCell]; exact heap_lt H3.out)).trans (setCell_heap H3.out _)
          have g5 : (Lib.bytesWorld (w3.setCell ⟨G, 256, none⟩ (.slice av (m + 1) cv)) 5 nn).cell? ⟨G, on, none⟩ = some (.slice none 0 0) := by
            rw [cell_heap c5, Array.getElem?_setIfInBounds_ne (by omega)]
            rw [← g0, cell_heap HG.out]
          have f5 : (Lib.bytesWorld (w3.setCell ⟨G, 256, none⟩ (.slice av (m + 1) cv)) 5 nn).frozen? ⟨G, on, none⟩ = false := frozen_heap c5
          have hbs := fun W => Lib.run_convert_string_bytes (P := Tryz.prog) W 9 31 5 nn Tryz.underlying9 Tryz.underlying31 Tryz.underlying5
          clear c5 g0 g1 g3 f3 hcs
          go_wp2_with fail
          go_roundw
          case rel =>
            refine ⟨j, by have := HK.out; congr 1; omega, by omega, ?_⟩
            show BuildInv _ _ _ _
            rw [HD.out, ← HON.out]
            refine BuildInv.step HB.out hGlt HG.out hC HV.out HE.out (fun k hk => (HO.out.lt k hk).1) (((Below.refl _ _).alloc (Nat.le_refl _) (.cells #[.int .u8 on] 5)).alloc (by simp) (.cells #[.string (str1 o)] 9)) HA3.out (by rw [HM.out]; exact HO3.out) ((bytesW_below _ _ _).mono (by simp [World.setCell])) ⟨_, _, rfl, ?_⟩ (fun h hh => ?_)
            · have := bytesW_sl (w3.setCell ⟨G, 256, none⟩ (.slice av (m + 1) cv)) 5 nn
              simpa [World.setCell] using this
            · injection hh with hh
              subst hh
              rw [Lib.bytesWorld_size]
              simp [World.setCell]
          case measure => simp [intOf]; omega
end Go.Proofs.YtlomcmichbnkaaaGreatDoor
