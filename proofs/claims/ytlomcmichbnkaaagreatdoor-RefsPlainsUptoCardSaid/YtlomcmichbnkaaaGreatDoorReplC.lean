/-
  strings.NewReplacer and (*strings.Replacer).Replace, called once, over pairs of one byte and a text.
-/
import Derived.Test.YtlomcmichbnkaaaGreatDoorReplA
import Derived.Test.YtlomcmichbnkaaaGreatDoorReplB
import Derived.Deep.MidRow
namespace Go.Proofs.YtlomcmichbnkaaaGreatDoor
open Go.RowKit

/-- what the call of the once leaves -/
def OnceQ (b : Nat) (W : World) (ps : List (UInt8 × ByteArray)) (w2 : World) : Prop :=
  ∃ G, w2.heap[b]? = some (.cells #[.int .u32 0, .int .i32 1, .int .u32 0, .iface 128 (.pointer (some ⟨G, 0, none⟩)), .slice none 0 0] 100 (0, 0)) ∧ (∀ w', (∀ k, k ≠ b → w'.heap[k]? = w2.heap[k]?) → TabOK w' G ps) ∧ Below b W w2

set_option maxRecDepth 100000 in
set_option maxHeartbeats 1600000 in
theorem buildOnce_any (ps : List (UInt8 × ByteArray)) (b : Nat) (a : Option Addr) (n c : Nat) (x3 : Value) (w : World)
    (hw : w.heap[b]? = some (.cells #[.int .u32 0, .int .i32 1, .int .u32 0, x3, .slice a n c] 100 (0, 0))) (hs : Sl w a n (strsOf ps))
    (hlen : 2 ≤ ps.length) (hsm : ps.length ≤ 256) (hnd : (ps.map (·.1)).Nodup) (hbig : ∀ p ∈ ps, p.2.size ≤ 1048576) (hwide : ps.all (fun p => p.2.size == 1) = false) :
    Calls Tryz.prog 46 #[.pointer (some ⟨b, 0, none⟩)] w fun e w' => e = .returned (.tuple #[]) ∧ OnceQ b w ps w' := by
  have HB := Lib.hid (build_any ps b a n c _ _ _ _ w hw hs hlen hsm hnd hbig hwide)
  have HW := Lib.hid hw
  have hbl := heap_lt hw
  clear hw hs
  go_enter Tryz.func46, Tryz.ntmps46
  go_wp2_with fail
  refine HB.out.mono ?_
  rintro e w1 ⟨G, rfl, hI⟩
  have h1 := (hI.below.block b hbl).trans HW.out
  have c3 : w1.cell? ⟨b, 3, none⟩ = some x3 := by rw [cell_heap h1]; rfl
  have f3 : w1.frozen? ⟨b, 3, none⟩ = false := frozen_heap h1
  have h2 := setCell_heap (i := 3) h1 (.iface 128 (.pointer (some ⟨G, 0, none⟩)))
  have c4 : (w1.setCell ⟨b, 3, none⟩ (.iface 128 (.pointer (some ⟨G, 0, none⟩)))).cell? ⟨b, 4, none⟩ = some (.slice a n c) := by rw [cell_heap h2]; rfl
  have f4 : (w1.setCell ⟨b, 3, none⟩ (.iface 128 (.pointer (some ⟨G, 0, none⟩)))).frozen? ⟨b, 4, none⟩ = false := frozen_heap h2
  have h3 := setCell_heap (i := 4) h2 (.slice none 0 0)
  have H3 := Lib.hid h3
  have HI := Lib.hid hI
  clear h1 h2 h3 hI
  go_wp2_with fail
  go_end0
  have hb := HI.out.below
  refine ⟨rfl, G, H3.out, fun w' hw' => HI.out.okAt fun k hk _ => ?_, ?_⟩
  · rw [hw' k (by omega), Below.heap_setCell _ _ _ _ (show k ≠ b by omega), Below.heap_setCell _ _ _ _ (show k ≠ b by omega)]
  · exact ((hb.mono (Nat.le_of_lt hbl)).setCell (p := ⟨b, 3, none⟩) (Nat.le_refl b) _).setCell (p := ⟨b, 4, none⟩) (Nat.le_refl _) _

set_option maxRecDepth 100000 in
set_option maxHeartbeats 1600000 in
theorem Replace_any (ps : List (UInt8 × ByteArray)) (b : Nat) (a : Option Addr) (n c : Nat) (s : ByteArray) (w : World)
    (hw : w.heap[b]? = some (.cells #[.int .u32 0, .int .i32 0, .int .u32 0, .nilIface, .slice a n c] 100 (0, 0))) (hs : Sl w a n (strsOf ps)) (hsb : ∀ g o, a = some ⟨g, o, none⟩ → g ≠ b)
    (hlen : 2 ≤ ps.length) (hsm : ps.length ≤ 256) (hnd : (ps.map (·.1)).Nodup) (hwide : ps.all (fun p => p.2.size == 1) = false) (hsz : ∀ p ∈ ps, 1 ≤ p.2.size ∧ p.2.size ≤ 8) (hss : s.size ≤ 1099511627776) :
    Calls Tryz.prog 30 #[.pointer (some ⟨b, 0, none⟩), .string s] w fun e w' => e = .returned (.string (replS ps s)) ∧ Below b w w' := by
  have h1 := setCell_heap (i := 1) hw (.int .i32 1)
  have hs1 : Sl (w.setCell ⟨b, 1, none⟩ (.int .i32 1)) a n (strsOf ps) := hs.keep fun g o e => Below.heap_setCell _ _ _ _ (hsb g o e)
  have HD := Lib.hid (Do_any b #[.pointer (some ⟨b, 0, none⟩)] _ _ _ (OnceQ b (w.setCell ⟨b, 1, none⟩ (.int .i32 1)) ps) w hw
    (buildOnce_any ps b a n c _ _ h1 hs1 hlen hsm hnd (fun p hp => by have := hsz p hp; omega) hwide) (fun w2 ⟨G, hG, _⟩ => ⟨_, _, hG⟩))
  have hmk : ∀ (fn : Fn) (first cap : Array Value) (w : World), (Instr.makeFunc fn first cap).run Tryz.prog w = .ok (.func fn first cap) w := fun _ _ _ _ => rfl
  clear h1 hs1 hw hs
  go_enter Tryz.func30, Tryz.ntmps30
  go_wp2_with fail
  refine HD.out.mono ?_
  rintro e w1 ⟨rfl, w2, ⟨G, hb2, hT, hbel⟩, rfl⟩
  have h2 := setCell_heap (w := w2.drew) (i := 0) hb2 (.int .u32 1)
  have h3 := setCell_heap (i := 1) h2 (.int .i32 0)
  have c3 : ((w2.drew.setCell ⟨b, 0, none⟩ (.int .u32 1)).setCell ⟨b, 1, none⟩ (.int .i32 0)).cell? ⟨b, 3, none⟩ = some (.iface 128 (.pointer (some ⟨G, 0, none⟩))) := by rw [cell_heap h3]; rfl
  have hT2 := hT ((w2.drew.setCell ⟨b, 0, none⟩ (.int .u32 1)).setCell ⟨b, 1, none⟩ (.int .i32 0)) (fun k hk => (Below.heap_setCell _ _ _ _ hk).trans (Below.heap_setCell _ _ _ _ hk))
  have HB : Hid (Below b w ((w2.drew.setCell ⟨b, 0, none⟩ (.int .u32 1)).setCell ⟨b, 1, none⟩ (.int .i32 0))) := by
    have b0 : Below b w (w.setCell ⟨b, 1, none⟩ (.int .i32 1)) := (Below.refl _ _).setCell (p := ⟨b, 1, none⟩) (Nat.le_refl b) _
    exact (((b0.trans hbel).drew).setCell (p := ⟨b, 0, none⟩) (Nat.le_refl b) _).setCell (p := ⟨b, 1, none⟩) (Nat.le_refl b) _
  have hbl : b < ((w2.drew.setCell ⟨b, 0, none⟩ (.int .u32 1)).setCell ⟨b, 1, none⟩ (.int .i32 0)).heap.size := heap_lt h3
  have HR := Lib.hid (replace_any ps G s _ hT2 hsm hnd hsz hss)
  clear hT hT2 hb2 h2 h3 hbel HD
  generalize (w2.drew.setCell ⟨b, 0, none⟩ (.int .u32 1)).setCell ⟨b, 1, none⟩ (.int .i32 0) = w3 at *
  have hm : ∀ (W : World), (method 285 128 (.pointer (some ⟨G, 0, none⟩)) "Replace").run Tryz.prog W = .ok (118, .pointer (some ⟨G, 0, none⟩)) W := fun W => by kernel_rfl
  go_wp2_with (go_at_call 118; refine HR.out.mono ?_; rintro e w4 ⟨rfl, hb4⟩)
  go_ret
  exact ⟨rfl, HB.out.trans (hb4.mono (Nat.le_of_lt hbl))⟩

theorem info_str' : (Tryz.prog.info? 9).map (fun i => (i.zero, i.size, i.bytes)) = some (some (.string ByteArray.empty), 1, 16) := by kernel_rfl
/-- a new replacer -/
def RetNew (w : World) (e : Ending) (w' : World) (ps : List (UInt8 × ByteArray)) : Prop :=
  ∃ b a n c, e = .returned (.pointer (some ⟨b, 0, none⟩)) ∧ w'.heap[b]? = some (.cells #[.int .u32 0, .int .i32 0, .int .u32 0, .nilIface, .slice a n c] 100 (0, 0)) ∧ Sl w' a n (strsOf ps) ∧
    (∀ g o, a = some ⟨g, o, none⟩ → g ≠ b) ∧ Below w.heap.size w w' ∧ w.heap.size ≤ b

set_option maxRecDepth 100000 in
set_option maxHeartbeats 1600000 in
theorem New_any (ps : List (UInt8 × ByteArray)) (a : Option Addr) (n c : Nat) (w : World) (hs : Sl w a n (strsOf ps)) (hlen : 2 ≤ ps.length) (hsm : ps.length ≤ 256) :
    Calls Tryz.prog 29 #[.slice a n c] w fun e w' => RetNew w e w' ps := by
  have hn : n = 2 * ps.length := by have := hs.len; rw [strsOf_length] at this; exact this
  obtain ⟨ba, oa, rfl, hba, hcs⟩ := strs_cells hs (by omega)
  have hmod : ((n : Int) % 2 == 1) = false := by simp; omega
  have hmod2 : ((n : Int).tmod 2 == 1) = false := by rw [Int.tmod_eq_emod_of_nonneg (by omega)]; exact hmod
  obtain ⟨is, his, hisz, his1, his2⟩ := info_parts info_str'
  have HN := Lib.hid hn
  have HS := Lib.hid hs
  have hnb : n ≤ 512 := by omega
  have hlen2 : (strsOf ps).length = n * 1 := by rw [strsOf_length]; omega
  have HL2 := Lib.hid hlen2
  have hcell : ∀ (j : Nat) (u : Value), (strsOf ps)[j]? = some u → w.cell? ((⟨ba, oa, none⟩ : Addr).add j) = some u := by
    intro j u hu
    obtain ⟨hj, hv⟩ := List.getElem?_eq_some_iff.1 hu
    obtain ⟨b', o', e', _, hc'⟩ := hs.cell j hj
    injection e' with e'
    injection e' with e1 e2
    subst e1
    subst e2
    rw [Addr.add_mid, hc', hv]
  have HC := Lib.hid hcell
  have h1c : ∀ v ∈ strsOf ps, v.oneCell' = true := by
    intro v hv
    simp only [strsOf, List.mem_flatMap] at hv
    obtain ⟨p, _, hv⟩ := hv
    simp only [List.mem_cons, List.not_mem_nil, or_false] at hv
    rcases hv with rfl | rfl <;> rfl
  have H1 := Lib.hid h1c
  clear hn hs hcs hlen2 hcell h1c
  go_enter Tryz.func29, Tryz.ntmps29
  go_wp2_with (at_builtin; go_loud (refine wpList_append_own _ rfl _ _ 81 (by rfl) w.heap.size 9 is (.string ByteArray.empty) 1 16 Tryz.underlying81 his hisz his1 his2 rfl (by decide) _ 0 [] (by rfl) (World.ownsRow_nil _ _ _ _) ⟨ba, oa, none⟩ n c (strsOf ps) (by rfl) HL2.out HC.out H1.out (by unfold maxLen; omega) (by omega) (Nat.le_refl _) (fun v1 w1 hown1 hgrow1 _ => ?_)); simp only [Nat.zero_add, List.nil_append] at hown1; obtain ⟨av, cv, rfl, hsl1⟩ := own_sl hown1)
  have hb1 : Below w.heap.size w w1 := (Below.refl _ _).grown hgrow1 (Nat.le_refl _) (by intro k hk; cases hk)
  have hol := hown1.lt
  go_ret
  refine ⟨w1.heap.size, av, n, cv, rfl, heap_alloc_new _ _, hsl1.keep fun g o e => ?_, fun g o e => ?_, hb1.alloc hb1.size _, hb1.size⟩
  · have := hol g (by rw [e]; rfl)
    exact Below.heap_alloc _ _ _ this.2
  · have := hol g (by rw [e]; rfl)
    omega
end Go.Proofs.YtlomcmichbnkaaaGreatDoor
