/-
  refs.Text and refs.Value: each byte by its form.
-/
import Derived.Test.YtlomcmichbnkaaaGreatDoorReplC
namespace Go.Proofs.YtlomcmichbnkaaaGreatDoor
open Go.RowKit

/-- the pairs of Text: &amp; &lt; &gt; &#xD; -/
def textPs : List (UInt8 × ByteArray) :=
  [(38, ⟨#[38, 97, 109, 112, 59]⟩), (60, ⟨#[38, 108, 116, 59]⟩), (62, ⟨#[38, 103, 116, 59]⟩), (13, ⟨#[38, 35, 120, 68, 59]⟩)]
/-- the pairs of Value -/
def valuePs : List (UInt8 × ByteArray) :=
  [(38, ⟨#[38, 97, 109, 112, 59]⟩), (60, ⟨#[38, 108, 116, 59]⟩), (34, ⟨#[38, 113, 117, 111, 116, 59]⟩), (9, ⟨#[38, 35, 120, 57, 59]⟩), (10, ⟨#[38, 35, 120, 65, 59]⟩), (13, ⟨#[38, 35, 120, 68, 59]⟩)]

theorem sl_of_block {w : World} {g : Nat} {ps : List (UInt8 × ByteArray)} {e : TypeId} (h : w.heap[g]? = some (.cells (strsOf ps).toArray e (0, 0))) : Sl w (some ⟨g, 0, none⟩) (strsOf ps).length (strsOf ps) :=
  ⟨rfl, fun i hi => ⟨g, 0, rfl, heap_lt h, by rw [cell_heap h, Nat.zero_add]; simp [hi]⟩⟩

set_option maxRecDepth 100000 in
set_option maxHeartbeats 1600000 in
theorem Text_any (s : ByteArray) (w : World) (hs : s.size ≤ 1099511627776) :
    Calls Tryz.prog 17 #[.string s] w fun e w' => e = .returned (.string (replS textPs s)) ∧ Below w.heap.size w w' := by
  go_enter Tryz.func17, Tryz.ntmps17
  go_wp2_with fail
  have hsl := sl_of_block (ps := textPs) (heap_alloc_new w (.cells (strsOf textPs).toArray 9))
  refine (New_any textPs _ _ _ _ hsl (by decide) (by decide)).mono ?_
  rintro e w1 ⟨b, a, n, c, rfl, hb, hs1, hsb, hb1, hble⟩
  have hb1' : Below w.heap.size w w1 := ((Below.refl _ w).alloc (Nat.le_refl _) (.cells (strsOf textPs).toArray 9)).trans (hb1.mono (by simp))
  have hble' : w.heap.size ≤ b := by simp at hble; omega
  have HR := Lib.hid (Replace_any textPs b a n c s w1 hb hs1 hsb (by decide) (by decide) (by decide) (by decide) (by decide) hs)
  clear hb hs1 hsb hb1 hble hsl
  go_wp2_with fail
  refine HR.out.mono ?_
  rintro e w2 ⟨rfl, hb2⟩
  go_wp2_with fail
  go_ret
  exact ⟨rfl, hb1'.trans (hb2.mono hble')⟩

end Go.Proofs.YtlomcmichbnkaaaGreatDoor
