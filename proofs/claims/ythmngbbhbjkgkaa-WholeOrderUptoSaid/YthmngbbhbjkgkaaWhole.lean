/-
  The law WholeOrder: the walk of 'whole'.
-/
import Derived.Test.YthmngbbhbjkgkaaWords
namespace Go.Proofs.Ythmngbbhbjkgkaa
open Go.RowKit

/-- no byte from p on is of no character -/
def goodF (s : ByteArray) : Nat → Nat → Bool
  | 0, _ => true
  | f + 1, p => if p < s.size then !((Utf8.decode s p).1 == 65533 && (Utf8.decode s p).2 == 1) && goodF s f (p + (Utf8.decode s p).2) else true
theorem goodF_fuel (s : ByteArray) (f : Nat) : ∀ (g p : Nat), s.size - p ≤ f → s.size - p ≤ g → goodF s f p = goodF s g p := by
  induction f with
  | zero =>
    intro g p hf _
    cases g with
    | zero => rfl
    | succ g => simp only [goodF]; rw [if_neg (by omega)]
  | succ f ih =>
    intro g p hf hg
    cases g with
    | zero => simp only [goodF]; rw [if_neg (by omega)]
    | succ g =>
      simp only [goodF]
      by_cases h : p < s.size
      · have := width_pos s p h
        rw [if_pos h, if_pos h, ih g _ (by omega) (by omega)]
      · rw [if_neg h, if_neg h]
def goodAt (s : ByteArray) (p : Nat) : Bool := goodF s (s.size - p) p
theorem goodAt_step (s : ByteArray) (p : Nat) (h : p < s.size) : goodAt s p = (!((Utf8.decode s p).1 == 65533 && (Utf8.decode s p).2 == 1) && goodAt s (p + (Utf8.decode s p).2)) := by
  have hw := width_pos s p h
  unfold goodAt
  obtain ⟨f, hf⟩ : ∃ f, s.size - p = f + 1 := ⟨s.size - p - 1, by omega⟩
  rw [hf]
  simp only [goodF]
  rw [if_pos h, goodF_fuel s f (s.size - (p + (Utf8.decode s p).2)) _ (by omega) (by omega)]
theorem goodAt_end (s : ByteArray) (p : Nat) (h : ¬ p < s.size) : goodAt s p = true := by
  unfold goodAt
  rw [show s.size - p = 0 by omega]
  rfl

/-- is what came last a byte of no character? -/
def badLast (p : Nat) (was last : Int) : Bool := decide (0 < p) && was == 65533 && ((p : Int) - last == 1)

theorem badLast_next (s : ByteArray) (p : Nat) (h : p < s.size) :
    badLast (p + (Utf8.decode s p).2) (Utf8.decode s p).1 p = ((Utf8.decode s p).1 == 65533 && (Utf8.decode s p).2 == 1) := by
  have hw := width_pos s p h
  generalize Utf8.decode s p = d at hw ⊢
  obtain ⟨r, n⟩ := d
  simp only at hw ⊢
  have h1 : decide (0 < p + n) = true := by simp; omega
  have h2 : (((p + n : Nat) : Int) - (p : Int) == 1) = (n == 1) := by rw [Bool.eq_iff_iff]; simp; omega
  have h3 : ((r : Int) == 65533) = (r == 65533) := by rw [Bool.eq_iff_iff]; simp; omega
  unfold badLast
  rw [h1, h2, h3]
  rfl
theorem whole_step (s : ByteArray) (p : Nat) (h : p < s.size) (b bb : Bool) (was last : Int) (G : Bool) (hbb : (b || badLast p was last) = bb)
    (hst : (!b && !(badLast p was last) && (!((Utf8.decode s p).1 == 65533 && (Utf8.decode s p).2 == 1) && goodAt s (p + (Utf8.decode s p).2))) = G) :
    (!bb && !(badLast (p + (Utf8.decode s p).2) (Utf8.decode s p).1 p) && goodAt s (p + (Utf8.decode s p).2)) = G := by
  rw [badLast_next s p h, ← hst, ← hbb]
  cases b <;> cases badLast p was last <;> simp

set_option maxHeartbeats 1000000 in
theorem whole_any (s : ByteArray) (w : World) (hs : s.size ≤ 1048576) :
    Calls Try.prog 17 #[.string s] w fun e w' => e = .returned (.bool (goodAt s 0)) ∧ Below w.heap.size w w' := by
  go_enter Try.func17, Try.ntmps17
  go_wp2
  go_loopw [3, 4, 5] (fun la wrong wa wr => ∃ (p : Nat) (b : Bool) (was last : Int), wr = w.iter s p ∧ la = .int .i64 last ∧ wrong = .bool b ∧ wa = .int .i32 was ∧ 0 ≤ last ∧ last ≤ p ∧ p ≤ s.size ∧ Hid ((!b && !(badLast p was last) && goodAt s p) = goodAt s 0)) (fun _ _ _ wr => s.size - wr.iterPos w.heap.size)
  case atStart => exact ⟨0, false, 0, 0, rfl, rfl, rfl, rfl, by omega, by omega, by omega, by simp [badLast, Hid]⟩
  case round =>
    obtain ⟨p, b, was, last, rfl, rfl, rfl, rfl, h0, hl, hp4, hr⟩ := hrel
    obtain ⟨bw, hbw⟩ : ∃ bw, (was == 65533) = bw := ⟨_, rfl⟩
    obtain ⟨bl, hbl⟩ : ∃ bl, ((p : Int) - last == 1) = bl := ⟨_, rfl⟩
    by_cases hp : p < s.size
    · have hnx : ∀ ty, (Instr.next (.pointer (some ⟨w.heap.size, 0, none⟩)) true ty).run Try.prog (w.iter s p) = _ := fun ty => run_next_any w s p ty hp
      have hwd := width_pos s p hp
      have hin := decode_within s p hp
      have hst := hr.out
      rw [goodAt_step s p hp] at hst
      have HB := Lib.hid (show badLast p was last = (decide (0 < p) && bw && bl) by unfold badLast; rw [hbw, hbl])
      have HST := Lib.hid hst
      clear hst
      by_cases h0p : 0 < p <;> cases b <;> cases bw <;> cases bl
      all_goals go_wp2
      all_goals go_roundw
      all_goals first
        | (case rel => exact ⟨p + (Utf8.decode s p).2, _, _, _, rfl, rfl, rfl, rfl, by omega, by omega, hin, whole_step s p hp _ _ _ _ _ (by rw [HB.out]; simp [h0p]) HST.out⟩)
        | (case measure => simp; omega)
    · have hnx : ∀ ty, (Instr.next (.pointer (some ⟨w.heap.size, 0, none⟩)) true ty).run Try.prog (w.iter s p) = _ := fun ty => run_next_end w s p ty hp
      have hps : p = s.size := by omega
      have hst := hr.out
      rw [goodAt_end s p hp, Bool.and_true] at hst
      have HB := Lib.hid (show badLast p was last = (decide (0 < p) && bw && bl) by unfold badLast; rw [hbw, hbl])
      have HST := Lib.hid hst
      clear hst
      subst hps
      by_cases h0p : 0 < s.size <;> cases b <;> cases bw <;> cases bl
      all_goals go_wp2
      all_goals go_ret
      all_goals exact ⟨ret_bool (by rw [← HST.out, HB.out]; simp [h0p]), (Below.refl _ _).alloc (Nat.le_refl _) _⟩
end Go.Proofs.Ythmngbbhbjkgkaa
