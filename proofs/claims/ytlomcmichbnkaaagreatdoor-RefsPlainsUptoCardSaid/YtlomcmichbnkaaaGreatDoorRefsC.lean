/-
  refs.Read.
-/
import Derived.Test.YtlomcmichbnkaaaGreatDoorRefsB
namespace Go.Proofs.YtlomcmichbnkaaaGreatDoor
open Go.RowKit

/-- what refs.Read says of bytes: the character, the bytes, how (0 have, 1 wait, 2 bad) -/
def readF : List UInt8 → Int × Int × Int
  | [] => (0, 0, 1)
  | a :: t =>
    if a.toNat = 38 then
      match t with
      | [] => (0, 0, 1)
      | b :: u =>
        if b.toNat = 35 then
          match u with
          | [] => (0, 0, 1)
          | c :: v => if c.toNat = 120 then numF 16 3 3 0 v else numF 10 2 2 0 (c :: v)
        else namF (a :: b :: u) 6 0
    else (0, 0, 2)

theorem numbered16_at (a : Option Addr) (n c : Nat) (l : List UInt8) (w : World) (hs : Sl w a n (u8s l)) (hn : n ≤ 1125899906842624) (hat : 3 ≤ n) (hR : RangesAt w 2) :
    Calls Tryz.prog 24 #[.slice a n c, .int .i64 3, .int .i32 16] w fun e w' => Ret3 e (numF 16 3 3 0 (l.drop 3)) ∧ Below w.heap.size w w' := numbered_16 3 a n c l w hs hn hat hR
theorem numbered10_at (a : Option Addr) (n c : Nat) (l : List UInt8) (w : World) (hs : Sl w a n (u8s l)) (hn : n ≤ 1125899906842624) (hat : 2 ≤ n) (hR : RangesAt w 2) :
    Calls Tryz.prog 24 #[.slice a n c, .int .i64 2, .int .i32 10] w fun e w' => Ret3 e (numF 10 2 2 0 (l.drop 2)) ∧ Below w.heap.size w w' := numbered_10 2 a n c l w hs hn hat hR

set_option maxRecDepth 100000 in
set_option maxHeartbeats 400000 in
theorem Read_bad (b o n c xn : Nat) (w : World)
    (e0 : w.cell? ⟨b, o, none⟩ = some (.int .u8 xn)) (h0 : 0 < n) (hxx : ((xn : Int) != 38) = true) :
    Calls Tryz.prog 12 #[.slice (some ⟨b, o, none⟩) n c] w fun e w' => Ret3 e (0, 0, 2) ∧ Below w.heap.size w w' := by
  have hn0 : ((n : Int) == 0) = false := by simp; omega
  go_enter Tryz.func12, Tryz.ntmps12
  go_wp2
  refine bodyPost_ret (results_tmp3 rfl _ _ _) rfl ?_
  exact ⟨rfl, Below.refl _ _⟩

set_option maxRecDepth 100000 in
set_option maxHeartbeats 400000 in
theorem Read_one (b o c xn : Nat) (w : World)
    (e0 : w.cell? ⟨b, o, none⟩ = some (.int .u8 xn)) (hxx : ((xn : Int) != 38) = false) :
    Calls Tryz.prog 12 #[.slice (some ⟨b, o, none⟩) 1 c] w fun e w' => Ret3 e (0, 0, 1) ∧ Below w.heap.size w w' := by
  go_enter Tryz.func12, Tryz.ntmps12
  go_wp2
  refine bodyPost_ret (results_tmp3 rfl _ _ _) rfl ?_
  exact ⟨rfl, Below.refl _ _⟩

set_option maxRecDepth 100000 in
set_option maxHeartbeats 400000 in
theorem Read_named (b o n c xn yn : Nat) (t : Int × Int × Int) (w : World)
    (e0 : w.cell? ⟨b, o, none⟩ = some (.int .u8 xn)) (e1 : w.cell? ⟨b, o + 1, none⟩ = some (.int .u8 yn)) (h1 : 1 < n) (hxx : ((xn : Int) != 38) = false) (hyy : ((yn : Int) != 35) = true)
    (hN : Calls Tryz.prog 23 #[.slice (some ⟨b, o, none⟩) n c] w fun e w' => Ret3 e t ∧ Below w.heap.size w w') :
    Calls Tryz.prog 12 #[.slice (some ⟨b, o, none⟩) n c] w fun e w' => Ret3 e t ∧ Below w.heap.size w w' := by
  have HN := Lib.hid hN
  clear hN
  have hn0 : ((n : Int) == 0) = false := by simp; omega
  have hn1 : ((n : Int) == 1) = false := by simp; omega
  go_enter Tryz.func12, Tryz.ntmps12
  go_wp2_with (go_at_call 23; refine HN.out.mono ?_; rintro e w1 ⟨rfl, hb1⟩)
  refine bodyPost_ret (results_tmp3 rfl _ _ _) rfl ?_
  exact ⟨rfl, hb1⟩

set_option maxRecDepth 100000 in
set_option maxHeartbeats 400000 in
theorem Read_two (b o c xn yn : Nat) (w : World)
    (e0 : w.cell? ⟨b, o, none⟩ = some (.int .u8 xn)) (e1 : w.cell? ⟨b, o + 1, none⟩ = some (.int .u8 yn)) (hxx : ((xn : Int) != 38) = false) (hyy : ((yn : Int) != 35) = false) :
    Calls Tryz.prog 12 #[.slice (some ⟨b, o, none⟩) 2 c] w fun e w' => Ret3 e (0, 0, 1) ∧ Below w.heap.size w w' := by
  go_enter Tryz.func12, Tryz.ntmps12
  go_wp2
  refine bodyPost_ret (results_tmp3 rfl _ _ _) rfl ?_
  exact ⟨rfl, Below.refl _ _⟩

set_option maxRecDepth 100000 in
set_option maxHeartbeats 400000 in
theorem Read_hex (b o n c xn yn zn : Nat) (t : Int × Int × Int) (w : World)
    (e0 : w.cell? ⟨b, o, none⟩ = some (.int .u8 xn)) (e1 : w.cell? ⟨b, o + 1, none⟩ = some (.int .u8 yn)) (e2 : w.cell? ⟨b, o + 2, none⟩ = some (.int .u8 zn)) (h2 : 2 < n) (hxx : ((xn : Int) != 38) = false) (hyy : ((yn : Int) != 35) = false) (hzz : ((zn : Int) == 120) = true)
    (hN : Calls Tryz.prog 24 #[.slice (some ⟨b, o, none⟩) n c, .int .i64 3, .int .i32 16] w fun e w' => Ret3 e t ∧ Below w.heap.size w w') :
    Calls Tryz.prog 12 #[.slice (some ⟨b, o, none⟩) n c] w fun e w' => Ret3 e t ∧ Below w.heap.size w w' := by
  have HN := Lib.hid hN
  clear hN
  have hn0 : ((n : Int) == 0) = false := by simp; omega
  have hn1 : ((n : Int) == 1) = false := by simp; omega
  have hn2 : ((n : Int) == 2) = false := by simp; omega
  go_enter Tryz.func12, Tryz.ntmps12
  go_wp2_with (go_at_call 24; refine HN.out.mono ?_; rintro e w1 ⟨rfl, hb1⟩)
  refine bodyPost_ret (results_tmp3 rfl _ _ _) rfl ?_
  exact ⟨rfl, hb1⟩

set_option maxRecDepth 100000 in
set_option maxHeartbeats 400000 in
theorem Read_dec (b o n c xn yn zn : Nat) (t : Int × Int × Int) (w : World)
    (e0 : w.cell? ⟨b, o, none⟩ = some (.int .u8 xn)) (e1 : w.cell? ⟨b, o + 1, none⟩ = some (.int .u8 yn)) (e2 : w.cell? ⟨b, o + 2, none⟩ = some (.int .u8 zn)) (h2 : 2 < n) (hxx : ((xn : Int) != 38) = false) (hyy : ((yn : Int) != 35) = false) (hzz : ((zn : Int) == 120) = false)
    (hN : Calls Tryz.prog 24 #[.slice (some ⟨b, o, none⟩) n c, .int .i64 2, .int .i32 10] w fun e w' => Ret3 e t ∧ Below w.heap.size w w') :
    Calls Tryz.prog 12 #[.slice (some ⟨b, o, none⟩) n c] w fun e w' => Ret3 e t ∧ Below w.heap.size w w' := by
  have HN := Lib.hid hN
  clear hN
  have hn0 : ((n : Int) == 0) = false := by simp; omega
  have hn1 : ((n : Int) == 1) = false := by simp; omega
  have hn2 : ((n : Int) == 2) = false := by simp; omega
  go_enter Tryz.func12, Tryz.ntmps12
  go_wp2_with (go_at_call 24; refine HN.out.mono ?_; rintro e w1 ⟨rfl, hb1⟩)
  refine bodyPost_ret (results_tmp3 rfl _ _ _) rfl ?_
  exact ⟨rfl, hb1⟩

theorem Read_any (a : Option Addr) (n c : Nat) (l : List UInt8) (w : World) (hs : Sl w a n (u8s l)) (hnc : n ≤ c) (hn : n ≤ 1125899906842624) (hR : RangesAt w 2) :
    Calls Tryz.prog 12 #[.slice a n c] w fun e w' => Ret3 e (readF l) ∧ Below w.heap.size w w' := by
  have hl : n = l.length := by have := hs.len; rw [u8s_length] at this; exact this
  rcases l with _ | ⟨x, t⟩
  · obtain rfl : n = 0 := hl
    go_enter Tryz.func12, Tryz.ntmps12
    go_wp2
    refine bodyPost_ret (results_tmp3 rfl _ _ _) rfl ?_
    exact ⟨rfl, Below.refl _ _⟩
  · have cells : ∃ b o, a = some ⟨b, o, none⟩ ∧ ∀ i, (h : i < (x :: t).length) → w.cell? ⟨b, o + i, none⟩ = some (.int .u8 ((x :: t)[i]).toNat) := by
      obtain ⟨b, o, rfl, _, _⟩ := hs.cell 0 (by simp [u8s])
      refine ⟨b, o, rfl, fun i hi => ?_⟩
      obtain ⟨_, _, he, _, e⟩ := hs.cell i (by rw [u8s_length]; exact hi)
      injection he with he
      injection he with he1 he2
      subst he1
      subst he2
      rw [e]
      simp only [u8s, List.getElem_map]
    obtain ⟨b, o, rfl, cells⟩ := cells
    have e0 : w.cell? ⟨b, o, none⟩ = some (.int .u8 x.toNat) := cells 0 (by simp)
    by_cases h38 : x.toNat = 38
    · have hxx : ((x.toNat : Int) != 38) = false := by simp; omega
      rcases t with _ | ⟨y, u⟩
      · obtain rfl : n = 1 := hl
        have e : readF [x] = (0, 0, 1) := by simp only [readF]; rw [if_pos h38]
        rw [e]
        exact Read_one b o c _ w e0 hxx
      · have e1 : w.cell? ⟨b, o + 1, none⟩ = some (.int .u8 y.toNat) := cells 1 (by simp)
        by_cases h35 : y.toNat = 35
        · have hyy : ((y.toNat : Int) != 35) = false := by simp; omega
          rcases u with _ | ⟨z, v⟩
          · obtain rfl : n = 2 := hl
            have e : readF [x, y] = (0, 0, 1) := by simp only [readF]; rw [if_pos h38, if_pos h35]
            rw [e]
            exact Read_two b o c _ _ w e0 e1 hxx hyy
          · have e2 : w.cell? ⟨b, o + 2, none⟩ = some (.int .u8 z.toNat) := cells 2 (by simp)
            have hn2 : 2 < n := by simp at hl; omega
            by_cases h120 : z.toNat = 120
            · have hzz : ((z.toNat : Int) == 120) = true := by simp; omega
              have e : readF (x :: y :: z :: v) = numF 16 3 3 0 v := by simp only [readF]; rw [if_pos h38, if_pos h35, if_pos h120]
              rw [e]
              exact Read_hex b o n c _ _ _ _ w e0 e1 e2 hn2 hxx hyy hzz (numbered16_at _ n c _ w hs hn (by omega) hR)
            · have hzz : ((z.toNat : Int) == 120) = false := by simp; omega
              have e : readF (x :: y :: z :: v) = numF 10 2 2 0 (z :: v) := by simp only [readF]; rw [if_pos h38, if_pos h35, if_neg h120]
              rw [e]
              exact Read_dec b o n c _ _ _ _ w e0 e1 e2 hn2 hxx hyy hzz (numbered10_at _ n c _ w hs hn (by omega) hR)
        · have hyy : ((y.toNat : Int) != 35) = true := by simp; omega
          have e : readF (x :: y :: u) = namF (x :: y :: u) 6 0 := by simp only [readF]; rw [if_pos h38, if_neg h35]
          rw [e]
          exact Read_named b o n c _ _ _ w e0 e1 (by simp at hl; omega) hxx hyy (named_any b o n c _ w hs hnc)
    · have hxx : ((x.toNat : Int) != 38) = true := by simp; omega
      have e : readF (x :: t) = (0, 0, 2) := by simp only [readF]; rw [if_neg h38]
      rw [e]
      exact Read_bad b o n c _ w e0 (by simp at hl; omega) hxx
end Go.Proofs.YtlomcmichbnkaaaGreatDoor
