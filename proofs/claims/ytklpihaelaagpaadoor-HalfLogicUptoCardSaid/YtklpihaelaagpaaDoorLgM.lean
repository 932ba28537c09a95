/-
  half: met.
-/
import Derived.Test.YtklpihaelaagpaaDoorLgL
import Derived.Test.YtklpihaelaagpaaDoorLgE
namespace Go.Proofs.YtklpihaelaagpaaDoor
open Go.RowKit

def HalfX (hb : Nat) (hs : List HN) (f : Nat) : Prop := ∀ (x : PX) (cs : List Value) (W : World), HAt W hb hs → XAt f W x cs → goodXB f x = true →
  Calls Tryd.prog 17 #[.pointer (some ⟨hb, 0, none⟩), .agg cs.toArray] W fun e w' => ∃ P, e = .returned (.slice (some ⟨P, 0, none⟩) hs.length hs.length) ∧ W.heap.size ≤ P ∧ TsAt w' (some ⟨P, 0, none⟩) hs.length (exprT hs f x) ∧ Below W.heap.size W w'
def metK (ex : PX → List Int) (hs : List HN) (s : PS) (b : List Int) (k : Nat) : List Int :=
  (s.wher.take k).foldl (fun out x => rowOf hs.length fun k => andL [out.getD k 0, (ex x).getD k 0]) (rowOf hs.length fun k => andL [(hs[k]?.map fun h => testT h s).getD 0, b.getD k 0])
theorem metK_all (ex : PX → List Int) (hs : List HN) (s : PS) (b : List Int) : metK ex hs s b s.wher.length = metT ex hs s b := by unfold metK metT; rw [List.take_length]
theorem metK_succ (ex : PX → List Int) (hs : List HN) (s : PS) (b : List Int) (k : Nat) (h : k < s.wher.length) : metK ex hs s b (k + 1) = rowOf hs.length fun i => andL [(metK ex hs s b k).getD i 0, (ex s.wher[k]).getD i 0] := by
  unfold metK; rw [List.take_succ_eq_append_getElem h, List.foldl_append]; rfl
theorem metK_len (ex : PX → List Int) (hs : List HN) (s : PS) (b : List Int) (k : Nat) (h : k ≤ s.wher.length) : (metK ex hs s b k).length = hs.length := by
  cases k with
  | zero => exact rowOf_len ..
  | succ k => rw [metK_succ _ _ _ _ _ h]; exact rowOf_len ..
set_option maxRecDepth 100000 in
set_option maxHeartbeats 8000000 in
theorem met_any {hb : Nat} {hs : List HN} {f : Nat} (HX : HalfX hb hs f) (s : PS) (wa : Option Addr) (wc : Nat) (a : Option Addr) (c : Nat) (l : List Int) (w : World) (hH : HAt w hb hs) (hx : XsAt f w wa s.wher) (hn : s.wher.length ≤ 1048576) (hg : s.wher.all (goodXB f) = true) (hT : TsAt w a hs.length l) :
    Calls Tryd.prog 36 #[.pointer (some ⟨hb, 0, none⟩), .agg (stepC s wa wc).toArray, .slice a hs.length c] w fun e w' => ∃ P, e = .returned (.slice (some ⟨P, 0, none⟩) hs.length hs.length) ∧ w.heap.size ≤ P ∧ TsAt w' (some ⟨P, 0, none⟩) hs.length (metT (exprT hs f) hs s l) ∧ Below w.heap.size w w' := by
  obtain ⟨i0, hi, hz0, hz1, hz2⟩ := info_parts infoTru
  have HH := Lib.hid hH
  obtain ⟨na, nc, hlt, hcn, hrow⟩ := hH.get
  have HROW := Lib.hid hrow
  have HCN := Lib.hid hcn
  have HXS := Lib.hid hx
  have HT := Lib.hid hT
  have HG : Hid (∀ x ∈ s.wher, goodXB f x = true) := Lib.hid (List.all_eq_true.1 hg)
  have hcap := hH.cap
  have HEX := Lib.hid HX
  have HAND : Hid (∀ (p q : Int) W Q, W.heap[Q]? = some (.cells #[.int .i64 p, .int .i64 q] 41 (0, 0)) → Calls Tryd.prog 32 #[.slice (some ⟨Q, 0, none⟩) 2 2] W fun e w' => e = .returned (.int .i64 (andL [p, q])) ∧ w' = W) := Lib.hid fun p q W Q h => kAnd_any _ 2 2 [p, q] W (ts_two h) (by decide)
  have HANDD : Hid (∀ (p q : Int) (W : World) (Q : Nat), W.heap[Q]? = some (.cells #[.int .i64 p, .int .i64 q] 41 (0, 0)) → Calls Tryd.prog 32 #[.slice (some ⟨Q, 0, none⟩) 2 2] W.drew fun e w' => e = .returned (.int .i64 (andL [p, q])) ∧ w' = W.drew) := Lib.hid fun p q W Q h => HAND.out p q W.drew Q h
  obtain ⟨n, hnn⟩ : ∃ n, hs.length = n := ⟨_, rfl⟩
  have HN := Lib.hid hnn
  have HL0 : Hid (metK (exprT hs f) hs s l 0 = rowOf n fun k => andL [(hs[k]?.map fun h => testT h s).getD 0, l.getD k 0]) := Lib.hid (by rw [← hnn]; rfl)
  have HTE : Hid (∀ k (hk : k < n) A m c' W, Calls Tryd.prog 52 #[.agg #[.int .i64 hs[k].ev.kind, .int .i64 hs[k].ev.num, .int .i64 hs[k].ev.dep, .string (strL hs[k].ev.name), .slice A m c', .string (strL hs[k].ev.text), .int .i64 hs[k].ev.fr, .int .i64 hs[k].ev.tt, .int .i64 hs[k].kd, .int .i64 hs[k].par, .bool hs[k].op, .string (strL hs[k].txt), .int .i64 hs[k].bg, .int .i64 hs[k].en], .agg #[.int .i64 s.axis, .int .i64 s.test, .string (strL s.name), .slice wa s.wher.length wc]] W fun e w' => e = .returned (.int .i64 ((hs[k]?.map fun h => testT h s).getD 0)) ∧ Below W.heap.size W w') := Lib.hid fun k hk A m c' W => by
    have hkl : k < hs.length := by omega
    rw [List.getElem?_eq_getElem hkl]
    exact htest_any hs[k] A m c' s wa wc W
  unfold stepC
  rw [hnn] at hcap ⊢
  have HB1 : Hid (∀ o, Below w.heap.size w (w.alloc o) ∧ (w.alloc o).heap[w.heap.size]? = some o ∧ (w.alloc o).heap.size = w.heap.size + 1) := Lib.hid fun o => ⟨(Below.refl w.heap.size w).alloc (Nat.le_refl _) _, heap_alloc_new w _, by simp⟩
  have hcw := HCN.out w (Below.refl _ _)
  rw [hnn] at hcw
  have HMK : Hid (∀ w1, w1.ownsRow (w.heap.size + 1) 41 1 (.slice (some ⟨(w.alloc (.cells #[.int .i64 s.axis, .int .i64 s.test, .string (strL s.name), .slice wa s.wher.length wc] 48)).heap.size, 0, none⟩) n n) n (madeCells (Value.int .i64 0).cells (n * 1)).toList → (w.alloc (.cells #[.int .i64 s.axis, .int .i64 s.test, .string (strL s.name), .slice wa s.wher.length wc] 48)).grownBy w1 none → MI w w.heap.size (.cells #[.int .i64 s.axis, .int .i64 s.test, .string (strL s.name), .slice wa s.wher.length wc] 48) (w.heap.size + 1) n (List.replicate n 0) w1 ∧ w1.cell? ⟨hb, 1, none⟩ = some (.slice na n nc)) := Lib.hid fun w1 hown hgr => by
    have hb1 := (HB1.out (.cells #[.int .i64 s.axis, .int .i64 s.test, .string (strL s.name), .slice wa s.wher.length wc] 48)).1.grown hgr (by simp) (fun k hk => by cases hk)
    have hb2 := (Below.refl _ (w.alloc (.cells #[.int .i64 s.axis, .int .i64 s.test, .string (strL s.name), .slice wa s.wher.length wc] 48))).grown hgr (Nat.le_refl _) (fun k hk => by cases hk)
    refine ⟨⟨hb1, (hb2.block _ (by simp)).trans (HB1.out _).2.1, by omega, by omega, ?_, by simp⟩, by have := HCN.out w1 hb1; rwa [hnn] at this⟩
    have h2 : w1.ownsRow (w.heap.size + 1) 41 1 (.slice (some ⟨w.heap.size + 1, 0, none⟩) n n) n (madeCells (Value.int .i64 0).cells n).toList := by simpa using hown
    rw [show (Value.int .i64 0).cells = #[.int .i64 0] from rfl, tsC_zero] at h2
    exact h2
  clear hH hrow hcn hx hT hg HX
  go_enter Tryd.func36, Tryd.ntmps36
  go_wp2_with (at_make; go_must ((refine wpList_make_full _ (by rfl) _ _ 65 (by rfl) (w.heap.size + 1) 41 i0 _ 1 Tryd.underlying65 hi hz0 hz1 .i64 .i64 (n : Int) (n : Int) n (by rfl) (by rfl) rfl rfl (by rw [hz2]; omega) (by unfold maxLen; omega) (by simp) (fun w1 hown hgr => ?_)); have hc1 := (HMK.out w1 hown hgr).2))
  have HMI := Lib.hid (HMK.out w1 hown hgr).1
  clear hown hgr
  generalize hP : w.heap.size + 1 = P at *
  go_loopw [25] (fun iv wr => ∃ k : Nat, iv = .int .i64 k ∧ k ≤ n ∧ Hid (MI w w.heap.size (.cells #[.int .i64 s.axis, .int .i64 s.test, .string (strL s.name), .slice wa s.wher.length wc] 48) P n (mixR n k (fun k => andL [(hs[k]?.map fun h => testT h s).getD 0, l.getD k 0]) (fun _ => 0)) wr)) (fun iv _ => n - (intOf iv).toNat)
  case atStart => exact ⟨0, rfl, Nat.zero_le _, Lib.hid (by rw [mixR_zero]; have := HMI.out; rwa [← rowOf_self n (List.replicate n 0) (by simp), show (rowOf n fun j => (List.replicate n (0 : Int)).getD j 0) = rowOf n fun _ => 0 from rowOf_congr fun j hj => by simp [hj]] at this)⟩
  case round =>
    obtain ⟨k, rfl, hk, HM⟩ := hrel
    by_cases hkn : k < n
    · obtain ⟨b, o, A, m, c', rfl, hbl, hm, hA, hat, htx, hcells⟩ := HROW.out k (by rw [HN.out]; exact hkn)
      obtain ⟨e0, e1, e2, e3, e4, e5, e6, e7, e8, e9, e10, e11, e12, e13⟩ := hcells wr HM.out.old
      have HTK : Hid (∀ W, Calls Tryd.prog 52 #[.agg #[.int .i64 hs[k].ev.kind, .int .i64 hs[k].ev.num, .int .i64 hs[k].ev.dep, .string (strL hs[k].ev.name), .slice A m c', .string (strL hs[k].ev.text), .int .i64 hs[k].ev.fr, .int .i64 hs[k].ev.tt, .int .i64 hs[k].kd, .int .i64 hs[k].par, .bool hs[k].op, .string (strL hs[k].txt), .int .i64 hs[k].bg, .int .i64 hs[k].en], .agg #[.int .i64 s.axis, .int .i64 s.test, .string (strL s.name), .slice wa s.wher.length wc]] W fun e w' => e = .returned (.int .i64 ((hs[k]?.map fun h => testT h s).getD 0)) ∧ Below W.heap.size W w') := Lib.hid fun W => HTE.out k hkn A m c' W
      obtain ⟨lb, lo, rfl, hlb, hlc⟩ := HT.out.get k (by rw [HN.out]; exact hkn)
      have HLC := Lib.hid hlc
      have HNX : Hid (∀ W, MI w w.heap.size (.cells #[.int .i64 s.axis, .int .i64 s.test, .string (strL s.name), .slice wa s.wher.length wc] 48) P n (mixR n k (fun k => andL [(hs[k]?.map fun h => testT h s).getD 0, l.getD k 0]) (fun _ => 0)) W → MI w w.heap.size (.cells #[.int .i64 s.axis, .int .i64 s.test, .string (strL s.name), .slice wa s.wher.length wc] 48) P n (mixR n (k + 1) (fun k => andL [(hs[k]?.map fun h => testT h s).getD 0, l.getD k 0]) (fun _ => 0)) (W.setCell ⟨P, k, none⟩ (.int .i64 (andL [(hs[k]?.map fun h => testT h s).getD 0, l.getD k 0])))) := Lib.hid fun W hW => by
        have := hW.set k (andL [(hs[k]?.map fun h => testT h s).getD 0, l.getD k 0])
        rwa [mixR_set _ _ _ _ _ rfl] at this
      clear hcells hA hat hm htx hlc
      generalize hs[k]'(by rw [HN.out]; exact hkn) = hn at *
      generalize (hs[k]?.map fun h => testT h s).getD 0 = tv at *
      generalize l.getD k 0 = lv at *
      have i2 : (0 : Int) ≤ (k : Int) := by omega
      have i3 : (k : Int) < (n : Int) := by omega
      have ewi : IntKind.i64.wrap ((k : Int) + 1) = (k : Int) + 1 := IntWalk.i64_in _ (by omega)
      have hkb := (Below.refl wr.heap.size wr).alloc (Nat.le_refl _) (.cells #[.int .i64 hn.ev.kind, .int .i64 hn.ev.num, .int .i64 hn.ev.dep, .string (strL hn.ev.name), .slice A m c', .string (strL hn.ev.text), .int .i64 hn.ev.fr, .int .i64 hn.ev.tt, .int .i64 hn.kd, .int .i64 hn.par, .bool hn.op, .string (strL hn.txt), .int .i64 hn.bg, .int .i64 hn.en] 79)
      have hm2 := HM.out.below hkb
      have hnb := heap_alloc_new wr (.cells #[.int .i64 hn.ev.kind, .int .i64 hn.ev.num, .int .i64 hn.ev.dep, .string (strL hn.ev.name), .slice A m c', .string (strL hn.ev.text), .int .i64 hn.ev.fr, .int .i64 hn.ev.tt, .int .i64 hn.kd, .int .i64 hn.par, .bool hn.op, .string (strL hn.txt), .int .i64 hn.bg, .int .i64 hn.en] 79)
      have HAFT : Hid (∀ W, Below (wr.alloc (.cells #[.int .i64 hn.ev.kind, .int .i64 hn.ev.num, .int .i64 hn.ev.dep, .string (strL hn.ev.name), .slice A m c', .string (strL hn.ev.text), .int .i64 hn.ev.fr, .int .i64 hn.ev.tt, .int .i64 hn.kd, .int .i64 hn.par, .bool hn.op, .string (strL hn.txt), .int .i64 hn.bg, .int .i64 hn.en] 79)).heap.size (wr.alloc (.cells #[.int .i64 hn.ev.kind, .int .i64 hn.ev.num, .int .i64 hn.ev.dep, .string (strL hn.ev.name), .slice A m c', .string (strL hn.ev.text), .int .i64 hn.ev.fr, .int .i64 hn.ev.tt, .int .i64 hn.kd, .int .i64 hn.par, .bool hn.op, .string (strL hn.txt), .int .i64 hn.bg, .int .i64 hn.en] 79)) W → MI w w.heap.size (.cells #[.int .i64 s.axis, .int .i64 s.test, .string (strL s.name), .slice wa s.wher.length wc] 48) P n (mixR n k (fun k => andL [(hs[k]?.map fun h => testT h s).getD 0, l.getD k 0]) (fun _ => 0)) W) := Lib.hid fun W hW => hm2.below hW
      have s0 : (wr.alloc (.cells #[.int .i64 hn.ev.kind, .int .i64 hn.ev.num, .int .i64 hn.ev.dep, .string (strL hn.ev.name), .slice A m c', .string (strL hn.ev.text), .int .i64 hn.ev.fr, .int .i64 hn.ev.tt, .int .i64 hn.kd, .int .i64 hn.par, .bool hn.op, .string (strL hn.txt), .int .i64 hn.bg, .int .i64 hn.en] 79)).cell? ⟨w.heap.size, 0, none⟩ = some (.int .i64 s.axis) := by rw [cell_heap hm2.box]; rfl
      have s1 : (wr.alloc (.cells #[.int .i64 hn.ev.kind, .int .i64 hn.ev.num, .int .i64 hn.ev.dep, .string (strL hn.ev.name), .slice A m c', .string (strL hn.ev.text), .int .i64 hn.ev.fr, .int .i64 hn.ev.tt, .int .i64 hn.kd, .int .i64 hn.par, .bool hn.op, .string (strL hn.txt), .int .i64 hn.bg, .int .i64 hn.en] 79)).cell? ⟨w.heap.size, 1, none⟩ = some (.int .i64 s.test) := by rw [cell_heap hm2.box]; rfl
      have s2 : (wr.alloc (.cells #[.int .i64 hn.ev.kind, .int .i64 hn.ev.num, .int .i64 hn.ev.dep, .string (strL hn.ev.name), .slice A m c', .string (strL hn.ev.text), .int .i64 hn.ev.fr, .int .i64 hn.ev.tt, .int .i64 hn.kd, .int .i64 hn.par, .bool hn.op, .string (strL hn.txt), .int .i64 hn.bg, .int .i64 hn.en] 79)).cell? ⟨w.heap.size, 2, none⟩ = some (.string (strL s.name)) := by rw [cell_heap hm2.box]; rfl
      have s3 : (wr.alloc (.cells #[.int .i64 hn.ev.kind, .int .i64 hn.ev.num, .int .i64 hn.ev.dep, .string (strL hn.ev.name), .slice A m c', .string (strL hn.ev.text), .int .i64 hn.ev.fr, .int .i64 hn.ev.tt, .int .i64 hn.kd, .int .i64 hn.par, .bool hn.op, .string (strL hn.txt), .int .i64 hn.bg, .int .i64 hn.en] 79)).cell? ⟨w.heap.size, 3, none⟩ = some (.slice wa s.wher.length wc) := by rw [cell_heap hm2.box]; rfl
      have z0 := HLC.out _ hm2.old
      have hlt2 : w.heap.size < (wr.alloc (.cells #[.int .i64 hn.ev.kind, .int .i64 hn.ev.num, .int .i64 hn.ev.dep, .string (strL hn.ev.name), .slice A m c', .string (strL hn.ev.text), .int .i64 hn.ev.fr, .int .i64 hn.ev.tt, .int .i64 hn.kd, .int .i64 hn.par, .bool hn.op, .string (strL hn.txt), .int .i64 hn.bg, .int .i64 hn.en] 79)).heap.size := by have := hm2.old.size; have := HM.out.old.size; simp; omega
      have hlt3 : P < (wr.alloc (.cells #[.int .i64 hn.ev.kind, .int .i64 hn.ev.num, .int .i64 hn.ev.dep, .string (strL hn.ev.name), .slice A m c', .string (strL hn.ev.text), .int .i64 hn.ev.fr, .int .i64 hn.ev.tt, .int .i64 hn.kd, .int .i64 hn.par, .bool hn.op, .string (strL hn.txt), .int .i64 hn.bg, .int .i64 hn.en] 79)).heap.size := (hm2.own.lt _ rfl).2
      have n0 : (wr.alloc (.cells #[.int .i64 hn.ev.kind, .int .i64 hn.ev.num, .int .i64 hn.ev.dep, .string (strL hn.ev.name), .slice A m c', .string (strL hn.ev.text), .int .i64 hn.ev.fr, .int .i64 hn.ev.tt, .int .i64 hn.kd, .int .i64 hn.par, .bool hn.op, .string (strL hn.txt), .int .i64 hn.bg, .int .i64 hn.en] 79)).cell? ⟨wr.heap.size, 0, none⟩ = some (.int .i64 hn.ev.kind) := by rw [cell_heap hnb]; rfl
      have n1 : (wr.alloc (.cells #[.int .i64 hn.ev.kind, .int .i64 hn.ev.num, .int .i64 hn.ev.dep, .string (strL hn.ev.name), .slice A m c', .string (strL hn.ev.text), .int .i64 hn.ev.fr, .int .i64 hn.ev.tt, .int .i64 hn.kd, .int .i64 hn.par, .bool hn.op, .string (strL hn.txt), .int .i64 hn.bg, .int .i64 hn.en] 79)).cell? ⟨wr.heap.size, 1, none⟩ = some (.int .i64 hn.ev.num) := by rw [cell_heap hnb]; rfl
      have n2 : (wr.alloc (.cells #[.int .i64 hn.ev.kind, .int .i64 hn.ev.num, .int .i64 hn.ev.dep, .string (strL hn.ev.name), .slice A m c', .string (strL hn.ev.text), .int .i64 hn.ev.fr, .int .i64 hn.ev.tt, .int .i64 hn.kd, .int .i64 hn.par, .bool hn.op, .string (strL hn.txt), .int .i64 hn.bg, .int .i64 hn.en] 79)).cell? ⟨wr.heap.size, 2, none⟩ = some (.int .i64 hn.ev.dep) := by rw [cell_heap hnb]; rfl
      have n3 : (wr.alloc (.cells #[.int .i64 hn.ev.kind, .int .i64 hn.ev.num, .int .i64 hn.ev.dep, .string (strL hn.ev.name), .slice A m c', .string (strL hn.ev.text), .int .i64 hn.ev.fr, .int .i64 hn.ev.tt, .int .i64 hn.kd, .int .i64 hn.par, .bool hn.op, .string (strL hn.txt), .int .i64 hn.bg, .int .i64 hn.en] 79)).cell? ⟨wr.heap.size, 3, none⟩ = some (.string (strL hn.ev.name)) := by rw [cell_heap hnb]; rfl
      have n4 : (wr.alloc (.cells #[.int .i64 hn.ev.kind, .int .i64 hn.ev.num, .int .i64 hn.ev.dep, .string (strL hn.ev.name), .slice A m c', .string (strL hn.ev.text), .int .i64 hn.ev.fr, .int .i64 hn.ev.tt, .int .i64 hn.kd, .int .i64 hn.par, .bool hn.op, .string (strL hn.txt), .int .i64 hn.bg, .int .i64 hn.en] 79)).cell? ⟨wr.heap.size, 4, none⟩ = some (.slice A m c') := by rw [cell_heap hnb]; rfl
      have n5 : (wr.alloc (.cells #[.int .i64 hn.ev.kind, .int .i64 hn.ev.num, .int .i64 hn.ev.dep, .string (strL hn.ev.name), .slice A m c', .string (strL hn.ev.text), .int .i64 hn.ev.fr, .int .i64 hn.ev.tt, .int .i64 hn.kd, .int .i64 hn.par, .bool hn.op, .string (strL hn.txt), .int .i64 hn.bg, .int .i64 hn.en] 79)).cell? ⟨wr.heap.size, 5, none⟩ = some (.string (strL hn.ev.text)) := by rw [cell_heap hnb]; rfl
      have n6 : (wr.alloc (.cells #[.int .i64 hn.ev.kind, .int .i64 hn.ev.num, .int .i64 hn.ev.dep, .string (strL hn.ev.name), .slice A m c', .string (strL hn.ev.text), .int .i64 hn.ev.fr, .int .i64 hn.ev.tt, .int .i64 hn.kd, .int .i64 hn.par, .bool hn.op, .string (strL hn.txt), .int .i64 hn.bg, .int .i64 hn.en] 79)).cell? ⟨wr.heap.size, 6, none⟩ = some (.int .i64 hn.ev.fr) := by rw [cell_heap hnb]; rfl
      have n7 : (wr.alloc (.cells #[.int .i64 hn.ev.kind, .int .i64 hn.ev.num, .int .i64 hn.ev.dep, .string (strL hn.ev.name), .slice A m c', .string (strL hn.ev.text), .int .i64 hn.ev.fr, .int .i64 hn.ev.tt, .int .i64 hn.kd, .int .i64 hn.par, .bool hn.op, .string (strL hn.txt), .int .i64 hn.bg, .int .i64 hn.en] 79)).cell? ⟨wr.heap.size, 7, none⟩ = some (.int .i64 hn.ev.tt) := by rw [cell_heap hnb]; rfl
      have n8 : (wr.alloc (.cells #[.int .i64 hn.ev.kind, .int .i64 hn.ev.num, .int .i64 hn.ev.dep, .string (strL hn.ev.name), .slice A m c', .string (strL hn.ev.text), .int .i64 hn.ev.fr, .int .i64 hn.ev.tt, .int .i64 hn.kd, .int .i64 hn.par, .bool hn.op, .string (strL hn.txt), .int .i64 hn.bg, .int .i64 hn.en] 79)).cell? ⟨wr.heap.size, 8, none⟩ = some (.int .i64 hn.kd) := by rw [cell_heap hnb]; rfl
      have n9 : (wr.alloc (.cells #[.int .i64 hn.ev.kind, .int .i64 hn.ev.num, .int .i64 hn.ev.dep, .string (strL hn.ev.name), .slice A m c', .string (strL hn.ev.text), .int .i64 hn.ev.fr, .int .i64 hn.ev.tt, .int .i64 hn.kd, .int .i64 hn.par, .bool hn.op, .string (strL hn.txt), .int .i64 hn.bg, .int .i64 hn.en] 79)).cell? ⟨wr.heap.size, 9, none⟩ = some (.int .i64 hn.par) := by rw [cell_heap hnb]; rfl
      have n10 : (wr.alloc (.cells #[.int .i64 hn.ev.kind, .int .i64 hn.ev.num, .int .i64 hn.ev.dep, .string (strL hn.ev.name), .slice A m c', .string (strL hn.ev.text), .int .i64 hn.ev.fr, .int .i64 hn.ev.tt, .int .i64 hn.kd, .int .i64 hn.par, .bool hn.op, .string (strL hn.txt), .int .i64 hn.bg, .int .i64 hn.en] 79)).cell? ⟨wr.heap.size, 10, none⟩ = some (.bool hn.op) := by rw [cell_heap hnb]; rfl
      have n11 : (wr.alloc (.cells #[.int .i64 hn.ev.kind, .int .i64 hn.ev.num, .int .i64 hn.ev.dep, .string (strL hn.ev.name), .slice A m c', .string (strL hn.ev.text), .int .i64 hn.ev.fr, .int .i64 hn.ev.tt, .int .i64 hn.kd, .int .i64 hn.par, .bool hn.op, .string (strL hn.txt), .int .i64 hn.bg, .int .i64 hn.en] 79)).cell? ⟨wr.heap.size, 11, none⟩ = some (.string (strL hn.txt)) := by rw [cell_heap hnb]; rfl
      have n12 : (wr.alloc (.cells #[.int .i64 hn.ev.kind, .int .i64 hn.ev.num, .int .i64 hn.ev.dep, .string (strL hn.ev.name), .slice A m c', .string (strL hn.ev.text), .int .i64 hn.ev.fr, .int .i64 hn.ev.tt, .int .i64 hn.kd, .int .i64 hn.par, .bool hn.op, .string (strL hn.txt), .int .i64 hn.bg, .int .i64 hn.en] 79)).cell? ⟨wr.heap.size, 12, none⟩ = some (.int .i64 hn.bg) := by rw [cell_heap hnb]; rfl
      have n13 : (wr.alloc (.cells #[.int .i64 hn.ev.kind, .int .i64 hn.ev.num, .int .i64 hn.ev.dep, .string (strL hn.ev.name), .slice A m c', .string (strL hn.ev.text), .int .i64 hn.ev.fr, .int .i64 hn.ev.tt, .int .i64 hn.kd, .int .i64 hn.par, .bool hn.op, .string (strL hn.txt), .int .i64 hn.bg, .int .i64 hn.en] 79)).cell? ⟨wr.heap.size, 13, none⟩ = some (.int .i64 hn.en) := by rw [cell_heap hnb]; rfl
      clear hkb hm2 hnb
      go_wp2_with fail
      generalize wr.alloc (.cells #[.int .i64 hn.ev.kind, .int .i64 hn.ev.num, .int .i64 hn.ev.dep, .string (strL hn.ev.name), .slice A m c', .string (strL hn.ev.text), .int .i64 hn.ev.fr, .int .i64 hn.ev.tt, .int .i64 hn.kd, .int .i64 hn.par, .bool hn.op, .string (strL hn.txt), .int .i64 hn.bg, .int .i64 hn.en] 79) = w2 at *
      generalize wr.heap.size = Q at *
      clear e0 e1 e2 e3 e4 e5 e6 e7 e8 e9 e10 e11 e12 e13
      have HEXI : Hid (∀ W, MI w w.heap.size (.cells #[.int .i64 s.axis, .int .i64 s.test, .string (strL s.name), .slice wa s.wher.length wc] 48) P n (mixR n k (fun k => andL [(hs[k]?.map fun h => testT h s).getD 0, l.getD k 0]) (fun _ => 0)) W → W.cell? ⟨lb, lo + k, none⟩ = some (.int .i64 lv) ∧ P < W.heap.size ∧ W.frozen? ⟨P, k, none⟩ = false ∧ lb < W.heap.size ∧ ∃ x, W.cell? ⟨P, k, none⟩ = some x) := Lib.hid fun W hW => ⟨HLC.out W hW.old, (hW.own.lt _ rfl).2, hW.frozen k, Nat.lt_of_lt_of_le hlb hW.old.size, ⟨_, hW.at k hkn⟩⟩
      obtain ⟨_, _, f0, hlb2, x0, y0⟩ := HEXI.out w2 (HAFT.out w2 (Below.refl _ _))
      go_region_with (first | (go_at_call 52; (with_reducible refine (HTK.out _).mono ?_); rintro e w5 ⟨rfl, hb5⟩; have hm5 := HAFT.out w5 ((Below.refl _ _).drew.trans hb5); obtain ⟨z5, p5, f5, l5, x5, y5⟩ := HEXI.out w5 hm5) | (go_at_call 32; (with_reducible refine (HAND.out tv lv _ _ (heap_alloc_new _ _)).mono ?_); rintro e w6 ⟨rfl, rfl⟩))
      all_goals
        go_wp2_with fail
        go_roundw
        case rel => exact ⟨k + 1, by go_num, by omega, Lib.hid ((HNX.out _ hm5).below ((Below.refl _ _).alloc (Nat.le_refl _) _))⟩
        case measure => simp [intOf]; omega
    · have hk2 : k = n := by omega
      subst hk2
      have HM2 : Hid (MI w w.heap.size (.cells #[.int .i64 s.axis, .int .i64 s.test, .string (strL s.name), .slice wa s.wher.length wc] 48) P k (metK (exprT hs f) hs s l 0) wr) := Lib.hid (by have := HM.out; rw [mixR_all] at this; rw [HL0.out]; exact this)
      have s3 : wr.cell? ⟨w.heap.size, 3, none⟩ = some (.slice wa s.wher.length wc) := by rw [cell_heap HM2.out.box]; rfl
      clear HM HTE HL0 HMK hk hkn HT HROW HCN HMI
      go_wp2_with fail
      go_loopw [46] (fun jv wr => ∃ j : Nat, jv = .int .i64 j ∧ j ≤ s.wher.length ∧ Hid (MI w w.heap.size (.cells #[.int .i64 s.axis, .int .i64 s.test, .string (strL s.name), .slice wa s.wher.length wc] 48) P k (metK (exprT hs f) hs s l j) wr)) (fun jv _ => s.wher.length - (intOf jv).toNat)
      case atStart => exact ⟨0, rfl, Nat.zero_le _, HM2⟩
      case round =>
        obtain ⟨j, rfl, hjq, HJ⟩ := hrel
        by_cases hjl : j < s.wher.length
        · obtain ⟨b2, o2, ya, yc, yp, yd, rfl, hb2, hxa, hcs⟩ := HXS.out.get' j hjl
          obtain ⟨x0, x1, x2, x3, x4, x5, x6⟩ := hcs wr HJ.out.old
          have HDX : Hid (∀ W, Below w.heap.size w W → Calls Tryd.prog 17 #[.pointer (some ⟨hb, 0, none⟩), .agg (exprC s.wher[j] ya yc yp yd).toArray] W fun e w' => ∃ P2, e = .returned (.slice (some ⟨P2, 0, none⟩) k k) ∧ W.heap.size ≤ P2 ∧ TsAt w' (some ⟨P2, 0, none⟩) k (exprT hs f s.wher[j]) ∧ Below W.heap.size W w') := Lib.hid fun W hW => by
            have := HEX.out s.wher[j] _ W (HH.out.below hW) (XAt.turn hW (Nat.le_refl _) hxa) (HG.out _ (List.getElem_mem hjl))
            rw [HN.out] at this; exact this
          have HSC : Hid (metK (exprT hs f) hs s l (j + 1) = rowOf k fun i => andL [(metK (exprT hs f) hs s l j).getD i 0, (exprT hs f s.wher[j]).getD i 0]) := Lib.hid (by rw [metK_succ _ _ _ _ _ hjl, HN.out])
          clear hcs hxa hb2
          generalize exprT hs f s.wher[j] = te at *
          generalize s.wher[j] = y at *
          generalize metK (exprT hs f) hs s l j = ml at *
          unfold exprC at HDX
          have i3 : (0 : Int) ≤ (j : Int) := by omega
          have i4 : (j : Int) < (s.wher.length : Int) := by omega
          have ewj : IntKind.i64.wrap ((j : Int) + 1) = (j : Int) + 1 := IntWalk.i64_in _ (by omega)
          have HB15 : Hid (∀ o, MI w w.heap.size (.cells #[.int .i64 s.axis, .int .i64 s.test, .string (strL s.name), .slice (some ⟨b2, o2, none⟩) s.wher.length wc] 48) P k ml (wr.alloc o)) := Lib.hid fun o => HJ.out.below ((Below.refl _ _).alloc (Nat.le_refl _) _)
          go_wp2_with fail
          (with_reducible refine (HDX.out _ (HB15.out _).old).mono ?_)
          rintro e w15 ⟨P2, rfl, hP2, hts, hb15⟩
          have HM15 := Lib.hid ((HB15.out _).below hb15)
          have HTS := Lib.hid hts
          have HNE : Hid (P ≠ P2) := Lib.hid (by have h : P < _ := ((HB15.out (.cells #[.int .i64 y.op, .slice ya y.args.length yc, .slice yp y.path.length yd, .string (strL y.attr), .int .i64 y.cmp, .string (strL y.text), .int .i64 y.num] 30)).own.lt P rfl).2; omega)
          clear hb15 hts hP2
          go_wp2_with fail
          go_loopw [55] (fun iv wr => ∃ i : Nat, iv = .int .i64 i ∧ i ≤ k ∧ Hid (MI w w.heap.size (.cells #[.int .i64 s.axis, .int .i64 s.test, .string (strL s.name), .slice (some ⟨b2, o2, none⟩) s.wher.length wc] 48) P k (mixR k i (fun i => andL [ml.getD i 0, te.getD i 0]) (fun i => ml.getD i 0)) wr ∧ TsAt wr (some ⟨P2, 0, none⟩) k te)) (fun iv _ => k - (intOf iv).toNat)
          case atStart => exact ⟨0, rfl, Nat.zero_le _, Lib.hid ⟨by rw [mixR_zero, rowOf_self _ _ HM15.out.len]; exact HM15.out, HTS.out⟩⟩
          case round =>
            obtain ⟨i, rfl, hik, HI⟩ := hrel
            by_cases hikn : i < k
            · have z0 : wr.cell? ⟨P, i, none⟩ = some (.int .i64 (ml.getD i 0)) := by
                have h1 := HI.out.1.at i hikn
                rwa [List.getD_eq_getElem?_getD, mixR_get _ _ _ _ _ hikn (Nat.le_refl _), Option.getD_some] at h1
              obtain ⟨z1, hl1⟩ := HI.out.2.at0 i hikn
              have hl0 := (HI.out.1.own.lt _ rfl).2
              have hf0 := HI.out.1.frozen i
              have HNX : Hid (∀ W, Below (wr.setCell ⟨P, i, none⟩ (.int .i64 (andL [ml.getD i 0, te.getD i 0]))).heap.size (wr.setCell ⟨P, i, none⟩ (.int .i64 (andL [ml.getD i 0, te.getD i 0]))) W → MI w w.heap.size (.cells #[.int .i64 s.axis, .int .i64 s.test, .string (strL s.name), .slice (some ⟨b2, o2, none⟩) s.wher.length wc] 48) P k (mixR k (i + 1) (fun i => andL [ml.getD i 0, te.getD i 0]) (fun i => ml.getD i 0)) W ∧ TsAt W (some ⟨P2, 0, none⟩) k te) := Lib.hid fun W hW => by
                have h1 := HI.out.1.set i (andL [ml.getD i 0, te.getD i 0])
                rw [mixR_set _ _ _ _ _ rfl] at h1
                exact ⟨h1.below hW, (HI.out.2.far (fun ad h => by cases h; exact fun e => HNE.out e.symm) _).below hW⟩
              generalize ml.getD i 0 = mv at *
              generalize te.getD i 0 = tv at *
              have i5 : (0 : Int) ≤ (i : Int) := by omega
              have i6 : (i : Int) < (k : Int) := by omega
              have ewi : IntKind.i64.wrap ((i : Int) + 1) = (i : Int) + 1 := IntWalk.i64_in _ (by omega)
              go_wp2_with fail
              go_region_with (first | (go_at_call 32; (with_reducible refine (HANDD.out mv tv _ _ (heap_alloc_new _ _)).mono ?_); rintro e w6 ⟨rfl, rfl⟩))
              all_goals
                go_wp2_with fail
                go_roundw
                case rel => exact ⟨i + 1, by go_num, by omega, Lib.hid (HNX.out _ (((Below.refl _ _).alloc (Nat.le_refl _) _).drew))⟩
                case measure => simp [intOf]; omega
            · have hi2 : i = k := by omega
              subst hi2
              have HM3 : Hid (MI w w.heap.size (.cells #[.int .i64 s.axis, .int .i64 s.test, .string (strL s.name), .slice (some ⟨b2, o2, none⟩) s.wher.length wc] 48) P i (metK (exprT hs f) hs s l (j + 1)) wr) := Lib.hid (by have := HI.out.1; rw [mixR_all] at this; rw [HSC.out]; exact this)
              go_wp2_with fail
              go_roundw
              case rel => exact ⟨j + 1, by go_num, by omega, HM3⟩
              case measure => simp [intOf]; omega
        · have hj2 : j = s.wher.length := by omega
          subst hj2
          have HF := Lib.hid HJ.out
          rw [metK_all] at HF
          go_wp2_with fail
          go_ret
          exact ⟨P, rfl, HF.out.lo, HF.out.ts, HF.out.old⟩
end Go.Proofs.YtklpihaelaagpaaDoor
