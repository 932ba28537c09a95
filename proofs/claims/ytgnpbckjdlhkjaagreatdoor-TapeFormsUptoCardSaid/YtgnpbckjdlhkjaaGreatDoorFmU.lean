/-
  canon.Print: of events.
-/
import Derived.Test.YtgnpbckjdlhkjaaGreatDoorFmI
import Derived.Test.YtgnpbckjdlhkjaaGreatDoorFmT
import Derived.Test.YtgnpbckjdlhkjaaGreatDoorFmH
namespace Go.Proofs.YtgnpbckjdlhkjaaGreatDoor
open Go.RowKit

theorem outs_len (l : List Ev) : (l.flatMap evOut).length ≤ 8 * wtEs l := by
  induction l with
  | nil => simp
  | cons e l ih =>
    have := evOut_len e
    simp only [wtEs, List.flatMap_cons, List.length_append, List.map_cons, List.sum_cons] at *
    omega
theorem outs_take (l : List Ev) (k : Nat) : ((l.take k).flatMap evOut).length ≤ (l.flatMap evOut).length := by
  have h : l.flatMap evOut = (l.take k).flatMap evOut ++ (l.drop k).flatMap evOut := by rw [← List.flatMap_append, List.take_append_drop]
  rw [h, List.length_append]
  omega
set_option maxRecDepth 100000 in
set_option maxHeartbeats 4000000 in
theorem canonPrint_any (a : Option Addr) (n c : Nat) (evs : List Ev) (w : World) (hE : EvsAt w a n evs) (hw : wtEs evs ≤ 1048576) :
    Calls Tryz.prog 22 #[.slice a n c] w fun e w' => e = .returned (.string (strL (evs.flatMap evOut))) ∧ Below w.heap.size w w' := by
  have HE := Lib.hid hE
  have HN : Hid (n = evs.length) := Lib.hid hE.1
  have hol := outs_len evs
  have HOL : Hid (∀ k, ((evs.take k).flatMap evOut).length ≤ 8388608) := Lib.hid fun k => by have := outs_take evs k; omega
  have HW : Hid (∀ i (h : i < evs.length), wtE evs[i] ≤ 1048576) := Lib.hid fun i h => Nat.le_trans (wtEs_mem evs i h) hw
  have HB0 : Hid (Below w.heap.size w (w.alloc (.cells #[.pointer none, .slice none 0 0] 70)) ∧ IsB w.heap.size w.heap.size (u8s []) (w.alloc (.cells #[.pointer none, .slice none 0 0] 70))) := Lib.hid ⟨(Below.refl _ _).alloc (Nat.le_refl _) _, isB_new w w.heap.size (Nat.le_refl _)⟩
  have hn : n ≤ 1048576 := by have := wtEs_length evs; have := hE.1; omega
  clear hE hw hol
  go_enter Tryz.func22, Tryz.ntmps22
  go_wp2_with fail
  go_loopw [8] (fun iv wr => ∃ k : Nat, iv = .int .i64 k ∧ k ≤ n ∧ Below w.heap.size w wr ∧ Hid (IsB w.heap.size w.heap.size (u8s ((evs.take k).flatMap evOut)) wr)) (fun iv _ => n - (intOf iv).toNat)
  case atStart => exact ⟨0, rfl, Nat.zero_le _, HB0.out.1, by simpa using Lib.hid HB0.out.2⟩
  case round =>
    obtain ⟨k, rfl, hk, hbr, hB⟩ := hrel
    by_cases hkn : k < n
    · have hkl : k < evs.length := by rw [← HN.out]; exact hkn
      obtain ⟨b, o, A, m, c', rfl, hb, hmc, hA, hcells⟩ := HE.out.at8 k hkl
      obtain ⟨e0, e1, e2, e3, e4, e5, e6, e7⟩ := hcells wr hbr
      have hfl := flat_drop evOut evs k hkl
      have hwt := HW.out k hkl
      generalize evs[k] = e at *
      have HEV : Hid (∀ W, Below w.heap.size w W → Calls Tryz.prog 20 #[.agg #[.int .i64 e.kind, .int .i64 e.num, .int .i64 e.dep, .string (strL e.name), .slice A m c', .string (strL e.text), .int .i64 e.fr, .int .i64 e.tt]] W fun r w' => r = .returned (.string (strL (evOut e))) ∧ Below W.heap.size W w') := Lib.hid fun W hW =>
        Event_cells (cs := (evC e.kind e.num e.dep e.name A m c' e.text e.fr e.tt).toList) ⟨A, m, c', rfl, hmc, hA.below hW⟩ hwt
      have HFL := Lib.hid hfl
      have HBR := Lib.hid hbr
      have hlen := HOL.out k
      have hlen1 := HOL.out (k + 1)
      rw [hfl, List.length_append] at hlen1
      have HLEN := Lib.hid hlen1
      have HB1 : Hid (∀ o, Below w.heap.size w (wr.alloc o) ∧ IsB w.heap.size w.heap.size (u8s ((evs.take k).flatMap evOut)) (wr.alloc o)) := Lib.hid fun o => ⟨hbr.alloc hbr.size o, IsB_below hB.out ((Below.refl _ _).alloc (Nat.le_refl _) o)⟩
      clear hcells hA hbr hB hfl hwt hmc hb hlen hlen1
      go_wp2_with fail
      (with_reducible refine (HEV.out _ (HB1.out _).1).mono ?_)
      rintro r w2 ⟨rfl, hb2⟩
      have hbw2 := (HB1.out _).1.trans (hb2.mono (HB1.out _).1.size)
      have HWS := Lib.hid (bwriteL_any w.heap.size w.heap.size ((evs.take k).flatMap evOut) (evOut e) w2 (IsB_below (HB1.out _).2 hb2) (by have := HLEN.out; omega) hbw2.size)
      have HBW2 := Lib.hid hbw2
      clear hb2 hbw2 e0 e1 e2 e3 e4 e5 e6 e7
      go_wp2_with fail
      (with_reducible refine HWS.out.mono ?_)
      rintro r w3 ⟨rfl, hB3, hb3⟩
      have HB3 := Lib.hid hB3
      have hbw3 := HBW2.out.trans hb3
      clear hB3 hb3
      go_wp2_with fail
      go_roundw
      case rel => exact ⟨k + 1, by go_num, by omega, hbw3, by rw [HFL.out]; exact HB3⟩
      case measure => simp [intOf]; omega
    · have hk2 : k = n := by omega
      subst hk2
      have htk : evs.take k = evs := List.take_of_length_le (by rw [HN.out]; exact Nat.le_refl _)
      rw [htk] at hB
      have HS := Lib.hid (bstring_any w.heap.size w.heap.size (evs.flatMap evOut) wr hB.out hbr.size)
      have HBR := Lib.hid hbr
      clear hB hbr
      go_wp2_with fail
      (with_reducible refine HS.out.mono ?_)
      rintro r w3 ⟨rfl, _, hb3⟩
      go_wp2_with fail
      go_ret
      exact ⟨rfl, HBR.out.trans hb3⟩
end Go.Proofs.YtgnpbckjdlhkjaaGreatDoor

/-
  (*tree.Tree).Print of a node that is there.
-/
namespace Go.Proofs.YtgnpbckjdlhkjaaGreatDoor
open Go.RowKit

theorem refuses_ok (tb : Nat) (q : Value) (an : Option Addr) (nn cn i : Nat) (w : World) (h : w.heap[tb]? = some (.cells #[q, .slice an nn cn] 55 (0, 0))) (hi : i < nn) :
    Calls Tryz.prog 21 #[.pointer (some ⟨tb, 0, none⟩), .int .i64 i, .int .i64 (-1)] w fun e w' => e = .returned (.int .i64 0) ∧ w' = w := by
  have c1 : w.cell? ⟨tb, 1, none⟩ = some (.slice an nn cn) := by rw [cell_heap h]; rfl
  have h1 : decide ((i : Int) < -1) = false := by rw [decide_eq_false_iff_not]; omega
  have h2 : (i : Int) < (nn : Int) := by omega
  clear h
  go_enter Tryz.func21, Tryz.ntmps21
  go_wp2_with fail
  go_ret
  exact ⟨rfl, rfl⟩
/-- a piece of events -/
theorem EvsAt.sub {w : World} {ge n : Nat} {evs : List Ev} (h : EvsAt w (some ⟨ge, 0, none⟩) n evs) (i j : Nat) (hij : i ≤ j) (hj : j ≤ n) : EvsAt w (some ⟨ge, i * 8, none⟩) (j - i) ((evs.take j).drop i) := by
  have hn := h.1
  have hl : ((evs.take j).drop i).length = j - i := by rw [List.length_drop, List.length_take]; omega
  refine ⟨hl.symm, fun q hq => ?_⟩
  rw [hl] at hq
  have hqe : i + q < evs.length := by omega
  obtain ⟨b, o, A, m, c, e, hb, hmc, hA, hc⟩ := h.2 (i + q) hqe
  cases e
  have hg : ((evs.take j).drop i)[q]'(by rw [hl]; exact hq) = evs[i + q] := by rw [List.getElem_drop, List.getElem_take]
  rw [hg]
  refine ⟨ge, i * 8, A, m, c, rfl, hb, hmc, hA, fun r hr => ?_⟩
  rw [← hc r hr]
  congr 2
  omega
theorem wtEs_sub (l : List Ev) (i j : Nat) : wtEs ((l.take j).drop i) ≤ wtEs l := by
  have h1 : ∀ (a b : List Ev), wtEs (a ++ b) = wtEs a + wtEs b := fun a b => by simp [wtEs]
  have h2 : wtEs l = wtEs (l.take j) + wtEs (l.drop j) := by rw [← h1, List.take_append_drop]
  have h3 : wtEs (l.take j) = wtEs ((l.take j).take i) + wtEs ((l.take j).drop i) := by rw [← h1, List.take_append_drop]
  omega
set_option maxRecDepth 100000 in
set_option maxHeartbeats 4000000 in
theorem tprint_ok (tb i : Nat) (x : Nd) (evs : List Ev) (w : World) {B : Nat} (h : TreeAt w B tb evs) (hx : (nodesB evs)[i]? = some x) (hw : wtEs evs ≤ 1048576) (h1 : x.pos < x.fin) (h2 : x.fin ≤ evs.length) :
    Calls Tryz.prog 11 #[.pointer (some ⟨tb, 0, none⟩), .int .i64 i] w fun e w' => e = .returned (.tuple #[.string (strL (((evs.take x.fin).drop x.pos).flatMap evOut)), .int .i64 0]) ∧ Below w.heap.size w w' := by
  obtain ⟨_, _, ge, n, an, cn, htb, hne, hcn, _, hgew, hev, hnd⟩ := h
  have hE : EvsAt w (some ⟨ge, 0, none⟩) n evs := ⟨hne, fun i hi => by
    obtain ⟨A, m, c, g1, g2, _, g4⟩ := hev i hi
    exact ⟨ge, 0, A, m, c, rfl, hgew, g1, g2, fun j hj => by rw [Nat.zero_add]; exact g4 j hj⟩⟩
  obtain ⟨b, e, A, m, c, rfl, _, hb, he, hmc, hA, _, hc⟩ := hnd i x hx
  clear hev hgew hne
  have hil := get_lt hx
  have hn := hE.1
  have HREF : Hid (Calls Tryz.prog 21 #[.pointer (some ⟨tb, 0, none⟩), .int .i64 i, .int .i64 (-1)] w fun e w' => e = .returned (.int .i64 0) ∧ w' = w) := Lib.hid (refuses_ok tb _ _ _ cn i w htb hil)
  have HPR : Hid (∀ W, Below w.heap.size w W → Calls Tryz.prog 22 #[.slice (some ⟨ge, x.pos * 8, none⟩) (x.fin - x.pos) (n - x.pos)] W fun e w' => e = .returned (.string (strL (((evs.take x.fin).drop x.pos).flatMap evOut))) ∧ Below W.heap.size W w') := Lib.hid fun W hW =>
    canonPrint_any _ _ _ _ W ((hE.sub x.pos x.fin (by omega) (by omega)).below hW) (Nat.le_trans (wtEs_sub _ _ _) hw)
  have c0 : w.cell? ⟨tb, 0, none⟩ = some (.slice (some ⟨ge, 0, none⟩) n n) := by rw [cell_heap htb]; rfl
  have c1 : w.cell? ⟨tb, 1, none⟩ = some (.slice (some ⟨b, 0, none⟩) (nodesB evs).length cn) := by rw [cell_heap htb]; rfl
  have e0 := hc 0 (by decide)
  have e1 := hc 1 (by decide)
  have e2 := hc 2 (by decide)
  have e3 := hc 3 (by decide)
  have e4 := hc 4 (by decide)
  have e5 := hc 5 (by decide)
  have e6 := hc 6 (by decide)
  have e7 := hc 7 (by decide)
  have e8 := hc 8 (by decide)
  have e9 := hc 9 (by decide)
  have e10 := hc 10 (by decide)
  have e11 := hc 11 (by decide)
  simp only [ndL, evL, evC, List.cons_append, List.nil_append, List.getElem?_cons_zero, List.getElem?_cons_succ, Nat.add_zero] at e0 e1 e2 e3 e4 e5 e6 e7 e8 e9 e10 e11
  generalize (nodesB evs).length = nn at *
  have i1 : (0 : Int) ≤ (i : Int) := by omega
  have i2 : (i : Int) < (nn : Int) := by omega
  have htw := heap_lt htb
  clear hnd hE hc hA hx he hil hcn htb
  generalize (List.flatMap evOut (List.drop x.pos (List.take x.fin evs))) = OUT at *
  generalize x.pos = p at *
  generalize x.fin = f at *
  have hfn : f ≤ n := by omega
  have hpn : p < n := by omega
  clear hn hw
  have HB0 : Hid (∀ o, Below w.heap.size w (w.alloc o) ∧ (w.alloc o).heap[w.heap.size]? = some o ∧ (w.alloc o).heap.size = w.heap.size + 1) := Lib.hid fun o => ⟨(Below.refl _ _).alloc (Nat.le_refl _) _, heap_alloc_new w o, by simp⟩
  have HTW := Lib.hid htw
  have HC0 := Lib.hid c0
  clear htw hb
  go_enter Tryz.func11, Tryz.ntmps11
  go_wp2_with fail
  (with_reducible refine HREF.out.mono ?_)
  rintro r w9 ⟨rfl, hw9⟩
  rw [hw9]
  clear hw9
  go_wp2_with fail
  obtain ⟨W1, hW1⟩ : ∃ W1, W1 = w.alloc (.cells #[.int .i64 e.kind, .int .i64 e.num, .int .i64 e.dep, .string (strL e.name), .slice A m c, .string (strL e.text), .int .i64 e.fr, .int .i64 e.tt, .int .i64 x.par, .int .i64 x.last, .int .i64 p, .int .i64 f] 59) := ⟨_, rfl⟩
  rw [← hW1]
  obtain ⟨g1, g2, g3⟩ := HB0.out (.cells #[.int .i64 e.kind, .int .i64 e.num, .int .i64 e.dep, .string (strL e.name), .slice A m c, .string (strL e.text), .int .i64 e.fr, .int .i64 e.tt, .int .i64 x.par, .int .i64 x.last, .int .i64 p, .int .i64 f] 59)
  rw [← hW1] at g1 g2 g3
  have hS : ∀ w', Below W1.heap.size W1 w' → w'.cell? ⟨tb, 0, none⟩ = some (.slice (some ⟨ge, 0, none⟩) n n) ∧ w'.cell? ⟨w.heap.size, 10, none⟩ = some (.int .i64 p) ∧ w'.cell? ⟨w.heap.size, 11, none⟩ = some (.int .i64 f) ∧ Below W1.heap.size W1 w' := fun w' hb => by
    have e := (hb.block w.heap.size (by omega)).trans g2
    exact ⟨((g1.trans (hb.mono g1.size)).cell (p := ⟨tb, 0, none⟩) HTW.out).trans HC0.out, by rw [cell_heap e]; rfl, by rw [cell_heap e]; rfl, hb⟩
  have HS := Lib.hid hS
  have hS0 : Below W1.heap.size W1 W1.drew := (Below.refl _ _).drew
  have hif : (if n = p then some (⟨ge, 0, none⟩ : Addr) else some ⟨ge, p * 8, none⟩) = some ⟨ge, p * 8, none⟩ := if_neg (by omega)
  have HPK : Hid (∀ w', Below W1.heap.size W1 w' → Calls Tryz.prog 22 #[.slice (if n = p then some ⟨ge, 0, none⟩ else some ⟨ge, p * 8, none⟩) (f - p) (n - p)] w' fun e w'' => e = .returned (.string (strL OUT)) ∧ Below W1.heap.size W1 w'') := Lib.hid fun w' hb => by
    rw [hif]
    exact (HPR.out w' (g1.trans (hb.mono g1.size))).mono fun e w'' h => ⟨h.1, hb.trans (h.2.mono hb.size)⟩
  have HG1 := Lib.hid g1
  clear hif hS g1 g2 g3 c0 c1 e0 e1 e2 e3 e4 e5 e6 e7 e8 e9 e10 e11 hW1
  have j1 : (0 : Int) ≤ (p : Int) := by omega
  have j2 : (p : Int) ≤ (f : Int) := by omega
  have j3 : (f : Int) ≤ (n : Int) := by omega
  go_region_held3 (fun w' => w'.cell? ⟨tb, 0, none⟩ = some (.slice (some ⟨ge, 0, none⟩) n n) ∧ w'.cell? ⟨w.heap.size, 10, none⟩ = some (.int .i64 p) ∧ w'.cell? ⟨w.heap.size, 11, none⟩ = some (.int .i64 f) ∧ Below W1.heap.size W1 w') (first | exact HS.out _ ‹_› | go_keep) (first | (go_at_call 22; (with_reducible refine (HPK.out _ ‹_›).mono ?_); rintro e w5 ⟨rfl, hb5⟩))
  go_wp2_with fail
  go_ret2
  exact ⟨rfl, HG1.out.trans (hb5.mono HG1.out.size)⟩
end Go.Proofs.YtgnpbckjdlhkjaaGreatDoor

/-
  The plain law of gimletref09.Beginning: what its loop knows.
-/
namespace Go.Proofs.YtgnpbckjdlhkjaaGreatDoor
open Go.RowKit

/-- what Beginning answers -/
def begR (l : List Ev) : Bool × Int × Bool := match begAll beg0 l with
  | some s => (true, s.opn.length, decide (l ≠ [] ∧ s.opn = []))
  | none => (false, 0, false)
def retB (r : Bool × Int × Bool) : Ending := .returned (.tuple #[.bool r.1, .int .i64 r.2.1, .bool r.2.2])
theorem retB_bad {l : List Ev} (h : begR l = (false, 0, false)) : Ending.returned (.tuple #[.bool false, .int .i64 0, .bool false]) = retB (begR l) := by rw [h]; rfl
/-- where the open elements were opened -/
def PosOk (evs : List Ev) : List Nat → List (Int × Int × List UInt8) → Prop
  | [], [] => True
  | p :: ps, x :: xs => (∃ e, evs[p]? = some e ∧ x = (e.num, e.dep, e.name)) ∧ PosOk evs ps xs
  | _, _ => False
theorem PosOk.length {evs : List Ev} : ∀ {ps : List Nat} {xs : List (Int × Int × List UInt8)}, PosOk evs ps xs → ps.length = xs.length
  | [], [], _ => rfl
  | p :: ps, x :: xs, h => by rw [List.length_cons, List.length_cons, PosOk.length h.2]
  | [], _ :: _, h => h.elim
  | _ :: _, [], h => h.elim
def posC (l : List Nat) : List Value := l.reverse.map fun (p : Nat) => .int .i64 (p : Int)
theorem posC_cons (p : Nat) (l : List Nat) : posC (p :: l) = posC l ++ [.int .i64 p] := by simp [posC]
theorem posC_length (l : List Nat) : (posC l).length = l.length := by simp [posC]
theorem posC_top (p : Nat) (l : List Nat) : (posC (p :: l))[l.length]? = some (.int .i64 p) := by rw [posC_cons, ← posC_length]; simp
structure BgInv (evs : List Ev) (k : Nat) (s : BegS) (nx : Int) (pos : List Nat) : Prop where
  all : begAll beg0 (evs.take k) = some s
  nx : s.next = nx
  pos : PosOk evs pos s.opn
  text : ∀ j, k = j + 1 → ∃ e, evs[j]? = some e ∧ s.text = (e.kind == 1)
variable {evs : List Ev} {k : Nat} {s : BegS} {nx : Int} {pos : List Nat} {e : Ev}
theorem BgInv.cnt (h : BgInv evs k s nx pos) (hk : k ≤ evs.length) : s.cnt = k := by
  have h1 := (nodesB_inv h.all).cnt
  rw [h1, List.length_take]; omega
theorem BgInv.len (h : BgInv evs k s nx pos) : pos.length = s.opn.length := h.pos.length
theorem BgInv.next (h : BgInv evs k s nx pos) (hek : evs[k]? = some e) (hok : begOk s e = true) : begAll beg0 (evs.take (k + 1)) = some (begNext s e) := by
  obtain ⟨hk, hee⟩ := List.getElem?_eq_some_iff.1 hek
  rw [List.take_succ_eq_append_getElem hk, begAll_snoc, h.all, hee]
  simp [hok]
theorem BgInv.bad (h : BgInv evs k s nx pos) (hek : evs[k]? = some e) (hok : begOk s e = false) : begR evs = (false, 0, false) := by
  obtain ⟨hk, hee⟩ := List.getElem?_eq_some_iff.1 hek
  have : begAll beg0 evs = none := by
    rw [← List.take_append_drop k evs, begAll_app, h.all, List.drop_eq_getElem_cons hk, hee]
    simp [begAll, hok]
  unfold begR
  rw [this]
theorem BgInv.step0 (h : BgInv evs k s nx pos) (hek : evs[k]? = some e) (h0 : e.kind = 0) (hok : begOk s e = true) : BgInv evs (k + 1) (begNext s e) (nx + 1) (k :: pos) :=
  ⟨h.next hek hok, by rw [← h.nx]; simp [begNext, h0], by
    have : (begNext s e).opn = (e.num, e.dep, e.name) :: s.opn := by simp [begNext, h0]
    rw [this]
    exact ⟨⟨e, hek, rfl⟩, h.pos⟩, fun j hj => ⟨e, by rw [show j = k by omega]; exact hek, rfl⟩⟩
theorem BgInv.step1 (h : BgInv evs k s nx pos) (hek : evs[k]? = some e) (h1 : e.kind = 1) (hok : begOk s e = true) : BgInv evs (k + 1) (begNext s e) (nx + 1) pos :=
  ⟨h.next hek hok, by rw [← h.nx]; simp [begNext, h1], by
    have : (begNext s e).opn = s.opn := by simp [begNext, h1]
    rw [this]
    exact h.pos, fun j hj => ⟨e, by rw [show j = k by omega]; exact hek, rfl⟩⟩
theorem BgInv.step2 {p : Nat} (h : BgInv evs k s nx (p :: pos)) (hek : evs[k]? = some e) (h2 : e.kind = 2) (hok : begOk s e = true) : BgInv evs (k + 1) (begNext s e) nx pos :=
  ⟨h.next hek hok, by rw [← h.nx]; simp [begNext, h2], by
    have : (begNext s e).opn = s.opn.tail := by simp [begNext, h2]
    rw [this]
    have hp := h.pos
    cases ho : s.opn with
    | nil => rw [ho] at hp; exact hp.elim
    | cons x xs => rw [ho] at hp; exact hp.2, fun j hj => ⟨e, by rw [show j = k by omega]; exact hek, rfl⟩⟩
/-- the element that was opened last -/
theorem BgInv.top {p : Nat} (h : BgInv evs k s nx (p :: pos)) : ∃ e', evs[p]? = some e' ∧ s.opn.head? = some (e'.num, e'.dep, e'.name) := by
  have hp := h.pos
  cases ho : s.opn with
  | nil => rw [ho] at hp; exact hp.elim
  | cons x xs =>
    rw [ho] at hp
    obtain ⟨e', h1, h2⟩ := hp.1
    exact ⟨e', h1, by rw [h2]; rfl⟩
theorem dec_and (a b : Prop) [Decidable a] [Decidable b] : decide (a ∧ b) = (decide a && decide b) := by simp
theorem begOk0 (s : BegS) (num dep : Int) (name text : List UInt8) (ats : List (List UInt8 × List UInt8)) (fr tt : Int) :
    begOk s ⟨0, num, dep, name, ats, text, fr, tt⟩ = (decide (s.cnt = 0 ∨ s.opn ≠ []) && (decide (num = s.next) && (decide (dep = (s.opn.length : Int) + 1) && (text.isEmpty && (nameB name && attrsB none ats))))) := by
  unfold begOk
  rw [if_pos rfl, dec_and, dec_and, dec_and]
  have : decide (text = []) = text.isEmpty := by cases text <;> simp
  simp only [this, Bool.and_assoc]
theorem begOk1 (s : BegS) (num dep : Int) (name text : List UInt8) (ats : List (List UInt8 × List UInt8)) (fr tt : Int) :
    begOk s ⟨1, num, dep, name, ats, text, fr, tt⟩ = (decide (s.opn ≠ []) && (decide (num = s.next) && (decide (dep = (s.opn.length : Int) + 1) && (name.isEmpty && (ats.isEmpty && (!text.isEmpty && (textsB text && !s.text))))))) := by
  unfold begOk
  rw [if_neg (by simp), if_pos rfl, dec_and, dec_and, dec_and, dec_and, dec_and]
  have h1 : decide (name = []) = name.isEmpty := by cases name <;> simp
  have h2 : decide (ats = []) = ats.isEmpty := by cases ats <;> simp
  have h3 : decide (text ≠ []) = !text.isEmpty := by cases text <;> simp
  simp only [h1, h2, h3, Bool.and_assoc]
theorem begOk2 (s : BegS) (num dep : Int) (name text : List UInt8) (ats : List (List UInt8 × List UInt8)) (fr tt : Int) :
    begOk s ⟨2, num, dep, name, ats, text, fr, tt⟩ = (text.isEmpty && (ats.isEmpty && decide (s.opn.head? = some (num, dep, name)))) := by
  unfold begOk
  rw [if_neg (by simp), if_neg (by simp), if_pos rfl, dec_and, dec_and]
  have h1 : decide (text = []) = text.isEmpty := by cases text <;> simp
  have h2 : decide (ats = []) = ats.isEmpty := by cases ats <;> simp
  simp only [h1, h2]
theorem begOk3 (s : BegS) (e : Ev) (h0 : e.kind ≠ 0) (h1 : e.kind ≠ 1) (h2 : e.kind ≠ 2) : begOk s e = false := by
  unfold begOk
  rw [if_neg h0, if_neg h1, if_neg h2]
theorem begOk_closed (s : BegS) (e : Ev) (h0 : s.cnt ≠ 0) (h1 : s.opn = []) : begOk s e = false := by
  unfold begOk
  split
  · rw [decide_eq_false (by simp [h0, h1])]; rfl
  · split
    · rw [decide_eq_false (by simp [h1])]; rfl
    · split
      · rw [decide_eq_false (by simp [h1])]
      · rfl
theorem begR_all (h : begAll beg0 evs = some s) : begR evs = (true, (s.opn.length : Int), decide (evs ≠ [] ∧ s.opn = [])) := by unfold begR; rw [h]
end Go.Proofs.YtgnpbckjdlhkjaaGreatDoor
