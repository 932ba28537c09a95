/-
  ask.goodExpr.
-/
import Derived.Test.YtgjokdngbocehaaGreatDoorHtA
import Derived.Test.YtgjokdngbocehaaGreatDoorHtD
import Derived.Test.YtgjokdngbocehaaGreatDoorHtE
import Derived.Test.YtgjokdngbocehaaGreatDoorHtF
import Derived.Test.YtgjokdngbocehaaGreatDoorHtK
namespace Go.Proofs.YtgjokdngbocehaaGreatDoor
open Go.RowKit
set_option maxRecDepth 100000 in
set_option maxHeartbeats 8000000 in
theorem goodSome_any {f:Nat} (GX:GoodX f) (x:PX) (cs:List Value) (w:World) (hE:EnvT w) (h:XAt (f + 1) w x cs) (hop:x.op = 3) :
  Calls Tryz.prog 91 #[.agg cs.toArray] w fun e w'=>e = .returned (.bool (goodXB (f + 1) x)) ∧ Below w.heap.size w w':=by
 obtain ⟨aa,ac,pa,pc,rfl,hal,hpl,_,_,_,hatl,htxl,hargl,hpathl,hargs,hpath⟩:=h
 have hb0:=(Below.refl w.heap.size w).alloc (Nat.le_refl _) (.cells (exprC x aa ac pa pc).toArray 42)
 have HB0:=Lib.hid hb0
 have HGP:Hid (Calls Tryz.prog 31 #[.agg #[.slice pa x.path.length pc]] (w.alloc (.cells (exprC x aa ac pa pc).toArray 42)) fun e w'=>e = .returned (.bool (goodPB (goodXB f) x.path)) ∧ Below (w.alloc (.cells (exprC x aa ac pa pc).toArray 42)).heap.size (w.alloc (.cells (exprC x aa ac pa pc).toArray 42)) w') :=
  Lib.hid (goodPath_any GX pa pc x.path _ (hE.below hb0) (SsAt.below hpath hb0) hpathl)
 have HNM:Hid (∀ W,Below w.heap.size w W → Calls Tryz.prog 88 #[.string (strL x.attr)] W fun e w'=>e = .returned (.bool (nameB x.attr)) ∧ Below W.heap.size W w'):=Lib.hid fun W hW=>nameL_any x.attr W hatl (hE.below hW)
 have HGT:Hid (∀ W,Below w.heap.size w W → Calls Tryz.prog 116 #[.string (strL x.text)] W fun e w'=>e = .returned (.bool (goodTB x.text)) ∧ Below W.heap.size W w'):=Lib.hid fun W hW=>goodText_any x.text W htxl (hE.below hW)
 have hse:=strL_isE2 x.attr
 have hst:=strL_isE2 x.text
 have hb0s:(w.alloc (.cells (exprC x aa ac pa pc).toArray 42)).heap.size = w.heap.size + 1:=by simp
 have HCL:Hid (∀ W,Below (w.alloc (.cells (exprC x aa ac pa pc).toArray 42)).heap.size (w.alloc (.cells (exprC x aa ac pa pc).toArray 42)) W → W.cell? ⟨w.heap.size,3,none⟩ = some (.string (strL x.attr)) ∧ W.cell? ⟨w.heap.size,4,none⟩ = some (.int .i64 x.cmp) ∧ W.cell? ⟨w.heap.size,5,none⟩ = some (.string (strL x.text)) ∧ W.cell? ⟨w.heap.size,6,none⟩ = some (.int .i64 x.num)):=Lib.hid fun W hW=>by
  have k:=fun j=>hW.cell (p:=⟨w.heap.size,j,none⟩) (by rw [hb0s];exact Nat.lt_succ_self _)
  refine ⟨(k 3).trans ?_,(k 4).trans ?_,(k 5).trans ?_,(k 6).trans ?_⟩ <;> (rw [cell_heap (heap_alloc_new w _)];rfl)
 obtain ⟨R,hR⟩:∃ R,goodXB (f + 1) x = R:=⟨_,rfl⟩
 rw [hR]
 have HR:Hid ((x.args.isEmpty && goodPB (goodXB f) x.path && (x.attr.isEmpty || nameB x.attr) && goodCB x.cmp x.text x.num) = R):=Lib.hid (by rw [← hR];unfold goodXB;rw [if_pos hop])
 have HSZ:Hid (w.heap.size + 1 ≤ (w.alloc (.cells (exprC x aa ac pa pc).toArray 42)).heap.size):=Lib.hid (by rw [hb0s];exact Nat.le_refl _)
 clear hb0 hE hargs hpath hR hb0s hatl htxl
 unfold exprC at *
 rw [hop] at *
 have hne:x.args.isEmpty = decide (x.args.length = 0):=by cases x.args <;> simp
 rw [hne] at HR
 clear hop hne
 generalize x.args.length = n at *
 generalize x.path.length = m at *
 generalize goodPB (goodXB f) x.path = G2 at *
 generalize x.attr.isEmpty = E3 at *
 generalize nameB x.attr = V3 at *
 generalize x.attr = at3 at *
 generalize x.cmp = cm at *
 generalize x.text = tx at *
 generalize x.num = nu at *
 by_cases hn:n = 0
 rotate_left
 ·have HF:Hid (false = R):=Lib.hid (by rw [← HR.out,decide_eq_false hn];rfl)
  have i1:(0:Int) < (n:Int):=by omega
  clear HGT HCL
  go_enter Tryz.func91,Tryz.ntmps91
  go_wp2_with fail
  go_ret
  exact ⟨ret_bool HF.out,HB0.out⟩
 subst hn
 simp only [decide_true,Bool.true_and] at HR
 go_enter Tryz.func91,Tryz.ntmps91
 go_wp2_with fail
 (with_reducible refine HGP.out.mono ?_)
 rintro e w2 ⟨rfl,hb2⟩
 have HB2:=Lib.hid (HB0.out.trans (hb2.mono HB0.out.size))
 have HZ2:=Lib.hid (Nat.le_trans HSZ.out hb2.size)
 have HC2:=Lib.hid (HCL.out w2 hb2)
 have HK2:=Lib.hid hb2
 clear hb2
 cases G2 with
 | false =>
  go_wp2_with fail
  go_ret
  exact ⟨ret_bool HR.out,HB2.out⟩
 | true =>
  simp only [Bool.true_and] at HR
  cases E3 with
  | true =>
   simp only [Bool.true_or,Bool.true_and] at HR
   obtain ⟨c3,c4,c5,c6⟩:=HC2.out
   have HBW:=HB2
   have HSW:=HZ2
   clear HCL HNM HGP HK2
   by_cases d0:cm = 0
   ·subst d0
    rw [show goodCB 0 tx nu = (tx.isEmpty && nu == 0) from rfl] at HR
    clear HGT
    generalize tx.isEmpty = E5 at *
    cases E5 with
    | false =>
     go_wp2_with fail
     go_ret
     exact ⟨ret_bool HR.out,HBW.out⟩
    | true =>
     go_wp2_with fail
     go_ret
     exact ⟨ret_bool HR.out,HBW.out⟩
   have t0:((cm:Int) == 0) = false:=by simpa using d0
   by_cases d1:1 ≤ cm ∧ cm ≤ 5
   ·rw [show goodCB cm tx nu = (goodTB tx && nu == 0) from by unfold goodCB;rw [if_neg d0,if_pos d1]] at HR
    have d2:cm = 1 ∨ cm = 2 ∨ cm = 3 ∨ cm = 4 ∨ cm = 5:=by omega
    generalize goodTB tx = G5 at *
    rcases d2 with rfl | rfl | rfl | rfl | rfl
    all_goals
     go_wp2_with fail
     (with_reducible refine (HGT.out _ HBW.out).mono ?_)
     rintro e w7 ⟨rfl,hb7⟩
     have HB7:=Lib.hid (HBW.out.trans (hb7.mono HBW.out.size))
     have c67:w7.cell? ⟨w.heap.size,6,none⟩ = some (.int .i64 nu):=by
      rw [hb7.cell (p:=⟨w.heap.size,6,none⟩) (Nat.lt_of_succ_le HSW.out)];exact c6
     clear hb7
     cases G5 with
     | false =>
      go_wp2_with fail
      go_ret
      exact ⟨ret_bool HR.out,HB7.out⟩
     | true =>
      go_wp2_with fail
      go_ret
      exact ⟨ret_bool HR.out,HB7.out⟩
   clear HGT
   by_cases d3:6 ≤ cm ∧ cm ≤ 8
   ·rw [show goodCB cm tx nu = (tx.isEmpty && decide (0 ≤ nu) && decide (nu ≤ 1000000)) from by unfold goodCB;rw [if_neg d0,if_neg d1,if_pos d3]] at HR
    have d2:cm = 6 ∨ cm = 7 ∨ cm = 8:=by omega
    generalize tx.isEmpty = E5 at *
    clear d0 d1 d3
    rcases d2 with rfl | rfl | rfl
    all_goals
     cases E5 with
     | false =>
      go_wp2_with fail
      go_ret
      exact ⟨ret_bool HR.out,HBW.out⟩
     | true =>
      by_cases d4:0 ≤ nu
      ·have HR2:Hid (decide (nu ≤ 1000000) = R):=Lib.hid (by rw [← HR.out,decide_eq_true d4];rfl)
       go_wp2_with fail
       go_ret
       exact ⟨ret_bool HR2.out,HBW.out⟩
      ·have d5:nu < 0:=by omega
       have HR2:Hid (false = R):=Lib.hid (by rw [← HR.out,decide_eq_false d4];rfl)
       go_wp2_with fail
       go_ret
       exact ⟨ret_bool HR2.out,HBW.out⟩
   have HF:Hid (false = R):=Lib.hid (by rw [← HR.out];unfold goodCB;rw [if_neg d0,if_neg d1,if_neg d3])
   have t1:((cm:Int) == 1) = false:=by simp;omega
   have t2:((cm:Int) == 2) = false:=by simp;omega
   have t3:((cm:Int) == 3) = false:=by simp;omega
   have t4:((cm:Int) == 4) = false:=by simp;omega
   have t5:((cm:Int) == 5) = false:=by simp;omega
   have t6:((cm:Int) == 6) = false:=by simp;omega
   have t7:((cm:Int) == 7) = false:=by simp;omega
   have t8:((cm:Int) == 8) = false:=by simp;omega
   clear d0 d1 d3
   go_wp2_with fail
   go_ret
   exact ⟨ret_bool HF.out,HBW.out⟩
  | false =>
   simp only [Bool.false_or] at HR
   obtain ⟨c3,c4',c5',c6'⟩:=HC2.out
   go_wp2_with fail
   (with_reducible refine (HNM.out _ HB2.out).mono ?_)
   rintro e w3 ⟨rfl,hb3⟩
   have HBW:=Lib.hid (HB2.out.trans (hb3.mono HB2.out.size))
   have HK3:=Lib.hid (HK2.out.trans (hb3.mono HK2.out.size))
   have HSW:=Lib.hid (Nat.le_trans HZ2.out hb3.size)
   clear hb3 c3 c4' c5' c6'
   cases V3 with
   | false =>
    go_wp2_with fail
    go_ret
    exact ⟨ret_bool HR.out,HBW.out⟩
   | true =>
    simp only [Bool.true_and] at HR
    obtain ⟨c3,c4,c5,c6⟩:=HCL.out _ HK3.out
    clear HCL HNM HGP HK2 HK3
    by_cases d0:cm = 0
    ·subst d0
     rw [show goodCB 0 tx nu = (tx.isEmpty && nu == 0) from rfl] at HR
     clear HGT
     generalize tx.isEmpty = E5 at *
     cases E5 with
     | false =>
      go_wp2_with fail
      go_ret
      exact ⟨ret_bool HR.out,HBW.out⟩
     | true =>
      go_wp2_with fail
      go_ret
      exact ⟨ret_bool HR.out,HBW.out⟩
    have t0:((cm:Int) == 0) = false:=by simpa using d0
    by_cases d1:1 ≤ cm ∧ cm ≤ 5
    ·rw [show goodCB cm tx nu = (goodTB tx && nu == 0) from by unfold goodCB;rw [if_neg d0,if_pos d1]] at HR
     have d2:cm = 1 ∨ cm = 2 ∨ cm = 3 ∨ cm = 4 ∨ cm = 5:=by omega
     generalize goodTB tx = G5 at *
     rcases d2 with rfl | rfl | rfl | rfl | rfl
     all_goals
      go_wp2_with fail
      (with_reducible refine (HGT.out _ HBW.out).mono ?_)
      rintro e w7 ⟨rfl,hb7⟩
      have HB7:=Lib.hid (HBW.out.trans (hb7.mono HBW.out.size))
      have c67:w7.cell? ⟨w.heap.size,6,none⟩ = some (.int .i64 nu):=by
       rw [hb7.cell (p:=⟨w.heap.size,6,none⟩) (Nat.lt_of_succ_le HSW.out)];exact c6
      clear hb7
      cases G5 with
      | false =>
       go_wp2_with fail
       go_ret
       exact ⟨ret_bool HR.out,HB7.out⟩
      | true =>
       go_wp2_with fail
       go_ret
       exact ⟨ret_bool HR.out,HB7.out⟩
    clear HGT
    by_cases d3:6 ≤ cm ∧ cm ≤ 8
    ·rw [show goodCB cm tx nu = (tx.isEmpty && decide (0 ≤ nu) && decide (nu ≤ 1000000)) from by unfold goodCB;rw [if_neg d0,if_neg d1,if_pos d3]] at HR
     have d2:cm = 6 ∨ cm = 7 ∨ cm = 8:=by omega
     generalize tx.isEmpty = E5 at *
     clear d0 d1 d3
     rcases d2 with rfl | rfl | rfl
     all_goals
      cases E5 with
      | false =>
       go_wp2_with fail
       go_ret
       exact ⟨ret_bool HR.out,HBW.out⟩
      | true =>
       by_cases d4:0 ≤ nu
       ·have HR2:Hid (decide (nu ≤ 1000000) = R):=Lib.hid (by rw [← HR.out,decide_eq_true d4];rfl)
        go_wp2_with fail
        go_ret
        exact ⟨ret_bool HR2.out,HBW.out⟩
       ·have d5:nu < 0:=by omega
        have HR2:Hid (false = R):=Lib.hid (by rw [← HR.out,decide_eq_false d4];rfl)
        go_wp2_with fail
        go_ret
        exact ⟨ret_bool HR2.out,HBW.out⟩
    have HF:Hid (false = R):=Lib.hid (by rw [← HR.out];unfold goodCB;rw [if_neg d0,if_neg d1,if_neg d3])
    have t1:((cm:Int) == 1) = false:=by simp;omega
    have t2:((cm:Int) == 2) = false:=by simp;omega
    have t3:((cm:Int) == 3) = false:=by simp;omega
    have t4:((cm:Int) == 4) = false:=by simp;omega
    have t5:((cm:Int) == 5) = false:=by simp;omega
    have t6:((cm:Int) == 6) = false:=by simp;omega
    have t7:((cm:Int) == 7) = false:=by simp;omega
    have t8:((cm:Int) == 8) = false:=by simp;omega
    clear d0 d1 d3
    go_wp2_with fail
    go_ret
    exact ⟨ret_bool HF.out,HBW.out⟩
set_option maxRecDepth 100000 in
set_option maxHeartbeats 8000000 in
theorem goodElse_any {f:Nat} (GX:GoodX f) (x:PX) (cs:List Value) (w:World) (hE:EnvT w) (h:XAt (f + 1) w x cs) (hop:x.op ≠ 3) :
  Calls Tryz.prog 91 #[.agg cs.toArray] w fun e w'=>e = .returned (.bool (goodXB (f + 1) x)) ∧ Below w.heap.size w w':=by
 obtain ⟨aa,ac,pa,pc,rfl,hal,hpl,_,_,_,hatl,htxl,hargl,hpathl,hargs,hpath⟩:=h
 have hb0:=(Below.refl w.heap.size w).alloc (Nat.le_refl _) (.cells (exprC x aa ac pa pc).toArray 42)
 have HB0:=Lib.hid hb0
 have HCA:Hid (Calls Tryz.prog 89 #[.slice aa x.args.length ac,.func (.func 117) #[] #[]] (w.alloc (.cells (exprC x aa ac pa pc).toArray 42)) fun e w'=>e = .returned (.bool (x.args.any fun y=>!goodXB f y)) ∧ Below (w.alloc (.cells (exprC x aa ac pa pc).toArray 42)).heap.size (w.alloc (.cells (exprC x aa ac pa pc).toArray 42)) w'):=Lib.hid
  (containsArgs_any f ac aa x.args (fun y=>!goodXB f y) _ (XsAt.below hargs hb0) hargl fun y cs W' _ hW' hx=>gexpr1_any GX y cs W' ((hE.below hb0).below hW') hx)
 have hse:=strL_isE2 x.attr
 have hst:=strL_isE2 x.text
 obtain ⟨R,hR⟩:∃ R,goodXB (f + 1) x = R:=⟨_,rfl⟩
 rw [hR]
 have HR:Hid ((bareB x && (if x.op = 0 ∨ x.op = 1 then decide (2 ≤ x.args.length) else if x.op = 2 then decide (x.args.length = 1) else false) && !(x.args.any fun y=>!goodXB f y)) = R):=Lib.hid (by rw [← hR,any_not];unfold goodXB;rw [if_neg hop])
 have t3:((x.op:Int) == 3) = false:=by simpa using hop
 clear hb0 hE hargs hpath hR hatl htxl hop
 unfold exprC at *
 unfold bareB at HR
 have hne:x.path.isEmpty = decide (x.path.length = 0):=by cases x.path <;> simp
 rw [hne] at HR
 clear hne
 generalize (x.args.any fun y=>!goodXB f y) = Q at *
 generalize x.args.length = n at *
 generalize x.path.length = m at *
 generalize x.attr.isEmpty = E3 at *
 generalize x.text.isEmpty = E5 at *
 generalize x.attr = at3 at *
 generalize x.cmp = cm at *
 generalize x.text = tx at *
 generalize x.num = nu at *
 generalize x.op = op at *
 by_cases hm:m = 0
 rotate_left
 ·have HF:Hid (false = R):=Lib.hid (by rw [← HR.out,decide_eq_false hm];rfl)
  have i1:(0:Int) < (m:Int):=by omega
  go_enter Tryz.func91,Tryz.ntmps91
  go_wp2_with fail
  go_ret
  exact ⟨ret_bool HF.out,HB0.out⟩
 subst hm
 simp only [decide_true,Bool.true_and] at HR
 cases E3 with
 | false =>
  go_enter Tryz.func91,Tryz.ntmps91
  go_wp2_with fail
  go_ret
  exact ⟨ret_bool HR.out,HB0.out⟩
 | true =>
 simp only [Bool.true_and] at HR
 by_cases d0:cm = 0
 rotate_left
 ·have d1:((cm:Int) == 0) = false:=by simpa using d0
  have d2:((cm:Int) != 0) = true:=by simpa using d0
  have HF:Hid (false = R):=Lib.hid (by rw [← HR.out,d1];rfl)
  clear d0
  go_enter Tryz.func91,Tryz.ntmps91
  go_wp2_with fail
  go_ret
  exact ⟨ret_bool HF.out,HB0.out⟩
 subst d0
 rw [show ((0:Int) == 0) = true from rfl,Bool.true_and] at HR
 cases E5 with
 | false =>
  go_enter Tryz.func91,Tryz.ntmps91
  go_wp2_with fail
  go_ret
  exact ⟨ret_bool HR.out,HB0.out⟩
 | true =>
 simp only [Bool.true_and] at HR
 by_cases d0:nu = 0
 rotate_left
 ·have d1:((nu:Int) == 0) = false:=by simpa using d0
  have d2:((nu:Int) != 0) = true:=by simpa using d0
  have HF:Hid (false = R):=Lib.hid (by rw [← HR.out,d1];rfl)
  clear d0
  go_enter Tryz.func91,Tryz.ntmps91
  go_wp2_with fail
  go_ret
  exact ⟨ret_bool HF.out,HB0.out⟩
 subst d0
 rw [show ((0:Int) == 0) = true from rfl,Bool.true_and] at HR
 by_cases o1:op = 0 ∨ op = 1
 ·rw [if_pos o1] at HR
  by_cases l2:2 ≤ n
  ·rw [decide_eq_true l2,Bool.true_and] at HR
   have i1:(2:Int) ≤ (n:Int):=by omega
   clear l2
   rcases o1 with rfl | rfl
   all_goals
    go_enter Tryz.func91,Tryz.ntmps91
    go_wp2_with fail
    (with_reducible refine HCA.out.mono ?_)
    rintro e w2 ⟨rfl,hb2⟩
    go_wp2_with fail
    go_ret
    exact ⟨ret_bool HR.out,HB0.out.trans (hb2.mono HB0.out.size)⟩
  ·rw [decide_eq_false l2,Bool.false_and] at HR
   have i1:(n:Int) < 2:=by omega
   clear l2
   rcases o1 with rfl | rfl
   all_goals
    go_enter Tryz.func91,Tryz.ntmps91
    go_wp2_with fail
    go_ret
    exact ⟨ret_bool HR.out,HB0.out⟩
 rw [if_neg o1] at HR
 by_cases o2:op = 2
 ·subst o2
  rw [if_pos rfl] at HR
  clear o1
  by_cases l2:n = 1
  ·subst l2
   rw [decide_eq_true rfl,Bool.true_and] at HR
   go_enter Tryz.func91,Tryz.ntmps91
   go_wp2_with fail
   (with_reducible refine HCA.out.mono ?_)
   rintro e w2 ⟨rfl,hb2⟩
   go_wp2_with fail
   go_ret
   exact ⟨ret_bool HR.out,HB0.out.trans (hb2.mono HB0.out.size)⟩
  ·rw [decide_eq_false l2,Bool.false_and] at HR
   have i1:((n:Int) != 1) = true:=by simp;omega
   have i2:((n:Int) == 1) = false:=by simp;omega
   clear l2
   go_enter Tryz.func91,Tryz.ntmps91
   go_wp2_with fail
   go_ret
   exact ⟨ret_bool HR.out,HB0.out⟩
 rw [if_neg o2,Bool.false_and] at HR
 have t0:((op:Int) == 0) = false:=by simp;omega
 have t1:((op:Int) == 1) = false:=by simp;omega
 have t2:((op:Int) == 2) = false:=by simp;omega
 clear o1 o2
 go_enter Tryz.func91,Tryz.ntmps91
 go_wp2_with fail
 go_ret
 exact ⟨ret_bool HR.out,HB0.out⟩
theorem goodX_all:∀ f,GoodX f
 | 0=>fun _ _ _ _ h=>h.elim
 | f + 1=>fun x cs W hE h=>by
  by_cases hop:x.op = 3
  ·exact goodSome_any (goodX_all f) x cs W hE h hop
  ·exact goodElse_any (goodX_all f) x cs W hE h hop
end Go.Proofs.YtgjokdngbocehaaGreatDoor
namespace Go.Proofs.YtgjokdngbocehaaGreatDoor
open Go.RowKit
set_option maxRecDepth 100000 in
theorem brack_any (a b:Int) (w:World):Calls Tryz.prog 92 #[.int .i64 a,.int .i64 b] w fun e w'=>e = .returned (.bool (brackB a b)) ∧ w' = w:=by
 unfold brackB
 cases h1:(b == 1:Bool) <;> cases h2:(a != 2:Bool) <;> cases h3:(a == 0:Bool) <;> cases h4:(b == 0:Bool)
 all_goals
  go_enter Tryz.func92,Tryz.ntmps92
  go_wp2_with fail
  go_ret
  exact ⟨rfl,rfl⟩
def DeepX (f:Nat):Prop:=∀ (x:PX) (cs:List Value) (W:World),XAt f W x cs → goodXB f x = true → Calls Tryz.prog 57 #[.agg cs.toArray] W fun e w'=>e = .returned (.int .i64 (deepXN f x:Nat)) ∧ Below W.heap.size W w'
def deepI (d:PX → Nat) (ss:List PS) (i:Nat):Nat:=maxN ((ss.take i).map fun s=>maxN (s.wher.map fun x=>d x + 1))
def deepJ (d:PX → Nat) (l:List PX) (j:Nat):Nat:=maxN ((l.take j).map fun x=>d x + 1)
theorem deepI_succ (d:PX → Nat) (ss:List PS) (i:Nat) (h:i < ss.length):deepI d ss (i + 1) = max (deepI d ss i) (deepJ d ss[i].wher ss[i].wher.length):=by
 unfold deepI deepJ
 rw [List.take_succ_eq_append_getElem h,List.map_append,List.map_cons,List.map_nil,maxN_snoc,List.take_length]
theorem deepJ_succ (d:PX → Nat) (l:List PX) (j:Nat) (h:j < l.length):deepJ d l (j + 1) = max (deepJ d l j) (d l[j] + 1):=by
 unfold deepJ
 rw [List.take_succ_eq_append_getElem h,List.map_append,List.map_cons,List.map_nil,maxN_snoc]
theorem deepI_all (d:PX → Nat) (ss:List PS):deepI d ss ss.length = deepPN d ss:=by unfold deepI deepPN;rw [List.take_length]
theorem deepJ_le {f:Nat} (l:List PX) (j:Nat):deepJ (deepXN f) l j ≤ 2 * f + 1:=by
 refine maxN_le fun n hn=>?_
 obtain ⟨x,_,rfl⟩:=List.mem_map.1 hn
 have:=deepXN_le f x;omega
theorem deepI_le {f:Nat} (ss:List PS) (i:Nat):deepI (deepXN f) ss i ≤ 2 * f + 1:=by
 refine maxN_le fun n hn=>?_
 obtain ⟨s,_,rfl⟩:=List.mem_map.1 hn
 have:=deepJ_le (f:=f) s.wher s.wher.length
 unfold deepJ at this
 rw [List.take_length] at this
 exact this
theorem goodPB_at {g:PX → Bool} {ss:List PS} (h:goodPB g ss = true) (i:Nat) (hi:i < ss.length):goodSB g ss[i] = true:=by
 unfold goodPB at h
 rw [Bool.and_eq_true] at h
 exact List.all_eq_true.1 h.2 _ (List.getElem_mem hi)
theorem goodSB_at {g:PX → Bool} {s:PS} (h:goodSB g s = true) (j:Nat) (hj:j < s.wher.length):g s.wher[j] = true:=by
 unfold goodSB at h
 rw [Bool.and_eq_true] at h
 exact List.all_eq_true.1 h.2 _ (List.getElem_mem hj)
set_option maxRecDepth 100000 in
set_option maxHeartbeats 4000000 in
theorem deepPath_any {f:Nat} (DX:DeepX f) (hf:f ≤ 1048576) (a:Option Addr) (c:Nat) (ss:List PS) (w:World) (h:SsAt f w a ss) (hn:ss.length ≤ 1048576) (hg:goodPB (goodXB f) ss = true) :
  Calls Tryz.prog 32 #[.agg #[.slice a ss.length c]] w fun e w'=>e = .returned (.int .i64 (deepPN (deepXN f) ss:Nat)) ∧ Below w.heap.size w w':=by
 have HS:=Lib.hid h
 have HG:=Lib.hid hg
 have HB0:Hid (∀ o,Below w.heap.size w (w.alloc o)):=Lib.hid fun o=>(Below.refl _ _).alloc (Nat.le_refl _) o
 have HALL:=Lib.hid (deepI_all (deepXN f) ss)
 clear h hg
 obtain ⟨m,hm⟩:∃ m,ss.length = m:=⟨_,rfl⟩
 rw [hm] at hn ⊢
 have HM:=Lib.hid hm
 clear hm
 obtain ⟨R,hR⟩:∃ R,deepPN (deepXN f) ss = R:=⟨_,rfl⟩
 rw [hR]
 have HR:=Lib.hid hR
 clear hR
 go_enter Tryz.func32,Tryz.ntmps32
 go_wp2_with fail
 go_loopw [3,11] (fun nv iv wr=>∃ i n:Nat,iv = .int .i64 i ∧ nv = .int .i64 n ∧ i ≤ m ∧ Hid (n = deepI (deepXN f) ss i ∧ Below w.heap.size w wr)) (fun _ iv _=>m - (intOf iv).toNat)
 case atStart=>exact ⟨0,0,rfl,rfl,Nat.zero_le _,Lib.hid ⟨rfl,HB0.out _⟩⟩
 case round =>
  obtain ⟨i,n,rfl,rfl,him,HQ⟩:=hrel
  obtain ⟨w11,rfl⟩:∃ w11,w11 = wr:=⟨_,rfl⟩
  by_cases hlt:i < m
  ·have hil:i < ss.length:=by rw [HM.out];exact hlt
   obtain ⟨b,o,wa,wc,rfl,hb,hst,hcs⟩:=HS.out.get' i hil
   obtain ⟨k0,k1,k2,k3⟩:=hcs w11 HQ.out.2
   obtain ⟨wa',wc',hcs',_,_,_,_,hwl,hrow⟩:=hst
   have hwa:wa' = wa:=by have h3:=congrArg (fun l=>l[3]?) hcs';simp [stepC] at h3;exact h3.1.symm
   subst hwa
   have HSUC:Hid (deepI (deepXN f) ss (i + 1) = max (deepI (deepXN f) ss i) (deepJ (deepXN f) ss[i].wher ss[i].wher.length)):=Lib.hid (deepI_succ _ ss i hil)
   have HGW:Hid (∀ x ∈ ss[i].wher,goodXB f x = true):=Lib.hid fun x hx=>by
    obtain ⟨j,hj,rfl⟩:=List.getElem_of_mem hx
    exact goodSB_at (goodPB_at HG.out i hil) j hj
   have HROW:Hid (XsAt f w wa' ss[i].wher):=Lib.hid hrow
   clear hcs hcs' hrow hb
   have i1:(0:Int) ≤ (i:Int):=by omega
   have i2:(i:Int) < (m:Int):=by omega
   have ew:IntKind.i64.wrap ((i:Int) + 1) = (i:Int) + 1:=IntWalk.i64_in _ (by omega)
   generalize ss[i] = s at *
   generalize s.wher = wl at *
   have HBA:Hid (∀ o,Below w.heap.size w (w11.alloc o)):=Lib.hid fun o=>HQ.out.2.alloc HQ.out.2.size o
   generalize hq:wl.length = q at *
   have HQQ:=Lib.hid hq
   clear hq
   have hnb:n ≤ 2 * f + 1:=by rw [HQ.out.1];exact deepI_le ss i
   have HB12:=Lib.hid (HBA.out (.cells #[.int .i64 s.axis,.int .i64 s.test,.string (strL s.name),.slice wa' q wc] 76))
   clear HBA
   go_wp2_with fail
   generalize w11.alloc (.cells #[.int .i64 s.axis,.int .i64 s.test,.string (strL s.name),.slice wa' q wc] 76) = w12 at *
   go_loopw [3,18] (fun nv jv wr=>∃ j n2:Nat,jv = .int .i64 j ∧ nv = .int .i64 n2 ∧ j ≤ q ∧ n2 ≤ 2 * f + 1 ∧ Hid (n2 = max n (deepJ (deepXN f) wl j) ∧ Below w.heap.size w wr)) (fun _ jv _=>q - (intOf jv).toNat)
   case atStart=>exact ⟨0,n,rfl,rfl,Nat.zero_le _,hnb,Lib.hid ⟨(Nat.max_eq_left (Nat.zero_le _)).symm,HB12.out⟩⟩
   case round =>
    obtain ⟨j,n2,rfl,rfl,hjq,hn2,HJ⟩:=hrel
    obtain ⟨w13,rfl⟩:∃ w13,w13 = wr:=⟨_,rfl⟩
    by_cases hjl:j < q
    ·have hjw:j < wl.length:=by rw [HQQ.out];exact hjl
     obtain ⟨b2,o2,aa,ac,pa,pc,rfl,hb2,hx,hcs⟩:=HROW.out.get' j hjw
     obtain ⟨x0,x1,x2,x3,x4,x5,x6⟩:=hcs w13 HJ.out.2
     have HSU2:Hid (deepJ (deepXN f) wl (j + 1) = max (deepJ (deepXN f) wl j) (deepXN f wl[j] + 1)):=Lib.hid (deepJ_succ _ wl j hjw)
     have hlj:=deepJ_le (f:=f) wl (j + 1)
     have HBA:Hid (∀ o,Below w.heap.size w (w13.alloc o)):=Lib.hid fun o=>HJ.out.2.alloc HJ.out.2.size o
     have HDX:Hid (∀ W,Below w.heap.size w W → Calls Tryz.prog 57 #[.agg (exprC wl[j] aa ac pa pc).toArray] W fun e w'=>e = .returned (.int .i64 (deepXN f wl[j]:Nat)) ∧ Below W.heap.size W w'):=Lib.hid fun W hW =>
      DX wl[j] _ W (XAt.turn hW (Nat.le_refl _) hx) (HGW.out _ (List.getElem_mem hjw))
     rw [HSU2.out] at hlj
     clear hcs hx hb2
     generalize wl[j] = x at *
     have hdx:=deepXN_le f x
     generalize deepXN f x = dx at *
     generalize hdj:deepJ (deepXN f) wl j = dj at *
     unfold exprC at HDX
     have i3:(0:Int) ≤ (j:Int):=by omega
     have i4:(j:Int) < (q:Int):=by omega
     have ewj:IntKind.i64.wrap ((j:Int) + 1) = (j:Int) + 1:=IntWalk.i64_in _ (by omega)
     have ewd:IntKind.i64.wrap (1 + (dx:Int)) = 1 + (dx:Int):=IntWalk.i64_in _ (by omega)
     have HB14:=Lib.hid (HBA.out (.cells #[.int .i64 x.op,.slice aa x.args.length ac,.slice pa x.path.length pc,.string (strL x.attr),.int .i64 x.cmp,.string (strL x.text),.int .i64 x.num] 42))
     clear HBA
     go_wp2_with fail
     generalize w13.alloc (.cells #[.int .i64 x.op,.slice aa x.args.length ac,.slice pa x.path.length pc,.string (strL x.attr),.int .i64 x.cmp,.string (strL x.text),.int .i64 x.num] 42) = w14 at *
     (with_reducible refine (HDX.out _ HB14.out).mono ?_)
     rintro e w15 ⟨rfl,hb15⟩
     have HB15:=Lib.hid (HB14.out.trans (hb15.mono HB14.out.size))
     clear hb15
     have emax:max (n2:Int) (1 + (dx:Int)) = ((max n2 (dx + 1):Nat):Int):=by omega
     go_wp2_with fail
     go_roundw
     case rel=>exact ⟨j + 1,max n2 (dx + 1),by go_num,rfl,by omega,by omega,Lib.hid ⟨by rw [HSU2.out,HJ.out.1];omega,HB15.out⟩⟩
     case measure=>simp [intOf];omega
    ·have i4:(q:Int) ≤ (j:Int):=by omega
     have HFI:Hid (n2 = deepI (deepXN f) ss (i + 1)):=Lib.hid (by rw [HSUC.out,← HQ.out.1,HJ.out.1,show j = q by omega])
     go_wp2_with fail
     go_roundw
     case rel=>exact ⟨i + 1,n2,by go_num,rfl,by omega,Lib.hid ⟨HFI.out,HJ.out.2⟩⟩
     case measure=>simp [intOf];omega
  ·go_wp2_with fail
   go_ret
   exact ⟨ret_int (by rw [HQ.out.1,← HR.out,← HALL.out,HM.out,show i = m by omega]),HQ.out.2⟩
def deepA' (f:Nat) (op:Int) (l:List PX) (j:Nat):Nat:=maxN ((l.take j).map fun y=>deepXN f y + (if brackB op y.op then 1 else 0))
theorem deepA_succ (f:Nat) (op:Int) (l:List PX) (j:Nat) (h:j < l.length):deepA' f op l (j + 1) = max (deepA' f op l j) (deepXN f l[j] + (if brackB op l[j].op then 1 else 0)):=by
 unfold deepA'
 rw [List.take_succ_eq_append_getElem h,List.map_append,List.map_cons,List.map_nil,maxN_snoc]
theorem deepA_le (f:Nat) (op:Int) (l:List PX) (j:Nat):deepA' f op l j ≤ 2 * f + 1:=by
 refine maxN_le fun n hn=>?_
 obtain ⟨x,_,rfl⟩:=List.mem_map.1 hn
 have:=deepXN_le f x
 split <;> omega
theorem goodXB_args {f:Nat} {x:PX} (h:goodXB (f + 1) x = true) (hop:x.op ≠ 3):(x.op = 0 ∨ x.op = 1 ∨ (x.op = 2 ∧ x.args.length = 1)) ∧ ∀ y ∈ x.args,goodXB f y = true:=by
 unfold goodXB at h
 rw [if_neg hop,Bool.and_eq_true,Bool.and_eq_true] at h
 refine ⟨?_,List.all_eq_true.1 h.2⟩
 have h1:=h.1.2
 by_cases o1:x.op = 0 ∨ x.op = 1
 ·rcases o1 with o | o
  ·exact .inl o
  ·exact .inr (.inl o)
 ·rw [if_neg o1] at h1
  by_cases o2:x.op = 2
  ·rw [if_pos o2] at h1
   exact .inr (.inr ⟨o2,by simpa using h1⟩)
  ·rw [if_neg o2] at h1;cases h1
theorem goodXB_path {f:Nat} {x:PX} (h:goodXB (f + 1) x = true) (hop:x.op = 3):goodPB (goodXB f) x.path = true:=by
 unfold goodXB at h
 rw [if_pos hop] at h
 simp only [Bool.and_eq_true] at h
 exact h.1.1.2
set_option maxRecDepth 100000 in
set_option maxHeartbeats 4000000 in
theorem deepSome_any {f:Nat} (DX:DeepX f) (hf:f ≤ 1048576) (x:PX) (cs:List Value) (w:World) (h:XAt (f + 1) w x cs) (hg:goodXB (f + 1) x = true) (hop:x.op = 3) :
  Calls Tryz.prog 57 #[.agg cs.toArray] w fun e w'=>e = .returned (.int .i64 (deepXN (f + 1) x:Nat)) ∧ Below w.heap.size w w':=by
 obtain ⟨aa,ac,pa,pc,rfl,hal,hpl,_,_,_,hatl,htxl,hargl,hpathl,hargs,hpath⟩:=h
 have hb0:=(Below.refl w.heap.size w).alloc (Nat.le_refl _) (.cells (exprC x aa ac pa pc).toArray 42)
 have HB0:=Lib.hid hb0
 have HDP:Hid (Calls Tryz.prog 32 #[.agg #[.slice pa x.path.length pc]] (w.alloc (.cells (exprC x aa ac pa pc).toArray 42)) fun e w'=>e = .returned (.int .i64 (deepPN (deepXN f) x.path:Nat)) ∧ Below (w.alloc (.cells (exprC x aa ac pa pc).toArray 42)).heap.size (w.alloc (.cells (exprC x aa ac pa pc).toArray 42)) w') :=
  Lib.hid (deepPath_any DX hf pa pc x.path _ (SsAt.below hpath hb0) hpathl (goodXB_path hg hop))
 have hb0s:(w.alloc (.cells (exprC x aa ac pa pc).toArray 42)).heap.size = w.heap.size + 1:=by simp
 have HCL:Hid (∀ W,Below (w.alloc (.cells (exprC x aa ac pa pc).toArray 42)).heap.size (w.alloc (.cells (exprC x aa ac pa pc).toArray 42)) W → W.cell? ⟨w.heap.size,4,none⟩ = some (.int .i64 x.cmp)):=Lib.hid fun W hW=>by
  refine (hW.cell (p:=⟨w.heap.size,4,none⟩) (by rw [hb0s];exact Nat.lt_succ_self _)).trans ?_
  rw [cell_heap (heap_alloc_new w _)];rfl
 have hdl:deepPN (deepXN f) x.path ≤ 2 * f + 1:=by rw [← deepI_all];exact deepI_le ..
 obtain ⟨R,hR⟩:∃ R,deepXN (f + 1) x = R:=⟨_,rfl⟩
 rw [hR]
 have HR:Hid (deepPN (deepXN f) x.path + (if 3 ≤ x.cmp then 1 else 0) = R):=Lib.hid (by rw [← hR];unfold deepXN;rw [if_pos hop])
 clear hb0 hargs hpath hR hb0s hatl htxl hg
 unfold exprC at *
 rw [hop] at *
 clear hop
 generalize deepPN (deepXN f) x.path = d at *
 generalize x.args.length = n at *
 generalize x.path.length = m at *
 generalize strL x.attr = at3 at *
 generalize x.cmp = cm at *
 generalize strL x.text = tx at *
 generalize x.num = nu at *
 go_enter Tryz.func57,Tryz.ntmps57
 go_wp2_with fail
 (with_reducible refine HDP.out.mono ?_)
 rintro e w2 ⟨rfl,hb2⟩
 have HB2:=Lib.hid (HB0.out.trans (hb2.mono HB0.out.size))
 have c4:=HCL.out w2 hb2
 clear hb2 HCL HDP
 have ewd:IntKind.i64.wrap ((d:Int) + 1) = (d:Int) + 1:=IntWalk.i64_in _ (by omega)
 by_cases h3:3 ≤ cm
 ·rw [if_pos h3] at HR
  go_wp2_with fail
  go_ret
  exact ⟨ret_int (by rw [← HR.out];rfl),HB2.out⟩
 ·rw [if_neg h3] at HR
  have h3':cm < 3:=by omega
  go_wp2_with fail
  go_ret
  exact ⟨ret_int (by rw [← HR.out];rfl),HB2.out⟩
set_option maxRecDepth 100000 in
set_option maxHeartbeats 4000000 in
theorem deepNot_any {f:Nat} (DX:DeepX f) (hf:f ≤ 1048576) (x:PX) (cs:List Value) (w:World) (h:XAt (f + 1) w x cs) (hg:goodXB (f + 1) x = true) (hop:x.op = 2) :
  Calls Tryz.prog 57 #[.agg cs.toArray] w fun e w'=>e = .returned (.int .i64 (deepXN (f + 1) x:Nat)) ∧ Below w.heap.size w w':=by
 obtain ⟨aa,ac,pa,pc,rfl,hal,hpl,_,_,_,hatl,htxl,hargl,hpathl,hargs,hpath⟩:=h
 have hb0:=(Below.refl w.heap.size w).alloc (Nat.le_refl _) (.cells (exprC x aa ac pa pc).toArray 42)
 have HB0:=Lib.hid hb0
 obtain ⟨ho,hga⟩:=goodXB_args hg (by rw [hop];decide)
 have hl1:x.args.length = 1:=by omega
 obtain ⟨y,hy⟩:∃ y,x.args = [y]:=List.length_eq_one_iff.1 hl1
 have hR:deepXN (f + 1) x = deepXN f y + 1:=by
  rw [show deepXN (f + 1) x = (if x.op = 3 then deepPN (deepXN f) x.path + (if 3 ≤ x.cmp then 1 else 0) else if x.op = 2 then (match x.args with | []=>0 | y :: _=>deepXN f y + 1) else maxN (x.args.map fun y=>deepXN f y + (if brackB x.op y.op then 1 else 0))) from rfl,if_neg (by rw [hop];decide),if_pos hop,hy]
 rw [hR]
 have hx0:XsAt f w aa [y]:=hy ▸ hargs
 obtain ⟨b,o,ya,yc,yp,yd,rfl,hb,hyx,hcs⟩:=hx0.get' 0 (by simp)
 obtain ⟨k0,k1,k2,k3,k4,k5,k6⟩:=hcs _ hb0
 have HDX:Hid (Calls Tryz.prog 57 #[.agg (exprC y ya yc yp yd).toArray] (w.alloc (.cells (exprC x (some ⟨b,o,none⟩) ac pa pc).toArray 42)) fun e w'=>e = .returned (.int .i64 (deepXN f y:Nat)) ∧ Below (w.alloc (.cells (exprC x (some ⟨b,o,none⟩) ac pa pc).toArray 42)).heap.size (w.alloc (.cells (exprC x (some ⟨b,o,none⟩) ac pa pc).toArray 42)) w') :=
  Lib.hid (DX y _ _ (XAt.turn hb0 (Nat.le_refl _) hyx) (hga y (by rw [hy];exact List.mem_cons_self)))
 have hdl:=deepXN_le f y
 simp only [List.getElem_cons_zero,Nat.zero_mul,Nat.add_zero] at k0 k1 k2 k3 k4 k5 k6
 clear hb0 hargs hpath hR hatl htxl hg hga ho hcs hyx hx0 hb hy
 unfold exprC at *
 rw [hop,hl1] at *
 clear hop hl1
 generalize deepXN f y = d at *
 generalize x.path.length = m at *
 generalize strL x.attr = at3 at *
 generalize x.cmp = cm at *
 generalize strL x.text = tx at *
 generalize x.num = nu at *
 have ewd:IntKind.i64.wrap (1 + (d:Int)) = 1 + (d:Int):=IntWalk.i64_in _ (by omega)
 go_enter Tryz.func57,Tryz.ntmps57
 go_wp2_with fail
 (with_reducible refine HDX.out.mono ?_)
 rintro e w2 ⟨rfl,hb2⟩
 have HB2:=Lib.hid (HB0.out.trans (hb2.mono HB0.out.size))
 clear hb2 HDX
 go_wp2_with fail
 go_ret
 exact ⟨ret_int (by omega),HB2.out⟩
set_option maxRecDepth 100000 in
set_option maxHeartbeats 4000000 in
theorem deepList_any {f:Nat} (DX:DeepX f) (hf:f ≤ 1048576) (x:PX) (cs:List Value) (w:World) (h:XAt (f + 1) w x cs) (hg:goodXB (f + 1) x = true) (h3:x.op ≠ 3) (h2:x.op ≠ 2) :
  Calls Tryz.prog 57 #[.agg cs.toArray] w fun e w'=>e = .returned (.int .i64 (deepXN (f + 1) x:Nat)) ∧ Below w.heap.size w w':=by
 obtain ⟨aa,ac,pa,pc,rfl,hal,hpl,_,_,_,hatl,htxl,hargl,hpathl,hargs,hpath⟩:=h
 have hb0:=(Below.refl w.heap.size w).alloc (Nat.le_refl _) (.cells (exprC x aa ac pa pc).toArray 42)
 have hb0s:(w.alloc (.cells (exprC x aa ac pa pc).toArray 42)).heap.size = w.heap.size + 1:=by simp
 have HB0:=Lib.hid hb0
 obtain ⟨_,hga⟩:=goodXB_args hg h3
 obtain ⟨R,hR⟩:∃ R,deepXN (f + 1) x = R:=⟨_,rfl⟩
 rw [hR]
 have HR:Hid (deepA' f x.op x.args x.args.length = R):=Lib.hid (by
  rw [← hR]
  unfold deepXN deepA'
  rw [if_neg h3,if_neg h2,List.take_length])
 have HGA:=Lib.hid hga
 have HROW:Hid (XsAt f w aa x.args):=Lib.hid hargs
 have HCL:Hid (∀ W,Below (w.heap.size + 1) (w.alloc (.cells (exprC x aa ac pa pc).toArray 42)) W → W.cell? ⟨w.heap.size,0,none⟩ = some (.int .i64 x.op)):=Lib.hid fun W hW=>by
  refine (hW.cell (p:=⟨w.heap.size,0,none⟩) (Nat.lt_succ_self _)).trans ?_
  rw [cell_heap (heap_alloc_new w _)];rfl
 have HBB:Hid (Below (w.heap.size + 1) (w.alloc (.cells (exprC x aa ac pa pc).toArray 42)) (w.alloc (.cells (exprC x aa ac pa pc).toArray 42))):=Lib.hid (Below.refl _ _)
 have HSZ:Hid (w.heap.size + 1 ≤ (w.alloc (.cells (exprC x aa ac pa pc).toArray 42)).heap.size):=Lib.hid (by rw [hb0s];exact Nat.le_refl _)
 have t3:((x.op:Int) == 3) = false:=by simpa using h3
 have t2:((x.op:Int) == 2) = false:=by simpa using h2
 clear hb0 hargs hpath hR hb0s hatl htxl hg hga h3 h2
 unfold exprC at *
 generalize x.args = l at *
 generalize x.path.length = m at *
 generalize strL x.attr = at3 at *
 generalize x.cmp = cm at *
 generalize strL x.text = tx at *
 generalize x.num = nu at *
 generalize x.op = op at *
 generalize hq:l.length = q at *
 have HQQ:=Lib.hid hq
 clear hq
 go_enter Tryz.func57,Tryz.ntmps57
 go_wp2_with fail
 generalize w.alloc (.cells #[.int .i64 op,.slice aa q ac,.slice pa m pc,.string at3,.int .i64 cm,.string tx,.int .i64 nu] 42) = w0 at *
 go_loopw [4,32] (fun nv jv wr=>∃ j n2:Nat,jv = .int .i64 j ∧ nv = .int .i64 n2 ∧ j ≤ q ∧ n2 ≤ 2 * f + 1 ∧ Hid (n2 = deepA' f op l j ∧ Below w.heap.size w wr ∧ Below (w.heap.size + 1) w0 wr ∧ w.heap.size + 1 ≤ wr.heap.size)) (fun _ jv _=>q - (intOf jv).toNat)
 case atStart=>exact ⟨0,0,rfl,rfl,Nat.zero_le _,Nat.zero_le _,Lib.hid ⟨rfl,HB0.out,HBB.out,HSZ.out⟩⟩
 case round =>
  obtain ⟨j,n2,rfl,rfl,hjq,hn2,HJ⟩:=hrel
  obtain ⟨w13,rfl⟩:∃ w13,w13 = wr:=⟨_,rfl⟩
  by_cases hjl:j < q
  ·have hjw:j < l.length:=by rw [HQQ.out];exact hjl
   obtain ⟨b2,o2,ya,yc,yp,yd,rfl,hb2,hx,hcs⟩:=HROW.out.get' j hjw
   obtain ⟨x0,x1,x2,x3,x4,x5,x6⟩:=hcs w13 HJ.out.2.1
   have HSU2:Hid (deepA' f op l (j + 1) = max (deepA' f op l j) (deepXN f l[j] + (if brackB op l[j].op then 1 else 0))):=Lib.hid (deepA_succ f op l j hjw)
   have hlj:=deepA_le f op l (j + 1)
   have HDX:Hid (∀ W,Below w.heap.size w W → Calls Tryz.prog 57 #[.agg (exprC l[j] ya yc yp yd).toArray] W fun e w'=>e = .returned (.int .i64 (deepXN f l[j]:Nat)) ∧ Below W.heap.size W w'):=Lib.hid fun W hW =>
    DX l[j] _ W (XAt.turn hW (Nat.le_refl _) hx) (HGA.out _ (List.getElem_mem hjw))
   rw [HSU2.out] at hlj
   clear hcs hx hb2
   generalize l[j] = y at *
   have hdx:=deepXN_le f y
   generalize deepXN f y = dx at *
   generalize hdj:deepA' f op l j = dj at *
   have HBK:=Lib.hid fun W=>brack_any op y.op W
   unfold exprC at HDX
   have i3:(0:Int) ≤ (j:Int):=by omega
   have i4:(j:Int) < (q:Int):=by omega
   have ewj:IntKind.i64.wrap ((j:Int) + 1) = (j:Int) + 1:=IntWalk.i64_in _ (by omega)
   have ewd:IntKind.i64.wrap ((dx:Int) + 1) = (dx:Int) + 1:=IntWalk.i64_in _ (by omega)
   generalize hob:Obj.cells #[.int .i64 y.op,.slice ya y.args.length yc,.slice yp y.path.length yd,.string (strL y.attr),.int .i64 y.cmp,.string (strL y.text),.int .i64 y.num] 42 = ob
   have HB14:Hid (Below w.heap.size w (w13.alloc ob) ∧ Below (w.heap.size + 1) w0 (w13.alloc ob)):=Lib.hid ⟨HJ.out.2.1.alloc HJ.out.2.1.size _,HJ.out.2.2.1.alloc HJ.out.2.2.2 _⟩
   have HBX:Hid (w13.heap.size < (w13.alloc ob).heap.size ∧ (w13.alloc ob).heap[w13.heap.size]? = some ob):=Lib.hid ⟨by simp,heap_alloc_new w13 _⟩
   subst hob
   go_wp2_with fail
   generalize hP:w13.heap.size = P at *
   generalize w13.alloc (.cells #[.int .i64 y.op,.slice ya y.args.length yc,.slice yp y.path.length yd,.string (strL y.attr),.int .i64 y.cmp,.string (strL y.text),.int .i64 y.num] 42) = w14 at *
   (with_reducible refine (HDX.out _ HB14.out.1).mono ?_)
   rintro e w15 ⟨rfl,hb15⟩
   have HB15:Hid (Below w.heap.size w w15 ∧ Below (w.heap.size + 1) w0 w15 ∧ w.heap.size + 1 ≤ w15.heap.size):=Lib.hid ⟨HB14.out.1.trans (hb15.mono HB14.out.1.size),HB14.out.2.trans (hb15.mono (by have:=HBX.out.1;have:=HJ.out.2.2.2;omega)),by have:=HBX.out.1;have:=HJ.out.2.2.2;have:=hb15.size;omega⟩
   have c0:=HCL.out w15 HB15.out.2.1
   have y0:w15.cell? ⟨P,0,none⟩ = some (.int .i64 y.op):=by
    rw [hb15.cell (p:=⟨P,0,none⟩) HBX.out.1,cell_heap HBX.out.2];rfl
   clear hb15
   go_wp2_with fail
   (with_reducible refine (HBK.out _).mono ?_)
   rintro e w16 ⟨rfl,rfl⟩
   cases hbk:brackB op y.op with
   | true =>
    rw [if_pos hbk] at HSU2 hlj
    have emax:max (n2:Int) ((dx:Int) + 1) = ((max n2 (dx + 1):Nat):Int):=by omega
    clear hbk
    go_wp2_with fail
    go_roundw
    case rel=>exact ⟨j + 1,max n2 (dx + 1),by go_num,rfl,by omega,by have:=HJ.out.1;omega,Lib.hid ⟨by rw [HSU2.out,HJ.out.1],HB15.out⟩⟩
    case measure=>simp [intOf];omega
   | false =>
    rw [if_neg (by rw [hbk];decide)] at HSU2 hlj
    have emax:max (n2:Int) (dx:Int) = ((max n2 dx:Nat):Int):=by omega
    clear hbk
    go_wp2_with fail
    go_roundw
    case rel=>exact ⟨j + 1,max n2 dx,by go_num,rfl,by omega,by have:=HJ.out.1;omega,Lib.hid ⟨by rw [HSU2.out,HJ.out.1,Nat.add_zero],HB15.out⟩⟩
    case measure=>simp [intOf];omega
  ·have i4:(q:Int) ≤ (j:Int):=by omega
   go_wp2_with fail
   go_ret
   exact ⟨ret_int (by rw [HJ.out.1,← HR.out,show j = q by omega]),HJ.out.2.1⟩
theorem deepX_all:∀ f,f ≤ 1048576 → DeepX f
 | 0,_=>fun _ _ _ h _=>h.elim
 | f + 1,hf=>fun x cs W h hg=>by
  by_cases h3:x.op = 3
  ·exact deepSome_any (deepX_all f (by omega)) (by omega) x cs W h hg h3
  by_cases h2:x.op = 2
  ·exact deepNot_any (deepX_all f (by omega)) (by omega) x cs W h hg h2
  ·exact deepList_any (deepX_all f (by omega)) (by omega) x cs W h hg h3 h2
end Go.Proofs.YtgjokdngbocehaaGreatDoor
