/-
  The answer: three values; what is known of a comparison.
-/
import Derived.Test.YtgjokdngbocehaaGreatDoorHtA
import Derived.Test.YtgjokdngbocehaaGreatDoorHtD
import Derived.Test.YtgjokdngbocehaaGreatDoorHtE
import Derived.Test.YtgjokdngbocehaaGreatDoorHtF
import Derived.Test.YtgjokdngbocehaaGreatDoorHtG
import Derived.Test.YtgjokdngbocehaaGreatDoorHtH
import Derived.Test.YtgjokdngbocehaaGreatDoorHtI
import Derived.Test.YtgjokdngbocehaaGreatDoorHtJ
import Derived.Test.YtgjokdngbocehaaGreatDoorHtR
import Derived.Test.YtgjokdngbocehaaGreatDoorHtY
import Derived.Test.YtgjokdngbocehaaGreatDoorHtZA
import Derived.Test.YtgjokdngbocehaaGreatDoorHtZC
namespace Go.Proofs.YtgjokdngbocehaaGreatDoor
open Go.RowKit
theorem and15_any (a b:Int) (w:World):Calls Tryz.prog 62 #[.int .i64 a,.int .i64 b] w fun e w'=>e = .returned (.int .i64 (min a b)) ∧ w' = w:=by
 by_cases h:a < b
 ·have hm:min a b = a:=by omega
  rw [hm]
  go_enter Tryz.func62,Tryz.ntmps62
  go_wp2_with fail
  go_ret
  exact ⟨rfl,rfl⟩
 ·have hm:min a b = b:=by omega
  have h':b ≤ a:=by omega
  rw [hm]
  go_enter Tryz.func62,Tryz.ntmps62
  go_wp2_with fail
  go_ret
  exact ⟨rfl,rfl⟩
theorem or15_any (a b:Int) (w:World):Calls Tryz.prog 61 #[.int .i64 a,.int .i64 b] w fun e w'=>e = .returned (.int .i64 (max a b)) ∧ w' = w:=by
 by_cases h:b < a
 ·have hm:max a b = a:=by omega
  rw [hm]
  go_enter Tryz.func61,Tryz.ntmps61
  go_wp2_with fail
  go_ret
  exact ⟨rfl,rfl⟩
 ·have hm:max a b = b:=by omega
  have h':a ≤ b:=by omega
  rw [hm]
  go_enter Tryz.func61,Tryz.ntmps61
  go_wp2_with fail
  go_ret
  exact ⟨rfl,rfl⟩
theorem truth15_any (b:Bool) (w:World):Calls Tryz.prog 69 #[.bool b] w fun e w'=>e = .returned (.int .i64 (truthI b)) ∧ w' = w:=by
 cases b with
 | true =>
  go_enter Tryz.func69,Tryz.ntmps69
  go_wp2_with fail
  go_ret
  exact ⟨rfl,rfl⟩
 | false =>
  go_enter Tryz.func69,Tryz.ntmps69
  go_wp2_with fail
  go_ret
  exact ⟨rfl,rfl⟩
set_option maxRecDepth 100000 in
set_option maxHeartbeats 4000000 in
theorem came15_any (v:List UInt8) (x:PX) (w:World) (h1:v.length ≤ 1048576) (h2:x.text.length ≤ 1048576) :
  Calls Tryz.prog 99 #[.string (strL v),.int .i64 x.cmp,.string (strL x.text),.int .i64 x.num] w fun e w'=>e = .returned (.int .i64 (earlyT v x)) ∧ Below w.heap.size w w':=by
 have hs':(strL v).size ≤ 1048576:=by rw [strL_size];exact h1
 have ht':(strL x.text).size ≤ 1048576:=by rw [strL_size];exact h2
 have HBS:=Lib.hid fun W=>Begins3_any (strL x.text) (strL v) W ht' hs'
 have HBG:=Lib.hid fun W=>Begins3_any (strL v) (strL x.text) W hs' ht'
 have HFI:=Lib.hid fun W=>Find3_any (strL v) (strL x.text) W hs' ht'
 have HLE:=Lib.hid (Length3_any (strL v) w hs')
 obtain ⟨R,hR⟩:∃ R,earlyT v x = R:=⟨_,rfl⟩
 rw [hR]
 have HR:=Lib.hid hR
 unfold earlyT at HR
 simp only at HR
 clear h1 h2 hs' ht' hR
 generalize standsL (runesOf (strL x.text)) (runesOf (strL v)) 0 = vs at *
 generalize standsL (runesOf (strL v)) (runesOf (strL x.text)) 0 = vb at *
 generalize findL (runesOf (strL v)) (runesOf (strL x.text)) = vf at *
 generalize ((runesOf (strL v)).length:Int) = vl at *
 generalize x.cmp = cm at *
 generalize x.num = nu at *
 generalize strL x.text = tx at *
 generalize strL v = ht at *
 go_enter Tryz.func99,Tryz.ntmps99
 go_wp2_with fail
 (with_reducible refine HLE.out.mono ?_)
 rintro e w2 ⟨rfl,hb2⟩
 have HB2:=Lib.hid hb2
 clear hb2
 by_cases hc:cm = 0 ∨ cm = 1 ∨ cm = 2 ∨ cm = 3 ∨ cm = 5 ∨ cm = 6 ∨ cm = 7 ∨ cm = 8
 ·rcases hc with rfl | rfl | rfl | rfl | rfl | rfl | rfl | rfl
  ·go_wp2_with fail
   go_ret
   exact ⟨ret_int (by rw [← HR.out];rfl),HB2.out⟩
  ·go_wp2_with fail
   (with_reducible refine (HBS.out _).mono ?_)
   rintro e w3 ⟨rfl,hb3⟩
   have HB3:=Lib.hid (HB2.out.trans (hb3.mono HB2.out.size))
   clear hb3
   cases vs with
   | true=>go_wp2_with fail
           go_ret
           exact ⟨ret_int (by rw [← HR.out];rfl),HB3.out⟩
   | false=>go_wp2_with fail
            go_ret
            exact ⟨ret_int (by rw [← HR.out];rfl),HB3.out⟩
  ·go_wp2_with fail
   (with_reducible refine (HBS.out _).mono ?_)
   rintro e w3 ⟨rfl,hb3⟩
   have HB3:=Lib.hid (HB2.out.trans (hb3.mono HB2.out.size))
   clear hb3
   cases vs with
   | true=>go_wp2_with fail
           go_ret
           exact ⟨ret_int (by rw [← HR.out];rfl),HB3.out⟩
   | false=>go_wp2_with fail
            go_ret
            exact ⟨ret_int (by rw [← HR.out];rfl),HB3.out⟩
  ·go_wp2_with fail
   (with_reducible refine (HBG.out _).mono ?_)
   rintro e w3 ⟨rfl,hb3⟩
   have HB3:=Lib.hid (HB2.out.trans (hb3.mono HB2.out.size))
   clear hb3
   cases vb with
   | true=>go_wp2_with fail
           go_ret
           exact ⟨ret_int (by rw [← HR.out];rfl),HB3.out⟩
   | false =>
    go_wp2_with fail
    (with_reducible refine (HBS.out _).mono ?_)
    rintro e w4 ⟨rfl,hb4⟩
    have HB4:=Lib.hid (HB3.out.trans (hb4.mono HB3.out.size))
    clear hb4
    cases vs with
    | true=>go_wp2_with fail
            go_ret
            exact ⟨ret_int (by rw [← HR.out];rfl),HB4.out⟩
    | false=>go_wp2_with fail
             go_ret
             exact ⟨ret_int (by rw [← HR.out];rfl),HB4.out⟩
  ·go_wp2_with fail
   (with_reducible refine (HFI.out _).mono ?_)
   rintro e w3 ⟨rfl,hb3⟩
   have HB3:=Lib.hid (HB2.out.trans (hb3.mono HB2.out.size))
   clear hb3
   by_cases hv:0 ≤ vf
   ·go_wp2_with fail
    go_ret
    exact ⟨ret_int (by rw [← HR.out];simp [hv]),HB3.out⟩
   ·have hv':vf < 0:=by omega
    go_wp2_with fail
    go_ret
    exact ⟨ret_int (by rw [← HR.out];simp [hv]),HB3.out⟩
  ·by_cases hv:nu < vl
   ·go_wp2_with fail
    go_ret
    exact ⟨ret_int (by rw [← HR.out];simp [hv]),HB2.out⟩
   ·have hv':vl ≤ nu:=by omega
    go_wp2_with fail
    go_ret
    exact ⟨ret_int (by rw [← HR.out];simp [hv]),HB2.out⟩
  ·by_cases hv:nu < vl
   ·go_wp2_with fail
    go_ret
    exact ⟨ret_int (by rw [← HR.out];simp [hv]),HB2.out⟩
   ·have hv':vl ≤ nu:=by omega
    go_wp2_with fail
    go_ret
    exact ⟨ret_int (by rw [← HR.out];simp [hv]),HB2.out⟩
  ·by_cases hv:nu ≤ vl
   ·go_wp2_with fail
    go_ret
    exact ⟨ret_int (by rw [← HR.out];simp [hv]),HB2.out⟩
   ·have hv':vl < nu:=by omega
    go_wp2_with fail
    go_ret
    exact ⟨ret_int (by rw [← HR.out];simp [hv]),HB2.out⟩
 ·have t0:(cm == 0) = false:=by simp;omega
  have t1:(cm == 1) = false:=by simp;omega
  have t2:(cm == 2) = false:=by simp;omega
  have t3:(cm == 3) = false:=by simp;omega
  have t5:(cm == 5) = false:=by simp;omega
  have t6:(cm == 6) = false:=by simp;omega
  have t7:(cm == 7) = false:=by simp;omega
  have t8:(cm == 8) = false:=by simp;omega
  have HF:Hid (1 = R):=Lib.hid (by
   have:=HR.out
   rw [if_neg (by omega),if_neg (by omega),if_neg (by omega),if_neg (by omega),if_neg (by omega),if_neg (by omega),if_neg (by omega),if_neg (by omega)] at this
   exact this)
  clear hc HR
  go_wp2_with fail
  go_ret
  exact ⟨ret_int HF.out,HB2.out⟩
set_option maxRecDepth 100000 in
set_option maxHeartbeats 4000000 in
theorem comp15_any {an:Option Addr} {cn:Nat} {clo:Bool} {evs:List Ev} {hs:List HN} {rs:List RN} (n:Int) (y:HN) (x:PX) (aa:Option Addr) (ac:Nat) (pa:Option Addr) (pc:Nat) (w:World) (h:RD w an clo evs hs rs) (hn:-1 ≤ n) (hy:hs[(n + 1).toNat]? = some y) (h2:x.text.length ≤ 1048576) :
  Calls Tryz.prog 67 #[.agg #[.slice an rs.length cn,.bool clo],.int .i64 n,.agg (exprC x aa ac pa pc).toArray] w fun e w'=>e = .returned (.int .i64 (asksT y x)) ∧ Below w.heap.size w w':=by
 obtain ⟨W0,hW0⟩:∃ W0,W0 = (w.alloc (.cells #[.slice an rs.length cn,.bool clo] 90)).alloc (.cells #[.int .i64 x.op,.slice aa x.args.length ac,.slice pa x.path.length pc,.string (strL x.attr),.int .i64 x.cmp,.string (strL x.text),.int .i64 x.num] 42):=⟨_,rfl⟩
 have hb0:Below w.heap.size w W0:=by rw [hW0];exact ((Below.refl w.heap.size w).alloc (Nat.le_refl _) _).alloc (by simp) _
 have hsz0:W0.heap.size = w.heap.size + 2:=by rw [hW0];simp
 have hk0:W0.heap[w.heap.size]? = some (.cells #[.slice an rs.length cn,.bool clo] 90 (0,0)):=by
  rw [hW0,Below.heap_alloc _ _ _ (by simp)];exact heap_alloc_new w _
 have hk1:W0.heap[w.heap.size + 1]? = some (.cells #[.int .i64 x.op,.slice aa x.args.length ac,.slice pa x.path.length pc,.string (strL x.attr),.int .i64 x.cmp,.string (strL x.text),.int .i64 x.num] 42 (0,0)):=by
  rw [hW0];exact alloc_atR _ _ (by simp)
 have HKS:Hid (∀ W,Below W0.heap.size W0 W → W.cell? ⟨w.heap.size,0,none⟩ = some (.slice an rs.length cn) ∧ W.cell? ⟨w.heap.size,1,none⟩ = some (.bool clo) ∧ W.cell? ⟨w.heap.size + 1,3,none⟩ = some (.string (strL x.attr)) ∧ W.cell? ⟨w.heap.size + 1,4,none⟩ = some (.int .i64 x.cmp) ∧ W.cell? ⟨w.heap.size + 1,5,none⟩ = some (.string (strL x.text)) ∧ W.cell? ⟨w.heap.size + 1,6,none⟩ = some (.int .i64 x.num)):=Lib.hid fun W hW=>by
  have g0:=(hW.block w.heap.size (by omega)).trans hk0
  have g1:=(hW.block (w.heap.size + 1) (by omega)).trans hk1
  exact ⟨by rw [cell_heap g0];rfl,by rw [cell_heap g0];rfl,by rw [cell_heap g1];rfl,by rw [cell_heap g1];rfl,by rw [cell_heap g1];rfl,by rw [cell_heap g1];rfl⟩
 have FIN:Hid (∀ W,Below W0.heap.size W0 W → Below w.heap.size w W):=Lib.hid fun W hW=>hb0.trans (hW.mono hb0.size)
 have HAT:Hid (∀ W,Below W0.heap.size W0 W → Calls Tryz.prog 96 #[.slice an rs.length cn,.int .i64 n,.string (strL x.attr)] W fun e w'=>e = .returned (.tuple #[.string (strL ((attrH y x.attr).getD [])),.bool (attrH y x.attr).isSome]) ∧ Below W.heap.size W w'):=Lib.hid fun W hW=>attr15_any n y x.attr W (h.below (FIN.out W hW)) hn hy
 have HVA:Hid (∀ W,Below W0.heap.size W0 W → Calls Tryz.prog 98 #[.slice an rs.length cn,.int .i64 n] W fun e w'=>e = .returned (.string (strL y.txt)) ∧ w' = W):=Lib.hid fun W hW=>value15_any n y W (h.below (FIN.out W hW)) hn hy
 have HOP:Hid (∀ W,Below W0.heap.size W0 W → Calls Tryz.prog 38 #[.agg #[.slice an rs.length cn,.bool clo],.int .i64 n] W fun e w'=>e = .returned (.bool y.op) ∧ Below W.heap.size W w'):=Lib.hid fun W hW=>open15_any n y W (h.below (FIN.out W hW)) hn hy
 have htx:y.txt.length ≤ 1048576:=h.tx y (List.mem_of_getElem? hy)
 have HCA:Hid (∀ W,Calls Tryz.prog 99 #[.string (strL y.txt),.int .i64 x.cmp,.string (strL x.text),.int .i64 x.num] W fun e w'=>e = .returned (.int .i64 (earlyT y.txt x)) ∧ Below W.heap.size W w'):=Lib.hid fun W=>came15_any y.txt x W htx h2
 have HCP:Hid (∀ (s:List UInt8) W,s.length ≤ 1048576 → Calls Tryz.prog 97 #[.string (strL s),.int .i64 x.cmp,.string (strL x.text),.int .i64 x.num] W fun e w'=>∃ b2,e = .returned (.tuple #[.bool ((cmpB s x.cmp x.text x.num).getD false),.bool b2]) ∧ Below W.heap.size W w'):=Lib.hid fun s W hs=>by
  refine (Compared12_any s x.text x.cmp x.num W hs h2).mono fun e w' ⟨g1,g2⟩=>?_
  cases hc:cmpB s x.cmp x.text x.num with
  | some b=>exact ⟨true,by rw [g1,cmpQ_some hc];rfl,g2⟩
  | none=>exact ⟨false,by rw [g1,cmpQ_none hc];rfl,g2⟩
 have HTR:=Lib.hid truth15_any
 have HAV:Hid (∀ v,attrH y x.attr = some v → v.length ≤ 1048576):=Lib.hid fun v hv=>by
  unfold attrH at hv
  cases hf:y.ev.ats.find? fun p=>p.1 == x.attr with
  | none=>rw [hf] at hv;cases hv
  | some p =>
   rw [hf] at hv
   cases hv
   have hm:=List.mem_of_find?_eq_some hf
   by_cases hneg:n < 0
   ·have h0:(n + 1).toNat = 0:=by omega
    rw [h0] at hy
    obtain ⟨y0,g1,_,_,_,_,hk⟩:=h.root
    rw [hy] at g1
    cases g1
    rw [hk] at hm;cases hm
   ·have hi1:(n + 1).toNat = n.toNat + 1:=by omega
    rw [hi1] at hy
    obtain ⟨r,b,A,m,c,_,_,_,_,hsm,_⟩:=h.node n.toNat y hy
    exact (hsm.2.2.2 p hm).2
 obtain ⟨R,hR⟩:∃ R,asksT y x = R:=⟨_,rfl⟩
 rw [hR]
 have HR:Hid ((if x.attr ≠ [] then (match attrH y x.attr with | none=>0 | some v=>cmpT v x) else if y.op then earlyT y.txt x else cmpT y.txt x) = R):=Lib.hid (by
  rw [← hR]
  unfold asksT attrH
  cases y.ev.ats.find? fun p=>p.1 == x.attr <;> rfl)
 have HW0:=Lib.hid hW0
 have hae:(strL x.attr).toList.isEmpty = x.attr.isEmpty:=strU_empty x.attr
 have HTX:=Lib.hid htx
 unfold exprC
 clear hR hb0 hsz0 hk0 hk1 hW0 h hn hy h2 htx
 obtain ⟨p0,p1,p3,p4,p5,p6⟩:=HKS.out W0 (Below.refl _ _)
 go_enter Tryz.func67,Tryz.ntmps67
 by_cases ha:x.attr = []
 ·have hae2:(strL x.attr).toList.isEmpty = true:=by rw [hae,ha];rfl
  have HV0:=Lib.hid (HVA.out W0 (Below.refl _ _))
  have HO0:=Lib.hid (HOP.out W0 (Below.refl _ _))
  have HRX:Hid ((if y.op then earlyT y.txt x else cmpT y.txt x) = R):=Lib.hid (by have:=HR.out;rw [if_neg (by rw [ha];simp)] at this;exact this)
  clear ha hae HR HAT HAV
  generalize strL x.attr = at3 at *
  go_wp2_with fail
  rw [← HW0.out]
  go_wp2_with fail
  (with_reducible refine HV0.out.mono ?_)
  rintro e w2 ⟨rfl,rfl⟩
  go_wp2_with fail
  (with_reducible refine HO0.out.mono ?_)
  rintro e w3 ⟨rfl,hb3⟩
  have HB3:=Lib.hid hb3
  obtain ⟨p0,p1,p3,p4,p5,p6⟩:=HKS.out w3 hb3
  clear hb3
  cases hop:y.op with
  | true =>
   have HF:Hid (earlyT y.txt x = R):=Lib.hid (by have:=HRX.out;rw [hop] at this;exact this)
   have HCA3:=Lib.hid (HCA.out w3)
   clear HRX hop HCP HCA
   generalize earlyT y.txt x = R0 at *
   generalize strL y.txt = sv' at *
   generalize strL x.text = tx at *
   generalize x.cmp = cm at *
   go_wp2_with fail
   (with_reducible refine HCA3.out.mono ?_)
   rintro e w4 ⟨rfl,hb4⟩
   have HB4:=Lib.hid (HB3.out.trans (hb4.mono HB3.out.size))
   clear hb4
   go_wp2_with fail
   go_ret
   exact ⟨ret_int HF.out,FIN.out _ HB4.out⟩
  | false =>
   have HF:Hid (truthI ((cmpB y.txt x.cmp x.text x.num).getD false) = R):=Lib.hid (by have:=HRX.out;rw [hop] at this;exact this)
   have HCP3:=Lib.hid (HCP.out y.txt w3 HTX.out)
   clear HRX hop HCP HCA
   generalize (cmpB y.txt x.cmp x.text x.num).getD false = R0 at *
   generalize strL y.txt = sv' at *
   generalize strL x.text = tx at *
   generalize x.cmp = cm at *
   go_wp2_with fail
   (with_reducible refine HCP3.out.mono ?_)
   rintro e w4 ⟨b2,rfl,hb4⟩
   have HB4:=Lib.hid (HB3.out.trans (hb4.mono HB3.out.size))
   clear hb4
   go_wp2_with fail
   (with_reducible refine (HTR.out _ _).mono ?_)
   rintro e w5 ⟨rfl,rfl⟩
   go_wp2_with fail
   go_ret
   exact ⟨ret_int HF.out,FIN.out _ HB4.out⟩
 ·have hae2:(strL x.attr).toList.isEmpty = false:=by
   rw [hae]
   cases hx:x.attr with
   | nil=>exact absurd hx ha
   | cons _ _=>rfl
  have HA0:=Lib.hid (HAT.out W0 (Below.refl _ _))
  have HRX:Hid ((match attrH y x.attr with | none=>0 | some v=>cmpT v x) = R):=Lib.hid (by have:=HR.out;rw [if_pos ha] at this;exact this)
  clear ha hae HR HAT HVA HOP HCA
  generalize attrH y x.attr = ao at *
  generalize strL x.attr = at3 at *
  go_wp2_with fail
  rw [← HW0.out]
  go_wp2_with fail
  (with_reducible refine HA0.out.mono ?_)
  rintro e w2 ⟨rfl,hb2⟩
  have HB2:=Lib.hid hb2
  obtain ⟨p0,p1,p3,p4,p5,p6⟩:=HKS.out w2 hb2
  clear hb2
  cases ao with
  | none =>
   go_wp2_with fail
   go_ret
   exact ⟨ret_int HRX.out,FIN.out _ HB2.out⟩
  | some v =>
   have HF:Hid (truthI ((cmpB v x.cmp x.text x.num).getD false) = R):=Lib.hid HRX.out
   have HCP2:=Lib.hid (HCP.out v w2 (HAV.out v rfl))
   simp only [Option.getD_some,Option.isSome_some]
   clear HRX HCP HAV
   generalize (cmpB v x.cmp x.text x.num).getD false = R0 at *
   generalize strL v = sv' at *
   generalize strL x.text = tx at *
   generalize x.cmp = cm at *
   go_wp2_with fail
   (with_reducible refine HCP2.out.mono ?_)
   rintro e w4 ⟨b2,rfl,hb4⟩
   have HB4:=Lib.hid (HB2.out.trans (hb4.mono HB2.out.size))
   clear hb4
   go_wp2_with fail
   (with_reducible refine (HTR.out _ _).mono ?_)
   rintro e w5 ⟨rfl,rfl⟩
   go_wp2_with fail
   go_ret
   exact ⟨ret_int HF.out,FIN.out _ HB4.out⟩
end Go.Proofs.YtgjokdngbocehaaGreatDoor
namespace Go.Proofs.YtgjokdngbocehaaGreatDoor
open Go.RowKit
structure MJ (w:World) (P n:Nat) (l:List Int) (W:World):Prop where
 old:Below w.heap.size w W
 lo:w.heap.size ≤ P
 own:W.ownsRow P 3 1 (.slice (some ⟨P,0,none⟩) n n) n (tsC l)
 len:l.length = n
theorem MJ.below {w W W':World} {P n:Nat} {l:List Int} (h:MJ w P n l W) (hb:Below W.heap.size W W'):MJ w P n l W' :=
 ⟨h.old.trans (hb.mono h.old.size),h.lo,own_block h.own fun j hj=>by cases hj;exact hb.block _ (h.own.lt _ rfl).2,h.len⟩
theorem MJ.set {w W:World} {P n:Nat} {l:List Int} (h:MJ w P n l W) (i:Nat) (v:Int):MJ w P n (l.set i v) (W.setCell ⟨P,i,none⟩ (.int .i64 v)) :=
 ⟨h.old.setCell (p:=⟨P,i,none⟩) h.lo _,h.lo,by rw [← tsC_set];exact (h.own.stored i _).1,by rw [List.length_set];exact h.len⟩
theorem MJ.at {w W:World} {P n:Nat} {l:List Int} (h:MJ w P n l W) (i:Nat) (hi:i < n):W.cell? ⟨P,i,none⟩ = some (.int .i64 (l.getD i 0)):=by
 have hl:i < l.length:=by rw [h.len];exact hi
 rw [h.own.cellAt i (by omega),tsC_at l i hl];simp [hl]
theorem MJ.ts {w W:World} {P n:Nat} {l:List Int} (h:MJ w P n l W):TsAt W (some ⟨P,0,none⟩) n l :=
 ⟨h.len.symm,fun i hi=>⟨P,0,rfl,(h.own.lt _ rfl).2,by rw [Nat.zero_add,h.own.cellAt i (by have:=h.len;omega),tsC_at l i hi]⟩⟩
theorem MJ.frozen {w W:World} {P n:Nat} {l:List Int} (h:MJ w P n l W) (i:Nat):W.frozen? ⟨P,i,none⟩ = false:=h.own.frozenAt i
theorem MJ.lt {w W:World} {P n:Nat} {l:List Int} (h:MJ w P n l W):P < W.heap.size:=(h.own.lt _ rfl).2
theorem MJ.made {w W W':World} {n:Nat} (hold:Below w.heap.size w W)
  (hown:W'.ownsRow W.heap.size 3 1 (.slice (some ⟨W.heap.size,0,none⟩) n n) n (madeCells (Value.int .i64 0).cells (n * 1)).toList) (hgr:W.grownBy W' none):MJ w W.heap.size n (List.replicate n 0) W':=by
 have hb:=(Below.refl W.heap.size W).grown hgr (Nat.le_refl _) (fun k hk=>by cases hk)
 refine ⟨hold.trans (hb.mono hold.size),hold.size,?_,by simp⟩
 rw [Nat.mul_one,show (Value.int .i64 0).cells = #[.int .i64 0] from rfl,tsC_zero] at hown
 exact hown
theorem testT_two (h:HN) (s:PS):testT h s = 0 ∨ testT h s = 2:=by
 have ht:∀ b,truthI b = 0 ∨ truthI b = 2:=fun b=>by cases b <;> simp [truthI]
 unfold testT
 split
 ·exact ht _
 ·split
  ·exact ht _
  ·split
   ·exact ht _
   ·exact .inr rfl
theorem testT_truth (h:HN) (s:PS):truthI (decide (testT h s = 2)) = testT h s:=by
 rcases testT_two h s with e | e <;> rw [e] <;> rfl
def met2 (ex:PX → List Int) (hs:List HN) (s:PS) (k:Nat):List Int:=metK ex hs s (rowOf hs.length fun _=>2) k
def tst (hs:List HN) (s:PS) (k:Nat):Int:=(hs[k]?.map fun h=>testT h s).getD 0
theorem met2_zero (ex:PX → List Int) (hs:List HN) (s:PS):met2 ex hs s 0 = rowOf hs.length (tst hs s):=by
 have e:met2 ex hs s 0 = rowOf hs.length fun k=>andL [tst hs s k,(rowOf hs.length fun _=>2).getD k 0]:=by unfold met2 metK;rw [List.take_zero];rfl
 rw [e]
 refine rowOf_congr fun j hj=>?_
 have h3:T3 (tst hs s j):=by
  unfold tst
  rw [List.getElem?_eq_getElem hj]
  exact testT_3 _ _
 rw [rowOf_getD _ _ _ hj,andL_two h3 (by unfold T3;decide)]
 unfold T3 at h3;omega
theorem met2_3 (ex:PX → List Int) (hs:List HN) (s:PS) (k:Nat):R3 (met2 ex hs s k):=by
 have:met2 ex hs s k = metT ex hs (.mk s.axis s.test s.name (s.wher.take k)) (rowOf hs.length fun _=>2):=rfl
 rw [this];exact metT_3 _ _ _ _
theorem met2_len (ex:PX → List Int) (hs:List HN) (s:PS) (k:Nat):(met2 ex hs s k).length = hs.length:=by
 have:met2 ex hs s k = metT ex hs (.mk s.axis s.test s.name (s.wher.take k)) (rowOf hs.length fun _=>2):=rfl
 rw [this];exact metT_len ..
theorem met2_succ (ex:PX → List Int) (hs:List HN) (s:PS) (k:Nat) (h:k < s.wher.length) (h3:R3 (ex s.wher[k])):met2 ex hs s (k + 1) = rowOf hs.length fun i=>min ((met2 ex hs s k).getD i 0) ((ex s.wher[k]).getD i 0):=by
 unfold met2
 rw [metK_succ _ _ _ _ _ h]
 exact rowOf_congr fun j _=>andL_two ((met2_3 ex hs s k).at j) (h3.at j)
theorem met2_all (ex:PX → List Int) (hs:List HN) (s:PS):met2 ex hs s s.wher.length = metT ex hs s (rowOf hs.length fun _=>2):=metK_all _ _ _ _
def ExR (an:Option Addr) (cn:Nat) (clo:Bool) (evs:List Ev) (hs:List HN) (rs:List RN) (f:Nat):Prop:=∀ (x:PX) (cs:List Value) (W:World),RD W an clo evs hs rs → XAt f W x cs → goodXB f x = true →
 Calls Tryz.prog 36 #[.agg #[.slice an rs.length cn,.bool clo],.agg cs.toArray] W fun e w'=>∃ P,e = .returned (.slice (some ⟨P,0,none⟩) hs.length hs.length) ∧ W.heap.size ≤ P ∧ TsAt w' (some ⟨P,0,none⟩) hs.length (exprT hs f x) ∧ Below W.heap.size W w'
theorem RD.get {w:World} {an:Option Addr} {clo:Bool} {evs:List Ev} {hs:List HN} {rs:List RN} (h:RD w an clo evs hs rs) (k:Nat) (hk:k < rs.length + 1):∃ y,hs[k]? = some y:=⟨hs[k]'(by have:=h.len;omega),List.getElem?_eq_getElem _⟩
end Go.Proofs.YtgjokdngbocehaaGreatDoor
namespace Go.Proofs.YtgjokdngbocehaaGreatDoor
open Go.RowKit
set_option maxRecDepth 100000 in
set_option maxHeartbeats 8000000 in
theorem met15_any {an:Option Addr} {cn:Nat} {clo:Bool} {evs:List Ev} {hs:List HN} {rs:List RN} {f:Nat} (HX:ExR an cn clo evs hs rs f) (s:PS) (wa:Option Addr) (wn:Nat) (w:World) (h:RD w an clo evs hs rs) (hx:XsAt f w wa s.wher) (hn:s.wher.length ≤ 1048576) (hg:s.wher.all (goodXB f) = true) (ht:0 ≤ s.test ∧ s.test ≤ 3) :
  Calls Tryz.prog 59 #[.agg #[.slice an rs.length cn,.bool clo],.agg (stepC s wa wn).toArray] w fun e w'=>∃ P,e = .returned (.slice (some ⟨P,0,none⟩) hs.length hs.length) ∧ w.heap.size ≤ P ∧ TsAt w' (some ⟨P,0,none⟩) hs.length (metT (exprT hs f) hs s (rowOf hs.length fun _=>2)) ∧ Below w.heap.size w w':=by
 obtain ⟨i0,hi,hz0,hz1,hz2⟩:=info_parts infoInt
 obtain ⟨q,hq⟩:∃ q,s.wher.length = q:=⟨_,rfl⟩
 have HQ:=Lib.hid hq
 obtain ⟨L,hL⟩:∃ L,rs.length = L:=⟨_,rfl⟩
 obtain ⟨N,hN⟩:∃ N,hs.length = N:=⟨_,rfl⟩
 have hNL:N = L + 1:=by rw [← hL,← hN];exact h.len
 have hcap:L ≤ 400:=by rw [← hL];exact h.cap
 have HN0:=Lib.hid hN
 have HWX:Hid (∀ k (hk:k < s.wher.length),goodXB f s.wher[k] = true ∧ R3 (exprT hs f s.wher[k])):=Lib.hid fun k hk=>by
  have hgx:=List.all_eq_true.1 hg _ (List.getElem_mem hk)
  refine ⟨hgx,?_⟩
  cases f with
  | zero=>cases hgx
  | succ f=>exact (exprT_ok hs (by rw [hN,hNL];exact Nat.le_add_left _ _) f _).1
 have HALL:Hid (met2 (exprT hs f) hs s q = metT (exprT hs f) hs s (rowOf hs.length fun _=>2)):=Lib.hid (by rw [← hq];exact met2_all _ _ _)
 have HZ:Hid (met2 (exprT hs f) hs s 0 = rowOf N (tst hs s)):=Lib.hid (by rw [← hN];exact met2_zero _ _ _)
 have HSU:Hid (∀ k (hk:k < s.wher.length),met2 (exprT hs f) hs s (k + 1) = rowOf N fun i=>min ((met2 (exprT hs f) hs s k).getD i 0) ((exprT hs f s.wher[k]).getD i 0)):=Lib.hid fun k hk=>by rw [← hN];exact met2_succ _ _ _ k hk (HWX.out k hk).2
 have HML:Hid (∀ k,(met2 (exprT hs f) hs s k).length = N):=Lib.hid fun k=>by rw [← hN];exact met2_len _ _ _ _
 have HSS:=Lib.hid hx
 have HRD:=Lib.hid h
 have HEX:=Lib.hid HX
 obtain ⟨R,hR⟩:∃ R,metT (exprT hs f) hs s (rowOf hs.length fun _=>2) = R:=⟨_,rfl⟩
 rw [hR] at HALL
 rw [hR,hN,hL]
 unfold stepC
 rw [hq]
 rw [hq] at hn
 obtain ⟨W0,hW0⟩:∃ W0,W0 = (w.alloc (.cells #[.slice an L cn,.bool clo] 90)).alloc (.cells #[.int .i64 s.axis,.int .i64 s.test,.string (strL s.name),.slice wa q wn] 76):=⟨_,rfl⟩
 have hb0:Below w.heap.size w W0:=by rw [hW0];exact ((Below.refl w.heap.size w).alloc (Nat.le_refl _) _).alloc (by simp) _
 have hsz0:W0.heap.size = w.heap.size + 2:=by rw [hW0];simp
 have hk0:W0.heap[w.heap.size]? = some (.cells #[.slice an L cn,.bool clo] 90 (0,0)):=by
  rw [hW0,Below.heap_alloc _ _ _ (by simp)];exact heap_alloc_new w _
 have hk1:W0.heap[w.heap.size + 1]? = some (.cells #[.int .i64 s.axis,.int .i64 s.test,.string (strL s.name),.slice wa q wn] 76 (0,0)):=by
  rw [hW0];exact alloc_atR _ _ (by simp)
 have HKS:Hid (∀ W,Below W0.heap.size W0 W → W.cell? ⟨w.heap.size,0,none⟩ = some (.slice an L cn) ∧ W.cell? ⟨w.heap.size,1,none⟩ = some (.bool clo) ∧ W.cell? ⟨w.heap.size + 1,0,none⟩ = some (.int .i64 s.axis) ∧ W.cell? ⟨w.heap.size + 1,1,none⟩ = some (.int .i64 s.test) ∧ W.cell? ⟨w.heap.size + 1,2,none⟩ = some (.string (strL s.name)) ∧ W.cell? ⟨w.heap.size + 1,3,none⟩ = some (.slice wa q wn)):=Lib.hid fun W hW=>by
  have g0:=(hW.block w.heap.size (by omega)).trans hk0
  have g1:=(hW.block (w.heap.size + 1) (by omega)).trans hk1
  exact ⟨by rw [cell_heap g0];rfl,by rw [cell_heap g0];rfl,by rw [cell_heap g1];rfl,by rw [cell_heap g1];rfl,by rw [cell_heap g1];rfl,by rw [cell_heap g1];rfl⟩
 have FIN:Hid (∀ W,Below W0.heap.size W0 W → Below w.heap.size w W ∧ w.heap.size ≤ W0.heap.size):=Lib.hid fun W hW=>⟨hb0.trans (hW.mono hb0.size),hb0.size⟩
 have HME:Hid (∀ (k:Nat) (J:Int) W,k < N → J + 1 = (k:Int) → Below W0.heap.size W0 W → Calls Tryz.prog 93 #[.slice an L cn,.int .i64 J,.agg #[.int .i64 s.axis,.int .i64 s.test,.string (strL s.name),.slice wa q wn]] W fun e w'=>∃ b,e = .returned (.bool b) ∧ truthI b = tst hs s k ∧ Below W.heap.size W w'):=Lib.hid fun k J W hk hJ hW=>by
  obtain ⟨y,hy⟩:=h.get k (by omega)
  have hjk:(J + 1).toNat = k:=by omega
  have hm:=meets15_any (cn:=cn) J y s wa wn W (h.below (FIN.out W hW).1) (by omega) (by rw [hjk];exact hy) ht
  unfold stepC at hm
  rw [hL,hq] at hm
  refine hm.mono fun e w' ⟨g1,g2⟩=>⟨_,g1,?_,g2⟩
  rw [testT_truth]
  unfold tst
  rw [hy];rfl
 have HTR:=Lib.hid truth15_any
 have HAN:=Lib.hid and15_any
 have HMK:Hid (∀ w1,w1.ownsRow ((w.alloc (.cells #[.slice an L cn,.bool clo] 90)).alloc (.cells #[.int .i64 s.axis,.int .i64 s.test,.string (strL s.name),.slice wa q wn] 76)).heap.size 3 1 (.slice (some ⟨((w.alloc (.cells #[.slice an L cn,.bool clo] 90)).alloc (.cells #[.int .i64 s.axis,.int .i64 s.test,.string (strL s.name),.slice wa q wn] 76)).heap.size,0,none⟩) N N) N (madeCells (Value.int .i64 0).cells (N * 1)).toList → ((w.alloc (.cells #[.slice an L cn,.bool clo] 90)).alloc (.cells #[.int .i64 s.axis,.int .i64 s.test,.string (strL s.name),.slice wa q wn] 76)).grownBy w1 none → MJ W0 (w.heap.size + 1 + 1) N (List.replicate N 0) w1):=Lib.hid (by
  rw [← hW0]
  intro w1 hown hgr
  have:=MJ.made (w:=W0) (Below.refl _ _) hown hgr
  rw [hsz0] at this
  exact this)
 have HW0:=Lib.hid hW0
 have HL0:=Lib.hid hL
 have ewN:IntKind.i64.wrap ((L:Int) + 1) = (N:Int):=by rw [IntWalk.i64_in _ (by omega)];omega
 have hN1:1 ≤ N:=by omega
 obtain ⟨p0,p1,p2,p3,p4,p5⟩:=HKS.out W0 (Below.refl _ _)
 have HNI:Hid ((L:Int) + 1 = (N:Int)):=Lib.hid (by omega)
 have HNL:=Lib.hid hNL
 have hNb:N ≤ 401:=by omega
 clear hR hb0 hsz0 hk0 hk1 hW0 h hx hg ht HX hq hL hN hNL ewN
 go_enter Tryz.func59,Tryz.ntmps59
 go_wp2_with (at_make;go_must ((refine wpList_make_full ((w.alloc (.cells #[.slice an L cn,.bool clo] 90)).alloc (.cells #[.int .i64 s.axis,.int .i64 s.test,.string (strL s.name),.slice wa q wn] 76)) (by rfl) _ _ 66 (by rfl) ((w.alloc (.cells #[.slice an L cn,.bool clo] 90)).alloc (.cells #[.int .i64 s.axis,.int .i64 s.test,.string (strL s.name),.slice wa q wn] 76)).heap.size 3 i0 _ 1 Tryz.underlying66 hi hz0 hz1 .i64 .i64 ((L:Int) + 1) ((L:Int) + 1) N (by rfl) (by rfl) HNI.out HNI.out (by rw [hz2];omega) (by unfold maxLen;omega) (Nat.le_refl _) (fun w1 hown hgr=>?_));have HMJ:=Lib.hid (HMK.out w1 hown hgr);have hbm:=HMJ.out.old))
 clear hown hgr HMK p0 p1 p2 p3 p4 p5
 generalize w.heap.size + 1 + 1 = P at *
 have HB00:Hid (w.heap.size ≤ P):=Lib.hid (by have:=HMJ.out.lo;have:=(FIN.out W0 (Below.refl _ _)).2;omega)
 go_loopw [6] (fun iv wr=>∃ (k:Nat) (J:Int),iv = .int .i64 J ∧ J + 1 = (k:Int) ∧ k ≤ N ∧ Hid (MJ W0 P N (mixR N k (tst hs s) (fun _=>0)) wr)) (fun iv _=>N - (intOf iv + 1).toNat)
 case atStart=>exact ⟨0,-1,rfl,rfl,Nat.zero_le _,Lib.hid (by rw [← rep_mix];exact HMJ.out)⟩
 case round =>
  obtain ⟨k,J,rfl,hJ,hk,HM⟩:=hrel
  obtain ⟨p0,p1,p2,p3,p4,p5⟩:=HKS.out wr HM.out.old
  by_cases hkn:k < N
  ·have hm1:=HME.out k J wr hkn hJ HM.out.old
   have HM1:=Lib.hid hm1
   have HNX:Hid (∀ W,Below wr.heap.size wr W → MJ W0 P N (mixR N (k + 1) (tst hs s) (fun _=>0)) (W.setCell ⟨P,k,none⟩ (.int .i64 (tst hs s k))) ∧ (∃ v,W.cell? ⟨P,k,none⟩ = some (.int .i64 v)) ∧ W.frozen? ⟨P,k,none⟩ = false ∧ P < W.heap.size):=Lib.hid fun W hW=>by
    have h1:=HM.out.below hW
    have h2:=h1.set k (tst hs s k)
    rw [mixR_set _ _ _ _ _ rfl] at h2
    exact ⟨h2,⟨_,h1.at k hkn⟩,h1.frozen k,h1.lt⟩
   have HJ0:=Lib.hid hJ
   have ewj:IntKind.i64.wrap (J + 1) = (k:Int):=by rw [IntWalk.i64_in _ (by omega)];omega
   have hjl:J < (L:Int):=by have:=HNL.out;omega
   have i1:(0:Int) ≤ (k:Int):=by omega
   have i2:(k:Int) < (N:Int):=by omega
   clear hm1 hJ
   go_wp2_with fail
   (with_reducible refine HM1.out.mono ?_)
   rintro e w2 ⟨bb,rfl,hbb,hb2⟩
   have HX2:=HNX.out w2 hb2
   rw [← hbb] at HX2
   obtain ⟨hx1,⟨vv,hx2⟩,hx3,hx4⟩:=HX2
   have HX1:=Lib.hid hx1
   clear hx1 hbb hb2
   go_wp2_with fail
   (with_reducible refine (HTR.out _ _).mono ?_)
   rintro e w3 ⟨rfl,rfl⟩
   go_wp2_with fail
   go_roundw
   case rel=>exact ⟨k + 1,(k:Int),by first | rfl | go_num,by omega,by omega,HX1⟩
   case measure=>have:=HJ0.out;simp [intOf];omega
  ·have hk2:k = N:=by omega
   have HM2:Hid (MJ W0 P N (met2 (exprT hs f) hs s 0) wr):=Lib.hid (by have:=HM.out;rw [hk2,mixR_all] at this;rw [HZ.out];exact this)
   have hjl:(L:Int) ≤ J:=by have:=HNL.out;omega
   clear HM hJ
   go_wp2_with fail
   go_loopw [7] (fun jv wr=>∃ j:Nat,jv = .int .i64 j ∧ j ≤ q ∧ Hid (MJ W0 P N (met2 (exprT hs f) hs s j) wr)) (fun jv _=>q - (intOf jv).toNat)
   case atStart=>exact ⟨0,rfl,Nat.zero_le _,HM2⟩
   case round =>
    obtain ⟨j,rfl,hj,HJ⟩:=hrel
    obtain ⟨p0,p1,p2,p3,p4,p5⟩:=HKS.out wr HJ.out.old
    by_cases hjq:j < q
    ·have hjl2:j < s.wher.length:=by rw [HQ.out];exact hjq
     obtain ⟨b,o,aa,ac,pa,pc,rfl,hbl,hxa,hcs⟩:=HSS.out.get' j hjl2
     obtain ⟨x0,x1,x2,x3,x4,x5,x6⟩:=hcs wr (FIN.out wr HJ.out.old).1
     have HEJ:Hid (Calls Tryz.prog 36 #[.agg #[.slice an L cn,.bool clo],.agg #[.int .i64 s.wher[j].op,.slice aa s.wher[j].args.length ac,.slice pa s.wher[j].path.length pc,.string (strL s.wher[j].attr),.int .i64 s.wher[j].cmp,.string (strL s.wher[j].text),.int .i64 s.wher[j].num]] wr.drew fun e w'=>∃ P2,e = .returned (.slice (some ⟨P2,0,none⟩) N N) ∧ wr.heap.size ≤ P2 ∧ TsAt w' (some ⟨P2,0,none⟩) N (exprT hs f s.wher[j]) ∧ Below wr.heap.size wr w'):=Lib.hid (by
      have hb:=(FIN.out wr HJ.out.old).1
      have hbd:=hb.trans (((Below.refl wr.heap.size wr).drew).mono hb.size)
      have:=HEX.out s.wher[j] (exprC s.wher[j] aa ac pa pc) wr.drew (HRD.out.below hbd) (XAt.turn hbd (Nat.le_refl _) hxa) (HWX.out j hjl2).1
      rw [HL0.out,HN0.out] at this
      exact this.mono fun e w' ⟨P2,g1,g2,g3,g4⟩=>⟨P2,g1,g2,g3,((Below.refl _ _).drew).trans (g4.mono (Nat.le_refl _))⟩)
     have HNXJ:=Lib.hid (HSU.out j hjl2)
     have HTJ:=Lib.hid ((HWX.out j hjl2).2)
     have HPLT:=HJ.out.lt
     have HMLJ:=HML.out j
     clear hcs hxa hbl
     generalize s.wher[j]'hjl2 = x at *
     obtain ⟨M1,hM1⟩:∃ M1,met2 (exprT hs f) hs s (j + 1) = M1:=⟨_,rfl⟩
     rw [hM1] at HNXJ
     have HM1E:=Lib.hid hM1
     clear hM1
     generalize met2 (exprT hs f) hs s j = M0 at *
     generalize exprT hs f x = EX at *
     have i1:(0:Int) ≤ (j:Int):=by omega
     have i2:(j:Int) < (q:Int):=by omega
     have ewj:IntKind.i64.wrap ((j:Int) + 1) = (j:Int) + 1:=IntWalk.i64_in _ (by omega)
     go_upto_region 9 with fail
     go_cut [8] from 39 to 45 (fun s8 wx=>∃ P2,s8 = .slice (some ⟨P2,0,none⟩) N N ∧ P ≠ P2 ∧ Hid (TsAt wx (some ⟨P2,0,none⟩) N EX ∧ MJ W0 P N M0 wx))
     case first =>
      go_region_with (first | (go_at_call 36;(with_reducible refine HEJ.out.mono ?_);rintro e w6 ⟨P2,rfl,hP2,hT2,hb6⟩;have HC6:=Lib.hid (⟨hP2,hT2,hb6⟩:_ ∧ _ ∧ _);clear hP2 hT2 hb6))
      all_goals
       go_wp2_with fail
       go_meet
       case rel=>exact ⟨_,rfl,by have:=HC6.out.1;omega,Lib.hid ⟨HC6.out.2.1,HJ.out.below HC6.out.2.2⟩⟩
     case rest =>
      obtain ⟨P2,rfl,hPP,HC⟩:=hcut
      have HC0:Hid (TsAt wc (some ⟨P2,0,none⟩) N EX ∧ MJ W0 P N (mixR N 0 (fun i=>min (M0.getD i 0) (EX.getD i 0)) (fun i=>M0.getD i 0)) wc):=Lib.hid ⟨HC.out.1,by rw [mixR_zero,rowOf_self _ _ HMLJ];exact HC.out.2⟩
      clear HC HEJ HJ x0 x1 x2 x3 x4 x5 x6 HPLT
      go_wp2_with fail
      go_loopw [9] (fun iv wr=>∃ i:Nat,iv = .int .i64 i ∧ i ≤ N ∧ Hid (TsAt wr (some ⟨P2,0,none⟩) N EX ∧ MJ W0 P N (mixR N i (fun i=>min (M0.getD i 0) (EX.getD i 0)) (fun i=>M0.getD i 0)) wr)) (fun iv _=>N - (intOf iv).toNat)
      case atStart=>exact ⟨0,rfl,Nat.zero_le _,HC0⟩
      case round =>
       obtain ⟨i,rfl,hiN,HI⟩:=hrel
       have ewi:IntKind.i64.wrap ((i:Int) + 1) = (i:Int) + 1:=IntWalk.i64_in _ (by omega)
       by_cases hin:i < N
       ·obtain ⟨z1,l1⟩:=HI.out.1.at0 i hin
        have z2:wr.cell? ⟨P,i,none⟩ = some (.int .i64 (M0.getD i 0)):=by
         have h1:=HI.out.2.at i hin
         rwa [List.getD_eq_getElem?_getD,mixR_get _ _ _ _ _ hin (Nat.le_refl _),Option.getD_some] at h1
        have f2:=HI.out.2.frozen i
        have l2:=HI.out.2.lt
        have HNX:Hid (TsAt (wr.setCell ⟨P,i,none⟩ (.int .i64 (min (M0.getD i 0) (EX.getD i 0)))) (some ⟨P2,0,none⟩) N EX ∧ MJ W0 P N (mixR N (i + 1) (fun i=>min (M0.getD i 0) (EX.getD i 0)) (fun i=>M0.getD i 0)) (wr.setCell ⟨P,i,none⟩ (.int .i64 (min (M0.getD i 0) (EX.getD i 0))))):=Lib.hid ⟨HI.out.1.far (fun ad e=>by cases e;exact fun e=>hPP e.symm) _,by
         have h1:=HI.out.2.set i (min (M0.getD i 0) (EX.getD i 0))
         rwa [mixR_set _ _ _ _ _ rfl] at h1⟩
        have HAD:Hid (Calls Tryz.prog 62 #[.int .i64 (M0.getD i 0),.int .i64 (EX.getD i 0)] wr.drew fun e w'=>e = .returned (.int .i64 (min (M0.getD i 0) (EX.getD i 0))) ∧ w' = wr.drew):=Lib.hid (HAN.out _ _ _)
        generalize M0.getD i 0 = v1 at *
        generalize EX.getD i 0 = v2 at *
        generalize min v1 v2 = v3 at *
        have k1:(0:Int) ≤ (i:Int):=by omega
        have k2:(i:Int) < (N:Int):=by omega
        go_wp2_with fail
        go_region_with (first | (go_at_call 62;(with_reducible refine HAD.out.mono ?_);rintro e w6 ⟨rfl,rfl⟩))
        all_goals
         go_wp2_with fail
         go_roundw
         case rel=>exact ⟨i + 1,by go_num,by omega,Lib.hid ⟨HNX.out.1.below ((Below.refl _ _).drew),HNX.out.2.below ((Below.refl _ _).drew)⟩⟩
         case measure=>simp [intOf];omega
       ·have hi2:i = N:=by omega
        have HE:Hid (MJ W0 P N M1 wr):=Lib.hid (by have:=HI.out.2;rw [hi2,mixR_all] at this;rw [HNXJ.out];exact this)
        have k2:(N:Int) ≤ (i:Int):=by omega
        clear HI
        go_wp2_with fail
        go_roundw
        case rel=>exact ⟨j + 1,by go_num,by omega,by rw [HM1E.out];exact HE⟩
        case measure=>simp [intOf];omega
    ·have hj2:j = q:=by omega
     have HF:Hid (TsAt wr (some ⟨P,0,none⟩) N R ∧ Below w.heap.size w wr):=Lib.hid ⟨by have:=HJ.out.ts;rw [hj2,HALL.out] at this;exact this,(FIN.out wr HJ.out.old).1⟩
     have hjq2:(q:Int) ≤ (j:Int):=by omega
     clear HJ
     go_wp2_with fail
     go_ret
     exact ⟨P,rfl,HB00.out,HF.out.1,HF.out.2⟩
end Go.Proofs.YtgjokdngbocehaaGreatDoor
namespace Go.Proofs.YtgjokdngbocehaaGreatDoor
open Go.RowKit
structure IntsAt (w:World) (a:Option Addr) (n:Nat) (l:List Int):Prop where
 len:n = l.length
 at':∀ i,(h:i < l.length) → ∃ b o,a = some ⟨b,o,none⟩ ∧ b < w.heap.size ∧ w.cell? ⟨b,o + i,none⟩ = some (.int .i64 l[i])
theorem IntsAt.below {w w':World} {a:Option Addr} {n:Nat} {l:List Int} (h:IntsAt w a n l) (hb:Below w.heap.size w w'):IntsAt w' a n l :=
 ⟨h.len,fun i hi=>by
  obtain ⟨b,o,e,hlt,hc⟩:=h.at' i hi
  exact ⟨b,o,e,Nat.lt_of_lt_of_le hlt hb.size,(hb.cell (p:=⟨b,o + i,none⟩) hlt).trans hc⟩⟩
theorem own_ints {w:World} {base n:Nat} {e:TypeId} {v:Value} {l:List Int} (h:w.ownsRow base e 1 v n (l.map (Value.int .i64))):∃ a c,v = .slice a n c ∧ n ≤ c ∧ IntsAt w a n l:=by
 have hn:n = l.length:=by have:=h.1;simp at this;omega
 obtain ⟨a,c,rfl,h1,h2,h3⟩:=own_slice h
 refine ⟨a,c,rfl,h1,hn,fun i hi=>?_⟩
 cases a with
 | none=>have:=h2 rfl;omega
 | some ad =>
  obtain ⟨g,rfl,hg,hl,_,hc⟩:=h3 _ rfl
  exact ⟨g,0,rfl,hl,by rw [Nat.zero_add];exact hc _ _ (by simp [hi])⟩
end Go.Proofs.YtgjokdngbocehaaGreatDoor
namespace Go.Proofs.YtgjokdngbocehaaGreatDoor
open Go.RowKit
def rngL (a b:Nat):List Int:=(List.range' a (b - a)).map (fun (i:Nat)=>(i:Int))
theorem rngL_cons {a b:Nat} (h:a < b):rngL a b = (a:Int) :: rngL (a + 1) b:=by
 unfold rngL
 rw [show b - a = (b - (a + 1)) + 1 by omega,List.range'_succ]
 simp
theorem rngL_nil {a b:Nat} (h:b ≤ a):rngL a b = []:=by
 unfold rngL
 rw [show b - a = 0 by omega];rfl
theorem rngL_length (a b:Nat):(rngL a b).length = b - a:=by unfold rngL;simp
theorem rngL_app:∀ (m a b c:Nat),b = a + m → b ≤ c → rngL a b ++ rngL b c = rngL a c
 | 0,a,b,c,h,_=>by rw [rngL_nil (by omega),show b = a by omega];rfl
 | m + 1,a,b,c,h,hc=>by
  rw [rngL_cons (by omega:a < b),rngL_cons (by omega:a < c),List.cons_append,rngL_app m (a + 1) b c (by omega) hc]
theorem steps_rng {f:Nat → Nat} {a:Int} (ha:a ≠ 0) (hi:Nat):∀ m k,hi ≤ k + m → stepsF (nextOf f a) hi m k = rngL k hi
 | 0,k,h=>by rw [rngL_nil (by omega)];rfl
 | m + 1,k,h=>by
  by_cases hk:k < hi
  ·rw [stepsF_at hk (by omega),rngL_cons hk,Nat.add_sub_cancel]
   have hn:nextOf f a k = k + 1:=by unfold nextOf;rw [if_neg ha]
   rw [hn,steps_rng ha hi m (k + 1) (by omega)]
  ·rw [stepsF_end (by omega),rngL_nil (by omega)]
theorem stepsF_len (g:Nat → Nat) (hi:Nat):∀ m k,(stepsF g hi m k).length ≤ m
 | 0,k=>Nat.le_refl _
 | m + 1,k=>by
  show (if k < hi then (k:Int) :: stepsF g hi m (g k) else []).length ≤ m + 1
  split
  ·have:=stepsF_len g hi m (g k);simp;exact this
  ·simp
theorem alongM_len (L:Nat) (f:Nat → Nat) (n a:Int):(alongM L f n a).length ≤ L + 1:=by
 unfold alongM
 split
 ·simp
 ·rw [List.length_append]
  have h1:(if a = 2 ∨ a = 3 then [n] else []).length ≤ 1:=by split <;> simp
  have h2:(if a = 3 then [] else stepsF (nextOf f a) (hiOf L f n) L (n + 1).toNat).length ≤ L:=by
   split
   ·simp
   ·exact stepsF_len _ _ _ _
  omega
section
variable {L:Nat} {f:Nat → Nat} {p:Nat → Int}
theorem hiOf_le (h:∀ i,i < L → i ≤ f i ∧ f i < L) {n:Int} (hn:n < L):hiOf L f n ≤ L:=by
 unfold hiOf
 split
 ·exact Nat.le_refl _
 ·have:=h n.toNat (by omega);omega
theorem alongM_desc (h:∀ i,i < L → i ≤ f i ∧ f i < L) {n:Int} (h1:-1 ≤ n) (h2:n < L):alongM L f n 1 = rngL (n + 1).toNat (hiOf L f n):=by
 unfold alongM
 rw [if_neg (by omega),if_neg (by omega),if_neg (by omega),List.nil_append]
 exact steps_rng (by omega) _ _ _ (by have:=hiOf_le h h2;omega)
theorem alongM_self {n:Int} (h1:-1 ≤ n) (h2:n < L):alongM L f n 3 = [n]:=by
 unfold alongM
 rw [if_neg (by omega),if_pos (by omega),if_pos rfl]
 rfl
theorem alongM_orself (h:∀ i,i < L → i ≤ f i ∧ f i < L) {n:Int} (h1:-1 ≤ n) (h2:n < L):alongM L f n 2 = n :: alongM L f n 1:=by
 rw [alongM_desc h h1 h2]
 unfold alongM
 rw [if_neg (by omega),if_pos (by omega),if_neg (by omega)]
 rw [steps_rng (by omega) _ _ _ (by have:=hiOf_le h h2;omega)]
 rfl
end
end Go.Proofs.YtgjokdngbocehaaGreatDoor
namespace Go.Proofs.YtgjokdngbocehaaGreatDoor
open Go.RowKit
def keepR (p:Nat → Int) (v x:Int) (m:Int):Bool:=decide (x = 1) || decide (x = 2) || (decide (x = 0) && decide (p m.toNat = v))
def alongR (L:Nat) (f:Nat → Nat) (p:Nat → Int) (v x:Int):List Int :=
 if v < -1 ∨ (L:Int) ≤ v then [] else (if x = 2 ∨ x = 3 then [v] else []) ++ (rngL (v + 1).toNat (hiOf L f v)).filter (keepR p v x)
section
variable {L:Nat} {f:Nat → Nat} {p:Nat → Int}
theorem par_ge (h:AxF L f p) (k:Nat) (hk:k < L):∀ m,k < m → m ≤ f k → (k:Int) ≤ p m:=by
 intro m
 induction m using Nat.strongRecOn with
 | _ m ih =>
  intro hkm hmf
  have hmL:m < L:=by have:=h.rng k hk;omega
  have key:∀ j,k < j → j < m → f j + 1 = m → (k:Int) ≤ p m:=by
   intro j
   induction j using Nat.strongRecOn with
   | _ j ihj =>
    intro hkj hjm hfj
    have hpj:=ih j hjm hkj (by omega)
    have hjL:j < L:=by omega
    have hplt:=(h.plt j hjL).2
    have hins:=h.ins j hjL
    by_cases hs:f j + 1 < hiP L f (p j)
    ·have:=h.sib j hjL hs
     rw [hfj] at this
     omega
    ·obtain ⟨q,hq⟩:∃ q:Nat,p j = (q:Int):=⟨(p j).toNat,by omega⟩
     have hhi:hiP L f (p j) = f q + 1:=by rw [hq];unfold hiP;rw [if_neg (by omega),Int.toNat_natCast]
     rw [hhi] at hs hins
     by_cases hqk:q = k
     ·subst hqk;omega
     ·exact ihj q (by omega) (by omega) (by omega) (by omega)
  by_cases h1:m = k + 1
  ·subst h1
   rw [h.first k hk hmf]
   omega
  ·have hm1:m - 1 < L:=by omega
   have hr:=h.rng (m - 1) hm1
   by_cases h2:m ≤ f (m - 1)
   ·have:=h.first (m - 1) hm1 (by omega)
    rw [show m - 1 + 1 = m by omega] at this
    rw [this];omega
   ·exact key (m - 1) (by omega) (by omega) (by omega)
theorem filt_none {l:List Int} {q:Int → Bool} (h:∀ x ∈ l,q x = false):l.filter q = []:=by
 rw [List.filter_eq_nil_iff]
 intro x hx
 rw [h x hx];simp
theorem filt_all {l:List Int} {q:Int → Bool} (h:∀ x ∈ l,q x = true):l.filter q = l:=by
 rw [List.filter_eq_self];exact h
theorem rngL_mem {a b:Nat} {x:Int} (h:x ∈ rngL a b):∃ i:Nat,x = (i:Int) ∧ a ≤ i ∧ i < b:=by
 unfold rngL at h
 obtain ⟨i,hi,rfl⟩:=List.mem_map.1 h
 rw [List.mem_range'_1] at hi
 exact ⟨i,rfl,hi.1,by omega⟩
theorem steps_filt (h:AxF L f p) {n:Int} (hn1:-1 ≤ n) (hn:n < L):∀ m k,hiOf L f n ≤ k + m → n < k → (k < hiOf L f n → p k = n) → stepsF (nextOf f 0) (hiOf L f n) m k = (rngL k (hiOf L f n)).filter (keepR p n 0)
 | 0,k,hm,_,_=>by rw [rngL_nil (by omega)];rfl
 | m + 1,k,hm,hnk,hp=>by
  by_cases hk:k < hiOf L f n
  ·have hkL:k < L:=Nat.lt_of_lt_of_le hk (hiOf_le h.rng hn)
   have hpk:=hp hk
   have hins:=h.ins k hkL
   rw [hpk] at hins
   have hins':f k < hiOf L f n:=hins
   have hrk:=h.rng k hkL
   have hnx:nextOf f 0 k = f k + 1:=by unfold nextOf;rw [if_pos rfl]
   have hsib:=h.sib k hkL
   rw [hpk] at hsib
   rw [stepsF_at hk (by omega),Nat.add_sub_cancel,hnx,steps_filt h hn1 hn m (f k + 1) (by omega) (by omega) hsib]
   rw [rngL_cons hk,← rngL_app (f k - k) (k + 1) (f k + 1) (hiOf L f n) (by omega) (by omega),List.filter_cons,List.filter_append]
   rw [if_pos (by unfold keepR;simp [hpk]),filt_none (l:=rngL (k + 1) (f k + 1)) (fun x hx=>?_),List.nil_append]
   obtain ⟨i,rfl,hi1,hi2⟩:=rngL_mem hx
   have:=par_ge h k hkL i (by omega) (by omega)
   unfold keepR
   simp
   omega
  ·rw [stepsF_end (by omega),rngL_nil (by omega)];rfl
theorem alongR_eq (h:AxF L f p) (v x:Int):alongR L f p v x = alongM L f v x:=by
 unfold alongR
 by_cases hv:v < -1 ∨ (L:Int) ≤ v
 ·rw [if_pos hv];unfold alongM;rw [if_pos (by omega)]
 rw [if_neg hv]
 by_cases hx:x < 0 ∨ 3 < x
 ·rw [if_neg (by omega),filt_none (fun y _=>by unfold keepR;simp;omega)]
  unfold alongM
  rw [if_pos (by omega)]
  rfl
 have hle:=hiOf_le h.rng (n:=v) (by omega)
 obtain rfl | rfl | rfl | rfl:x = 0 ∨ x = 1 ∨ x = 2 ∨ x = 3:=by omega
 ·rw [if_neg (by omega)]
  unfold alongM
  rw [if_neg (by omega),if_neg (by omega),if_neg (by omega),List.nil_append,List.nil_append]
  refine (steps_filt h (by omega) (by omega) L _ (by omega) (by omega) (fun hk=>?_)).symm
  by_cases hn:v = -1
  ·subst hn
   exact h.root (by omega)
  ·have e1:(v + 1).toNat = v.toNat + 1:=by omega
   have e2:hiOf L f v = f v.toNat + 1:=by unfold hiOf;rw [if_neg (by omega)]
   rw [e1,e2] at hk
   rw [e1,h.first v.toNat (by omega) (by omega)]
   omega
 ·rw [if_neg (by omega),filt_all (fun y _=>by unfold keepR;simp),alongM_desc h.rng (by omega) (by omega)]
  rfl
 ·rw [if_pos (by omega),filt_all (fun y _=>by unfold keepR;simp),alongM_orself h.rng (by omega) (by omega),alongM_desc h.rng (by omega) (by omega)]
  rfl
 ·rw [if_pos (by omega),filt_none (fun y _=>by unfold keepR;simp),alongM_self (by omega) (by omega)]
  rfl
end
end Go.Proofs.YtgjokdngbocehaaGreatDoor
