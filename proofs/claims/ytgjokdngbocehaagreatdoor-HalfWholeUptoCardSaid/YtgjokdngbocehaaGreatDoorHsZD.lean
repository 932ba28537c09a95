/-
  (*tree.Check).Take of an event that may not come: it says false, and the check lies as it lay.
-/
import Derived.Test.YtgjokdngbocehaaGreatDoorHsA
import Derived.Test.YtgjokdngbocehaaGreatDoorHsC
import Derived.Test.YtgjokdngbocehaaGreatDoorHsD
import Derived.Test.YtgjokdngbocehaaGreatDoorHsE
import Derived.Test.YtgjokdngbocehaaGreatDoorHsJ
import Derived.Test.YtgjokdngbocehaaGreatDoorHsK
import Derived.Test.YtgjokdngbocehaaGreatDoorHsL
import Derived.Test.YtgjokdngbocehaaGreatDoorHsZB
import Derived.Test.YtgjokdngbocehaaGreatDoorHsZC
namespace Go.Proofs.YtgjokdngbocehaaGreatDoor
open Go.RowKit
set_option maxRecDepth 1000000 in
set_option maxHeartbeats 4000000 in
theorem takeF_open_done (R cb:Nat) (v:Value) (s:BegS) (en ed efr ett:Int) (ename etext:List UInt8) (A:Option Addr) (m c:Nat) (w:World) (h:Chk w R cb v s)
  (hd:decide (s.opn = [] ∧ s.cnt ≠ 0) = true)
  :
  Calls Tryz.prog 43 #[.pointer (some ⟨cb,0,none⟩),.agg (evC 0 en ed ename A m c etext efr ett)] w fun e w'=>e = .returned (.bool false) ∧ Below w.heap.size w w':=by
 have hlt:=h.lt
 have hle:=h.le
 obtain ⟨oa,oc,rfl,hoc,hoa,_⟩:=own_slice h.own
 have hat:=h.at'
 have hcbw:cb < w.heap.size:=by omega
 rw [hd] at hat
 have c0:=cell_heap (i:=0) hat
 have c1:=cell_heap (i:=1) hat
 have c2:=cell_heap (i:=2) hat
 have c3:=cell_heap (i:=3) hat
 simp only [List.getElem?_toArray,List.getElem?_cons_zero,List.getElem?_cons_succ] at c0 c1 c2 c3
 have HN1:Hid (∀ o,Below w.heap.size w (w.alloc o) ∧ (w.alloc o).heap[w.heap.size]? = some o ∧ (w.alloc o).heap.size = w.heap.size + 1):=Lib.hid fun o=>⟨(Below.refl w.heap.size w).alloc (Nat.le_refl _) _,heap_alloc_new w _,by simp⟩
 have k3:=fun o=>((HN1.out o).1.cell (p:=⟨cb,3,none⟩) hcbw).trans c3
 unfold evC at *
 generalize strL etext = T at *
 generalize strL ename = X at *
 clear hat hlt hle hoc hoa h c0 c1 c2 c3 hcbw
 go_enter Tryz.func43,Tryz.ntmps43
 go_wp2_with fail
 go_ret
 exact ⟨rfl,(HN1.out _).1⟩
set_option maxRecDepth 1000000 in
set_option maxHeartbeats 4000000 in
theorem takeF_close_done (R cb:Nat) (v:Value) (s:BegS) (en ed efr ett:Int) (ename etext:List UInt8) (A:Option Addr) (m c:Nat) (w:World) (h:Chk w R cb v s)
  (hd:decide (s.opn = [] ∧ s.cnt ≠ 0) = true)
  :
  Calls Tryz.prog 43 #[.pointer (some ⟨cb,0,none⟩),.agg (evC 2 en ed ename A m c etext efr ett)] w fun e w'=>e = .returned (.bool false) ∧ Below w.heap.size w w':=by
 have hlt:=h.lt
 have hle:=h.le
 obtain ⟨oa,oc,rfl,hoc,hoa,_⟩:=own_slice h.own
 have hat:=h.at'
 have hcbw:cb < w.heap.size:=by omega
 rw [hd] at hat
 have c0:=cell_heap (i:=0) hat
 have c1:=cell_heap (i:=1) hat
 have c2:=cell_heap (i:=2) hat
 have c3:=cell_heap (i:=3) hat
 simp only [List.getElem?_toArray,List.getElem?_cons_zero,List.getElem?_cons_succ] at c0 c1 c2 c3
 have HN1:Hid (∀ o,Below w.heap.size w (w.alloc o) ∧ (w.alloc o).heap[w.heap.size]? = some o ∧ (w.alloc o).heap.size = w.heap.size + 1):=Lib.hid fun o=>⟨(Below.refl w.heap.size w).alloc (Nat.le_refl _) _,heap_alloc_new w _,by simp⟩
 have k3:=fun o=>((HN1.out o).1.cell (p:=⟨cb,3,none⟩) hcbw).trans c3
 unfold evC at *
 generalize strL etext = T at *
 generalize strL ename = X at *
 clear hat hlt hle hoc hoa h c0 c1 c2 c3 hcbw
 go_enter Tryz.func43,Tryz.ntmps43
 go_wp2_with fail
 go_ret
 exact ⟨rfl,(HN1.out _).1⟩
set_option maxRecDepth 1000000 in
set_option maxHeartbeats 4000000 in
theorem takeF_kind (R cb:Nat) (v:Value) (s:BegS) (kd en ed efr ett:Int) (ename etext:List UInt8) (A:Option Addr) (m c:Nat) (w:World) (h:Chk w R cb v s)
  (h0:kd ≠ 0) (h1:kd ≠ 1) (h2:kd ≠ 2)
  :
  Calls Tryz.prog 43 #[.pointer (some ⟨cb,0,none⟩),.agg (evC kd en ed ename A m c etext efr ett)] w fun e w'=>e = .returned (.bool false) ∧ Below w.heap.size w w':=by
 have hlt:=h.lt
 have hle:=h.le
 obtain ⟨oa,oc,rfl,hoc,hoa,_⟩:=own_slice h.own
 have hat:=h.at'
 have hcbw:cb < w.heap.size:=by omega
 generalize decide (s.opn = [] ∧ s.cnt ≠ 0) = D at *
 have c0:=cell_heap (i:=0) hat
 have c1:=cell_heap (i:=1) hat
 have c2:=cell_heap (i:=2) hat
 have c3:=cell_heap (i:=3) hat
 simp only [List.getElem?_toArray,List.getElem?_cons_zero,List.getElem?_cons_succ] at c0 c1 c2 c3
 have HN1:Hid (∀ o,Below w.heap.size w (w.alloc o) ∧ (w.alloc o).heap[w.heap.size]? = some o ∧ (w.alloc o).heap.size = w.heap.size + 1):=Lib.hid fun o=>⟨(Below.refl w.heap.size w).alloc (Nat.le_refl _) _,heap_alloc_new w _,by simp⟩
 have k3:=fun o=>((HN1.out o).1.cell (p:=⟨cb,3,none⟩) hcbw).trans c3
 unfold evC at *
 generalize strL etext = T at *
 generalize strL ename = X at *
 have b0:(kd == 0) = false:=by simpa using h0
 have b1:(kd == 1) = false:=by simpa using h1
 have b2:(kd == 2) = false:=by simpa using h2
 clear hat hlt hle hoc hoa h c0 c1 c2 c3 hcbw h0 h1 h2
 go_enter Tryz.func43,Tryz.ntmps43
 go_wp2_with fail
 go_ret
 exact ⟨rfl,(HN1.out _).1⟩
set_option maxRecDepth 1000000 in
set_option maxHeartbeats 4000000 in
theorem takeF_close (R cb:Nat) (v:Value) (s:BegS) (en ed efr ett:Int) (ename etext:List UInt8) (A:Option Addr) (m c:Nat) (w:World) (h:Chk w R cb v s)
  (hd:decide (s.opn = [] ∧ s.cnt ≠ 0) = false) (HCL:Hid (∀ W,Below w.heap.size w W → Calls Tryz.prog 79 #[.pointer (some ⟨cb,0,none⟩),.agg (evC 2 en ed ename A m c etext efr ett)] W fun e w'=>e = .returned (.bool false) ∧ Below W.heap.size W w'))
  :
  Calls Tryz.prog 43 #[.pointer (some ⟨cb,0,none⟩),.agg (evC 2 en ed ename A m c etext efr ett)] w fun e w'=>e = .returned (.bool false) ∧ Below w.heap.size w w':=by
 have hlt:=h.lt
 have hle:=h.le
 obtain ⟨oa,oc,rfl,hoc,hoa,_⟩:=own_slice h.own
 have hat:=h.at'
 have hcbw:cb < w.heap.size:=by omega
 rw [hd] at hat
 have c0:=cell_heap (i:=0) hat
 have c1:=cell_heap (i:=1) hat
 have c2:=cell_heap (i:=2) hat
 have c3:=cell_heap (i:=3) hat
 simp only [List.getElem?_toArray,List.getElem?_cons_zero,List.getElem?_cons_succ] at c0 c1 c2 c3
 have HN1:Hid (∀ o,Below w.heap.size w (w.alloc o) ∧ (w.alloc o).heap[w.heap.size]? = some o ∧ (w.alloc o).heap.size = w.heap.size + 1):=Lib.hid fun o=>⟨(Below.refl w.heap.size w).alloc (Nat.le_refl _) _,heap_alloc_new w _,by simp⟩
 have k3:=fun o=>((HN1.out o).1.cell (p:=⟨cb,3,none⟩) hcbw).trans c3
 unfold evC at *
 generalize strL etext = T at *
 generalize strL ename = X at *
 clear hat hlt hle hoc hoa h c0 c1 c2 c3 hcbw
 go_enter Tryz.func43,Tryz.ntmps43
 go_wp2_with fail
 (with_reducible refine (HCL.out _ (HN1.out _).1).mono ?_)
 rintro e w2 ⟨rfl,hb2⟩
 have HB:=Lib.hid ((HN1.out _).1.trans (hb2.mono (HN1.out _).1.size))
 clear hb2 k3
 go_wp2_with fail
 go_ret
 exact ⟨rfl,HB.out⟩
set_option maxRecDepth 1000000 in
set_option maxHeartbeats 4000000 in
theorem takeF_open (R cb:Nat) (v:Value) (s:BegS) (en ed efr ett:Int) (ename etext:List UInt8) (A:Option Addr) (m c:Nat) (w:World) (h:Chk w R cb v s)
  (hd:decide (s.opn = [] ∧ s.cnt ≠ 0) = false) (HOP:Hid (∀ W,Below w.heap.size w W → Calls Tryz.prog 77 #[.pointer (some ⟨cb,0,none⟩),.agg (evC 0 en ed ename A m c etext efr ett)] W fun e w'=>e = .returned (.bool false) ∧ Below W.heap.size W w'))
  :
  Calls Tryz.prog 43 #[.pointer (some ⟨cb,0,none⟩),.agg (evC 0 en ed ename A m c etext efr ett)] w fun e w'=>e = .returned (.bool false) ∧ Below w.heap.size w w':=by
 have hlt:=h.lt
 have hle:=h.le
 obtain ⟨oa,oc,rfl,hoc,hoa,_⟩:=own_slice h.own
 have hat:=h.at'
 have hcbw:cb < w.heap.size:=by omega
 rw [hd] at hat
 have c0:=cell_heap (i:=0) hat
 have c1:=cell_heap (i:=1) hat
 have c2:=cell_heap (i:=2) hat
 have c3:=cell_heap (i:=3) hat
 simp only [List.getElem?_toArray,List.getElem?_cons_zero,List.getElem?_cons_succ] at c0 c1 c2 c3
 have HN1:Hid (∀ o,Below w.heap.size w (w.alloc o) ∧ (w.alloc o).heap[w.heap.size]? = some o ∧ (w.alloc o).heap.size = w.heap.size + 1):=Lib.hid fun o=>⟨(Below.refl w.heap.size w).alloc (Nat.le_refl _) _,heap_alloc_new w _,by simp⟩
 have k3:=fun o=>((HN1.out o).1.cell (p:=⟨cb,3,none⟩) hcbw).trans c3
 unfold evC at *
 generalize strL etext = T at *
 generalize strL ename = X at *
 clear hat hlt hle hoc hoa h c0 c1 c2 c3 hcbw
 go_enter Tryz.func43,Tryz.ntmps43
 go_wp2_with fail
 (with_reducible refine (HOP.out _ (HN1.out _).1).mono ?_)
 rintro e w2 ⟨rfl,hb2⟩
 have HB:=Lib.hid ((HN1.out _).1.trans (hb2.mono (HN1.out _).1.size))
 clear hb2 k3
 go_wp2_with fail
 go_ret
 exact ⟨rfl,HB.out⟩
set_option maxRecDepth 1000000 in
set_option maxHeartbeats 4000000 in
theorem takeF_text_done (R cb:Nat) (v:Value) (s:BegS) (en ed efr ett:Int) (ename etext:List UInt8) (A:Option Addr) (m c:Nat) (w:World) (h:Chk w R cb v s)
  (hd:decide (s.opn = [] ∧ s.cnt ≠ 0) = true)
  :
  Calls Tryz.prog 43 #[.pointer (some ⟨cb,0,none⟩),.agg (evC 1 en ed ename A m c etext efr ett)] w fun e w'=>e = .returned (.bool false) ∧ Below w.heap.size w w':=by
 have hlt:=h.lt
 have hle:=h.le
 obtain ⟨oa,oc,rfl,hoc,hoa,_⟩:=own_slice h.own
 have hat:=h.at'
 have hcbw:cb < w.heap.size:=by omega
 rw [hd] at hat
 have c0:=cell_heap (i:=0) hat
 have c1:=cell_heap (i:=1) hat
 have c2:=cell_heap (i:=2) hat
 have c3:=cell_heap (i:=3) hat
 simp only [List.getElem?_toArray,List.getElem?_cons_zero,List.getElem?_cons_succ] at c0 c1 c2 c3
 unfold evC at *
 generalize s.opn.length = on at *
 generalize s.next = nx at *
 generalize s.text = tx at *
 generalize strL etext = T at *
 generalize strL ename = X at *
 have HN1:Hid (∀ o,Below w.heap.size w (w.alloc o) ∧ (w.alloc o).heap[w.heap.size]? = some o ∧ (w.alloc o).heap.size = w.heap.size + 1):=Lib.hid fun o=>⟨(Below.refl w.heap.size w).alloc (Nat.le_refl _) _,heap_alloc_new w _,by simp⟩
 have k3:=fun o=>((HN1.out o).1.cell (p:=⟨cb,3,none⟩) hcbw).trans c3
 have HCBW:=Lib.hid hcbw
 have HC:=Lib.hid (⟨c0,c1,c2,c3⟩:_ ∧ _ ∧ _ ∧ _)
 clear hat hlt hle hoc hoa h c0 c1 c2 c3 hcbw
 go_enter Tryz.func43,Tryz.ntmps43
 go_wp2_with fail
 obtain ⟨eb,heb⟩:∃ eb,eb = w.heap.size:=⟨_,rfl⟩
 obtain ⟨W1,hW1⟩:∃ W1,W1 = w.alloc (.cells #[.int .i64 1,.int .i64 en,.int .i64 ed,.string X,.slice A m c,.string T,.int .i64 efr,.int .i64 ett] 47):=⟨_,rfl⟩
 rw [← hW1,← heb]
 obtain ⟨hb1,hn1,hz1⟩:=HN1.out (.cells #[.int .i64 1,.int .i64 en,.int .i64 ed,.string X,.slice A m c,.string T,.int .i64 efr,.int .i64 ett] 47)
 rw [← hW1] at hb1 hn1 hz1
 rw [← heb] at hn1
 have HS:Hid (∀ w',Below W1.heap.size W1 w' → w'.cell? ⟨cb,0,none⟩ = some (.slice oa on oc) ∧ w'.cell? ⟨cb,1,none⟩ = some (.int .i64 nx) ∧ w'.cell? ⟨cb,2,none⟩ = some (.bool tx) ∧ w'.cell? ⟨eb,1,none⟩ = some (.int .i64 en) ∧ w'.cell? ⟨eb,2,none⟩ = some (.int .i64 ed) ∧ w'.cell? ⟨eb,3,none⟩ = some (.string X) ∧ w'.cell? ⟨eb,4,none⟩ = some (.slice A m c) ∧ w'.cell? ⟨eb,5,none⟩ = some (.string T) ∧ Below W1.heap.size W1 w'):=Lib.hid fun w' hb=>by
  have e:=(hb.block eb (by rw [hz1,heb];omega)).trans hn1
  have hb2:Below w.heap.size w w':=hb1.trans (hb.mono hb1.size)
  exact ⟨(hb2.cell (p:=⟨cb,0,none⟩) HCBW.out).trans HC.out.1,(hb2.cell (p:=⟨cb,1,none⟩) HCBW.out).trans HC.out.2.1,(hb2.cell (p:=⟨cb,2,none⟩) HCBW.out).trans HC.out.2.2.1,by rw [cell_heap e];rfl,by rw [cell_heap e];rfl,by rw [cell_heap e];rfl,by rw [cell_heap e];rfl,by rw [cell_heap e];rfl,hb⟩
 have hS0:Below W1.heap.size W1 W1.drew:=(Below.refl _ _).drew
 have HB1:=Lib.hid hb1
 clear hW1 hb1 hn1 hz1 k3
 refine take7_done (fun w'=>Below W1.heap.size W1 w') eb cb oa on oc nx en ed tx X T A m c _ _ _ _ _ _ _ _ _ _ _ _ _ _ _ _ _ _ _ _ _ _ _ _ _ _ _ _ _ _ _ _ _ _ _ _ _ _ _ _ _ _ _ _ _ _ _ _ _ _ _ _ _ _ _ _ _ _ _ _ _ _ _ _ _ _ _ _ _ _ _ _ _ _ _ _ _ _ _ _ _ _ _ _ _ _ _ _ _ _ _ _ _ _ _ _ _ _ _ _ _ _ _ _ _ _ _ _ _ _ _ _ _ _ _ _ _ _ _ _ _ _ _ _ _ _ _ _ _ _ _ _ _ _ _ _ _ _ _ _ _ _ _ _ _ _ _ _ _ _ _ _ _ _ _ _ _ _ _ _ _ _ _ _ _ _ _ _ _ _ HS hS0 _ (Lib.hid fun y38 y39 y40 y41 y42 y43 y44 y45 y46 y47 y48 y49 y50 y51 y52 y53 y54 y55 y56 y57 y58 y59 y60 y61 y62 y63 y64 y65 y66 y67 y68 y69 y70 y71 y72 y73 y74 y75 y76 y77 y78 y79 y80 y81 y82 y83 y84 y85 y86 y87 y88 y89 y90 y91 y92 y93 y94 w3 hb3=>?_)
 have HB3:=Lib.hid (HB1.out.trans (hb3.mono HB1.out.size))
 clear hb3
 go_wp2_with fail
 go_ret
 exact ⟨rfl,HB3.out⟩
set_option maxRecDepth 1000000 in
set_option maxHeartbeats 4000000 in
theorem takeF_text (R cb:Nat) (v:Value) (s:BegS) (en ed efr ett:Int) (ename etext:List UInt8) (A:Option Addr) (m c:Nat) (ats:List (List UInt8 × List UInt8)) (w:World) (h:Chk w R cb v s)
  (hd:decide (s.opn = [] ∧ s.cnt ≠ 0) = false) (hm:ats.isEmpty = (m == 0)) (hon:s.opn.length ≤ 1048576)
  (HTX:Hid (∀ W,Below w.heap.size w W → Calls Tryz.prog 78 #[.string (strL etext)] W fun e w'=>e = .returned (.bool (textsB etext)) ∧ Below W.heap.size W w'))
  (hb:begOk s ⟨1,en,ed,ename,ats,etext,efr,ett⟩ = false)
  :
  Calls Tryz.prog 43 #[.pointer (some ⟨cb,0,none⟩),.agg (evC 1 en ed ename A m c etext efr ett)] w fun e w'=>e = .returned (.bool false) ∧ Below w.heap.size w w':=by
 have hlt:=h.lt
 have hle:=h.le
 obtain ⟨oa,oc,rfl,hoc,hoa,_⟩:=own_slice h.own
 have hat:=h.at'
 have hcbw:cb < w.heap.size:=by omega
 rw [hd] at hat
 rw [begOk1] at hb
 have c0:=cell_heap (i:=0) hat
 have c1:=cell_heap (i:=1) hat
 have c2:=cell_heap (i:=2) hat
 have c3:=cell_heap (i:=3) hat
 simp only [List.getElem?_toArray,List.getElem?_cons_zero,List.getElem?_cons_succ] at c0 c1 c2 c3
 have q1:decide (s.opn ≠ []) = decide (0 < s.opn.length):=by
  cases s.opn <;> simp
 rw [q1,hm,← strL_isE etext,← strL_isE ename] at hb
 generalize textsB etext = tb at *
 unfold evC at *
 generalize s.opn.length = on at *
 generalize s.next = nx at *
 generalize s.text = tx at *
 generalize strL etext = T at *
 generalize strL ename = X at *
 have HBQ:=Lib.hid hb
 clear hb q1 hm
 have HN1:Hid (∀ o,Below w.heap.size w (w.alloc o) ∧ (w.alloc o).heap[w.heap.size]? = some o ∧ (w.alloc o).heap.size = w.heap.size + 1):=Lib.hid fun o=>⟨(Below.refl w.heap.size w).alloc (Nat.le_refl _) _,heap_alloc_new w _,by simp⟩
 have k3:=fun o=>((HN1.out o).1.cell (p:=⟨cb,3,none⟩) hcbw).trans c3
 have HCBW:=Lib.hid hcbw
 have HC:=Lib.hid (⟨c0,c1,c2,c3⟩:_ ∧ _ ∧ _ ∧ _)
 clear hat hlt hle hoc hoa h c0 c1 c2 c3 hcbw
 go_enter Tryz.func43,Tryz.ntmps43
 go_wp2_with fail
 obtain ⟨eb,heb⟩:∃ eb,eb = w.heap.size:=⟨_,rfl⟩
 obtain ⟨W1,hW1⟩:∃ W1,W1 = w.alloc (.cells #[.int .i64 1,.int .i64 en,.int .i64 ed,.string X,.slice A m c,.string T,.int .i64 efr,.int .i64 ett] 47):=⟨_,rfl⟩
 rw [← hW1,← heb]
 obtain ⟨hb1,hn1,hz1⟩:=HN1.out (.cells #[.int .i64 1,.int .i64 en,.int .i64 ed,.string X,.slice A m c,.string T,.int .i64 efr,.int .i64 ett] 47)
 rw [← hW1] at hb1 hn1 hz1
 rw [← heb] at hn1
 have HS:Hid (∀ w',Below W1.heap.size W1 w' → w'.cell? ⟨cb,0,none⟩ = some (.slice oa on oc) ∧ w'.cell? ⟨cb,1,none⟩ = some (.int .i64 nx) ∧ w'.cell? ⟨cb,2,none⟩ = some (.bool tx) ∧ w'.cell? ⟨eb,1,none⟩ = some (.int .i64 en) ∧ w'.cell? ⟨eb,2,none⟩ = some (.int .i64 ed) ∧ w'.cell? ⟨eb,3,none⟩ = some (.string X) ∧ w'.cell? ⟨eb,4,none⟩ = some (.slice A m c) ∧ w'.cell? ⟨eb,5,none⟩ = some (.string T) ∧ Below W1.heap.size W1 w'):=Lib.hid fun w' hb=>by
  have e:=(hb.block eb (by rw [hz1,heb];omega)).trans hn1
  have hb2:Below w.heap.size w w':=hb1.trans (hb.mono hb1.size)
  exact ⟨(hb2.cell (p:=⟨cb,0,none⟩) HCBW.out).trans HC.out.1,(hb2.cell (p:=⟨cb,1,none⟩) HCBW.out).trans HC.out.2.1,(hb2.cell (p:=⟨cb,2,none⟩) HCBW.out).trans HC.out.2.2.1,by rw [cell_heap e];rfl,by rw [cell_heap e];rfl,by rw [cell_heap e];rfl,by rw [cell_heap e];rfl,by rw [cell_heap e];rfl,hb⟩
 have hS0:Below W1.heap.size W1 W1.drew:=(Below.refl _ _).drew
 have HB1:=Lib.hid hb1
 clear hW1 hb1 hn1 hz1 k3
 have HTK0:Hid (∀ w',Below W1.heap.size W1 w' → Calls Tryz.prog 78 #[.string T] w' fun e w''=>e = .returned (.bool tb) ∧ Below W1.heap.size W1 w''):=Lib.hid fun w' hb=>(HTX.out w' (HB1.out.trans (hb.mono HB1.out.size))).mono fun e w'' h=>⟨h.1,hb.trans (h.2.mono hb.size)⟩
 by_cases f1:(en == nx) = false
 ·refine take7_num (fun w'=>Below W1.heap.size W1 w') eb cb oa on oc nx en ed tx X T A m c f1 _ _ _ _ _ _ _ _ _ _ _ _ _ _ _ _ _ _ _ _ _ _ _ _ _ _ _ _ _ _ _ _ _ _ _ _ _ _ _ _ _ _ _ _ _ _ _ _ _ _ _ _ _ _ _ _ _ _ _ _ _ _ _ _ _ _ _ _ _ _ _ _ _ _ _ _ _ _ _ _ _ _ _ _ _ _ _ _ _ _ _ _ _ _ _ _ _ _ _ _ _ _ _ _ _ _ _ _ _ _ _ _ _ _ _ _ _ _ _ _ _ _ _ _ _ _ _ _ _ _ _ _ _ _ _ _ _ _ _ _ _ _ _ _ _ _ _ _ _ _ _ _ _ _ _ _ _ _ _ _ _ _ _ _ _ _ _ _ _ _ HS hS0 _ (Lib.hid fun y38 y39 y40 y41 y42 y43 y44 y45 y46 y47 y48 y49 y50 y51 y52 y53 y54 y55 y56 y57 y58 y59 y60 y61 y62 y63 y64 y65 y66 y67 y68 y69 y70 y71 y72 y73 y74 y75 y76 y77 y78 y79 y80 y81 y82 y83 y84 y85 y86 y87 y88 y89 y90 y91 y92 y93 y94 w3 hb3=>?_)
  have HB3:=Lib.hid (HB1.out.trans (hb3.mono HB1.out.size))
  clear hb3
  go_wp2_with fail
  go_ret
  exact ⟨rfl,HB3.out⟩
 obtain rfl:nx = en:=by have h:en = nx:=by simpa using f1
                        exact h.symm
 have ew:IntKind.i64.wrap ((on:Int) + 1) = (on:Int) + 1:=IntWalk.i64_in _ (by omega)
 by_cases f2:(ed == (on:Int) + 1) = false
 ·refine take7_dep (fun w'=>Below W1.heap.size W1 w') eb cb oa on oc nx ed tx X T A m c f2 ew _ _ _ _ _ _ _ _ _ _ _ _ _ _ _ _ _ _ _ _ _ _ _ _ _ _ _ _ _ _ _ _ _ _ _ _ _ _ _ _ _ _ _ _ _ _ _ _ _ _ _ _ _ _ _ _ _ _ _ _ _ _ _ _ _ _ _ _ _ _ _ _ _ _ _ _ _ _ _ _ _ _ _ _ _ _ _ _ _ _ _ _ _ _ _ _ _ _ _ _ _ _ _ _ _ _ _ _ _ _ _ _ _ _ _ _ _ _ _ _ _ _ _ _ _ _ _ _ _ _ _ _ _ _ _ _ _ _ _ _ _ _ _ _ _ _ _ _ _ _ _ _ _ _ _ _ _ _ _ _ _ _ _ _ _ _ _ _ _ _ HS hS0 _ (Lib.hid fun y38 y39 y40 y41 y42 y43 y44 y45 y46 y47 y48 y49 y50 y51 y52 y53 y54 y55 y56 y57 y58 y59 y60 y61 y62 y63 y64 y65 y66 y67 y68 y69 y70 y71 y72 y73 y74 y75 y76 y77 y78 y79 y80 y81 y82 y83 y84 y85 y86 y87 y88 y89 y90 y91 y92 y93 y94 w3 hb3=>?_)
  have HB3:=Lib.hid (HB1.out.trans (hb3.mono HB1.out.size))
  clear hb3
  go_wp2_with fail
  go_ret
  exact ⟨rfl,HB3.out⟩
 obtain rfl:ed = (on:Int) + 1:=by simpa using f2
 by_cases f3:on = 0
 ·refine take7_none (fun w'=>Below W1.heap.size W1 w') eb cb oa on oc nx tx X T A m c f3 _ _ _ _ _ _ _ _ _ _ _ _ _ _ _ _ _ _ _ _ _ _ _ _ _ _ _ _ _ _ _ _ _ _ _ _ _ _ _ _ _ _ _ _ _ _ _ _ _ _ _ _ _ _ _ _ _ _ _ _ _ _ _ _ _ _ _ _ _ _ _ _ _ _ _ _ _ _ _ _ _ _ _ _ _ _ _ _ _ _ _ _ _ _ _ _ _ _ _ _ _ _ _ _ _ _ _ _ _ _ _ _ _ _ _ _ _ _ _ _ _ _ _ _ _ _ _ _ _ _ _ _ _ _ _ _ _ _ _ _ _ _ _ _ _ _ _ _ _ _ _ _ _ _ _ _ _ _ _ _ _ _ _ _ _ _ _ _ _ _ HS hS0 _ (Lib.hid fun y38 y39 y40 y41 y42 y43 y44 y45 y46 y47 y48 y49 y50 y51 y52 y53 y54 y55 y56 y57 y58 y59 y60 y61 y62 y63 y64 y65 y66 y67 y68 y69 y70 y71 y72 y73 y74 y75 y76 y77 y78 y79 y80 y81 y82 y83 y84 y85 y86 y87 y88 y89 y90 y91 y92 y93 y94 w3 hb3=>?_)
  have HB3:=Lib.hid (HB1.out.trans (hb3.mono HB1.out.size))
  clear hb3
  go_wp2_with fail
  go_ret
  exact ⟨rfl,HB3.out⟩
 have f3:0 < on:=Nat.pos_of_ne_zero f3
 cases tx with
 | true =>
  refine take7_text (fun w'=>Below W1.heap.size W1 w') eb cb oa on oc nx X T A m c ew f3 _ _ _ _ _ _ _ _ _ _ _ _ _ _ _ _ _ _ _ _ _ _ _ _ _ _ _ _ _ _ _ _ _ _ _ _ _ _ _ _ _ _ _ _ _ _ _ _ _ _ _ _ _ _ _ _ _ _ _ _ _ _ _ _ _ _ _ _ _ _ _ _ _ _ _ _ _ _ _ _ _ _ _ _ _ _ _ _ _ _ _ _ _ _ _ _ _ _ _ _ _ _ _ _ _ _ _ _ _ _ _ _ _ _ _ _ _ _ _ _ _ _ _ _ _ _ _ _ _ _ _ _ _ _ _ _ _ _ _ _ _ _ _ _ _ _ _ _ _ _ _ _ _ _ _ _ _ _ _ _ _ _ _ _ _ _ _ _ _ _ HS hS0 _ (Lib.hid fun y38 y39 y40 y41 y42 y43 y44 y45 y46 y47 y48 y49 y50 y51 y52 y53 y54 y55 y56 y57 y58 y59 y60 y61 y62 y63 y64 y65 y66 y67 y68 y69 y70 y71 y72 y73 y74 y75 y76 y77 y78 y79 y80 y81 y82 y83 y84 y85 y86 y87 y88 y89 y90 y91 y92 y93 y94 w3 hb3=>?_)
  have HB3:=Lib.hid (HB1.out.trans (hb3.mono HB1.out.size))
  clear hb3
  go_wp2_with fail
  go_ret
  exact ⟨rfl,HB3.out⟩
 | false =>
 cases f5:T.toList.isEmpty with
 | true =>
  refine take7_empty (fun w'=>Below W1.heap.size W1 w') eb cb oa on oc nx X T A m c ew f3 f5 _ _ _ _ _ _ _ _ _ _ _ _ _ _ _ _ _ _ _ _ _ _ _ _ _ _ _ _ _ _ _ _ _ _ _ _ _ _ _ _ _ _ _ _ _ _ _ _ _ _ _ _ _ _ _ _ _ _ _ _ _ _ _ _ _ _ _ _ _ _ _ _ _ _ _ _ _ _ _ _ _ _ _ _ _ _ _ _ _ _ _ _ _ _ _ _ _ _ _ _ _ _ _ _ _ _ _ _ _ _ _ _ _ _ _ _ _ _ _ _ _ _ _ _ _ _ _ _ _ _ _ _ _ _ _ _ _ _ _ _ _ _ _ _ _ _ _ _ _ _ _ _ _ _ _ _ _ _ _ _ _ _ _ _ _ _ _ _ _ _ HS hS0 _ (Lib.hid fun y38 y39 y40 y41 y42 y43 y44 y45 y46 y47 y48 y49 y50 y51 y52 y53 y54 y55 y56 y57 y58 y59 y60 y61 y62 y63 y64 y65 y66 y67 y68 y69 y70 y71 y72 y73 y74 y75 y76 y77 y78 y79 y80 y81 y82 y83 y84 y85 y86 y87 y88 y89 y90 y91 y92 y93 y94 w3 hb3=>?_)
  have HB3:=Lib.hid (HB1.out.trans (hb3.mono HB1.out.size))
  clear hb3
  go_wp2_with fail
  go_ret
  exact ⟨rfl,HB3.out⟩
 | false =>
 cases tb with
 | false =>
  have HTK:=HTK0
  refine take7_texts (fun w'=>Below W1.heap.size W1 w') eb cb oa on oc nx X T A m c ew f3 f5 _ _ _ _ _ _ _ _ _ _ _ _ _ _ _ _ _ _ _ _ _ _ _ _ _ _ _ _ _ _ _ _ _ _ _ _ _ _ _ _ _ _ _ _ _ _ _ _ _ _ _ _ _ _ _ _ _ _ _ _ _ _ _ _ _ _ _ _ _ _ _ _ _ _ _ _ _ _ _ _ _ _ _ _ _ _ _ _ _ _ _ _ _ _ _ _ _ _ _ _ _ _ _ _ _ _ _ _ _ _ _ _ _ _ _ _ _ _ _ _ _ _ _ _ _ _ _ _ _ _ _ _ _ _ _ _ _ _ _ _ _ _ _ _ _ _ _ _ _ _ _ _ _ _ _ _ _ _ _ _ _ _ _ _ _ _ _ _ _ _ HS HTK hS0 _ (Lib.hid fun y38 y39 y40 y41 y42 y43 y44 y45 y46 y47 y48 y49 y50 y51 y52 y53 y54 y55 y56 y57 y58 y59 y60 y61 y62 y63 y64 y65 y66 y67 y68 y69 y70 y71 y72 y73 y74 y75 y76 y77 y78 y79 y80 y81 y82 y83 y84 y85 y86 y87 y88 y89 y90 y91 y92 y93 y94 w3 hb3=>?_)
  have HB3:=Lib.hid (HB1.out.trans (hb3.mono HB1.out.size))
  clear hb3
  go_wp2_with fail
  go_ret
  exact ⟨rfl,HB3.out⟩
 | true =>
 have HTK:=HTK0
 cases f7:X.toList.isEmpty with
 | false =>
  refine take7_name (fun w'=>Below W1.heap.size W1 w') eb cb oa on oc nx X T A m c ew f3 f5 f7 _ _ _ _ _ _ _ _ _ _ _ _ _ _ _ _ _ _ _ _ _ _ _ _ _ _ _ _ _ _ _ _ _ _ _ _ _ _ _ _ _ _ _ _ _ _ _ _ _ _ _ _ _ _ _ _ _ _ _ _ _ _ _ _ _ _ _ _ _ _ _ _ _ _ _ _ _ _ _ _ _ _ _ _ _ _ _ _ _ _ _ _ _ _ _ _ _ _ _ _ _ _ _ _ _ _ _ _ _ _ _ _ _ _ _ _ _ _ _ _ _ _ _ _ _ _ _ _ _ _ _ _ _ _ _ _ _ _ _ _ _ _ _ _ _ _ _ _ _ _ _ _ _ _ _ _ _ _ _ _ _ _ _ _ _ _ _ _ _ _ HS HTK hS0 _ (Lib.hid fun y38 y39 y40 y41 y42 y43 y44 y45 y46 y47 y48 y49 y50 y51 y52 y53 y54 y55 y56 y57 y58 y59 y60 y61 y62 y63 y64 y65 y66 y67 y68 y69 y70 y71 y72 y73 y74 y75 y76 y77 y78 y79 y80 y81 y82 y83 y84 y85 y86 y87 y88 y89 y90 y91 y92 y93 y94 w3 hb3=>?_)
  have HB3:=Lib.hid (HB1.out.trans (hb3.mono HB1.out.size))
  clear hb3
  go_wp2_with fail
  go_ret
  exact ⟨rfl,HB3.out⟩
 | true =>
 by_cases f8:(((m:Nat):Int) == 0) = false
 ·refine take7_attrs (fun w'=>Below W1.heap.size W1 w') eb cb oa on oc nx X T A m c ew f3 f5 f7 f8 _ _ _ _ _ _ _ _ _ _ _ _ _ _ _ _ _ _ _ _ _ _ _ _ _ _ _ _ _ _ _ _ _ _ _ _ _ _ _ _ _ _ _ _ _ _ _ _ _ _ _ _ _ _ _ _ _ _ _ _ _ _ _ _ _ _ _ _ _ _ _ _ _ _ _ _ _ _ _ _ _ _ _ _ _ _ _ _ _ _ _ _ _ _ _ _ _ _ _ _ _ _ _ _ _ _ _ _ _ _ _ _ _ _ _ _ _ _ _ _ _ _ _ _ _ _ _ _ _ _ _ _ _ _ _ _ _ _ _ _ _ _ _ _ _ _ _ _ _ _ _ _ _ _ _ _ _ _ _ _ _ _ _ _ _ _ _ _ _ _ HS HTK hS0 _ (Lib.hid fun y38 y39 y40 y41 y42 y43 y44 y45 y46 y47 y48 y49 y50 y51 y52 y53 y54 y55 y56 y57 y58 y59 y60 y61 y62 y63 y64 y65 y66 y67 y68 y69 y70 y71 y72 y73 y74 y75 y76 y77 y78 y79 y80 y81 y82 y83 y84 y85 y86 y87 y88 y89 y90 y91 y92 y93 y94 w3 hb3=>?_)
  have HB3:=Lib.hid (HB1.out.trans (hb3.mono HB1.out.size))
  clear hb3
  go_wp2_with fail
  go_ret
  exact ⟨rfl,HB3.out⟩
 exfalso
 have:=HBQ.out
 have hm0:m = 0:=by simpa using f8
 rw [decide_eq_true f3,f5,f7,hm0] at this
 simp at this
theorem take_bad (R cb:Nat) (v:Value) (s:BegS) (e:Ev) (A:Option Addr) (m c:Nat) (w:World) (h:Chk w R cb v s) (hb:begOk s e = false) (hA:AttrsAt w A m e.ats) (hsm:EvSm e)
  (hR:RangesAt w 2) (hT:Lib.Utf8Tabs 0 1 w) :
  Calls Tryz.prog 43 #[.pointer (some ⟨cb,0,none⟩),.agg (evC e.kind e.num e.dep e.name A m c e.text e.fr e.tt)] w fun r w'=>r = .returned (.bool false) ∧ Below w.heap.size w w':=by
 obtain ⟨kd,en,ed,ename,ats,etext,fr,tt⟩:=e
 obtain ⟨s1,s2,s3,s4⟩:=hsm
 simp only at *
 have hm:ats.isEmpty = (m == 0):=by rw [hA.1];cases ats <;> rfl
 have hml:m ≤ 1048576:=by rw [hA.1];exact s3
 have hcbw:cb < w.heap.size:=Nat.lt_of_lt_of_le h.lt h.le
 obtain ⟨oa,oc,hv,hoc,hoa,hoas⟩:=own_slice h.own
 have hat:=h.at'
 have c0:=cell_heap (i:=0) hat
 have c1:=cell_heap (i:=1) hat
 simp only [List.getElem?_toArray,List.getElem?_cons_zero,List.getElem?_cons_succ] at c0 c1
 by_cases h0:kd = 0
 ·subst h0
  cases hd:decide (s.opn = [] ∧ s.cnt ≠ 0) with
  | true=>exact takeF_open_done R cb v s en ed fr tt ename etext A m c w h hd
  | false =>
   refine takeF_open R cb v s en ed fr tt ename etext A m c w h hd (Lib.hid fun W hW=>?_)
   have:=opens_any cb oa s.opn.length oc s.next 0 en ed fr tt ename etext A m c ats W ((hW.cell (p:=⟨cb,0,none⟩) hcbw).trans (by rw [c0,hv])) ((hW.cell (p:=⟨cb,1,none⟩) hcbw).trans c1) (Nat.lt_of_lt_of_le hcbw hW.size) (hA.below hW) s1 s4 hml h.sm.1 (hR.below hW) (Utf8Tabs_below hT hW)
   have hbo:(decide (en = s.next ∧ ed = (s.opn.length:Int) + 1 ∧ etext = []) && nameB ename && attrsB none ats) = false:=by
    unfold begOk at hb
    rw [if_pos rfl] at hb
    have hco:s.cnt = 0 ∨ s.opn ≠ []:=by
     rw [decide_eq_false_iff_not] at hd
     by_cases h1:s.cnt = 0
     ·exact .inl h1
     ·exact .inr fun h2=>hd ⟨h2,h1⟩
    have e:decide ((s.cnt = 0 ∨ s.opn ≠ []) ∧ en = s.next ∧ ed = (s.opn.length:Int) + 1 ∧ etext = []) = decide (en = s.next ∧ ed = (s.opn.length:Int) + 1 ∧ etext = []):=by
     simp only [hco,true_and]
    simp only at hb
    rw [e] at hb
    exact hb
   rw [hbo] at this
   exact this
 by_cases h1:kd = 1
 ·subst h1
  cases hd:decide (s.opn = [] ∧ s.cnt ≠ 0) with
  | true=>exact takeF_text_done R cb v s en ed fr tt ename etext A m c w h hd
  | false=>exact takeF_text R cb v s en ed fr tt ename etext A m c ats w h hd hm h.sm.1 (Lib.hid fun W hW=>Texts_any etext W (by omega) (hR.below hW) (Utf8Tabs_below hT hW)) hb
 by_cases h2:kd = 2
 ·subst h2
  cases hd:decide (s.opn = [] ∧ s.cnt ≠ 0) with
  | true=>exact takeF_close_done R cb v s en ed fr tt ename etext A m c w h hd
  | false =>
   refine takeF_close R cb v s en ed fr tt ename etext A m c w h hd (Lib.hid fun W hW=>?_)
   cases hr:s.opn with
   | nil =>
    rw [hr] at hv
    exact closes_none cb oa oc _ W ((hW.cell (p:=⟨cb,0,none⟩) hcbw).trans (by rw [c0,hv];rfl)) (Nat.lt_of_lt_of_le hcbw hW.size)
   | cons x rest =>
    obtain ⟨dn,dd,dname⟩:=x
    have hown:=h.own
    rw [hr,List.length_cons] at hown
    obtain ⟨g,oc',hv',hoc',hRg,hgw,_,hcells⟩:=own_some hown
    have hcell:∀ j,j < 8 → w.cell? ⟨g,0 + rest.length * 8 + j,none⟩ = (ckRow (dn,dd,dname))[j]?:=fun j hj=>by
     have h1:(ckRow (dn,dd,dname)).length = 8:=rfl
     have h2:=ckC_top (dn,dd,dname) rest j hj
     rw [Nat.zero_add,List.getElem?_eq_getElem (by rw [h1];exact hj)]
     exact hcells _ _ (by rw [h2,List.getElem?_eq_getElem (by rw [h1];exact hj)])
    have k:=fun j (hj:j < 8)=>(hW.cell (p:=⟨g,0 + rest.length * 8 + j,none⟩) hgw).trans (hcell j hj)
    have hsm:=h.sm.1
    rw [hr,List.length_cons] at hsm
    have:=closes_any cb g 0 rest.length oc' dn dd dname 2 en ed fr tt ename etext A m c W ((hW.cell (p:=⟨cb,0,none⟩) hcbw).trans (by rw [c0,hv'])) (Nat.lt_of_lt_of_le hcbw hW.size) (Nat.lt_of_lt_of_le hgw hW.size) (by omega) (k 0 (by decide)) (k 1 (by decide)) (k 2 (by decide)) (k 3 (by decide)) (k 4 (by decide)) (k 5 (by decide)) (k 6 (by decide)) (k 7 (by decide))
    have hcl:closeB dn dd dname en ed ename etext m = false:=by
     rw [begOk2,hr,hm] at hb
     refine Bool.eq_false_iff.2 fun hcon=>?_
     unfold closeB at hcon
     simp only [Bool.and_eq_true,beq_iff_eq,decide_eq_true_eq] at hcon
     obtain ⟨rfl,rfl,rfl,g4,g5⟩:=hcon
     rw [g4,g5] at hb
     simp at hb
    rw [hcl] at this
    exact this
 ·exact takeF_kind R cb v s kd en ed fr tt ename etext A m c w h h0 h1 h2
end Go.Proofs.YtgjokdngbocehaaGreatDoor
