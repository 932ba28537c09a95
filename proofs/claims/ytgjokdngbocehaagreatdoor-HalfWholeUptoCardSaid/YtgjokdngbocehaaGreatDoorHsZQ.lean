/-
  (asked).steps.
-/
import Derived.Test.YtgjokdngbocehaaGreatDoorHsA
import Derived.Test.YtgjokdngbocehaaGreatDoorHsD
import Derived.Test.YtgjokdngbocehaaGreatDoorHsE
import Derived.Test.YtgjokdngbocehaaGreatDoorHsF
import Derived.Test.YtgjokdngbocehaaGreatDoorHsH
import Derived.Test.YtgjokdngbocehaaGreatDoorHsL
import Derived.Test.YtgjokdngbocehaaGreatDoorHsM
import Derived.Test.YtgjokdngbocehaaGreatDoorHsN
import Derived.Test.YtgjokdngbocehaaGreatDoorHsO
import Derived.Test.YtgjokdngbocehaaGreatDoorHsZH
import Derived.Test.YtgjokdngbocehaaGreatDoorHsZP
namespace Go.Proofs.YtgjokdngbocehaaGreatDoor
open Go.RowKit Go.Shelf
attribute [local go_sem] Oper.semAt_some
theorem stepsP_succ (hold:Int → PX → Bool) (T:PT) (fr:List Bool) (ss:List PS) (i:Nat) (hi:i < ss.length):stepsP hold T fr (ss.take (i + 1)) = stepP hold T (stepsP hold T fr (ss.take i)) ss[i]:=by
 unfold stepsP
 rw [List.take_succ_eq_append_getElem hi,List.foldl_append];rfl
def row3 (hold:Int → PX → Bool) (T:PT) (fr:List Bool) (s:PS) (q:Nat):List Bool :=
 (List.range fr.length).map fun (k:Nat)=>if k < q then reachP T fr s.axis k && (meetsP T ((k:Int) - 1) s && s.wher.all (hold ((k:Int) - 1))) else reachP T fr s.axis k
theorem row3_len (hold:Int → PX → Bool) (T:PT) (fr:List Bool) (s:PS) (q:Nat):(row3 hold T fr s q).length = fr.length:=by simp [row3]
theorem row3_zero (hold:Int → PX → Bool) (T:PT) (fr:List Bool) (s:PS):row3 hold T fr s 0 = (List.range fr.length).map (reachP T fr s.axis):=by
 unfold row3
 refine List.map_congr_left fun k _=>?_
 rw [if_neg (Nat.not_lt_zero _)]
theorem row3_at (hold:Int → PX → Bool) (T:PT) (fr:List Bool) (s:PS) (q:Nat) (hq:q < fr.length):(row3 hold T fr s q)[q]? = some (reachP T fr s.axis q):=by
 unfold row3
 rw [List.getElem?_map,List.getElem?_range hq]
 simp
theorem row3_succ (hold:Int → PX → Bool) (T:PT) (fr:List Bool) (s:PS) (q:Nat) (hq:q < fr.length):row3 hold T fr s (q + 1) = (row3 hold T fr s q).set q (reachP T fr s.axis q && (meetsP T ((q:Int) - 1) s && s.wher.all (hold ((q:Int) - 1)))):=by
 refine List.ext_getElem? fun k=>?_
 rw [List.getElem?_set,row3_len]
 unfold row3
 rw [List.getElem?_map,List.getElem?_map]
 by_cases e:q = k
 ·subst e
  rw [if_pos rfl,if_pos hq,List.getElem?_range hq]
  simp
 ·rw [if_neg e]
  rcases Nat.lt_or_ge k fr.length with hk | hk
  ·rw [List.getElem?_range hk]
   simp only [Option.map_some,Option.some.injEq]
   by_cases h:k < q
   ·rw [if_pos (by omega),if_pos h]
   ·rw [if_neg (by omega),if_neg h]
  ·rw [List.getElem?_eq_none (by simpa using hk)];rfl
theorem row3_all (hold:Int → PX → Bool) (T:PT) (fr:List Bool) (s:PS):row3 hold T fr s fr.length = stepP hold T fr s:=by
 unfold row3 stepP
 refine List.map_congr_left fun k hk=>?_
 rw [if_pos (List.mem_range.1 hk)]
def slotOf (t:Array Value) (k:Nat):Value:=t.getD k undef
def frA (tb Pa m c:Nat) (a:Option Addr) (t:Array Value):Array Value:=#[.agg #[.pointer (some ⟨tb,0,none⟩)],slotOf t 1,.slice a m c,.pointer (some ⟨Pa,0,none⟩),undef,undef,.slice none 0 0,undef,slotOf t 8,slotOf t 9,slotOf t 10,slotOf t 11,slotOf t 12,slotOf t 13,slotOf t 14,.slice a m c,.int .i64 (m:Nat),slotOf t 17,slotOf t 18,slotOf t 19,slotOf t 20,slotOf t 21,slotOf t 22,slotOf t 23,slotOf t 24,slotOf t 25,slotOf t 26,slotOf t 27,slotOf t 28,slotOf t 29,slotOf t 30,slotOf t 31,slotOf t 32,slotOf t 33,slotOf t 34,slotOf t 35,slotOf t 36,slotOf t 37,slotOf t 38,slotOf t 39,slotOf t 40,slotOf t 41,slotOf t 42,slotOf t 43,slotOf t 44,slotOf t 45,slotOf t 46,slotOf t 47,slotOf t 48,slotOf t 49,slotOf t 50,slotOf t 51,slotOf t 52,slotOf t 53,slotOf t 54,slotOf t 55,slotOf t 56,slotOf t 57,slotOf t 58,slotOf t 59,slotOf t 60,slotOf t 61,slotOf t 62,slotOf t 63,undef,slotOf t 65,slotOf t 66,slotOf t 67,slotOf t 68,slotOf t 69,slotOf t 70,slotOf t 71,slotOf t 72,slotOf t 73,slotOf t 74,slotOf t 75,slotOf t 76,slotOf t 77,slotOf t 78,slotOf t 79,slotOf t 80,slotOf t 81,slotOf t 82,slotOf t 83,slotOf t 84,slotOf t 85,slotOf t 86,slotOf t 87,slotOf t 88,slotOf t 89,slotOf t 90,slotOf t 91,slotOf t 92,slotOf t 93,slotOf t 94,slotOf t 95,slotOf t 96,slotOf t 97,slotOf t 98,slotOf t 99,slotOf t 100,slotOf t 101,slotOf t 102,slotOf t 103,undef]
def frB (tb Pa m c b o i P8 P9 P10 G gi n wl wc:Nat) (ax te:Int) (nm:ByteArray) (wa:Option Addr) (t0 t:Array Value):Array Value:=#[.agg #[.pointer (some ⟨tb,0,none⟩)],.slice (some ⟨gi,0,none⟩) n n,.slice (some ⟨b,o,none⟩) m c,.pointer (some ⟨Pa,0,none⟩),undef,undef,.slice none 0 0,undef,.pointer (some ⟨P8,0,none⟩),.pointer (some ⟨P9,0,none⟩),.pointer (some ⟨P10,0,none⟩),slotOf t 11,slotOf t 12,slotOf t 13,slotOf t0 14,.slice (some ⟨b,o,none⟩) m c,.int .i64 (m:Nat),.int .i64 (i:Nat),.bool true,.pointer (some ⟨b,o + i * 4,none⟩),.agg #[.int .i64 ax,.int .i64 te,.string nm,.slice wa wl wc],.slice (some ⟨gi,0,none⟩) n n,.int .i64 (n:Nat),.slice (some ⟨G,0,none⟩) n n,slotOf t 24,slotOf t 25,slotOf t 26,slotOf t 27,slotOf t 28,slotOf t 29,slotOf t 30,slotOf t 31,slotOf t 32,slotOf t 33,slotOf t 34,slotOf t 35,slotOf t 36,slotOf t 37,slotOf t 38,slotOf t 39,slotOf t 40,slotOf t 41,slotOf t 42,slotOf t 43,slotOf t 44,slotOf t 45,slotOf t 46,slotOf t 47,slotOf t 48,slotOf t 49,slotOf t 50,slotOf t 51,slotOf t 52,slotOf t 53,slotOf t 54,slotOf t 55,slotOf t 56,slotOf t 57,slotOf t 58,slotOf t 59,slotOf t 60,slotOf t 61,slotOf t 62,slotOf t 63,undef,slotOf t 65,slotOf t 66,slotOf t 67,slotOf t 68,slotOf t 69,slotOf t 70,slotOf t 71,slotOf t 72,slotOf t0 73,slotOf t0 74,slotOf t0 75,slotOf t0 76,slotOf t0 77,slotOf t0 78,slotOf t0 79,slotOf t0 80,slotOf t0 81,slotOf t0 82,slotOf t0 83,slotOf t0 84,slotOf t0 85,slotOf t0 86,slotOf t0 87,slotOf t0 88,slotOf t0 89,slotOf t0 90,slotOf t0 91,slotOf t0 92,slotOf t0 93,slotOf t0 94,slotOf t0 95,slotOf t0 96,slotOf t0 97,slotOf t0 98,slotOf t0 99,slotOf t0 100,slotOf t0 101,slotOf t0 102,slotOf t0 103,undef]
def frC (P9 P10 P12:Nat) (x:Int) (t:Array Value):Array Value:=#[slotOf t 0,slotOf t 1,slotOf t 2,slotOf t 3,slotOf t 4,slotOf t 5,slotOf t 6,slotOf t 7,slotOf t 8,.pointer (some ⟨P9,0,none⟩),.pointer (some ⟨P10,0,none⟩),slotOf t 11,.pointer (some ⟨P12,0,none⟩),.int .i64 x,slotOf t 14,slotOf t 15,slotOf t 16,slotOf t 17,slotOf t 18,slotOf t 19,slotOf t 20,slotOf t 21,slotOf t 22,slotOf t 23,slotOf t 24,slotOf t 25,slotOf t 26,slotOf t 27,slotOf t 28,slotOf t 29,slotOf t 30,slotOf t 31,slotOf t 32,slotOf t 33,slotOf t 34,slotOf t 35,slotOf t 36,slotOf t 37,slotOf t 38,slotOf t 39,slotOf t 40,slotOf t 41,slotOf t 42,slotOf t 43,slotOf t 44,slotOf t 45,slotOf t 46,slotOf t 47,slotOf t 48,slotOf t 49,slotOf t 50,slotOf t 51,slotOf t 52,slotOf t 53,slotOf t 54,slotOf t 55,slotOf t 56,slotOf t 57,slotOf t 58,slotOf t 59,slotOf t 60,slotOf t 61,slotOf t 62,slotOf t 63,.int .i64 x,slotOf t 65,slotOf t 66,slotOf t 67,slotOf t 68,slotOf t 69,slotOf t 70,slotOf t 71,slotOf t 72,slotOf t 73,slotOf t 74,slotOf t 75,slotOf t 76,slotOf t 77,slotOf t 78,slotOf t 79,slotOf t 80,slotOf t 81,slotOf t 82,slotOf t 83,slotOf t 84,slotOf t 85,slotOf t 86,slotOf t 87,slotOf t 88,slotOf t 89,slotOf t 90,slotOf t 91,slotOf t 92,slotOf t 93,slotOf t 94,slotOf t 95,slotOf t 96,slotOf t 97,slotOf t 98,slotOf t 99,slotOf t 100,slotOf t 101,slotOf t 102,slotOf t 103,slotOf t 104]
def frD (tb Pa P8 P9 P10 m c b o i:Nat) (_ t:Array Value):Array Value:=#[.agg #[.pointer (some ⟨tb,0,none⟩)],slotOf t 1,.slice (some ⟨b,o,none⟩) m c,.pointer (some ⟨Pa,0,none⟩),undef,undef,.slice none 0 0,undef,.pointer (some ⟨P8,0,none⟩),.pointer (some ⟨P9,0,none⟩),.pointer (some ⟨P10,0,none⟩),slotOf t 11,slotOf t 12,slotOf t 13,slotOf t 14,.slice (some ⟨b,o,none⟩) m c,.int .i64 (m:Nat),.int .i64 (i:Nat),slotOf t 18,slotOf t 19,slotOf t 20,slotOf t 21,slotOf t 22,slotOf t 23,slotOf t 24,slotOf t 25,slotOf t 26,slotOf t 27,slotOf t 28,slotOf t 29,slotOf t 30,slotOf t 31,slotOf t 32,slotOf t 33,slotOf t 34,slotOf t 35,slotOf t 36,slotOf t 37,slotOf t 38,slotOf t 39,slotOf t 40,slotOf t 41,slotOf t 42,slotOf t 43,slotOf t 44,slotOf t 45,slotOf t 46,slotOf t 47,slotOf t 48,slotOf t 49,slotOf t 50,slotOf t 51,slotOf t 52,slotOf t 53,slotOf t 54,slotOf t 55,slotOf t 56,slotOf t 57,slotOf t 58,slotOf t 59,slotOf t 60,slotOf t 61,slotOf t 62,slotOf t 63,undef,slotOf t 65,slotOf t 66,slotOf t 67,slotOf t 68,slotOf t 69,slotOf t 70,slotOf t 71,slotOf t 72,slotOf t 73,slotOf t 74,slotOf t 75,slotOf t 76,slotOf t 77,slotOf t 78,slotOf t 79,slotOf t 80,slotOf t 81,slotOf t 82,slotOf t 83,slotOf t 84,slotOf t 85,slotOf t 86,slotOf t 87,slotOf t 88,slotOf t 89,slotOf t 90,slotOf t 91,slotOf t 92,slotOf t 93,slotOf t 94,slotOf t 95,slotOf t 96,slotOf t 97,slotOf t 98,slotOf t 99,slotOf t 100,slotOf t 101,slotOf t 102,slotOf t 103,undef]
set_option maxRecDepth 1000000 in
set_option maxHeartbeats 8000000 in
theorem steps_any {f:Nat} {tb:Nat} {evs:List Ev} (hold:Int → PX → Bool) (g0 n c:Nat) (a:Option Addr) (fr:List Bool) (ss:List PS) (w:World) (hq:TQ w tb evs) (hn:n = (nodesB evs).length + 1) (hfn:fr.length = n) (hrow:RowB w g0 fr) (h:SsAt f w a ss) (hml:ss.length ≤ 1048576) {lst:Nat → Nat} (hax:AxOK (treePT evs) lst) (hgd:∀ s ∈ ss,s.wher.all (goodXB f) = true)
  (hall:∀ (v:Int) (l:List PX) (la:Option Addr) (lc:Nat) (W:World),-1 ≤ v → v < (nodesB evs).length → TQ W tb evs → XsAt f W la l → l.length ≤ 1048576 → l.all (goodXB f) = true → Calls Tryz.prog 109 #[.agg #[.pointer (some ⟨tb,0,none⟩)],.int .i64 v,.slice la l.length lc] W fun e w'=>e = .returned (.bool (l.all (hold v))) ∧ Below W.heap.size W w') :
  Calls Tryz.prog 82 #[.agg #[.pointer (some ⟨tb,0,none⟩)],.slice (some ⟨g0,0,none⟩) n n,.slice a ss.length c] w fun e w'=>∃ g',e = .returned (.slice (some ⟨g',0,none⟩) n n) ∧ RowB w' g' (stepsP hold (treePT evs) fr ss) ∧ Below w.heap.size w w':=by
 obtain ⟨i0,hi0,hz0,hz1,hz2⟩:=info_parts infoBool
 have HQ:=Lib.hid hq
 have HS:=Lib.hid h
 have HALL:=Lib.hid hall
 have HAX:=Lib.hid hax
 have HGD:=Lib.hid hgd
 have HFN:=Lib.hid hfn
 have hn2:n ≤ 1025:=by have:=hq.len;omega
 have HNE:=Lib.hid hn
 have HB0:Hid (Below w.heap.size w (w.alloc (.cells #[.pointer (some ⟨tb,0,none⟩)] 153)) ∧ RowB (w.alloc (.cells #[.pointer (some ⟨tb,0,none⟩)] 153)) g0 (stepsP hold (treePT evs) fr (ss.take 0)) ∧ (w.alloc (.cells #[.pointer (some ⟨tb,0,none⟩)] 153)).heap[w.heap.size]? = some (.cells #[.pointer (some ⟨tb,0,none⟩)] 153 (0,0))):=Lib.hid
  ⟨(Below.refl _ _).alloc (Nat.le_refl _) _,hrow.below hrow.lt ((Below.refl _ _).alloc (Nat.le_refl _) _),heap_alloc_new w _⟩
 have HALN:Hid (∀ (n':Nat) (_:1 ≤ n') (W:World) (P:Nat) (v a:Int) (X:Nat → Prop),w.heap.size ≤ P → (∀ k,X k → w.heap.size ≤ k ∧ k ≤ P) → Below w.heap.size w W → Boxed W (P + 1) 63 (.pointer (some ⟨tb,0,none⟩)) → Boxed W (P + 2) 3 (.int .i64 v) → Boxed W (P + 3) 73 (.int .i64 a) →
   SeqStopsK Fence.wide n' Tryz.prog 135 #[.pointer (some ⟨P + 1,0,none⟩),.pointer (some ⟨P + 2,0,none⟩),.pointer (some ⟨P + 3,0,none⟩)] (fun x:NodeN (nodesB evs).length=>#[Value.int .i64 x.1]) (KpX X (P + 4)) (fun ys=>ys.map (·.1) = alongM (nodesB evs).length (lastN evs) v a) (fun pre=>pre.map (·.1) <+: alongM (nodesB evs).length (lastN evs) v a) (alongM (nodesB evs).length (lastN evs) v a).length W):=Lib.hid (by
  intro n' hn' W P v a X hP hX hb h0 h1 h2
  obtain ⟨⟨B,ht⟩,hwh,_,hln,_⟩:=hq
  have hrng:=lastN_rng (wholeB_some hwh).choose_spec.1
  have htl:=treeLast ht hwh
  have hl0:=h2.lt
  have hls:=hb.size
  exact along_nodes n' hn' (P + 1) (P + 2) (P + 3) tb _ _ (fun k=>k < w.heap.size ∨ (P + 1 ≤ k ∧ k ≤ P + 3)) (KpX X (P + 4)) (fun h hk=>h.block _ (by omega) (fun hx=>by have:=hX _ hx;omega)) v a (by omega) hrng W (fun k hk=>by omega)
   ⟨h0,h1,h2,by omega,by omega,by omega,(htl.keep (B:=W) fun k hk=>hb.block k hk.2).mono fun k hk=>.inl hk.2⟩ (fun x hx=>alongM_in hrng v a x hx))
 clear hq h hall hfn hn hrow hax hgd
 obtain ⟨m,hm⟩:∃ m,ss.length = m:=⟨_,rfl⟩
 rw [hm] at hml ⊢
 have HM:=Lib.hid hm
 clear hm
 obtain ⟨R,hR⟩:∃ R,stepsP hold (treePT evs) fr ss = R:=⟨_,rfl⟩
 rw [hR]
 have HR:=Lib.hid hR
 clear hR
 refine (callsIn_wide (n:=9)).1 ?_
 refine callsIn_of_wp_marks Tryz.func82 rfl trivial ?_ rfl
 simp only [Tryz.ntmps82,List.size_toArray,List.length_cons,List.length_nil,Nat.reduceAdd,Nat.reduceSub,Array.replicate_succ,Array.replicate_zero,List.push_toArray,List.append_toArray,List.nil_append,List.cons_append]
 refine wpIn_wide.2 ?_
 go_wp2_with fail
 refine wp_loop_ghost (fun k a1 wr=>∃ ds:List Deferred,(∃ i gi:Nat,slotOf a1.tmps 17 = .int .i64 (i:Nat) ∧ slotOf a1.tmps 1 = .slice (some ⟨gi,0,none⟩) n n ∧ i ≤ m ∧ k = m - i ∧ Hid (Below w.heap.size w wr ∧ RowB wr gi (stepsP hold (treePT evs) fr (ss.take i)) ∧ wr.heap[w.heap.size]? = some (.cells #[.pointer (some ⟨tb,0,none⟩)] 153 (0,0)) ∧ MarksAt wr w.heap.size ds)) ∧ a1 = { tmps:=frA tb w.heap.size m c a a1.tmps,defers:=ds }) m ?atStart ?round
 case atStart=>exact ⟨[],⟨0,g0,rfl,rfl,Nat.zero_le _,rfl,Lib.hid ⟨HB0.out.1,HB0.out.2.1,HB0.out.2.2,MarksAt.nil _ _⟩⟩,rfl⟩
 case round =>
  rintro mk ⟨t,dd⟩ w11 ⟨ds,⟨i,gi,h17,h1,him,rfl,HI⟩,ha⟩
  obtain ⟨ha1,ha2⟩:=Act.mk.inj ha
  subst dd
  rw [ha1]
  clear ha ha1
  dsimp only [frA] at h17 h1 ⊢
  by_cases hlt:i < m
  rotate_left
  ·have i4:(m:Int) ≤ (i:Int):=by omega
   have HFI:Hid (RowB w11 gi R):=Lib.hid (by rw [← HR.out];have:=HI.out.2.1;rwa [List.take_of_length_le (by rw [HM.out];omega)] at this)
   go_wp2_with fail
   refine leaves_marks (B:=w.heap.size) (v:=.slice (some ⟨gi,0,none⟩) n n) ds w11 HI.out.2.2.2 fun w' hb hs hk=>⟨(by rw [results_tmp rfl];exact congrArg (fun v=>Result.ok v w') h1),gi,rfl,?_,HI.out.1.trans hb⟩
   refine HFI.out.keep (hk gi fun d hd e=>?_)
   obtain ⟨D,h1,h2,h3⟩:=HI.out.2.2.2.2 d hd
   have e2:=h1.symm.trans e
   injection e2 with e3 _
   injection e3 with e4
   rw [e4,show w11.heap[gi]? = _ from HFI.out] at h3
   cases h3
  have hil:i < ss.length:=by rw [HM.out];exact hlt
  obtain ⟨b,o,wa,wc,rfl,hb,hst,hcs⟩:=HS.out.get' i hil
  obtain ⟨k0,k1,k2,k3⟩:=hcs w11 HI.out.1
  have HST:Hid (StepAt (XAt f) w ss[i] (stepC ss[i] wa wc)):=Lib.hid hst
  have HSUC:Hid (stepsP hold (treePT evs) fr (ss.take (i + 1)) = stepP hold (treePT evs) (stepsP hold (treePT evs) fr (ss.take i)) ss[i]):=Lib.hid (stepsP_succ _ _ fr ss i hil)
  have HFL:Hid ((stepsP hold (treePT evs) fr (ss.take i)).length = n):=Lib.hid (by rw [stepsP_len];exact HFN.out)
  generalize stepsP hold (treePT evs) fr (ss.take i) = fri at *
  have HGS:Hid (ss[i].wher.all (goodXB f) = true):=Lib.hid (HGD.out _ (List.getElem_mem hil))
  generalize ss[i] = s at *
  clear hcs hst hb
  have i1:(0:Int) ≤ (i:Int):=by omega
  have i2:(i:Int) < (m:Int):=by omega
  have ew:IntKind.i64.wrap ((i:Int) + 1) = (i:Int) + 1:=IntWalk.i64_in _ (by omega)
  obtain ⟨P8,hP8⟩:∃ P,P = w11.heap.size:=⟨_,rfl⟩
  generalize hob:Obj.cells #[.int .i64 s.axis,.int .i64 s.test,.string (strL s.name),.slice wa s.wher.length wc] 76 = ob
  have HOB:Hid (Below w.heap.size w (w11.alloc ob) ∧ (w11.alloc ob).heap.size = P8 + 1 ∧ (w11.alloc ob).heap[P8]? = some ob ∧ w.heap.size < P8):=Lib.hid ⟨HI.out.1.alloc HI.out.1.size _,by simp [hP8],by rw [hP8];exact heap_alloc_new w11 _,by rw [hP8];exact heap_lt HI.out.2.2.1⟩
  have HOB2:Hid (Below w11.heap.size w11 (w11.alloc ob)):=Lib.hid ((Below.refl _ _).alloc (Nat.le_refl _) _)
  have HOBE:=Lib.hid hob
  subst hob
  go_wp2_with (at_make;go_must ((refine wpList_make_full _ (by rfl) _ _ 150 (by rfl) w.heap.size 4 i0 _ 1 Tryz.underlying150 hi0 hz0 hz1 .i64 .i64 (n:Int) (n:Int) n (by rfl) (by rfl) rfl rfl (by rw [hz2];omega) (by unfold maxLen;omega) (by have:=HI.out.1.size;simp;omega) (fun w12 hown hgr=>?_))))
  rw [← hP8]
  obtain ⟨G,hG⟩:∃ G,G = P8 + 1:=⟨_,rfl⟩
  obtain ⟨P9,hP9⟩:∃ P,P = w12.heap.size:=⟨_,rfl⟩
  obtain ⟨P10,hP10⟩:∃ P,P = P9 + 1:=⟨_,rfl⟩
  have hrow0:(madeCells (Value.bool false).cells (n * 1)).toList = boolV (List.replicate n false):=by
   rw [Nat.mul_one]
   show (madeCells #[Value.bool false] n).toList = _
   rw [toList_madeCells_one];simp [boolV]
  have hown2:w12.ownsRow w.heap.size 4 1 (.slice (some ⟨G,0,none⟩) n n) n (boolV (List.replicate n false)):=by
   rw [← hrow0,hG]
   have:=hown
   rw [World.size_alloc,← hP8] at this
   exact this
  have hb12:Below (P8 + 1) (w11.alloc (.cells #[.int .i64 s.axis,.int .i64 s.test,.string (strL s.name),.slice wa s.wher.length wc] 76)) w12:=(Below.refl _ _).grown hgr (by rw [HOB.out.2.1];exact Nat.le_refl _) (fun k hk=>by cases hk)
  have hrw:RowB w12 G (List.replicate n false):=own_fullB hown2
  have hGlt:G < w12.heap.size:=hrw.lt
  have hgi:gi < P8:=by rw [hP8];exact HI.out.2.1.lt
  have hS2:SIn w ((w12.alloc (.cells #[.slice (some ⟨G,0,none⟩) n n] 150)).alloc (.cells #[.int .i64 (-2)] 3)) tb P8 G P9 P10 gi n (stepC s wa wc) fri (List.replicate n false) (-2) ds:=by
   have hbb:Below w12.heap.size w12 ((w12.alloc (.cells #[.slice (some ⟨G,0,none⟩) n n] 150)).alloc (.cells #[.int .i64 (-2)] 3)):=((Below.refl _ _).alloc (Nat.le_refl _) _).alloc (by simp) _
   have q12:∀ k,k < P8 → w12.heap[k]? = w11.heap[k]?:=fun k hk=>(hb12.block k (by omega)).trans (HOB2.out.block k (by omega))
   have h9:=heap_alloc_new w12 (.cells #[.slice (some ⟨G,0,none⟩) n n] 150)
   have h10:=heap_alloc_new (w12.alloc (.cells #[.slice (some ⟨G,0,none⟩) n n] 150)) (.cells #[.int .i64 (-2)] 3)
   rw [World.size_alloc,← hP9,← hP10] at h10
   rw [← hP9] at h9
   have ho:=HOB.out
   refine ⟨?_,(hbb.block _ (by omega)).trans ((q12 _ ho.2.2.2).trans HI.out.2.2.1),(hbb.block _ (by omega)).trans ((hb12.block _ (by omega)).trans ho.2.2.1),hrw.below hGlt hbb,(Below.heap_alloc _ _ _ (by simp;omega)).trans h9,h10,(hbb.block _ (by omega)).trans ((q12 _ hgi).trans HI.out.2.1),HI.out.2.2.2.keep fun D _ hD=>(hbb.block _ (by have:=heap_lt hD;omega)).trans ((q12 _ (by have:=heap_lt hD;omega)).trans hD)⟩
   exact ((ho.1.trans (hb12.mono (by omega)))).trans (hbb.mono (by omega))
  have HS2:=Lib.hid hS2
  have HDIS:Hid (w.heap.size < P8 ∧ P8 < G ∧ G < P9 ∧ P9 < P10 ∧ gi < P8):=Lib.hid ⟨HOB.out.2.2.2,by omega,by omega,by omega,hgi⟩
  rw [show w12.heap.size + 1 = P10 by omega,← hP9,← hG]
  generalize (w12.alloc (.cells #[.slice (some ⟨G,0,none⟩) n n] 150)).alloc (.cells #[.int .i64 (-2)] 3) = w2 at *
  clear hS2 hrw hb12 hown2 hrow0 hown hgr HOB HOB2 HOBE hgi hGlt
  clear hP8 hG hP9 hP10
  refine wp_loop_ghost (fun k a1 wr=>∃ ds:List Deferred,(∃ j:Nat,slotOf a1.tmps 11 = .int .i64 ((j:Int) - 1) ∧ j ≤ n ∧ k = n - j ∧ Hid (SIn w wr tb P8 G P9 P10 gi n (stepC s wa wc) fri (markI (treePT evs) s.axis fri j).1 (markI (treePT evs) s.axis fri j).2 ds)) ∧ a1 = { tmps:=frB tb w.heap.size m c b o i P8 P9 P10 G gi n s.wher.length wc s.axis s.test (strL s.name) wa t a1.tmps,defers:=ds }) n ?atStart2 ?round2
  case atStart2=>exact ⟨ds,⟨0,rfl,Nat.zero_le _,rfl,Lib.hid (by rw [markI_zero,HFL.out];exact HS2.out)⟩,rfl⟩
  case round2 =>
   rintro mk ⟨t2,dd⟩ w3 ⟨ds2,⟨j,h11,hjn,rfl,HJ⟩,ha⟩
   obtain ⟨ha1,ha2⟩:=Act.mk.inj ha
   subst dd
   rw [ha1]
   clear ha ha1
   dsimp only [frB] at h11 ⊢
   have ewn:IntKind.i64.wrap ((n:Int) - 1) = (n:Int) - 1:=IntWalk.i64_in _ (by omega)
   by_cases hj:j < n
   rotate_left
   ·have hjn2:j = n:=by omega
    subst hjn2
    have HMR:Hid ((markI (treePT evs) s.axis fri j).1 = (List.range j).map (reachP (treePT evs) fri s.axis)):=Lib.hid (by
     have:=markI_reach HAX.out (fr:=fri) (by rw [HFL.out];exact HNE.out) s.axis
     rw [HFL.out] at this
     exact this)
    have HJ3:Hid (SIn w w3 tb P8 G P9 P10 gi j (stepC s wa wc) fri (row3 hold (treePT evs) fri s 0) (markI (treePT evs) s.axis fri j).2 ds2):=Lib.hid (by
     rw [row3_zero,HFL.out,← HMR.out];exact HJ.out)
    generalize (markI (treePT evs) s.axis fri j).2 = cj at *
    have hj0:(j:Int) - 1 ≤ (j:Int) - 1:=Int.le_refl _
    clear HJ HMR
    go_wp2_with fail
    refine wp_loop_ghost (fun k a1 wr=>∃ q:Nat,slotOf a1.tmps 14 = .int .i64 ((q:Int) - 1) ∧ q ≤ j ∧ k = j - q ∧ Hid (SIn w wr tb P8 G P9 P10 gi j (stepC s wa wc) fri (row3 hold (treePT evs) fri s q) cj ds2) ∧ a1 = { tmps:=frD tb w.heap.size P8 P9 P10 m c b o i t2 a1.tmps,defers:=ds2 }) j ?atStart3 ?round3
    case atStart3=>exact ⟨0,rfl,Nat.zero_le _,rfl,HJ3,rfl⟩
    case round3 =>
     rintro mk3 ⟨t3,dd⟩ w4 ⟨q,h14,hqj,rfl,HK,ha⟩
     obtain ⟨ha1,ha2⟩:=Act.mk.inj ha
     subst dd
     rw [ha1]
     clear ha ha1
     dsimp only [frD] at h14 ⊢
     rw [h14]
     clear h14
     have k9:=HK.out.c9
     by_cases hq:q < j
     rotate_left
     ·have hqj2:q = j:=by omega
      subst hqj2
      have hq0:(q:Int) - 1 ≤ (q:Int) - 1:=Int.le_refl _
      have HFIN:Hid (RowB w4 G (stepsP hold (treePT evs) fr (ss.take (i + 1)))):=Lib.hid (by
       rw [HSUC.out,← row3_all,HFL.out];exact HK.out.row)
      go_wp2_with fail
      exact ⟨m - (i + 1),by omega,ds2,⟨i + 1,G,rfl,rfl,by omega,rfl,Lib.hid ⟨HK.out.bel,HFIN.out,HK.out.ask,HK.out.mks⟩⟩,rfl⟩
     ·have hq0:(q:Int) - 1 < (j:Int) - 1:=by omega
      have hq1:(0:Int) ≤ (q:Int):=by omega
      have hq2:(q:Int) < (j:Int):=by omega
      have ewq:IntKind.i64.wrap ((q:Int) - 1 + 1) = (q:Int):=by rw [IntWalk.i64_in _ (by omega)];omega
      have ewq2:IntKind.i64.wrap (q:Int) = (q:Int):=IntWalk.i64_in _ (by omega)
      have hlr:(row3 hold (treePT evs) fri s q).length = j:=by rw [row3_len,HFL.out]
      have hqr:q < (row3 hold (treePT evs) fri s q).length:=by rw [hlr];exact hq
      have eg:=HK.out.row.cell (row3_at hold (treePT evs) fri s q (by rw [HFL.out];exact hq))
      have fg:=HK.out.row.frozen q
      have HSET:Hid (∀ W,SIn w W tb P8 G P9 P10 gi j (stepC s wa wc) fri (row3 hold (treePT evs) fri s q) cj ds2 → SIn w (W.setCell ⟨G,q,none⟩ (.bool (reachP (treePT evs) fri s.axis q && (meetsP (treePT evs) ((q:Int) - 1) s && s.wher.all (hold ((q:Int) - 1)))))) tb P8 G P9 P10 gi j (stepC s wa wc) fri (row3 hold (treePT evs) fri s (q + 1)) cj ds2):=Lib.hid fun W hW=>by
       rw [row3_succ hold (treePT evs) fri s q (by rw [HFL.out];exact hq)]
       exact hW.setRow (by have:=HDIS.out;omega) q _
      have HEX:Hid (((q:Nat):Int) = (((q + 1:Nat):Int) - 1)):=Lib.hid (by omega)
      have hvn:(q:Int) - 1 < (nodesB evs).length:=by have:=HNE.out;omega
      obtain ⟨wa',wc',hcs',_,_,_,_,hwl,hxr⟩:=HST.out
      have hwa:wa' = wa:=by have h3:=congrArg (fun l=>l[3]?) hcs';simp [stepC] at h3;exact h3.1.symm
      subst hwa
      have HCELL:Hid (∀ W,SIn w W tb P8 G P9 P10 gi j (stepC s wa' wc) fri (row3 hold (treePT evs) fri s q) cj ds2 → W.cell? ⟨P9,0,none⟩ = some (.slice (some ⟨G,0,none⟩) j j) ∧ W.cell? ⟨w.heap.size,0,none⟩ = some (.pointer (some ⟨tb,0,none⟩)) ∧ W.cell? ⟨P8,3,none⟩ = some (.slice wa' s.wher.length wc) ∧ W.cell? ⟨G,q,none⟩ = some (.bool (reachP (treePT evs) fri s.axis q)) ∧ W.frozen? ⟨G,q,none⟩ = false):=Lib.hid fun W hW =>
       ⟨hW.c9,hW.c3,hW.stepCell3.2.2,hW.row.cell (row3_at hold (treePT evs) fri s q (by rw [HFL.out];exact hq)),hW.row.frozen q⟩
      have HTST:Hid (∀ W,SIn w W tb P8 G P9 P10 gi j (stepC s wa' wc) fri (row3 hold (treePT evs) fri s q) cj ds2 → Calls Tryz.prog 108 #[.agg #[.pointer (some ⟨tb,0,none⟩)],.int .i64 ((q:Int) - 1),.agg (stepC s wa' wc).toArray] W fun e w'=>e = .returned (.bool (meetsP (treePT evs) ((q:Int) - 1) s)) ∧ SIn w w' tb P8 G P9 P10 gi j (stepC s wa' wc) fri (row3 hold (treePT evs) fri s q) cj ds2):=Lib.hid fun W hW =>
       (test_any ((q:Int) - 1) s wa' wc W (HQ.out.below hW.bel) hvn).mono fun e w' h=>⟨h.1,hW.below h.2⟩
      have HALW:Hid (∀ W,SIn w W tb P8 G P9 P10 gi j (stepC s wa' wc) fri (row3 hold (treePT evs) fri s q) cj ds2 → Calls Tryz.prog 109 #[.agg #[.pointer (some ⟨tb,0,none⟩)],.int .i64 ((q:Int) - 1),.slice wa' s.wher.length wc] W fun e w'=>e = .returned (.bool (s.wher.all (hold ((q:Int) - 1)))) ∧ SIn w w' tb P8 G P9 P10 gi j (stepC s wa' wc) fri (row3 hold (treePT evs) fri s q) cj ds2):=Lib.hid fun W hW =>
       (HALL.out ((q:Int) - 1) s.wher wa' wc W (by omega) hvn (HQ.out.below hW.bel) (XsAt.below hxr hW.bel) hwl HGS.out).mono fun e w' h=>⟨h.1,hW.below h.2⟩
      have s8:w4.heap[P8]? = some (.cells (stepC s wa' wc).toArray 76 (0,0)):=HK.out.stp
      have s0:w4.cell? ⟨P8,0,none⟩ = some (.int .i64 s.axis):=by rw [cell_heap s8];rfl
      have s1:w4.cell? ⟨P8,1,none⟩ = some (.int .i64 s.test):=by rw [cell_heap s8];rfl
      have s2:w4.cell? ⟨P8,2,none⟩ = some (.string (strL s.name)):=by rw [cell_heap s8];rfl
      have s3:w4.cell? ⟨P8,3,none⟩ = some (.slice wa' s.wher.length wc):=by rw [cell_heap s8];rfl
      have k3:=HK.out.c3
      clear s8 hcs' hxr hwl hlr hqr
      unfold stepC at HTST
      generalize reachP (treePT evs) fri s.axis q = rb at *
      generalize meetsP (treePT evs) ((q:Int) - 1) s = mb at *
      generalize s.wher.all (hold ((q:Int) - 1)) = ab at *
      cases rb with
      | false =>
       have HN:=Lib.hid (HSET.out w4 HK.out)
       clear HSET HTST HALW HCELL
       go_wp2_with fail
       go_region
       all_goals
        go_wp2_with fail
        exact ⟨j - (q + 1),by omega,q + 1,congrArg (Value.int .i64) HEX.out,by omega,rfl,Lib.hid (SIn.below HN.out ((Below.refl _ _).drew)),rfl⟩
      | true =>
       clear s0 s1 s2 s3 k3 k9
       have HSS:Hid (∀ W,SIn w W tb P8 G P9 P10 gi j [.int .i64 s.axis,.int .i64 s.test,.string (strL s.name),.slice wa' s.wher.length wc] fri (row3 hold (treePT evs) fri s q) cj ds2 → W.cell? ⟨P9,0,none⟩ = some (.slice (some ⟨G,0,none⟩) j j) ∧ W.cell? ⟨w.heap.size,0,none⟩ = some (.pointer (some ⟨tb,0,none⟩)) ∧ W.cell? ⟨P8,0,none⟩ = some (.int .i64 s.axis) ∧ W.cell? ⟨P8,1,none⟩ = some (.int .i64 s.test) ∧ W.cell? ⟨P8,2,none⟩ = some (.string (strL s.name)) ∧ W.cell? ⟨P8,3,none⟩ = some (.slice wa' s.wher.length wc)):=Lib.hid fun W hW=>by
        refine ⟨hW.c9,hW.c3,?_,?_,?_,?_⟩ <;> (rw [cell_heap hW.stp];rfl)
       have HSS2:Hid (∀ W u,SIn w W tb P8 G P9 P10 gi j [.int .i64 s.axis,.int .i64 s.test,.string (strL s.name),.slice wa' s.wher.length wc] fri (row3 hold (treePT evs) fri s q) cj ds2 → (W.setCell ⟨G,q,none⟩ (.bool u)).cell? ⟨P9,0,none⟩ = some (.slice (some ⟨G,0,none⟩) j j) ∧ (W.setCell ⟨G,q,none⟩ (.bool u)).cell? ⟨w.heap.size,0,none⟩ = some (.pointer (some ⟨tb,0,none⟩)) ∧ (W.setCell ⟨G,q,none⟩ (.bool u)).cell? ⟨P8,0,none⟩ = some (.int .i64 s.axis) ∧ (W.setCell ⟨G,q,none⟩ (.bool u)).cell? ⟨P8,1,none⟩ = some (.int .i64 s.test) ∧ (W.setCell ⟨G,q,none⟩ (.bool u)).cell? ⟨P8,2,none⟩ = some (.string (strL s.name)) ∧ (W.setCell ⟨G,q,none⟩ (.bool u)).cell? ⟨P8,3,none⟩ = some (.slice wa' s.wher.length wc)):=Lib.hid fun W u hW=>by
        have h2:=hW.setRow (by have:=HDIS.out;omega) q u
        refine ⟨h2.c9,h2.c3,?_,?_,?_,?_⟩ <;> (rw [cell_heap h2.stp];rfl)
       have HGQ:Hid (∀ W,SIn w W tb P8 G P9 P10 gi j [.int .i64 s.axis,.int .i64 s.test,.string (strL s.name),.slice wa' s.wher.length wc] fri (row3 hold (treePT evs) fri s q) cj ds2 → W.cell? ⟨G,q,none⟩ = some (.bool true) ∧ W.frozen? ⟨G,q,none⟩ = false):=Lib.hid fun W hW=>⟨(HCELL.out W hW).2.2.2.1,(HCELL.out W hW).2.2.2.2⟩
       have hkd:SIn w w4.drew tb P8 G P9 P10 gi j [.int .i64 s.axis,.int .i64 s.test,.string (strL s.name),.slice wa' s.wher.length wc] fri (row3 hold (treePT evs) fri s q) cj ds2:=SIn.below HK.out ((Below.refl _ _).drew)
       have k9:=HK.out.c9
       clear HCELL
       cases mb with
       | false =>
        go_wp2_with fail
        obtain ⟨g4,f4⟩:=HGQ.out _ hkd
        refine wp_region_noPanic ?_
        refine wp_region_held_drew (S:=(fun w'=>w'.cell? ⟨P9,0,none⟩ = some (.slice (some ⟨G,0,none⟩) j j) ∧ w'.cell? ⟨w.heap.size,0,none⟩ = some (.pointer (some ⟨tb,0,none⟩)) ∧ w'.cell? ⟨P8,0,none⟩ = some (.int .i64 s.axis) ∧ w'.cell? ⟨P8,1,none⟩ = some (.int .i64 s.test) ∧ w'.cell? ⟨P8,2,none⟩ = some (.string (strL s.name)) ∧ w'.cell? ⟨P8,3,none⟩ = some (.slice wa' s.wher.length wc))) (by kernel_rfl) (HSS.out _ hkd) (fun hHeld=>?_)
        refine wpAnyH_take (i:=0) (oi:=⟨some 80,_,_,_,_,_⟩) (v:=?_) rfl (by kernel_rfl) (by kernel_rfl) (by kernel_rfl) (fun _ _ _ h=>h) (Or.inl ⟨by kernel_rfl,?_⟩) (by assumption) ?_
        rotate_left
        ·intro W hSw;(try dsimp only at hSw);go_simp;try with_reducible rfl
        try simp only [Act.put,List.setIfInBounds_toArray,List.set_cons_zero,List.set_cons_succ]
        refine wpAnyH_take (i:=1) (oi:=⟨some 81,_,_,_,_,_⟩) (v:=?_) rfl (by kernel_rfl) (by kernel_rfl) (by kernel_rfl) (fun _ _ _ h=>h) (Or.inl ⟨by kernel_rfl,?_⟩) (by assumption) ?_
        rotate_left
        ·intro W hSw;(try dsimp only at hSw);go_simp;try with_reducible rfl
        try simp only [Act.put,List.setIfInBounds_toArray,List.set_cons_zero,List.set_cons_succ]
        refine wpAnyH_take (i:=2) (oi:=⟨some 82,_,_,_,_,_⟩) (v:=?_) rfl (by kernel_rfl) (by kernel_rfl) (by kernel_rfl) (fun _ _ _ h=>h) (Or.inl ⟨by kernel_rfl,?_⟩) (by assumption) ?_
        rotate_left
        ·intro W hSw;(try dsimp only at hSw);go_simp;try with_reducible rfl
        try simp only [Act.put,List.setIfInBounds_toArray,List.set_cons_zero,List.set_cons_succ]
        refine wpAnyH_take (i:=3) (oi:=⟨some 83,_,_,_,_,_⟩) (v:=?_) rfl (by kernel_rfl) (by kernel_rfl) (by kernel_rfl) (fun _ _ _ h=>h) (Or.inl ⟨by kernel_rfl,?_⟩) (by assumption) ?_
        rotate_left
        ·intro W hSw;(try dsimp only at hSw);go_simp;try with_reducible rfl
        try simp only [Act.put,List.setIfInBounds_toArray,List.set_cons_zero,List.set_cons_succ]
        refine wpAnyH_take (i:=4) (oi:=⟨some 84,_,_,_,_,_⟩) (v:=?_) rfl (by kernel_rfl) (by kernel_rfl) (by kernel_rfl) (fun _ _ _ h=>h) (Or.inl ⟨by kernel_rfl,?_⟩) (by assumption) ?_
        rotate_left
        ·intro W hSw;(try dsimp only at hSw);go_simp;try with_reducible rfl
        try simp only [Act.put,List.setIfInBounds_toArray,List.set_cons_zero,List.set_cons_succ]
        refine wpAnyH_take (i:=5) (oi:=⟨some 85,_,_,_,_,_⟩) (v:=?_) rfl (by kernel_rfl) (by kernel_rfl) (by kernel_rfl) (fun _ _ _ h=>h) (Or.inl ⟨by kernel_rfl,?_⟩) (by assumption) ?_
        rotate_left
        ·intro W hSw;(try dsimp only at hSw);go_simp;try with_reducible rfl
        try simp only [Act.put,List.setIfInBounds_toArray,List.set_cons_zero,List.set_cons_succ]
        refine wpAnyH_take (i:=6) (oi:=⟨some 86,_,_,_,_,_⟩) (v:=?_) rfl (by kernel_rfl) (by kernel_rfl) (by kernel_rfl) (fun _ _ _ h=>h) (Or.inl ⟨by kernel_rfl,?_⟩) (by assumption) ?_
        rotate_left
        ·intro W hSw;(try dsimp only at hSw);go_simp;try with_reducible rfl
        try simp only [Act.put,List.setIfInBounds_toArray,List.set_cons_zero,List.set_cons_succ]
        refine wpAnyH_ready (rs:=[7]) (by kernel_rfl) (by simp) ?_
        refine AllReadyH.cons rfl (fun K hK=>?_) AllReadyH.nil
        go_simp
        refine hK.out _ _ (HSS.out _ hkd) (fun hHeld=>?_)
        clear hK K
        try simp only [Act.put,List.setIfInBounds_toArray,List.set_cons_zero,List.set_cons_succ]
        refine wpAnyH_take (i:=8) (oi:=⟨some 88,_,_,_,_,_⟩) (v:=?_) rfl (by kernel_rfl) (by kernel_rfl) (by kernel_rfl) (fun _ _ _ h=>h) (Or.inl ⟨by kernel_rfl,?_⟩) (by assumption) ?_
        rotate_left
        ·intro W hSw;(try dsimp only at hSw);go_simp;try with_reducible rfl
        try simp only [Act.put,List.setIfInBounds_toArray,List.set_cons_zero,List.set_cons_succ]
        refine wpAnyH_take (i:=9) (oi:=⟨some 89,_,_,_,_,_⟩) (v:=?_) rfl (by kernel_rfl) (by kernel_rfl) (by kernel_rfl) (fun _ _ _ h=>h) (Or.inl ⟨by kernel_rfl,?_⟩) (by assumption) ?_
        rotate_left
        ·intro W hSw;(try dsimp only at hSw);go_simp;try with_reducible rfl
        try simp only [Act.put,List.setIfInBounds_toArray,List.set_cons_zero,List.set_cons_succ]
        refine wpAnyH_take (i:=10) (oi:=⟨some 90,_,_,_,_,_⟩) (v:=?_) rfl (by kernel_rfl) (by kernel_rfl) (by kernel_rfl) (fun _ _ _ h=>h) (Or.inl ⟨by kernel_rfl,?_⟩) (by assumption) ?_
        rotate_left
        ·intro W hSw;(try dsimp only at hSw);go_simp;try with_reducible rfl
        try simp only [Act.put,List.setIfInBounds_toArray,List.set_cons_zero,List.set_cons_succ]
        refine wpAnyH_take (i:=11) (oi:=⟨some 91,_,_,_,_,_⟩) (v:=?_) rfl (by kernel_rfl) (by kernel_rfl) (by kernel_rfl) (fun _ _ _ h=>h) (Or.inl ⟨by kernel_rfl,?_⟩) (by assumption) ?_
        rotate_left
        ·intro W hSw;(try dsimp only at hSw);go_simp;try with_reducible rfl
        try simp only [Act.put,List.setIfInBounds_toArray,List.set_cons_zero,List.set_cons_succ]
        refine wpAnyH_ready (rs:=[12]) (by kernel_rfl) (by simp) ?_
        refine AllReadyH.cons rfl (fun K hK=>?_) AllReadyH.nil
        go_simp
        (go_at_call 108;(with_reducible refine (HTST.out _ ?_).mono ?_);(assumption);rintro e w5 ⟨rfl,h5⟩;obtain ⟨g5,f5⟩:=HGQ.out w5 h5)
        refine hK.out _ _ (HSS.out _ h5) (fun hHeld=>?_)
        clear hK K
        try simp only [Act.put,List.setIfInBounds_toArray,List.set_cons_zero,List.set_cons_succ]
        refine wpAnyH_take (i:=13) (oi:=⟨some 93,_,_,_,_,_⟩) (v:=?_) rfl (by kernel_rfl) (by kernel_rfl) (by kernel_rfl) (fun _ _ _ h=>h) (Or.inl ⟨by kernel_rfl,?_⟩) (by assumption) ?_
        rotate_left
        ·intro W hSw;(try dsimp only at hSw);go_simp;try with_reducible rfl
        try simp only [Act.put,List.setIfInBounds_toArray,List.set_cons_zero,List.set_cons_succ]
        refine wpAnyH_take (i:=14) (oi:=⟨some 94,_,_,_,_,_⟩) (v:=?_) rfl (by kernel_rfl) (by kernel_rfl) (by kernel_rfl) (fun _ _ _ h=>h) (Or.inl ⟨by kernel_rfl,?_⟩) (by assumption) ?_
        rotate_left
        ·intro W hSw;(try dsimp only at hSw);go_simp;try with_reducible rfl
        try simp only [Act.put,List.setIfInBounds_toArray,List.set_cons_zero,List.set_cons_succ]
        refine wpAnyH_skips (fuel:=3) (by kernel_rfl) (fun _ _ _ _ h=>h) (by assumption) [15,16,17,18,19] [some 95,some 96,some 97,some 98,some 99] 5 _ _ rfl (by kernel_rfl) ?_
        simp only [listedAfter,putU,Act.put,List.setIfInBounds_toArray,List.set_cons_zero,List.set_cons_succ]
        refine wpAnyH_take (i:=20) (oi:=⟨some 100,_,_,_,_,_⟩) (v:=?_) rfl (by kernel_rfl) (by kernel_rfl) (by kernel_rfl) (fun _ _ _ h=>h) (Or.inl ⟨by kernel_rfl,?_⟩) (by assumption) ?_
        rotate_left
        ·intro W hSw;(try dsimp only at hSw);go_simp;try with_reducible rfl
        try simp only [Act.put,List.setIfInBounds_toArray,List.set_cons_zero,List.set_cons_succ]
        refine wpAnyH_take (i:=21) (oi:=⟨some 101,_,_,_,_,_⟩) (v:=?_) rfl (by kernel_rfl) (by kernel_rfl) (by kernel_rfl) (fun _ _ _ h=>h) (Or.inl ⟨by kernel_rfl,?_⟩) (by assumption) ?_
        rotate_left
        ·intro W hSw;(try dsimp only at hSw);go_simp;try with_reducible rfl
        try simp only [Act.put,List.setIfInBounds_toArray,List.set_cons_zero,List.set_cons_succ]
        refine wpAnyH_ready (rs:=[22]) (by kernel_rfl) (by simp) ?_
        refine AllReadyH.cons rfl (fun K hK=>?_) AllReadyH.nil
        go_simp
        refine hK.out _ _ (HSS2.out _ _ h5) (fun hHeld=>?_)
        clear hK K
        try simp only [Act.put,List.setIfInBounds_toArray,List.set_cons_zero,List.set_cons_succ]
        refine wpAnyH_done (by kernel_rfl) ?_ _
        refine NoPanic.normal ?_
        have HN:=Lib.hid (HSET.out _ h5)
        go_wp2_with fail
        exact ⟨j - (q + 1),by omega,q + 1,congrArg (Value.int .i64) HEX.out,by omega,rfl,Lib.hid HN.out,rfl⟩
       | true =>
        go_wp2_with fail
        obtain ⟨g4,f4⟩:=HGQ.out _ hkd
        refine wp_region_noPanic ?_
        refine wp_region_held_drew (S:=(fun w'=>w'.cell? ⟨P9,0,none⟩ = some (.slice (some ⟨G,0,none⟩) j j) ∧ w'.cell? ⟨w.heap.size,0,none⟩ = some (.pointer (some ⟨tb,0,none⟩)) ∧ w'.cell? ⟨P8,0,none⟩ = some (.int .i64 s.axis) ∧ w'.cell? ⟨P8,1,none⟩ = some (.int .i64 s.test) ∧ w'.cell? ⟨P8,2,none⟩ = some (.string (strL s.name)) ∧ w'.cell? ⟨P8,3,none⟩ = some (.slice wa' s.wher.length wc))) (by kernel_rfl) (HSS.out _ hkd) (fun hHeld=>?_)
        refine wpAnyH_take (i:=0) (oi:=⟨some 80,_,_,_,_,_⟩) (v:=?_) rfl (by kernel_rfl) (by kernel_rfl) (by kernel_rfl) (fun _ _ _ h=>h) (Or.inl ⟨by kernel_rfl,?_⟩) (by assumption) ?_
        rotate_left
        ·intro W hSw;(try dsimp only at hSw);go_simp;try with_reducible rfl
        try simp only [Act.put,List.setIfInBounds_toArray,List.set_cons_zero,List.set_cons_succ]
        refine wpAnyH_take (i:=1) (oi:=⟨some 81,_,_,_,_,_⟩) (v:=?_) rfl (by kernel_rfl) (by kernel_rfl) (by kernel_rfl) (fun _ _ _ h=>h) (Or.inl ⟨by kernel_rfl,?_⟩) (by assumption) ?_
        rotate_left
        ·intro W hSw;(try dsimp only at hSw);go_simp;try with_reducible rfl
        try simp only [Act.put,List.setIfInBounds_toArray,List.set_cons_zero,List.set_cons_succ]
        refine wpAnyH_take (i:=2) (oi:=⟨some 82,_,_,_,_,_⟩) (v:=?_) rfl (by kernel_rfl) (by kernel_rfl) (by kernel_rfl) (fun _ _ _ h=>h) (Or.inl ⟨by kernel_rfl,?_⟩) (by assumption) ?_
        rotate_left
        ·intro W hSw;(try dsimp only at hSw);go_simp;try with_reducible rfl
        try simp only [Act.put,List.setIfInBounds_toArray,List.set_cons_zero,List.set_cons_succ]
        refine wpAnyH_take (i:=3) (oi:=⟨some 83,_,_,_,_,_⟩) (v:=?_) rfl (by kernel_rfl) (by kernel_rfl) (by kernel_rfl) (fun _ _ _ h=>h) (Or.inl ⟨by kernel_rfl,?_⟩) (by assumption) ?_
        rotate_left
        ·intro W hSw;(try dsimp only at hSw);go_simp;try with_reducible rfl
        try simp only [Act.put,List.setIfInBounds_toArray,List.set_cons_zero,List.set_cons_succ]
        refine wpAnyH_take (i:=4) (oi:=⟨some 84,_,_,_,_,_⟩) (v:=?_) rfl (by kernel_rfl) (by kernel_rfl) (by kernel_rfl) (fun _ _ _ h=>h) (Or.inl ⟨by kernel_rfl,?_⟩) (by assumption) ?_
        rotate_left
        ·intro W hSw;(try dsimp only at hSw);go_simp;try with_reducible rfl
        try simp only [Act.put,List.setIfInBounds_toArray,List.set_cons_zero,List.set_cons_succ]
        refine wpAnyH_take (i:=5) (oi:=⟨some 85,_,_,_,_,_⟩) (v:=?_) rfl (by kernel_rfl) (by kernel_rfl) (by kernel_rfl) (fun _ _ _ h=>h) (Or.inl ⟨by kernel_rfl,?_⟩) (by assumption) ?_
        rotate_left
        ·intro W hSw;(try dsimp only at hSw);go_simp;try with_reducible rfl
        try simp only [Act.put,List.setIfInBounds_toArray,List.set_cons_zero,List.set_cons_succ]
        refine wpAnyH_take (i:=6) (oi:=⟨some 86,_,_,_,_,_⟩) (v:=?_) rfl (by kernel_rfl) (by kernel_rfl) (by kernel_rfl) (fun _ _ _ h=>h) (Or.inl ⟨by kernel_rfl,?_⟩) (by assumption) ?_
        rotate_left
        ·intro W hSw;(try dsimp only at hSw);go_simp;try with_reducible rfl
        try simp only [Act.put,List.setIfInBounds_toArray,List.set_cons_zero,List.set_cons_succ]
        refine wpAnyH_ready (rs:=[7]) (by kernel_rfl) (by simp) ?_
        refine AllReadyH.cons rfl (fun K hK=>?_) AllReadyH.nil
        go_simp
        refine hK.out _ _ (HSS.out _ hkd) (fun hHeld=>?_)
        clear hK K
        try simp only [Act.put,List.setIfInBounds_toArray,List.set_cons_zero,List.set_cons_succ]
        refine wpAnyH_take (i:=8) (oi:=⟨some 88,_,_,_,_,_⟩) (v:=?_) rfl (by kernel_rfl) (by kernel_rfl) (by kernel_rfl) (fun _ _ _ h=>h) (Or.inl ⟨by kernel_rfl,?_⟩) (by assumption) ?_
        rotate_left
        ·intro W hSw;(try dsimp only at hSw);go_simp;try with_reducible rfl
        try simp only [Act.put,List.setIfInBounds_toArray,List.set_cons_zero,List.set_cons_succ]
        refine wpAnyH_take (i:=9) (oi:=⟨some 89,_,_,_,_,_⟩) (v:=?_) rfl (by kernel_rfl) (by kernel_rfl) (by kernel_rfl) (fun _ _ _ h=>h) (Or.inl ⟨by kernel_rfl,?_⟩) (by assumption) ?_
        rotate_left
        ·intro W hSw;(try dsimp only at hSw);go_simp;try with_reducible rfl
        try simp only [Act.put,List.setIfInBounds_toArray,List.set_cons_zero,List.set_cons_succ]
        refine wpAnyH_take (i:=10) (oi:=⟨some 90,_,_,_,_,_⟩) (v:=?_) rfl (by kernel_rfl) (by kernel_rfl) (by kernel_rfl) (fun _ _ _ h=>h) (Or.inl ⟨by kernel_rfl,?_⟩) (by assumption) ?_
        rotate_left
        ·intro W hSw;(try dsimp only at hSw);go_simp;try with_reducible rfl
        try simp only [Act.put,List.setIfInBounds_toArray,List.set_cons_zero,List.set_cons_succ]
        refine wpAnyH_take (i:=11) (oi:=⟨some 91,_,_,_,_,_⟩) (v:=?_) rfl (by kernel_rfl) (by kernel_rfl) (by kernel_rfl) (fun _ _ _ h=>h) (Or.inl ⟨by kernel_rfl,?_⟩) (by assumption) ?_
        rotate_left
        ·intro W hSw;(try dsimp only at hSw);go_simp;try with_reducible rfl
        try simp only [Act.put,List.setIfInBounds_toArray,List.set_cons_zero,List.set_cons_succ]
        refine wpAnyH_ready (rs:=[12]) (by kernel_rfl) (by simp) ?_
        refine AllReadyH.cons rfl (fun K hK=>?_) AllReadyH.nil
        go_simp
        (go_at_call 108;(with_reducible refine (HTST.out _ ?_).mono ?_);(assumption);rintro e w5 ⟨rfl,h5⟩;obtain ⟨g5,f5⟩:=HGQ.out w5 h5)
        refine hK.out _ _ (HSS.out _ h5) (fun hHeld=>?_)
        clear hK K
        try simp only [Act.put,List.setIfInBounds_toArray,List.set_cons_zero,List.set_cons_succ]
        refine wpAnyH_take (i:=13) (oi:=⟨some 93,_,_,_,_,_⟩) (v:=?_) rfl (by kernel_rfl) (by kernel_rfl) (by kernel_rfl) (fun _ _ _ h=>h) (Or.inl ⟨by kernel_rfl,?_⟩) (by assumption) ?_
        rotate_left
        ·intro W hSw;(try dsimp only at hSw);go_simp;try with_reducible rfl
        try simp only [Act.put,List.setIfInBounds_toArray,List.set_cons_zero,List.set_cons_succ]
        refine wpAnyH_take (i:=14) (oi:=⟨some 94,_,_,_,_,_⟩) (v:=?_) rfl (by kernel_rfl) (by kernel_rfl) (by kernel_rfl) (fun _ _ _ h=>h) (Or.inl ⟨by kernel_rfl,?_⟩) (by assumption) ?_
        rotate_left
        ·intro W hSw;(try dsimp only at hSw);go_simp;try with_reducible rfl
        try simp only [Act.put,List.setIfInBounds_toArray,List.set_cons_zero,List.set_cons_succ]
        refine wpAnyH_take (i:=15) (oi:=⟨some 95,_,_,_,_,_⟩) (v:=?_) rfl (by kernel_rfl) (by kernel_rfl) (by kernel_rfl) (fun _ _ _ h=>h) (Or.inl ⟨by kernel_rfl,?_⟩) (by assumption) ?_
        rotate_left
        ·intro W hSw;(try dsimp only at hSw);go_simp;try with_reducible rfl
        try simp only [Act.put,List.setIfInBounds_toArray,List.set_cons_zero,List.set_cons_succ]
        refine wpAnyH_take (i:=16) (oi:=⟨some 96,_,_,_,_,_⟩) (v:=?_) rfl (by kernel_rfl) (by kernel_rfl) (by kernel_rfl) (fun _ _ _ h=>h) (Or.inl ⟨by kernel_rfl,?_⟩) (by assumption) ?_
        rotate_left
        ·intro W hSw;(try dsimp only at hSw);go_simp;try with_reducible rfl
        try simp only [Act.put,List.setIfInBounds_toArray,List.set_cons_zero,List.set_cons_succ]
        refine wpAnyH_take (i:=17) (oi:=⟨some 97,_,_,_,_,_⟩) (v:=?_) rfl (by kernel_rfl) (by kernel_rfl) (by kernel_rfl) (fun _ _ _ h=>h) (Or.inl ⟨by kernel_rfl,?_⟩) (by assumption) ?_
        rotate_left
        ·intro W hSw;(try dsimp only at hSw);go_simp;try with_reducible rfl
        try simp only [Act.put,List.setIfInBounds_toArray,List.set_cons_zero,List.set_cons_succ]
        refine wpAnyH_take (i:=18) (oi:=⟨some 98,_,_,_,_,_⟩) (v:=?_) rfl (by kernel_rfl) (by kernel_rfl) (by kernel_rfl) (fun _ _ _ h=>h) (Or.inl ⟨by kernel_rfl,?_⟩) (by assumption) ?_
        rotate_left
        ·intro W hSw;(try dsimp only at hSw);go_simp;try with_reducible rfl
        try simp only [Act.put,List.setIfInBounds_toArray,List.set_cons_zero,List.set_cons_succ]
        refine wpAnyH_ready (rs:=[19]) (by kernel_rfl) (by simp) ?_
        refine AllReadyH.cons rfl (fun K hK=>?_) AllReadyH.nil
        go_simp
        (go_at_call 109;(with_reducible refine (HALW.out _ ?_).mono ?_);(assumption);rintro e w6 ⟨rfl,h6⟩;obtain ⟨g6,f6⟩:=HGQ.out w6 h6)
        refine hK.out _ _ (HSS.out _ h6) (fun hHeld=>?_)
        clear hK K
        try simp only [Act.put,List.setIfInBounds_toArray,List.set_cons_zero,List.set_cons_succ]
        refine wpAnyH_take (i:=20) (oi:=⟨some 100,_,_,_,_,_⟩) (v:=?_) rfl (by kernel_rfl) (by kernel_rfl) (by kernel_rfl) (fun _ _ _ h=>h) (Or.inl ⟨by kernel_rfl,?_⟩) (by assumption) ?_
        rotate_left
        ·intro W hSw;(try dsimp only at hSw);go_simp;try with_reducible rfl
        try simp only [Act.put,List.setIfInBounds_toArray,List.set_cons_zero,List.set_cons_succ]
        refine wpAnyH_take (i:=21) (oi:=⟨some 101,_,_,_,_,_⟩) (v:=?_) rfl (by kernel_rfl) (by kernel_rfl) (by kernel_rfl) (fun _ _ _ h=>h) (Or.inl ⟨by kernel_rfl,?_⟩) (by assumption) ?_
        rotate_left
        ·intro W hSw;(try dsimp only at hSw);go_simp;try with_reducible rfl
        try simp only [Act.put,List.setIfInBounds_toArray,List.set_cons_zero,List.set_cons_succ]
        refine wpAnyH_ready (rs:=[22]) (by kernel_rfl) (by simp) ?_
        refine AllReadyH.cons rfl (fun K hK=>?_) AllReadyH.nil
        go_simp
        refine hK.out _ _ (HSS2.out _ _ h6) (fun hHeld=>?_)
        clear hK K
        try simp only [Act.put,List.setIfInBounds_toArray,List.set_cons_zero,List.set_cons_succ]
        refine wpAnyH_done (by kernel_rfl) ?_ _
        refine NoPanic.normal ?_
        have HN:=Lib.hid (HSET.out _ h6)
        go_wp2_with fail
        exact ⟨j - (q + 1),by omega,q + 1,congrArg (Value.int .i64) HEX.out,by omega,rfl,Lib.hid HN.out,rfl⟩
   have hjf:j < fri.length:=by rw [HFL.out];exact hj
   have HSC:Hid (markI (treePT evs) s.axis fri (j + 1) = markS (treePT evs) s.axis fri (markI (treePT evs) s.axis fri j) j):=Lib.hid (markI_succ ..)
   have HML:Hid ((markI (treePT evs) s.axis fri j).1.length = n):=Lib.hid (by rw [markI_len];exact HFL.out)
   generalize markI (treePT evs) s.axis fri j = st at *
   obtain ⟨tj,cj⟩:=st
   dsimp only at HJ HML
   have hj0:(j:Int) - 1 < (n:Int) - 1:=by omega
   have hj1:(0:Int) ≤ (j:Int):=by omega
   have hj2:(j:Int) < (n:Int):=by omega
   have ew1:IntKind.i64.wrap ((j:Int) - 1 + 1) = (j:Int):=by rw [IntWalk.i64_in _ (by omega)];omega
   have efr:=HJ.out.fr.cell (List.getElem?_eq_getElem hjf)
   have c8:w3.cell? ⟨P8,0,none⟩ = some (.int .i64 s.axis):=by rw [cell_heap HJ.out.stp];rfl
   have HFB:Hid (fri[j]?.getD false = fri[j]):=Lib.hid (by rw [List.getElem?_eq_getElem hjf];rfl)
   have HEX:Hid (((j:Nat):Int) = (((j + 1:Nat):Int) - 1)):=Lib.hid (by omega)
   generalize fri[j] = fb at *
   cases fb with
   | false =>
    have HN:Hid (SIn w w3 tb P8 G P9 P10 gi n (stepC s wa wc) fri (markI (treePT evs) s.axis fri (j + 1)).1 (markI (treePT evs) s.axis fri (j + 1)).2 ds2):=Lib.hid (by
     rw [HSC.out];unfold markS;rw [if_pos HFB.out];exact HJ.out)
    go_wp2_with fail
    exact ⟨n - (j + 1),by omega,ds2,⟨j + 1,congrArg (Value.int .i64) HEX.out,by omega,rfl,HN⟩,rfl⟩
   | true =>
    have hfbt:¬ (fri[j]?.getD false = false):=by rw [HFB.out];decide
    have HNF:=Lib.hid hfbt
    clear hfbt
    have HCO:Hid (deepA s.axis = true → (j:Int) - 1 ≤ cj → markI (treePT evs) s.axis fri (j + 1) = (if s.axis = 2 then tj.set j true else tj,cj)):=Lib.hid fun h1 h2=>by
     rw [HSC.out];unfold markS;rw [if_neg HNF.out,if_pos ⟨h1,h2⟩]
    have HTH:Hid (¬ (deepA s.axis = true ∧ (j:Int) - 1 ≤ cj) → markI (treePT evs) s.axis fri (j + 1) = (markL tj ((treePT evs).along ((j:Int) - 1) s.axis),if deepA s.axis then covL cj ((treePT evs).along ((j:Int) - 1) s.axis) else cj)):=Lib.hid fun h1=>by
     rw [HSC.out];unfold markS;rw [if_neg HNF.out,if_neg h1]
    have HDI:=HDIS.out
    have HAL:Hid (∀ o,SIn w (w3.alloc o) tb P8 G P9 P10 gi n (stepC s wa wc) fri tj cj ds2):=Lib.hid fun o=>HJ.out.below ((Below.refl _ _).alloc (Nat.le_refl _) o)
    have hjG:j < tj.length:=by rw [HML.out];exact hj
    have d8:=fun o=>(HAL.out o).stepCell
    have d9:=fun o=>(HAL.out o).c9
    have d10:=fun o=>(HAL.out o).c10
    have d3:=fun o=>(HAL.out o).c3
    have dG:=fun o=>(HAL.out o).row.cell (List.getElem?_eq_getElem hjG)
    have fG:=fun o=>(HAL.out o).row.frozen j
    generalize tj[j] = tjj at dG
    by_cases h1:s.axis = 1
    ·have t1:((s.axis:Int) == 1) = true:=by simp [h1]
     have t2:((s.axis:Int) == 2) = false:=by simp [h1]
     have hdp:deepA s.axis = true:=by rw [h1];rfl
     have hn2:¬ s.axis = 2:=by omega
     by_cases hcv:(j:Int) - 1 ≤ cj
     ·have HN:Hid (SIn w (w3.alloc (.cells #[.bool true] 4)) tb P8 G P9 P10 gi n (stepC s wa wc) fri (markI (treePT evs) s.axis fri (j + 1)).1 (markI (treePT evs) s.axis fri (j + 1)).2 ds2):=Lib.hid (by
       rw [HCO.out hdp hcv,if_neg hn2];exact HAL.out _)
      clear HCO HTH hn2 h1
      go_wp2_with fail
      exact ⟨n - (j + 1),by omega,ds2,⟨j + 1,congrArg (Value.int .i64) HEX.out,by omega,rfl,HN⟩,rfl⟩
     ·have HTHA:Hid (markI (treePT evs) s.axis fri (j + 1) = (markL tj (alongM (nodesB evs).length (lastN evs) ((j:Int) - 1) s.axis),covL cj (alongM (nodesB evs).length (lastN evs) ((j:Int) - 1) s.axis))):=Lib.hid (by
       rw [HTH.out (fun h=>hcv h.2),if_pos hdp];rfl)
      have hcv':cj < (j:Int) - 1:=by omega
      clear HCO HTH hn2 h1 hcv
      go_wp2_with (first | (go_at_call 107;(with_reducible refine (along_makes _ _ _ _).mono ?_);rintro e w' ⟨rfl,hw'⟩;subst w'))
      try simp only [World.size_alloc]
      have hP:∃ P,w3.heap.size = P:=⟨_,rfl⟩
      obtain ⟨P,hP⟩:=hP
      have o1:=heap_alloc_new w3 (.cells #[.bool true] 4)
      have o2:=heap_alloc_new (w3.alloc (.cells #[.bool true] 4)) (.cells #[.pointer (some ⟨tb,0,none⟩)] 63)
      have o3:=heap_alloc_new ((w3.alloc (.cells #[.bool true] 4)).alloc (.cells #[.pointer (some ⟨tb,0,none⟩)] 63)) (.cells #[.int .i64 ((j:Int) - 1)] 3)
      have o4:=heap_alloc_new (((w3.alloc (.cells #[.bool true] 4)).alloc (.cells #[.pointer (some ⟨tb,0,none⟩)] 63)).alloc (.cells #[.int .i64 ((j:Int) - 1)] 3)) (.cells #[.int .i64 s.axis] 73)
      simp only [World.size_alloc,hP] at o1 o2 o3 o4
      have hS3:SIn w ((((w3.alloc (.cells #[.bool true] 4)).alloc (.cells #[.pointer (some ⟨tb,0,none⟩)] 63)).alloc (.cells #[.int .i64 ((j:Int) - 1)] 3)).alloc (.cells #[.int .i64 s.axis] 73)) tb P8 G P9 P10 gi n (stepC s wa wc) fri tj cj ds2 :=
       (((HAL.out _).below ((Below.refl _ _).alloc (Nat.le_refl _) _)).below ((Below.refl _ _).alloc (Nat.le_refl _) _)).below ((Below.refl _ _).alloc (Nat.le_refl _) _)
      have hb12:Boxed ((((w3.alloc (.cells #[.bool true] 4)).alloc (.cells #[.pointer (some ⟨tb,0,none⟩)] 63)).alloc (.cells #[.int .i64 ((j:Int) - 1)] 3)).alloc (.cells #[.int .i64 s.axis] 73)) P 4 (.bool true) :=
       (Below.heap_alloc _ _ _ (by simp;omega)).trans ((Below.heap_alloc _ _ _ (by simp;omega)).trans ((Below.heap_alloc _ _ _ (by simp;omega)).trans o1))
      have hbx0:Boxed ((((w3.alloc (.cells #[.bool true] 4)).alloc (.cells #[.pointer (some ⟨tb,0,none⟩)] 63)).alloc (.cells #[.int .i64 ((j:Int) - 1)] 3)).alloc (.cells #[.int .i64 s.axis] 73)) (P + 1) 63 (.pointer (some ⟨tb,0,none⟩)) :=
       (Below.heap_alloc _ _ _ (by simp;omega)).trans ((Below.heap_alloc _ _ _ (by simp;omega)).trans o2)
      have hbx1:Boxed ((((w3.alloc (.cells #[.bool true] 4)).alloc (.cells #[.pointer (some ⟨tb,0,none⟩)] 63)).alloc (.cells #[.int .i64 ((j:Int) - 1)] 3)).alloc (.cells #[.int .i64 s.axis] 73)) (P + 2) 3 (.int .i64 ((j:Int) - 1)) :=
       (Below.heap_alloc _ _ _ (by simp;omega)).trans o3
      have hbx2:Boxed ((((w3.alloc (.cells #[.bool true] 4)).alloc (.cells #[.pointer (some ⟨tb,0,none⟩)] 63)).alloc (.cells #[.int .i64 ((j:Int) - 1)] 3)).alloc (.cells #[.int .i64 s.axis] 73)) (P + 3) 73 (.int .i64 s.axis):=o4
      have hsz3:((((w3.alloc (.cells #[.bool true] 4)).alloc (.cells #[.pointer (some ⟨tb,0,none⟩)] 63)).alloc (.cells #[.int .i64 ((j:Int) - 1)] 3)).alloc (.cells #[.int .i64 s.axis] 73)).heap.size = P + 4:=by simp;omega
      have hGP:G < P:=by rw [← hP];exact HJ.out.row.lt
      have hP10P:P10 < P:=by rw [← hP];exact heap_lt HJ.out.b10
      have hP8P:P8 < P:=by rw [← hP];exact heap_lt HJ.out.stp
      have hP9P:P9 < P:=by rw [← hP];exact heap_lt HJ.out.b9
      have hgiP:gi < P:=by rw [← hP];exact HJ.out.fr.lt
      rw [hP]
      generalize ((((w3.alloc (.cells #[.bool true] 4)).alloc (.cells #[.pointer (some ⟨tb,0,none⟩)] 63)).alloc (.cells #[.int .i64 ((j:Int) - 1)] 3)).alloc (.cells #[.int .i64 s.axis] 73)) = W3 at *
      clear o1 o2 o3 o4 hP d8 d9 d10 d3 dG fG efr c8
      have HS3:=Lib.hid hS3
      have HBX12:=Lib.hid hb12
      have HKL:Hid (∀ ys:List (NodeN (nodesB evs).length),valN ys = alongM (nodesB evs).length (lastN evs) ((j:Int) - 1) s.axis → markI (treePT evs) s.axis fri (j + 1) = (markL tj (valN ys),covL cj (valN ys))):=Lib.hid fun ys hys=>by
       rw [hys];exact HTHA.out
      refine frame_named fun T hT=>?_
      refine (wpIn_wide (n:=9)).1 ?_
      have hev:(Act.eval { tmps:=T,defers:=ds2 } (.tmp 63)) = .func (.func 135) #[] #[.pointer (some ⟨P + 1,0,none⟩),.pointer (some ⟨P + 2,0,none⟩),.pointer (some ⟨P + 3,0,none⟩)]:=by rw [hT];rfl
      refine wpIn_rangeFunc_ownG rfl (by decide) (gf:=135) (lb:=#[.pointer (some ⟨P + 1,0,none⟩),.pointer (some ⟨P + 2,0,none⟩),.pointer (some ⟨P + 3,0,none⟩)]) hev trivial (enters_of Tryz.func135 (by kernel_rfl) rfl)
       (HALN.out 8 (by decide) W3 P ((j:Int) - 1) s.axis (fun k=>k = G ∨ k = P10) (by omega) (fun k hk=>by omega) hS3.bel hbx0 hbx1 hbx2) KpX.trans (kpX_b (by rw [hsz3];omega)) (Below.refl _ _) (fun _=>rfl)
       (fun pre W=>(RowB W G (markL tj (valN pre)) ∧ Boxed W P10 3 (.int .i64 (covL cj (valN pre)))) ∧ KpX (fun k=>k = G ∨ k = P10) (P + 4) W3 W)
       (fun _ _ _=>False)
       (OwnFrom.and (OwnFrom.and (Own.from (rowB_own G (fun pre:List (NodeN (nodesB evs).length)=>markL tj (valN pre))) _) (Own.from (boxed_own P10 3 (fun pre:List (NodeN (nodesB evs).length)=>.int .i64 (covL cj (valN pre)))) _)) (ownFrom_kpX (by rw [hsz3];omega) (by rw [hsz3];omega)))
       (fun _ _ _ _ _ hs _ _=>hs)
       ⟨⟨hS3.row,hS3.b10⟩,KpX.refl _ _ _⟩
       (fun x=>{ tmps:=frC P9 P10 P x.1 T,defers:=[] })
       ?assign1 ?body1 ?done1 ?stop1
      case assign1 =>
       intro l x W K hK
       rw [hT] at hK ⊢
       gi_wp2
       exact hK
      case stop1 =>
       rintro D c pre W _ _ h _
       exact h.elim
      case body1 =>
       rintro l pre ⟨x,hx1,hx2⟩ W ⟨⟨hrow,hbox⟩,hK⟩ hlt
       obtain ⟨q,rfl⟩:∃ q:Nat,x = (q:Int) - 1:=⟨(x + 1).toNat,by omega⟩
       have hqn:q < (markL tj (valN pre)).length:=by rw [markL_len,HML.out];have:=HNE.out;omega
       have HPRE:Hid (markL tj (valN (pre ++ [(⟨(q:Int) - 1,hx1,hx2⟩:NodeN (nodesB evs).length)])) = (markL tj (valN pre)).set q true):=Lib.hid (by
        rw [valN_snoc,markL_snoc,show ((q:Int) - 1 + 1).toNat = q by omega])
       have HCV:Hid (covL cj (valN (pre ++ [(⟨(q:Int) - 1,hx1,hx2⟩:NodeN (nodesB evs).length)])) = max (covL cj (valN pre)) ((q:Int) - 1)):=Lib.hid (by
        rw [valN_snoc,covL_snoc])
       generalize (pre ++ [(⟨(q:Int) - 1,hx1,hx2⟩:NodeN (nodesB evs).length)]) = pre2 at *
       have HROW:=Lib.hid hrow
       have HBOX:=Lib.hid hbox
       have e1:=hrow.cell (List.getElem?_eq_getElem hqn)
       have e2:=hrow.frozen q
       have k9:W.cell? ⟨P9,0,none⟩ = some (.slice (some ⟨G,0,none⟩) n n):=by rw [cell_heap ((hK.block P9 (by omega) (by omega)).trans HS3.out.b9)];rfl
       have k12:∀ u,(W.setCell ⟨G,q,none⟩ u).cell? ⟨P,0,none⟩ = some (.bool true):=fun u=>by rw [cell_heap ((Below.heap_setCell _ _ _ _ (by show P ≠ G;omega)).trans ((hK.block P (by omega) (by omega)).trans HBX12.out))];rfl
       have k10:∀ u,(W.setCell ⟨G,q,none⟩ u).cell? ⟨P10,0,none⟩ = some (.int .i64 (covL cj (valN pre))):=fun u=>by rw [cell_heap ((Below.heap_setCell _ _ _ _ (by show P10 ≠ G;omega)).trans hbox)];rfl
       have z10:∀ u,(W.setCell ⟨G,q,none⟩ u).frozen? ⟨P10,0,none⟩ = false:=fun u=>frozen_heap ((Below.heap_setCell _ _ _ _ (by show P10 ≠ G;omega)).trans hbox)
       have hq0:(0:Int) ≤ (q:Int):=by omega
       have hqi:(q:Int) < (n:Int):=by have:=HNE.out;omega
       have ewq:IntKind.i64.wrap ((q:Int) - 1 + 1) = (q:Int):=by rw [IntWalk.i64_in _ (by omega)];omega
       generalize (markL tj (valN pre))[q] = bq at e1
       clear hrow hbox hqn
       dsimp only [frC]
       gi_wp2
       refine ⟨((KeepsOthers.setCell _ _ _).trans (KeepsOthers.setCell _ _ _)).from _,KpX.set (X:=fun k=>k = G ∨ k = P10) (KpX.set (X:=fun k=>k = G ∨ k = P10) (KpX.refl _ _ _) (.inl rfl) _ _) (.inr rfl) _ _,⟨?_,?_⟩,KpX.set (X:=fun k=>k = G ∨ k = P10) (KpX.set (X:=fun k=>k = G ∨ k = P10) hK (.inl rfl) _ _) (.inr rfl) _ _⟩
       ·rw [HPRE.out]
        exact (HROW.out.set q true).keep (Below.heap_setCell _ _ _ _ (by show G ≠ P10;omega))
       ·rw [HCV.out]
        exact Boxed.set (t:=3) _ ((Below.heap_setCell W ⟨G,q,none⟩ _ P10 (by show P10 ≠ G;omega)).trans HBOX.out)
      case done1 =>
       rintro D ys W hD hys ⟨⟨hrow,hbox⟩,hK⟩ hKD
       have hs3:=HS3.out
       have HN:Hid (SIn w W tb P8 G P9 P10 gi n (stepC s wa wc) fri (markI (treePT evs) s.axis fri (j + 1)).1 (markI (treePT evs) s.axis fri (j + 1)).2 ({ target:=.collected D,args:=#[] } :: ds2)):=Lib.hid (by
        rw [HKL.out ys hys]
        have kk:∀ k,k < P → k ≠ G → k ≠ P10 → W.heap[k]? = W3.heap[k]?:=fun k h1 h2 h3=>hK.block k (by omega) (by omega)
        refine ⟨hs3.bel.trans (hK.below (by omega) fun k h1=>by omega),(kk _ (by omega) (by omega) (by omega)).trans hs3.ask,(kk _ (by omega) (by omega) (by omega)).trans hs3.stp,hrow,(kk _ (by omega) (by omega) (by omega)).trans hs3.b9,hbox,(kk _ (by omega) (by omega) (by omega)).trans hs3.fr,?_⟩
        refine hs3.mks.push (by rw [hsz3] at hD;omega) hD (fun k hk1 hk2=>(hK.block k (by omega) fun h=>?_).trans hk2) hKD
        rcases h with h | h
        ·rw [h,show W3.heap[G]? = _ from hs3.row] at hk2;cases hk2
        ·rw [h,hs3.b10] at hk2;cases hk2)
       rw [hT]
       clear hrow hbox hK hKD hs3 hS3 hb12 hbx0 hbx1 hbx2 hD hys hev hT
       gi_wp2
       go_wp2_with fail
       exact ⟨n - (j + 1),by omega,_,⟨j + 1,congrArg (Value.int .i64) HEX.out,by omega,rfl,HN⟩,rfl⟩
    by_cases h2:s.axis = 2
    ·have t1:((s.axis:Int) == 1) = false:=by simp [h2]
     have t2:((s.axis:Int) == 2) = true:=by simp [h2]
     have hdp:deepA s.axis = true:=by rw [h2];rfl
     by_cases hcv:(j:Int) - 1 ≤ cj
     ·have HN:Hid (SIn w ((w3.alloc (.cells #[.bool true] 4)).setCell ⟨G,j,none⟩ (.bool true)) tb P8 G P9 P10 gi n (stepC s wa wc) fri (markI (treePT evs) s.axis fri (j + 1)).1 (markI (treePT evs) s.axis fri (j + 1)).2 ds2):=Lib.hid (by
       rw [HCO.out hdp hcv,if_pos h2];exact (HAL.out _).setRow (by omega) j true)
      clear HCO HTH h1 h2
      go_wp2_with fail
      exact ⟨n - (j + 1),by omega,ds2,⟨j + 1,congrArg (Value.int .i64) HEX.out,by omega,rfl,HN⟩,rfl⟩
     ·have HTHA:Hid (markI (treePT evs) s.axis fri (j + 1) = (markL tj (alongM (nodesB evs).length (lastN evs) ((j:Int) - 1) s.axis),covL cj (alongM (nodesB evs).length (lastN evs) ((j:Int) - 1) s.axis))):=Lib.hid (by
       rw [HTH.out (fun h=>hcv h.2),if_pos hdp];rfl)
      have hcv':cj < (j:Int) - 1:=by omega
      clear HCO HTH h1 h2 hcv
      go_wp2_with (first | (go_at_call 107;(with_reducible refine (along_makes _ _ _ _).mono ?_);rintro e w' ⟨rfl,hw'⟩;subst w'))
      try simp only [World.size_alloc]
      have hP:∃ P,w3.heap.size = P:=⟨_,rfl⟩
      obtain ⟨P,hP⟩:=hP
      have o1:=heap_alloc_new w3 (.cells #[.bool true] 4)
      have o2:=heap_alloc_new (w3.alloc (.cells #[.bool true] 4)) (.cells #[.pointer (some ⟨tb,0,none⟩)] 63)
      have o3:=heap_alloc_new ((w3.alloc (.cells #[.bool true] 4)).alloc (.cells #[.pointer (some ⟨tb,0,none⟩)] 63)) (.cells #[.int .i64 ((j:Int) - 1)] 3)
      have o4:=heap_alloc_new (((w3.alloc (.cells #[.bool true] 4)).alloc (.cells #[.pointer (some ⟨tb,0,none⟩)] 63)).alloc (.cells #[.int .i64 ((j:Int) - 1)] 3)) (.cells #[.int .i64 s.axis] 73)
      simp only [World.size_alloc,hP] at o1 o2 o3 o4
      have hS3:SIn w ((((w3.alloc (.cells #[.bool true] 4)).alloc (.cells #[.pointer (some ⟨tb,0,none⟩)] 63)).alloc (.cells #[.int .i64 ((j:Int) - 1)] 3)).alloc (.cells #[.int .i64 s.axis] 73)) tb P8 G P9 P10 gi n (stepC s wa wc) fri tj cj ds2 :=
       (((HAL.out _).below ((Below.refl _ _).alloc (Nat.le_refl _) _)).below ((Below.refl _ _).alloc (Nat.le_refl _) _)).below ((Below.refl _ _).alloc (Nat.le_refl _) _)
      have hb12:Boxed ((((w3.alloc (.cells #[.bool true] 4)).alloc (.cells #[.pointer (some ⟨tb,0,none⟩)] 63)).alloc (.cells #[.int .i64 ((j:Int) - 1)] 3)).alloc (.cells #[.int .i64 s.axis] 73)) P 4 (.bool true) :=
       (Below.heap_alloc _ _ _ (by simp;omega)).trans ((Below.heap_alloc _ _ _ (by simp;omega)).trans ((Below.heap_alloc _ _ _ (by simp;omega)).trans o1))
      have hbx0:Boxed ((((w3.alloc (.cells #[.bool true] 4)).alloc (.cells #[.pointer (some ⟨tb,0,none⟩)] 63)).alloc (.cells #[.int .i64 ((j:Int) - 1)] 3)).alloc (.cells #[.int .i64 s.axis] 73)) (P + 1) 63 (.pointer (some ⟨tb,0,none⟩)) :=
       (Below.heap_alloc _ _ _ (by simp;omega)).trans ((Below.heap_alloc _ _ _ (by simp;omega)).trans o2)
      have hbx1:Boxed ((((w3.alloc (.cells #[.bool true] 4)).alloc (.cells #[.pointer (some ⟨tb,0,none⟩)] 63)).alloc (.cells #[.int .i64 ((j:Int) - 1)] 3)).alloc (.cells #[.int .i64 s.axis] 73)) (P + 2) 3 (.int .i64 ((j:Int) - 1)) :=
       (Below.heap_alloc _ _ _ (by simp;omega)).trans o3
      have hbx2:Boxed ((((w3.alloc (.cells #[.bool true] 4)).alloc (.cells #[.pointer (some ⟨tb,0,none⟩)] 63)).alloc (.cells #[.int .i64 ((j:Int) - 1)] 3)).alloc (.cells #[.int .i64 s.axis] 73)) (P + 3) 73 (.int .i64 s.axis):=o4
      have hsz3:((((w3.alloc (.cells #[.bool true] 4)).alloc (.cells #[.pointer (some ⟨tb,0,none⟩)] 63)).alloc (.cells #[.int .i64 ((j:Int) - 1)] 3)).alloc (.cells #[.int .i64 s.axis] 73)).heap.size = P + 4:=by simp;omega
      have hGP:G < P:=by rw [← hP];exact HJ.out.row.lt
      have hP10P:P10 < P:=by rw [← hP];exact heap_lt HJ.out.b10
      have hP8P:P8 < P:=by rw [← hP];exact heap_lt HJ.out.stp
      have hP9P:P9 < P:=by rw [← hP];exact heap_lt HJ.out.b9
      have hgiP:gi < P:=by rw [← hP];exact HJ.out.fr.lt
      rw [hP]
      generalize ((((w3.alloc (.cells #[.bool true] 4)).alloc (.cells #[.pointer (some ⟨tb,0,none⟩)] 63)).alloc (.cells #[.int .i64 ((j:Int) - 1)] 3)).alloc (.cells #[.int .i64 s.axis] 73)) = W3 at *
      clear o1 o2 o3 o4 hP d8 d9 d10 d3 dG fG efr c8
      have HS3:=Lib.hid hS3
      have HBX12:=Lib.hid hb12
      have HKL:Hid (∀ ys:List (NodeN (nodesB evs).length),valN ys = alongM (nodesB evs).length (lastN evs) ((j:Int) - 1) s.axis → markI (treePT evs) s.axis fri (j + 1) = (markL tj (valN ys),covL cj (valN ys))):=Lib.hid fun ys hys=>by
       rw [hys];exact HTHA.out
      refine frame_named fun T hT=>?_
      refine (wpIn_wide (n:=9)).1 ?_
      have hev:(Act.eval { tmps:=T,defers:=ds2 } (.tmp 63)) = .func (.func 135) #[] #[.pointer (some ⟨P + 1,0,none⟩),.pointer (some ⟨P + 2,0,none⟩),.pointer (some ⟨P + 3,0,none⟩)]:=by rw [hT];rfl
      refine wpIn_rangeFunc_ownG rfl (by decide) (gf:=135) (lb:=#[.pointer (some ⟨P + 1,0,none⟩),.pointer (some ⟨P + 2,0,none⟩),.pointer (some ⟨P + 3,0,none⟩)]) hev trivial (enters_of Tryz.func135 (by kernel_rfl) rfl)
       (HALN.out 8 (by decide) W3 P ((j:Int) - 1) s.axis (fun k=>k = G ∨ k = P10) (by omega) (fun k hk=>by omega) hS3.bel hbx0 hbx1 hbx2) KpX.trans (kpX_b (by rw [hsz3];omega)) (Below.refl _ _) (fun _=>rfl)
       (fun pre W=>(RowB W G (markL tj (valN pre)) ∧ Boxed W P10 3 (.int .i64 (covL cj (valN pre)))) ∧ KpX (fun k=>k = G ∨ k = P10) (P + 4) W3 W)
       (fun _ _ _=>False)
       (OwnFrom.and (OwnFrom.and (Own.from (rowB_own G (fun pre:List (NodeN (nodesB evs).length)=>markL tj (valN pre))) _) (Own.from (boxed_own P10 3 (fun pre:List (NodeN (nodesB evs).length)=>.int .i64 (covL cj (valN pre)))) _)) (ownFrom_kpX (by rw [hsz3];omega) (by rw [hsz3];omega)))
       (fun _ _ _ _ _ hs _ _=>hs)
       ⟨⟨hS3.row,hS3.b10⟩,KpX.refl _ _ _⟩
       (fun x=>{ tmps:=frC P9 P10 P x.1 T,defers:=[] })
       ?assign2 ?body2 ?done2 ?stop2
      case assign2 =>
       intro l x W K hK
       rw [hT] at hK ⊢
       gi_wp2
       exact hK
      case stop2 =>
       rintro D c pre W _ _ h _
       exact h.elim
      case body2 =>
       rintro l pre ⟨x,hx1,hx2⟩ W ⟨⟨hrow,hbox⟩,hK⟩ hlt
       obtain ⟨q,rfl⟩:∃ q:Nat,x = (q:Int) - 1:=⟨(x + 1).toNat,by omega⟩
       have hqn:q < (markL tj (valN pre)).length:=by rw [markL_len,HML.out];have:=HNE.out;omega
       have HPRE:Hid (markL tj (valN (pre ++ [(⟨(q:Int) - 1,hx1,hx2⟩:NodeN (nodesB evs).length)])) = (markL tj (valN pre)).set q true):=Lib.hid (by
        rw [valN_snoc,markL_snoc,show ((q:Int) - 1 + 1).toNat = q by omega])
       have HCV:Hid (covL cj (valN (pre ++ [(⟨(q:Int) - 1,hx1,hx2⟩:NodeN (nodesB evs).length)])) = max (covL cj (valN pre)) ((q:Int) - 1)):=Lib.hid (by
        rw [valN_snoc,covL_snoc])
       generalize (pre ++ [(⟨(q:Int) - 1,hx1,hx2⟩:NodeN (nodesB evs).length)]) = pre2 at *
       have HROW:=Lib.hid hrow
       have HBOX:=Lib.hid hbox
       have e1:=hrow.cell (List.getElem?_eq_getElem hqn)
       have e2:=hrow.frozen q
       have k9:W.cell? ⟨P9,0,none⟩ = some (.slice (some ⟨G,0,none⟩) n n):=by rw [cell_heap ((hK.block P9 (by omega) (by omega)).trans HS3.out.b9)];rfl
       have k12:∀ u,(W.setCell ⟨G,q,none⟩ u).cell? ⟨P,0,none⟩ = some (.bool true):=fun u=>by rw [cell_heap ((Below.heap_setCell _ _ _ _ (by show P ≠ G;omega)).trans ((hK.block P (by omega) (by omega)).trans HBX12.out))];rfl
       have k10:∀ u,(W.setCell ⟨G,q,none⟩ u).cell? ⟨P10,0,none⟩ = some (.int .i64 (covL cj (valN pre))):=fun u=>by rw [cell_heap ((Below.heap_setCell _ _ _ _ (by show P10 ≠ G;omega)).trans hbox)];rfl
       have z10:∀ u,(W.setCell ⟨G,q,none⟩ u).frozen? ⟨P10,0,none⟩ = false:=fun u=>frozen_heap ((Below.heap_setCell _ _ _ _ (by show P10 ≠ G;omega)).trans hbox)
       have hq0:(0:Int) ≤ (q:Int):=by omega
       have hqi:(q:Int) < (n:Int):=by have:=HNE.out;omega
       have ewq:IntKind.i64.wrap ((q:Int) - 1 + 1) = (q:Int):=by rw [IntWalk.i64_in _ (by omega)];omega
       generalize (markL tj (valN pre))[q] = bq at e1
       clear hrow hbox hqn
       dsimp only [frC]
       gi_wp2
       refine ⟨((KeepsOthers.setCell _ _ _).trans (KeepsOthers.setCell _ _ _)).from _,KpX.set (X:=fun k=>k = G ∨ k = P10) (KpX.set (X:=fun k=>k = G ∨ k = P10) (KpX.refl _ _ _) (.inl rfl) _ _) (.inr rfl) _ _,⟨?_,?_⟩,KpX.set (X:=fun k=>k = G ∨ k = P10) (KpX.set (X:=fun k=>k = G ∨ k = P10) hK (.inl rfl) _ _) (.inr rfl) _ _⟩
       ·rw [HPRE.out]
        exact (HROW.out.set q true).keep (Below.heap_setCell _ _ _ _ (by show G ≠ P10;omega))
       ·rw [HCV.out]
        exact Boxed.set (t:=3) _ ((Below.heap_setCell W ⟨G,q,none⟩ _ P10 (by show P10 ≠ G;omega)).trans HBOX.out)
      case done2 =>
       rintro D ys W hD hys ⟨⟨hrow,hbox⟩,hK⟩ hKD
       have hs3:=HS3.out
       have HN:Hid (SIn w W tb P8 G P9 P10 gi n (stepC s wa wc) fri (markI (treePT evs) s.axis fri (j + 1)).1 (markI (treePT evs) s.axis fri (j + 1)).2 ({ target:=.collected D,args:=#[] } :: ds2)):=Lib.hid (by
        rw [HKL.out ys hys]
        have kk:∀ k,k < P → k ≠ G → k ≠ P10 → W.heap[k]? = W3.heap[k]?:=fun k h1 h2 h3=>hK.block k (by omega) (by omega)
        refine ⟨hs3.bel.trans (hK.below (by omega) fun k h1=>by omega),(kk _ (by omega) (by omega) (by omega)).trans hs3.ask,(kk _ (by omega) (by omega) (by omega)).trans hs3.stp,hrow,(kk _ (by omega) (by omega) (by omega)).trans hs3.b9,hbox,(kk _ (by omega) (by omega) (by omega)).trans hs3.fr,?_⟩
        refine hs3.mks.push (by rw [hsz3] at hD;omega) hD (fun k hk1 hk2=>(hK.block k (by omega) fun h=>?_).trans hk2) hKD
        rcases h with h | h
        ·rw [h,show W3.heap[G]? = _ from hs3.row] at hk2;cases hk2
        ·rw [h,hs3.b10] at hk2;cases hk2)
       rw [hT]
       clear hrow hbox hK hKD hs3 hS3 hb12 hbx0 hbx1 hbx2 hD hys hev hT
       gi_wp2
       go_wp2_with fail
       exact ⟨n - (j + 1),by omega,_,⟨j + 1,congrArg (Value.int .i64) HEX.out,by omega,rfl,HN⟩,rfl⟩
    ·have t1:((s.axis:Int) == 1) = false:=by simpa using h1
     have t2:((s.axis:Int) == 2) = false:=by simpa using h2
     have hdp:¬ deepA s.axis = true:=by simp [deepA,h1,h2]
     have HTHA:Hid (markI (treePT evs) s.axis fri (j + 1) = (markL tj (alongM (nodesB evs).length (lastN evs) ((j:Int) - 1) s.axis),cj)):=Lib.hid (by
      rw [HTH.out (fun h=>hdp h.1),if_neg hdp];rfl)
     clear HCO HTH h1 h2 hdp
     go_wp2_with (first | (go_at_call 107;(with_reducible refine (along_makes _ _ _ _).mono ?_);rintro e w' ⟨rfl,hw'⟩;subst w'))
     try simp only [World.size_alloc]
     have hP:∃ P,w3.heap.size = P:=⟨_,rfl⟩
     obtain ⟨P,hP⟩:=hP
     have o1:=heap_alloc_new w3 (.cells #[.bool false] 4)
     have o2:=heap_alloc_new (w3.alloc (.cells #[.bool false] 4)) (.cells #[.pointer (some ⟨tb,0,none⟩)] 63)
     have o3:=heap_alloc_new ((w3.alloc (.cells #[.bool false] 4)).alloc (.cells #[.pointer (some ⟨tb,0,none⟩)] 63)) (.cells #[.int .i64 ((j:Int) - 1)] 3)
     have o4:=heap_alloc_new (((w3.alloc (.cells #[.bool false] 4)).alloc (.cells #[.pointer (some ⟨tb,0,none⟩)] 63)).alloc (.cells #[.int .i64 ((j:Int) - 1)] 3)) (.cells #[.int .i64 s.axis] 73)
     simp only [World.size_alloc,hP] at o1 o2 o3 o4
     have hS3:SIn w ((((w3.alloc (.cells #[.bool false] 4)).alloc (.cells #[.pointer (some ⟨tb,0,none⟩)] 63)).alloc (.cells #[.int .i64 ((j:Int) - 1)] 3)).alloc (.cells #[.int .i64 s.axis] 73)) tb P8 G P9 P10 gi n (stepC s wa wc) fri tj cj ds2 :=
      (((HAL.out _).below ((Below.refl _ _).alloc (Nat.le_refl _) _)).below ((Below.refl _ _).alloc (Nat.le_refl _) _)).below ((Below.refl _ _).alloc (Nat.le_refl _) _)
     have hb12:Boxed ((((w3.alloc (.cells #[.bool false] 4)).alloc (.cells #[.pointer (some ⟨tb,0,none⟩)] 63)).alloc (.cells #[.int .i64 ((j:Int) - 1)] 3)).alloc (.cells #[.int .i64 s.axis] 73)) P 4 (.bool false) :=
      (Below.heap_alloc _ _ _ (by simp;omega)).trans ((Below.heap_alloc _ _ _ (by simp;omega)).trans ((Below.heap_alloc _ _ _ (by simp;omega)).trans o1))
     have hbx0:Boxed ((((w3.alloc (.cells #[.bool false] 4)).alloc (.cells #[.pointer (some ⟨tb,0,none⟩)] 63)).alloc (.cells #[.int .i64 ((j:Int) - 1)] 3)).alloc (.cells #[.int .i64 s.axis] 73)) (P + 1) 63 (.pointer (some ⟨tb,0,none⟩)) :=
      (Below.heap_alloc _ _ _ (by simp;omega)).trans ((Below.heap_alloc _ _ _ (by simp;omega)).trans o2)
     have hbx1:Boxed ((((w3.alloc (.cells #[.bool false] 4)).alloc (.cells #[.pointer (some ⟨tb,0,none⟩)] 63)).alloc (.cells #[.int .i64 ((j:Int) - 1)] 3)).alloc (.cells #[.int .i64 s.axis] 73)) (P + 2) 3 (.int .i64 ((j:Int) - 1)) :=
      (Below.heap_alloc _ _ _ (by simp;omega)).trans o3
     have hbx2:Boxed ((((w3.alloc (.cells #[.bool false] 4)).alloc (.cells #[.pointer (some ⟨tb,0,none⟩)] 63)).alloc (.cells #[.int .i64 ((j:Int) - 1)] 3)).alloc (.cells #[.int .i64 s.axis] 73)) (P + 3) 73 (.int .i64 s.axis):=o4
     have hsz3:((((w3.alloc (.cells #[.bool false] 4)).alloc (.cells #[.pointer (some ⟨tb,0,none⟩)] 63)).alloc (.cells #[.int .i64 ((j:Int) - 1)] 3)).alloc (.cells #[.int .i64 s.axis] 73)).heap.size = P + 4:=by simp;omega
     have hGP:G < P:=by rw [← hP];exact HJ.out.row.lt
     have hP10P:P10 < P:=by rw [← hP];exact heap_lt HJ.out.b10
     have hP8P:P8 < P:=by rw [← hP];exact heap_lt HJ.out.stp
     have hP9P:P9 < P:=by rw [← hP];exact heap_lt HJ.out.b9
     have hgiP:gi < P:=by rw [← hP];exact HJ.out.fr.lt
     rw [hP]
     generalize ((((w3.alloc (.cells #[.bool false] 4)).alloc (.cells #[.pointer (some ⟨tb,0,none⟩)] 63)).alloc (.cells #[.int .i64 ((j:Int) - 1)] 3)).alloc (.cells #[.int .i64 s.axis] 73)) = W3 at *
     clear o1 o2 o3 o4 hP d8 d9 d10 d3 dG fG efr c8
     have HS3:=Lib.hid hS3
     have HBX12:=Lib.hid hb12
     have HKL:Hid (∀ ys:List (NodeN (nodesB evs).length),valN ys = alongM (nodesB evs).length (lastN evs) ((j:Int) - 1) s.axis → markI (treePT evs) s.axis fri (j + 1) = (markL tj (valN ys),cj)):=Lib.hid fun ys hys=>by
      rw [hys];exact HTHA.out
     refine frame_named fun T hT=>?_
     refine (wpIn_wide (n:=9)).1 ?_
     have hev:(Act.eval { tmps:=T,defers:=ds2 } (.tmp 63)) = .func (.func 135) #[] #[.pointer (some ⟨P + 1,0,none⟩),.pointer (some ⟨P + 2,0,none⟩),.pointer (some ⟨P + 3,0,none⟩)]:=by rw [hT];rfl
     refine wpIn_rangeFunc_ownG rfl (by decide) (gf:=135) (lb:=#[.pointer (some ⟨P + 1,0,none⟩),.pointer (some ⟨P + 2,0,none⟩),.pointer (some ⟨P + 3,0,none⟩)]) hev trivial (enters_of Tryz.func135 (by kernel_rfl) rfl)
      (HALN.out 8 (by decide) W3 P ((j:Int) - 1) s.axis (fun k=>k = G ∨ k = P10) (by omega) (fun k hk=>by omega) hS3.bel hbx0 hbx1 hbx2) KpX.trans (kpX_b (by rw [hsz3];omega)) (Below.refl _ _) (fun _=>rfl)
      (fun pre W=>(RowB W G (markL tj (valN pre)) ∧ Boxed W P10 3 (.int .i64 (cj))) ∧ KpX (fun k=>k = G ∨ k = P10) (P + 4) W3 W)
      (fun _ _ _=>False)
      (OwnFrom.and (OwnFrom.and (Own.from (rowB_own G (fun pre:List (NodeN (nodesB evs).length)=>markL tj (valN pre))) _) (Own.from (boxed_own P10 3 (fun pre:List (NodeN (nodesB evs).length)=>.int .i64 (cj))) _)) (ownFrom_kpX (by rw [hsz3];omega) (by rw [hsz3];omega)))
      (fun _ _ _ _ _ hs _ _=>hs)
      ⟨⟨hS3.row,hS3.b10⟩,KpX.refl _ _ _⟩
      (fun x=>{ tmps:=frC P9 P10 P x.1 T,defers:=[] })
      ?assign3 ?body3 ?done3 ?stop3
     case assign3 =>
      intro l x W K hK
      rw [hT] at hK ⊢
      gi_wp2
      exact hK
     case stop3 =>
      rintro D c pre W _ _ h _
      exact h.elim
     case body3 =>
      rintro l pre ⟨x,hx1,hx2⟩ W ⟨⟨hrow,hbox⟩,hK⟩ hlt
      obtain ⟨q,rfl⟩:∃ q:Nat,x = (q:Int) - 1:=⟨(x + 1).toNat,by omega⟩
      have hqn:q < (markL tj (valN pre)).length:=by rw [markL_len,HML.out];have:=HNE.out;omega
      have HPRE:Hid (markL tj (valN (pre ++ [(⟨(q:Int) - 1,hx1,hx2⟩:NodeN (nodesB evs).length)])) = (markL tj (valN pre)).set q true):=Lib.hid (by
       rw [valN_snoc,markL_snoc,show ((q:Int) - 1 + 1).toNat = q by omega])
      have HCV:Hid (covL cj (valN (pre ++ [(⟨(q:Int) - 1,hx1,hx2⟩:NodeN (nodesB evs).length)])) = max (covL cj (valN pre)) ((q:Int) - 1)):=Lib.hid (by
       rw [valN_snoc,covL_snoc])
      generalize (pre ++ [(⟨(q:Int) - 1,hx1,hx2⟩:NodeN (nodesB evs).length)]) = pre2 at *
      have HROW:=Lib.hid hrow
      have HBOX:=Lib.hid hbox
      have e1:=hrow.cell (List.getElem?_eq_getElem hqn)
      have e2:=hrow.frozen q
      have k9:W.cell? ⟨P9,0,none⟩ = some (.slice (some ⟨G,0,none⟩) n n):=by rw [cell_heap ((hK.block P9 (by omega) (by omega)).trans HS3.out.b9)];rfl
      have k12:∀ u,(W.setCell ⟨G,q,none⟩ u).cell? ⟨P,0,none⟩ = some (.bool false):=fun u=>by rw [cell_heap ((Below.heap_setCell _ _ _ _ (by show P ≠ G;omega)).trans ((hK.block P (by omega) (by omega)).trans HBX12.out))];rfl
      have k10:∀ u,(W.setCell ⟨G,q,none⟩ u).cell? ⟨P10,0,none⟩ = some (.int .i64 (cj)):=fun u=>by rw [cell_heap ((Below.heap_setCell _ _ _ _ (by show P10 ≠ G;omega)).trans hbox)];rfl
      have z10:∀ u,(W.setCell ⟨G,q,none⟩ u).frozen? ⟨P10,0,none⟩ = false:=fun u=>frozen_heap ((Below.heap_setCell _ _ _ _ (by show P10 ≠ G;omega)).trans hbox)
      have hq0:(0:Int) ≤ (q:Int):=by omega
      have hqi:(q:Int) < (n:Int):=by have:=HNE.out;omega
      have ewq:IntKind.i64.wrap ((q:Int) - 1 + 1) = (q:Int):=by rw [IntWalk.i64_in _ (by omega)];omega
      generalize (markL tj (valN pre))[q] = bq at e1
      clear hrow hbox hqn
      dsimp only [frC]
      gi_wp2
      refine ⟨(KeepsOthers.setCell _ _ _).from _,KpX.set (X:=fun k=>k = G ∨ k = P10) (KpX.refl _ _ _) (.inl rfl) _ _,⟨?_,?_⟩,KpX.set (X:=fun k=>k = G ∨ k = P10) hK (.inl rfl) _ _⟩
      ·rw [HPRE.out]
       exact HROW.out.set q true
      ·exact (Below.heap_setCell _ _ _ _ (by show P10 ≠ G;omega)).trans HBOX.out
     case done3 =>
      rintro D ys W hD hys ⟨⟨hrow,hbox⟩,hK⟩ hKD
      have hs3:=HS3.out
      have HN:Hid (SIn w W tb P8 G P9 P10 gi n (stepC s wa wc) fri (markI (treePT evs) s.axis fri (j + 1)).1 (markI (treePT evs) s.axis fri (j + 1)).2 ({ target:=.collected D,args:=#[] } :: ds2)):=Lib.hid (by
       rw [HKL.out ys hys]
       have kk:∀ k,k < P → k ≠ G → k ≠ P10 → W.heap[k]? = W3.heap[k]?:=fun k h1 h2 h3=>hK.block k (by omega) (by omega)
       refine ⟨hs3.bel.trans (hK.below (by omega) fun k h1=>by omega),(kk _ (by omega) (by omega) (by omega)).trans hs3.ask,(kk _ (by omega) (by omega) (by omega)).trans hs3.stp,hrow,(kk _ (by omega) (by omega) (by omega)).trans hs3.b9,hbox,(kk _ (by omega) (by omega) (by omega)).trans hs3.fr,?_⟩
       refine hs3.mks.push (by rw [hsz3] at hD;omega) hD (fun k hk1 hk2=>(hK.block k (by omega) fun h=>?_).trans hk2) hKD
       rcases h with h | h
       ·rw [h,show W3.heap[G]? = _ from hs3.row] at hk2;cases hk2
       ·rw [h,hs3.b10] at hk2;cases hk2)
      rw [hT]
      clear hrow hbox hK hKD hs3 hS3 hb12 hbx0 hbx1 hbx2 hD hys hev hT
      gi_wp2
      go_wp2_with fail
      exact ⟨n - (j + 1),by omega,_,⟨j + 1,congrArg (Value.int .i64) HEX.out,by omega,rfl,HN⟩,rfl⟩
end Go.Proofs.YtgjokdngbocehaaGreatDoor
