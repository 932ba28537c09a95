/-
  Openers: a path, an expression that came in.
-/
import Derived.Test.YtgjokdngbocehaaGreatDoorCards
import Derived.Test.YtgjokdngbocehaaGreatDoorTie
import Derived.Deep.DeepHandedRow
import Derived.Deep.DeepWitnessRowRef
import Derived.JoinedCond
import Derived.SliceStrings
import Derived.Carry
import Derived.PinnedBridge
import Derived.Stop.LaidErr
import Derived.Test.YtgjokdngbocehaaGreatDoorHsC
import Derived.Test.YtgjokdngbocehaaGreatDoorHsD
import Derived.Test.YtgjokdngbocehaaGreatDoorHsG
import Derived.Test.YtgjokdngbocehaaGreatDoorHsN
namespace Go.Proofs.YtgjokdngbocehaaGreatDoor
open Go.RowKit
section
variable {H:Type} {enc:TypeId × Value → H} {w:World} {base:Nat} {sp:Nat → Bool} {held:Bool}
theorem list_of {α:Type} (n:Nat) (P:Nat → α → Prop) (h:∀ i,i < n → ∃ x,P i x):∃ l:List α,l.length = n ∧ ∀ i,(hi:i < l.length) → P i l[i]:=by
 refine ⟨List.ofFn (n:=n) fun i=>Classical.choose (h i.1 i.2),by simp,fun i hi=>?_⟩
 have hi':i < n:=by simpa using hi
 rw [List.getElem_ofFn]
 exact Classical.choose_spec (h i hi')
theorem bulk_pos (d:DataW H):1 ≤ Rows.uptoBulk d:=by
 cases d with
 | lit l=>cases l <;> simp [Rows.uptoBulk]
 | _=>simp [Rows.uptoBulk]
theorem bulkAll_len (l:List (DataW H)):l.length ≤ Rows.uptoBulkAll l:=by
 induction l with
 | nil=>simp
 | cons d l ih=>have:=bulk_pos d;simp only [Rows.uptoBulkAll,List.length_cons];omega
theorem rows_open {α:Type} {P:World → α → List Value → Prop} {S E:TypeId} {k fuel:Nat} (hS:Tryz.prog.underlying S = some (.slice E)) (hE:Tryz.prog.cellsOf E = k) (hk:0 < k) {cs:List Value} {x:DataW H × List MemPlace}
  (h:DataW.trod enc Tryz.prog w base sp held fuel S cs = some x) (hel:∀ (m:Nat) (es:List Value) (y:DataW H × List MemPlace),DataW.trod enc Tryz.prog w base sp held m E es = some y → Rows.uptoBulk y.1 + 1 ≤ Rows.uptoBulk x.1 → ∃ z:α,P w z es) :
  ∃ a c,∃ l:List α,cs = [.slice a l.length c] ∧ l.length ≤ c ∧ l.length ≤ Rows.uptoBulk x.1 ∧ RowP P k w a l:=by
 obtain ⟨a,n,c,elems,rfl,hnc,hen,hor,hat⟩:=slice_read hS hE hk h
 have hle:∀ i,(hi:i < elems.length) → Rows.uptoBulk elems[i].1 + 1 ≤ Rows.uptoBulk x.1:=fun i hi=>by
  rcases hor with h0 | ⟨rest,h0⟩
  ·subst h0;simp at hi
  ·rw [h0]
   have:=bulk_le (l:=elems.map (·.1)) (i:=i) (d:=elems[i].1) (by rw [List.getElem?_map,List.getElem?_eq_getElem hi];rfl)
   simp only [Rows.uptoBulk];omega
 have hln:elems.length ≤ Rows.uptoBulk x.1:=by
  rcases hor with h0 | ⟨rest,h0⟩
  ·subst h0;simp
  ·rw [h0]
   have:=bulkAll_len (elems.map (·.1))
   rw [List.length_map] at this
   simp only [Rows.uptoBulk];omega
 obtain ⟨l,hl,hat2⟩:=list_of (α:=α) elems.length (fun i z=>∃ b o ecs,a = some ⟨b,o,none⟩ ∧ b < w.heap.size ∧ ecs.length = k ∧ (∀ j,j < k → w.cell? ⟨b,o + i * k + j,none⟩ = ecs[j]?) ∧ P w z ecs) (fun i hi=>by
  obtain ⟨b,o,m,ecs,h1,h2,h3,h4,h5⟩:=hat i hi
  obtain ⟨z,hz⟩:=hel m ecs _ h5 (hle i hi)
  exact ⟨z,b,o,ecs,h1,h2,h3,h4,hz⟩)
 subst hen
 refine ⟨a,c,l,by rw [hl],by omega,by omega,fun i hi=>?_⟩
 obtain ⟨b,o,ecs,h1,h2,h3,h4,h5⟩:=hat2 i hi
 exact ⟨b,o,ecs,h1,h2,h3,h4,h5⟩
theorem step_desc:∃ f0 f1 f2 f3,Tryz.prog.underlying 76 = some (.struct #[f0,f1,f2,f3]) ∧ (f0.type = 73 ∧ f1.type = 74 ∧ f2.type = 9 ∧ f3.type = 39) ∧ (f0.offset = 0 ∧ f1.offset = 1 ∧ f2.offset = 2 ∧ f3.offset = 3):=by
 refine ⟨_,_,_,_,Tryz.underlying76,⟨rfl,rfl,rfl,rfl⟩,⟨rfl,rfl,rfl,rfl⟩⟩
theorem expr_desc:∃ f0 f1 f2 f3 f4 f5 f6,Tryz.prog.underlying 42 = some (.struct #[f0,f1,f2,f3,f4,f5,f6]) ∧ (f0.type = 38 ∧ f1.type = 39 ∧ f2.type = 25 ∧ f3.type = 9 ∧ f4.type = 40 ∧ f5.type = 9 ∧ f6.type = 3) ∧
  (f0.offset = 0 ∧ f1.offset = 1 ∧ f2.offset = 2 ∧ f3.offset = 3 ∧ f4.offset = 4 ∧ f5.offset = 5 ∧ f6.offset = 6):=by
 refine ⟨_,_,_,_,_,_,_,Tryz.underlying42,⟨rfl,rfl,rfl,rfl,rfl,rfl,rfl⟩,⟨rfl,rfl,rfl,rfl,rfl,rfl,rfl⟩⟩
theorem path_desc:∃ f0,Tryz.prog.underlying 25 = some (.struct #[f0]) ∧ f0.type = 23 ∧ f0.offset = 0:=by
 refine ⟨_,Tryz.underlying25,rfl,rfl⟩
theorem cellsAxis1:Tryz.prog.cellsOf 73 = 1:=by kernel_rfl
theorem cellsTest1:Tryz.prog.cellsOf 74 = 1:=by kernel_rfl
theorem cellsOp1:Tryz.prog.cellsOf 38 = 1:=by kernel_rfl
theorem cellsCmp1:Tryz.prog.cellsOf 40 = 1:=by kernel_rfl
theorem cellsExprs1:Tryz.prog.cellsOf 39 = 1:=by kernel_rfl
theorem cellsSteps1:Tryz.prog.cellsOf 23 = 1:=by kernel_rfl
theorem cellsPath1:Tryz.prog.cellsOf 25 = 1:=by kernel_rfl
theorem cellsStep:Tryz.prog.cellsOf 76 = 4:=by kernel_rfl
theorem cellsExpr:Tryz.prog.cellsOf 42 = 7:=by kernel_rfl
theorem w64_of {n:Int} (h:(Lit.int .i64 n).wf = true):W64 n:=by
 simp [Lit.wf,IntKind.min,IntKind.max,IntKind.signed,IntKind.bits] at h
 unfold W64
 omega
set_option maxRecDepth 100000 in
set_option maxHeartbeats 1000000 in
theorem step_open {K fuel:Nat} (ih:∀ (m:Nat) (es:List Value) (y:DataW H × List MemPlace),DataW.trod enc Tryz.prog w base sp held m 42 es = some y → Rows.uptoBulk y.1 ≤ K → ∃ z,XAt K w z es) {cs:List Value} {x:DataW H × List MemPlace}
  (h:DataW.trod enc Tryz.prog w base sp held fuel 76 cs = some x) (hK:Rows.uptoBulk x.1 ≤ K + 1) (hM:Rows.uptoBulk x.1 ≤ 1048576):∃ s,StepAt (XAt K) w s cs:=by
 obtain ⟨f0,f1,f2,f3,hu,⟨t0,t1,t2,t3⟩,⟨o0,o1,o2,o3⟩⟩:=step_desc
 obtain ⟨xs,m,_,hx,hl,hxl,hat⟩:=DataW.trod_struct hu h
 have h0:=hat 0 f0 rfl
 have h1:=hat 1 f1 rfl
 have h2:=hat 2 f2 rfl
 have h3:=hat 3 f3 rfl
 clear hat
 rw [t0,o0,cellsAxis1] at h0
 rw [t1,o1,cellsTest1] at h1
 rw [t2,o2,cellsStr1] at h2
 rw [t3,o3,cellsExprs1] at h3
 rw [cellsStep] at hl
 have hxl4:xs.length = 4:=hxl
 match xs,hxl4 with
 | [p0,p1,p2,p3],_ =>
  match cs,hl with
  | [c0,c1,c2,c3],_ =>
   rw [hx] at hK hM
   simp only [List.map_cons,List.map_nil,Rows.uptoBulk,Rows.uptoBulkAll] at hK hM
   obtain ⟨n0,e0,y0,w0⟩:=DataW.trod_int Tryz.underlying73 h0
   obtain ⟨n1,e1,y1,w1⟩:=DataW.trod_int Tryz.underlying74 h1
   obtain ⟨s2,e2,y2,_⟩:=DataW.trod_string Tryz.underlying9 h2
   have hp3:=h3
   simp only [List.getElem?_cons_succ,List.getElem?_cons_zero] at hp3
   obtain ⟨a,c,l,e3,hlc,hlb,hrow⟩:=rows_open (α:=PX) (P:=XAt K) Tryz.underlying39 cellsExpr (by decide) hp3 (fun m es y hy hb=>ih m es y hy (by omega))
   simp at e0 e1 e2 e3 y0 y1 y2
   subst e0 e1 e2 e3 y0 y1 y2
   simp only [Rows.uptoBulk] at hK hM
   refine ⟨.mk n0 n1 s2.data.toList l,a,c,by simp [PS.axis,PS.test,PS.name,PS.wher,strL_of],hlc,w64_of w0,w64_of w1,?_,?_,hrow⟩
   ·show s2.data.toList.length ≤ _;omega
   ·show l.length ≤ _;omega
theorem path_open {K fuel:Nat} (ih:∀ (m:Nat) (es:List Value) (y:DataW H × List MemPlace),DataW.trod enc Tryz.prog w base sp held m 42 es = some y → Rows.uptoBulk y.1 ≤ K → ∃ z,XAt K w z es) {cs:List Value} {x:DataW H × List MemPlace}
  (h:DataW.trod enc Tryz.prog w base sp held fuel 25 cs = some x) (hK:Rows.uptoBulk x.1 ≤ K + 2) (hM:Rows.uptoBulk x.1 ≤ 1048576):∃ a c,∃ l:List PS,cs = [.slice a l.length c] ∧ l.length ≤ c ∧ l.length ≤ 1048576 ∧ SsAt K w a l:=by
 obtain ⟨f0,hu,t0,o0⟩:=path_desc
 obtain ⟨xs,m,_,hx,hl,hxl,hat⟩:=DataW.trod_struct hu h
 have h0:=hat 0 f0 rfl
 clear hat
 rw [t0,o0,cellsSteps1] at h0
 rw [cellsPath1] at hl
 have hxl1:xs.length = 1:=hxl
 match xs,hxl1 with
 | [p0],_ =>
  match cs,hl with
  | [c0],_ =>
   rw [hx] at hK hM
   simp only [List.map_cons,List.map_nil,Rows.uptoBulk,Rows.uptoBulkAll] at hK hM
   have hp0:=h0
   simp only [List.getElem?_cons_zero,List.drop_zero,List.take_succ_cons,List.take_zero] at hp0
   obtain ⟨a,c,l,e0,hlc,hlb,hrow⟩:=rows_open (α:=PS) (P:=StepAt (XAt K)) Tryz.underlying23 cellsStep (by decide) hp0 (fun m es y hy hb=>step_open ih hy (by omega) (by omega))
   exact ⟨a,c,l,e0,hlc,by omega,hrow⟩
set_option maxRecDepth 100000 in
set_option maxHeartbeats 1000000 in
theorem expr_open:∀ (K fuel:Nat) (cs:List Value) (x:DataW H × List MemPlace),DataW.trod enc Tryz.prog w base sp held fuel 42 cs = some x → Rows.uptoBulk x.1 ≤ K → K ≤ 1048576 → ∃ z,XAt K w z cs:=by
 intro K
 induction K with
 | zero=>intro fuel cs x _ h0 _;have:=bulk_pos x.1;omega
 | succ K ih =>
  intro fuel cs x h hK hM
  obtain ⟨f0,f1,f2,f3,f4,f5,f6,hu,⟨t0,t1,t2,t3,t4,t5,t6⟩,⟨o0,o1,o2,o3,o4,o5,o6⟩⟩:=expr_desc
  obtain ⟨xs,m,_,hx,hl,hxl,hat⟩:=DataW.trod_struct hu h
  have h0:=hat 0 f0 rfl
  have h1:=hat 1 f1 rfl
  have h2:=hat 2 f2 rfl
  have h3:=hat 3 f3 rfl
  have h4:=hat 4 f4 rfl
  have h5:=hat 5 f5 rfl
  have h6:=hat 6 f6 rfl
  clear hat
  rw [t0,o0,cellsOp1] at h0
  rw [t1,o1,cellsExprs1] at h1
  rw [t2,o2,cellsPath1] at h2
  rw [t3,o3,cellsStr1] at h3
  rw [t4,o4,cellsCmp1] at h4
  rw [t5,o5,cellsStr1] at h5
  rw [t6,o6,cellsInt1] at h6
  rw [cellsExpr] at hl
  have hxl7:xs.length = 7:=hxl
  match xs,hxl7 with
  | [p0,p1,p2,p3,p4,p5,p6],_ =>
   match cs,hl with
   | [c0,c1,c2,c3,c4,c5,c6],_ =>
    rw [hx] at hK
    simp only [List.map_cons,List.map_nil,Rows.uptoBulk,Rows.uptoBulkAll] at hK
    have ih':∀ (m:Nat) (es:List Value) (y:DataW H × List MemPlace),DataW.trod enc Tryz.prog w base sp held m 42 es = some y → Rows.uptoBulk y.1 ≤ K → ∃ z,XAt K w z es:=fun m es y hy hb=>ih m es y hy hb (by omega)
    obtain ⟨n0,e0,y0,w0⟩:=DataW.trod_int Tryz.underlying38 h0
    have hp1:=h1
    have hp2:=h2
    simp only [List.getElem?_cons_succ,List.getElem?_cons_zero] at hp1 hp2
    obtain ⟨a,c,l,e1,hlc,hlb,hrow⟩:=rows_open (α:=PX) (P:=XAt K) Tryz.underlying39 cellsExpr (by decide) hp1 (fun m es y hy hb=>ih' m es y hy (by omega))
    obtain ⟨p,d,l2,e2,hlc2,hlb2,hrow2⟩:=path_open ih' hp2 (by omega) (by omega)
    obtain ⟨s3,e3,y3,_⟩:=DataW.trod_string Tryz.underlying9 h3
    obtain ⟨n4,e4,y4,w4⟩:=DataW.trod_int Tryz.underlying40 h4
    obtain ⟨s5,e5,y5,_⟩:=DataW.trod_string Tryz.underlying9 h5
    obtain ⟨n6,e6,y6,w6⟩:=DataW.trod_int Tryz.underlying3 h6
    simp at e0 e1 e2 e3 e4 e5 e6 y0 y3 y4 y5 y6
    subst e0 e1 e2 e3 e4 e5 e6 y0 y3 y4 y5 y6
    simp only [Rows.uptoBulk] at hK
    refine ⟨.mk n0 l l2 s3.data.toList n4 s5.data.toList n6,a,c,p,d,by simp [PX.op,PX.args,PX.path,PX.attr,PX.cmp,PX.text,PX.num,strL_of],hlc,hlc2,w64_of w0,w64_of w4,w64_of w6,?_,?_,?_,?_,hrow,hrow2⟩
    ·show s3.data.toList.length ≤ _;omega
    ·show s5.data.toList.length ≤ _;omega
    ·show l.length ≤ _;omega
    ·show l2.length ≤ _;omega
end
end Go.Proofs.YtgjokdngbocehaaGreatDoor
namespace Go.Proofs.YtgjokdngbocehaaGreatDoor
open Go.ChangeShapes Go.WideShapes Go.ChangeAt Go.RowKit
theorem own':ownKnob Tryz.prog.godebug = none:=by kernel_rfl
theorem laidOut:laidOutB Tryz.prog = true:=by kernel_rfl
def flat' (l:List (Int × Int)):Array Value:=(l.flatMap fun p=>[.int .i32 p.1,.int .i32 p.2]).toArray
theorem laid_same:(Rows.laid_gimlet_chars_ranges:DataW Unit) = rngData:=by kernel_rfl
end Go.Proofs.YtgjokdngbocehaaGreatDoor
namespace Go.Proofs.YtgjokdngbocehaaGreatDoor
open Go.ChangeShapes Go.WideShapes Go.ChangeAt Go.RowKit
noncomputable def laidWorld3 (os:Os):World :=
 let N:=(World.settled Tryz.prog os).heap.size
 let w0:=World.holding Tryz.prog os ⟨#[.cells (flat' (rng 0)) 200,.cells (flat' (rng 1)) 200,.cells (flat' (rng 2)) 200,.cells (flat' (rng 3)) 200,.cells (flat' (rng 4)) 200,.cells (flat' (rng 5)) 200],#[],[]⟩
 { w0 with heap:=((w0.heap.modify 2 fun
   | .cells _ t frozen=>.cells #[.slice (some ⟨N,0,none⟩) 5 5,.slice (some ⟨N + 1,0,none⟩) 3 3,.slice (some ⟨N + 2,0,none⟩) 15 15,.slice (some ⟨N + 3,0,none⟩) 18 18,.slice (some ⟨N + 4,0,none⟩) 1 1,.slice (some ⟨N + 5,0,none⟩) 3 3] t frozen
   | o=>o).modify 0 fun
   | .cells _ t frozen=>.cells ((List.range 256).map fun b=>Value.int .u8 (Lib.firstT b)).toArray t frozen
   | o=>o).modify 1 fun
   | .cells _ t frozen=>.cells ((List.range 16).flatMap fun i=>[Value.int .u8 (Lib.accLo i),Value.int .u8 (Lib.accHi i)]).toArray t frozen
   | o=>o }
set_option maxRecDepth 100000 in
theorem laid_met3 (os:Os) (args:Array Value):laidMet Tryz.prog [("unicode/utf8.acceptRanges",Rows.laid_unicode_utf8_acceptRanges),("gimlet/chars.ranges",Rows.laid_gimlet_chars_ranges),("unicode/utf8.first",Rows.laid_unicode_utf8_first)] ((laidWorld3 os).forCall (fun _ _=>0) ⟨#[],args,[]⟩).memory :=
 laidMet_of_run' 8 (by kernel_rfl) (by kernel_rfl)
theorem acc_same:(Rows.laid_unicode_utf8_acceptRanges:DataW Unit) = Lib.acceptData:=by kernel_rfl
theorem first_same:Rows.laid_unicode_utf8_first = Lib.firstData:=Pinned.utf8First_eq
theorem u8extra:U8Extra Tryz.prog validRen:=⟨by kernel_rfl,by kernel_rfl,by kernel_rfl,by kernel_rfl,by kernel_rfl,by kernel_rfl,by kernel_rfl⟩
theorem at_laid3 {W:World} (hL:laidMet Tryz.prog [("unicode/utf8.acceptRanges",Rows.laid_unicode_utf8_acceptRanges),("gimlet/chars.ranges",Rows.laid_gimlet_chars_ranges),("unicode/utf8.first",Rows.laid_unicode_utf8_first)] W):RangesAt W 2 ∧ Lib.Utf8Tabs 0 1 W:=by
 refine ⟨?_,?_⟩
 ·have h:=hL.tail
  rw [laid_same] at h
  exact ranges_of_laid h
 ·rw [acc_same,first_same] at hL
  exact utf8Tabs_of_readsT u8types u8extra (Lib.laidMet.reads hL (.tail _ (.tail _ (.head _)))) (Lib.laidMet.reads hL (.head _))
end Go.Proofs.YtgjokdngbocehaaGreatDoor
