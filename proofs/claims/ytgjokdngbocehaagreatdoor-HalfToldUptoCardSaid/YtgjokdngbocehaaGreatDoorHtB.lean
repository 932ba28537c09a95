/-
  sync.Once, not yet done, in one goroutine: the lock is taken, the function runs, 'done' is stored, the lock is let go. (Turned from the guide's worked example Lazy.)
-/
import Derived.Test.YtgjokdngbocehaaGreatDoorProg
import Derived.RegionCalls
import Derived.Laws.LoneSync
import Derived.Laws.Pointers
import Derived.Defers
import Derived.Deep.MidRow
import Derived.Deep.CutBlock
import Derived.Lib.Bytealg
import Derived.Laws.CopyOwn
import Derived.Test.YtgjokdngbocehaaGreatDoorHtA
namespace Go.Proofs.YtgjokdngbocehaaGreatDoor
open Go.RowKit
theorem disable (w:World):(callFunc 176 #[]).run Tryz.prog w = .ok (.value (.tuple #[])) w:=run_call_mark0 Tryz.func176 (by kernel_rfl) (by kernel_rfl) (by kernel_rfl) .disable (by kernel_rfl) w
theorem enable (w:World):(callFunc 178 #[]).run Tryz.prog w = .ok (.value (.tuple #[])) w:=run_call_mark0 Tryz.func178 (by kernel_rfl) (by kernel_rfl) (by kernel_rfl) .enable (by kernel_rfl) w
theorem acquire (a:Addr) (w:World):(callFunc 179 #[.pointer (some a)]).run Tryz.prog w = .ok (.value (.tuple #[])) w:=run_call_marked Tryz.func179 (by kernel_rfl) (by kernel_rfl) (by kernel_rfl) .acquire (by kernel_rfl) a w
theorem releaseMerge (a:Addr) (w:World):(callFunc 181 #[.pointer (some a)]).run Tryz.prog w = .ok (.value (.tuple #[])) w:=run_call_marked Tryz.func181 (by kernel_rfl) (by kernel_rfl) (by kernel_rfl) .releaseMerge (by kernel_rfl) a w
theorem store_deferred (a:Addr) (x:Value) (u:FrameMode) (w:World) (hc:w.cell? a = some x) (hz:w.frozen? a = false) :
  CallsD Tryz.prog 161 #[.pointer (some a),.bool true] u w fun e u' w'=>u' = u ∧ (e = .returned (.tuple #[]) ∧ w' = w.drew.setCell a (.int .u32 1)):=by
 have hc':w.drew.cell? a = some x:=by go_simp
 have hz':w.drew.frozen? a = false:=by go_simp
 have hst:=run_call_store (P:=Tryz.prog) Tryz.func170 (by kernel_rfl) (by kernel_rfl) (by kernel_rfl) (by kernel_rfl) (k:=.u32) (y:=1) hc' hz'
 go_enter_d Tryz.func161,Tryz.ntmps161
 go_wp2
 go_region_calls
 all_goals (go_end0;exact ⟨rfl,rfl⟩)
set_option maxRecDepth 100000 in
theorem unlock_deferred (a:Addr) (u:FrameMode) (w:World) (hc:w.cell? a = some (.int .i32 1)) (hz:w.frozen? a = false) :
  CallsD Tryz.prog 160 #[.pointer (some a)] u w fun e u' w'=>u' = u ∧ (e = .returned (.tuple #[]) ∧ w' = w.setCell a (.int .i32 0)):=by
 have hd:=disable
 have he:=enable
 have hr:=releaseMerge
 have hadd:=run_call_add (P:=Tryz.prog) Tryz.func182 (by kernel_rfl) (by kernel_rfl) (by kernel_rfl) .i32 (by kernel_rfl) (y:=-1) (s:=0) hc hz (by simp [go_sem];rfl)
 have hcv:=run_convert_to_unsafe (P:=Tryz.prog) (src:=274) (dst:=193) Tryz.underlying274 Tryz.underlying193 (by kernel_rfl) hc
 go_enter_d Tryz.func160,Tryz.ntmps160
 go_wp2
 go_end0
 go_wp2
 go_end0
 exact ⟨rfl,rfl⟩
set_option maxRecDepth 100000 in
theorem lock_free (a:Addr) (w:World) (hc:w.cell? a = some (.int .i32 0)) (hz:w.frozen? a = false) :
  Calls Tryz.prog 159 #[.pointer (some a)] w fun e w'=>e = .returned (.tuple #[]) ∧ w' = w.setCell a (.int .i32 1):=by
 have hd:=disable
 have he:=enable
 have ha:=acquire
 have hcas:=run_call_cas_hit (P:=Tryz.prog) Tryz.func177 (by kernel_rfl) (by kernel_rfl) (by kernel_rfl) .i32 (by kernel_rfl) (y:=1) hc hz
 have hc':(w.setCell a (.int .i32 1)).cell? a = some (.int .i32 1):=World.cell?_setCell_same w a _ hc
 have hcv:=run_convert_to_unsafe (P:=Tryz.prog) (src:=274) (dst:=193) Tryz.underlying274 Tryz.underlying193 (by kernel_rfl) hc'
 go_enter Tryz.func159,Tryz.ntmps159
 go_wp2
 first | go_end0 | (simp only [Exit.inBlock,Exit.then];refine bodyPost_ret (results_none rfl _ _ _) rfl ?_) | refine bodyPost_ret (results_none rfl _ _ _) rfl ?_
 go_wp2
 go_end0
 exact ⟨rfl,rfl⟩
set_option maxRecDepth 100000 in
set_option maxHeartbeats 1600000 in
theorem doSlow_any (b:Nat) (first:Array Value) (x3 x4:Value) (T:TypeId) (Q:World → Prop) (w:World)
  (hw:w.heap[b]? = some (.cells #[.int .u32 0,.int .i32 0,.int .u32 0,x3,x4] T (0,0)))
  (hcall:Calls Tryz.prog 149 first (w.setCell ⟨b,1,none⟩ (.int .i32 1)) fun e w2=>e = .returned (.tuple #[]) ∧ Q w2)
  (hQ:∀ w2,Q w2 → ∃ y3 y4,w2.heap[b]? = some (.cells #[.int .u32 0,.int .i32 1,.int .u32 0,y3,y4] T (0,0))) :
  Calls Tryz.prog 154 #[.pointer (some ⟨b,0,none⟩),  .func (.func 149) first #[]] w fun e w'=>e = .returned (.tuple #[]) ∧
   ∃ w2,Q w2 ∧ w' = (w2.drew.setCell ⟨b,0,none⟩ (.int .u32 1)).setCell ⟨b,1,none⟩ (.int .i32 0):=by
 have c0:=cell_heap (i:=0) hw
 have c1:=cell_heap (i:=1) hw
 have f1:=frozen_heap (i:=1) hw
 simp only [List.getElem?_toArray,List.getElem?_cons_zero,List.getElem?_cons_succ] at c0 c1
 have hl:=run_call_load (P:=Tryz.prog) Tryz.func158 (by kernel_rfl) (by kernel_rfl) (by kernel_rfl) .u32 (by kernel_rfl) (w:=w.setCell ⟨b,1,none⟩ (.int .i32 1)) (a:=⟨b,0,none⟩) (x:=0) ((World.cell?_setCell_other _ ⟨b,1,none⟩ ⟨b,0,none⟩ _ (by simp)).trans c0)
 have hnot:∀ (x:Bool) (w:World),(Op.unary .not (.bool x)).run Tryz.prog w = .ok (.bool (!x)) w:=fun _ _=>rfl
 have HC:=Lib.hid hcall
 have HQ:=Lib.hid hQ
 clear hcall hQ
 go_enter_defers Tryz.func154,Tryz.ntmps154
 go_wp2_with (first | (go_at_call 159;refine (lock_free ⟨b,1,none⟩ _ (by first | assumption | go_simp) (by first | assumption | go_simp)).mono ?_;rintro e w' ⟨rfl,rfl⟩) | (go_at_call 153;go_in))
 refine HC.out.mono ?_
 rintro e w2 ⟨rfl,hq⟩
 obtain ⟨y3,y4,h2⟩:=HQ.out w2 hq
 have HQ2:=Lib.hid hq
 clear hq hl c0 c1 f1 hw
 have H2:=Lib.hid h2
 clear h2
 go_wp2
 have h2:=H2.out
 have h3:=setCell_heap (i:=0) h2 (.int .u32 1)
 refine leaves_cons (f:=161) (args:=#[.pointer (some ⟨b,0,none⟩),.bool true]) (by simp) (by simp [go_sem]) ?_
 refine (store_deferred ⟨b,0,none⟩ (.int .u32 0) .returning _ (by rw [cell_heap h2];rfl) (frozen_heap h2)).mono ?_
 rintro e u' w'' ⟨rfl,rfl,rfl⟩
 refine leaves_cons (f:=160) (args:=#[.pointer (some ⟨b,1,none⟩)]) (by simp [settle]) (by simp [go_sem]) ?_
 refine (unlock_deferred ⟨b,1,none⟩ _ _ (by have:=setCell_heap (w:=w2.drew) (i:=0) h2 (.int .u32 1);rw [cell_heap this];rfl) (by have:=setCell_heap (w:=w2.drew) (i:=0) h2 (.int .u32 1);exact frozen_heap this)).mono ?_
 rintro e u' w'' ⟨rfl,rfl,rfl⟩
 simp [Leaves,settle,results,Tryz.results154]
 exact ⟨w2,HQ2,rfl⟩
set_option maxRecDepth 100000 in
set_option maxHeartbeats 1600000 in
theorem Do_any (b:Nat) (first:Array Value) (x3 x4:Value) (T:TypeId) (Q:World → Prop) (w:World)
  (hw:w.heap[b]? = some (.cells #[.int .u32 0,.int .i32 0,.int .u32 0,x3,x4] T (0,0)))
  (hcall:Calls Tryz.prog 149 first (w.setCell ⟨b,1,none⟩ (.int .i32 1)) fun e w2=>e = .returned (.tuple #[]) ∧ Q w2)
  (hQ:∀ w2,Q w2 → ∃ y3 y4,w2.heap[b]? = some (.cells #[.int .u32 0,.int .i32 1,.int .u32 0,y3,y4] T (0,0))) :
  Calls Tryz.prog 148 #[.pointer (some ⟨b,0,none⟩),  .func (.func 149) first #[]] w fun e w'=>e = .returned (.tuple #[]) ∧
   ∃ w2,Q w2 ∧ w' = (w2.drew.setCell ⟨b,0,none⟩ (.int .u32 1)).setCell ⟨b,1,none⟩ (.int .i32 0):=by
 have c0:=cell_heap (i:=0) hw
 simp only [List.getElem?_toArray,List.getElem?_cons_zero] at c0
 have hl:=run_call_load (P:=Tryz.prog) Tryz.func158 (by kernel_rfl) (by kernel_rfl) (by kernel_rfl) .u32 (by kernel_rfl) (w:=w) (a:=⟨b,0,none⟩) (x:=0) c0
 have hnot:∀ (x:Bool) (w:World),(Op.unary .not (.bool x)).run Tryz.prog w = .ok (.bool (!x)) w:=fun _ _=>rfl
 have HS:=Lib.hid (doSlow_any b first x3 x4 T Q w hw hcall hQ)
 clear hcall hQ hw c0
 go_enter Tryz.func148,Tryz.ntmps148
 go_wp2_with (first | (go_at_call 154;refine HS.out.mono ?_;rintro e w' ⟨rfl,hq⟩) | (go_at_call 153;go_in))
 go_end0
 exact ⟨rfl,hq⟩
end Go.Proofs.YtgjokdngbocehaaGreatDoor
namespace Go.Proofs.YtgjokdngbocehaaGreatDoor
open Go.RowKit
section
variable {P:Program} {ops:Array Oper} {rest:List Oper} {o:Oper} {a:Act} {w:World} {Q:Exit → Act → World → Prop}
theorem wpList_val (hg:o.guard = none) {v:Value} {w':World} (h:(execOp a.eval o).run P w = .ok (.value v) w') (k:wpList P ops Q rest (a.put o.dst v) w') :
  wpList P ops Q (o :: rest) a w :=
 wpList_plain hg fun _ hK=>by unfold Oper.wp;rw [h];exact hK _ _ k
theorem wpList_build (hg:o.guard = none) (t:TypeId) (parts:List (Nat × Operand)) (ho:o.op = .build t parts.toArray) {v:Value}
  (h:(Instr.build t (parts.map fun p=>(p.1,a.eval p.2)).toArray).run P w = .ok v w) (k:wpList P ops Q rest (a.put o.dst v) w):wpList P ops Q (o :: rest) a w :=
 wpList_val hg (by unfold execOp;simp only [ho,List.map_toArray,Sem.run_bind,h,Result.andThen_ok];rfl) k
theorem run_typeInfo' {t:TypeId} {i:TypeInfo} (h:P.info? t = some i):(typeInfo t).run P w = .ok i w:=by
 simp [typeInfo,program,Sem.run,h]
theorem wpList_alloc (hg:o.guard = none) (t:TypeId) (ho:o.op = .alloc t) {i:TypeInfo} (hi:P.info? t = some i) {z:Value} (hz:i.zero = some z)
  (k:wpList P ops Q rest (a.put o.dst (.pointer (some ⟨w.heap.size,0,none⟩))) (w.alloc (.cells z.cells t))):wpList P ops Q (o :: rest) a w:=by
 refine wpList_val hg (v:=.pointer (some ⟨w.heap.size,0,none⟩)) (w':=w.alloc (.cells z.cells t)) ?_ k
 unfold execOp
 simp only [ho,Instr.alloc,zeroValue,Sem.run_bind,run_typeInfo' hi,Result.andThen_ok,hz]
 rfl
theorem setIfInBounds_pre (A C:List Value) (v u:Value):(A ++ u :: C).toArray.setIfInBounds A.length v = (A ++ v :: C).toArray:=by
 simp [List.setIfInBounds_toArray]
theorem setCells_whole (b:Nat) (t:TypeId) (vs:List Value):∀ (w:World) (pre old:List Value),w.heap[b]? = some (.cells (pre ++ old).toArray t (0,0)) → old.length = vs.length →
  (w.setCells b pre.length vs).heap[b]? = some (.cells (pre ++ vs).toArray t (0,0)) ∧ (∀ j,j ≠ b → (w.setCells b pre.length vs).heap[j]? = w.heap[j]?) ∧ (w.setCells b pre.length vs).heap.size = w.heap.size ∧ (w.setCells b pre.length vs).os = w.os ∧ (w.setCells b pre.length vs).tape = w.tape ∧ (w.setCells b pre.length vs).output = w.output ∧ (w.setCells b pre.length vs).drawn = w.drawn:=by
 induction vs with
 | nil =>
  intro w pre old hb hl
  obtain rfl:old = []:=by simpa using hl
  exact ⟨hb,fun _ _=>rfl,rfl,rfl,rfl,rfl,rfl⟩
 | cons v vs ih =>
  intro w pre old hb hl
  cases old with
  | nil=>simp at hl
  | cons u old =>
   have h1:=setCell_heap (i:=pre.length) hb v
   have h2:(pre ++ u :: old).toArray.setIfInBounds pre.length v = ((pre ++ [v]) ++ old).toArray:=by
    rw [setIfInBounds_pre pre old v u];simp
   rw [h2] at h1
   have h3:=ih (w.setCell ⟨b,pre.length,none⟩ v) (pre ++ [v]) old h1 (by simpa using hl)
   rw [List.length_append,List.length_singleton] at h3
   rw [World.setCells]
   obtain ⟨a1,a2,a3,a4,a5,a6,a7⟩:=h3
   refine ⟨by simpa using a1,fun j hj=>(a2 j hj).trans (Below.heap_setCell _ _ _ _ hj),a3.trans (by simp [World.setCell]),a4,a5,a6,a7⟩
theorem world_ext {w w':World} (h1:w.heap = w'.heap) (h2:w.tape = w'.tape) (h3:w.drawn = w'.drawn) (h4:w.os = w'.os) (h5:w.output = w'.output):w = w':=by
 cases w;cases w';simp_all
theorem setCells_alloc (w:World) (z c:Array Value) (t:TypeId) (h:z.size = c.size):(w.alloc (.cells z t)).setCells w.heap.size 0 c.toList = w.alloc (.cells c t):=by
 have hb:(w.alloc (.cells z t)).heap[w.heap.size]? = some (.cells ([] ++ z.toList).toArray t (0,0)):=by
  rw [heap_alloc_new];simp
 obtain ⟨a1,a2,a3,a4,a5,a6,a7⟩:=setCells_whole w.heap.size t c.toList (w.alloc (.cells z t)) [] z.toList hb (by simpa using h)
 simp only [List.length_nil] at a1 a2 a3 a4 a5 a6 a7
 refine world_ext ?_ a5 a7 a4 a6
 apply Array.ext_getElem?
 intro j
 by_cases hj:j = w.heap.size
 ·subst hj
  rw [a1,heap_alloc_new]
  simp
 ·rw [a2 j hj]
  by_cases hl:j < w.heap.size
  ·rw [Below.heap_alloc _ _ _ hl,Below.heap_alloc _ _ _ hl]
  ·rw [Array.getElem?_eq_none (by simp;omega),Array.getElem?_eq_none (by simp;omega)]
theorem wpList_new (o1 o2 o3:Oper) (g1:o1.guard = none) (g2:o2.guard = none) (g3:o3.guard = none) (t:TypeId) (parts:List (Nat × Operand)) (d1 d2:Tmp)
  (h1:o1.op = .build t parts.toArray) (h2:o2.op = .alloc t) (h3:o3.op = .store t (.tmp d2) (.tmp d1)) (e1:o1.dst = some d1) (e2:o2.dst = some d2) (e3:o3.dst = none) (hne:d2 ≠ d1)
  (l1:d1 < a.tmps.size) (l2:d2 < a.tmps.size)
  {c:Array Value} (hb:(Instr.build t (parts.map fun p=>(p.1,a.eval p.2)).toArray).run P w = .ok (.agg c) w)
  {i:TypeInfo} (hi:P.info? t = some i) {z:Array Value} (hz:i.zero = some (.agg z)) (hsz:i.size = c.size) (hzc:z.size = c.size) (h1c:c.all (·.oneCell') = true)
  (k:wpList P ops Q rest ((a.put (some d1) (.agg c)).put (some d2) (.pointer (some ⟨w.heap.size,0,none⟩))) (w.alloc (.cells c t))) :
  wpList P ops Q (o1 :: o2 :: o3 :: rest) a w:=by
 refine wpList_build g1 t parts h1 hb ?_
 refine wpList_alloc g2 t h2 hi hz ?_
 rw [e1,e2]
 have ev2:∀ b:Act,d2 < b.tmps.size → ∀ v,(b.put (some d2) v).eval (.tmp d2) = v:=fun b hb v=>by simp [Act.put,Act.eval,Array.getD,hb]
 refine wpList_store_mid g3 t (.tmp d2) (.tmp d1) h3 w.heap.size 0 c ?_ ?_ ?_ ?_ h1c ?_
 ·simp [Act.put,Act.eval,Array.getD,l2]
 ·simp [Act.put,Act.eval,Array.getD,l1,hne]
 ·intro j hj
  have hc:(w.alloc (.cells z t)).cell? ⟨w.heap.size,0 + j,none⟩ = z[0 + j]?:=cell_heap (heap_alloc_new w _)
  refine ⟨?_,frozen_heap (heap_alloc_new w _)⟩
  rw [show Value.cells (.agg z) = z from rfl,hc,Nat.zero_add,Array.getElem?_eq_getElem (by omega)]
  rfl
 ·rw [hi];simp [hsz]
 ·rw [show Value.cells (.agg z) = z from rfl,setCells_alloc w z c t hzc,e3]
  exact k
end
end Go.Proofs.YtgjokdngbocehaaGreatDoor
namespace Go.Proofs.YtgjokdngbocehaaGreatDoor
open Go.RowKit
def str1 (o:UInt8):ByteArray:=⟨#[o]⟩
def strsOf (ps:List (UInt8 × ByteArray)):List Value:=ps.flatMap fun p=>[.string (str1 p.1),.string p.2]
theorem strsOf_length (ps:List (UInt8 × ByteArray)):(strsOf ps).length = 2 * ps.length:=by
 induction ps with
 | nil=>rfl
 | cons p ps ih=>simp [strsOf] at ih ⊢;omega
theorem strsOf_at (ps:List (UInt8 × ByteArray)):∀ j,(h:j < ps.length) → (strsOf ps)[2 * j]? = some (.string (str1 ps[j].1)) ∧ (strsOf ps)[2 * j + 1]? = some (.string ps[j].2):=by
 induction ps with
 | nil=>intro j h;simp at h
 | cons p ps ih =>
  intro j h
  cases j with
  | zero=>simp [strsOf]
  | succ j =>
   have:=ih j (by simpa using h)
   simpa [strsOf,Nat.mul_succ] using this
def look (ps:List (UInt8 × ByteArray)) (o:UInt8):Option ByteArray:=(ps.find? fun p=>p.1 == o).map (·.2)
def Ent (w:World) (v:Value):Option ByteArray → Prop
 | none=>v = .slice none 0 0
 | some n=>∃ h c,v = .slice (some ⟨h,0,none⟩) n.size c ∧ Sl w (some ⟨h,0,none⟩) n.size (bytesV n)
theorem Ent.keep {w w':World} {v:Value} {x:Option ByteArray} (h:Ent w v x) (hk:∀ k,v.ownBlock = some k → w'.heap[k]? = w.heap[k]?):Ent w' v x:=by
 cases x with
 | none=>exact h
 | some n =>
  obtain ⟨k,c,rfl,hs⟩:=h
  exact ⟨k,c,rfl,hs.keep fun b o e=>by injection e with e;injection e with e1 e2;subst e1;exact hk _ rfl⟩
theorem strs_cells {w:World} {a:Option Addr} {n:Nat} {ps:List (UInt8 × ByteArray)} (hs:Sl w a n (strsOf ps)) (h0:0 < ps.length) :
  ∃ b o,a = some ⟨b,o,none⟩ ∧ b < w.heap.size ∧ ∀ j,(hj:j < ps.length) → w.cell? ⟨b,o + 2 * j,none⟩ = some (.string (str1 ps[j].1)) ∧ w.cell? ⟨b,o + (2 * j + 1),none⟩ = some (.string ps[j].2):=by
 obtain ⟨b,o,rfl,hb,_⟩:=hs.cell 0 (by rw [strsOf_length];omega)
 refine ⟨b,o,rfl,hb,fun j hj=>?_⟩
 obtain ⟨e1,e2⟩:=strsOf_at ps j hj
 have key:∀ i v,(strsOf ps)[i]? = some v → w.cell? ⟨b,o + i,none⟩ = some v:=by
  intro i v hv
  obtain ⟨hi,hv2⟩:=List.getElem?_eq_some_iff.1 hv
  obtain ⟨b',o',e,_,hc⟩:=hs.cell i hi
  injection e with e
  injection e with e3 e4
  subst e3
  subst e4
  rw [hc,hv2]
 exact ⟨key _ _ e1,key _ _ e2⟩
def tab0 (v:Value):Array Value:=(Array.replicate 256 (.slice none 0 0)).push v
theorem tab0_size (v:Value):(tab0 v).size = 257:=by simp [tab0]
theorem tab0_one (a:Option Addr) (n c:Nat):(tab0 (.slice a n c)).all (·.oneCell') = true:=by
 rw [Array.all_eq_true_iff_forall_mem]
 intro v hv
 simp only [tab0,Array.mem_push,Array.mem_replicate] at hv
 rcases hv with ⟨_,rfl⟩ | rfl <;> rfl
theorem build_tab (a:Option Addr) (n c:Nat) (w:World):(Instr.build 255 #[(1,.slice a n c)]).run Tryz.prog w = .ok (.agg (tab0 (.slice a n c))) w:=by kernel_rfl
theorem info_tab:(Tryz.prog.info? 255).map (fun i=>(i.zero,i.size)) = some (some (.agg (tab0 (.slice none 0 0))),257):=by kernel_rfl
theorem info_str:(Tryz.prog.info? 9).map (fun i=>(i.zero,i.size,i.bytes)) = some (some (.string ByteArray.empty),1,16):=by kernel_rfl
theorem info_parts2 {P:Program} {e:TypeId} {z:Value} {size:Nat} (h:(P.info? e).map (fun i=>(i.zero,i.size)) = some (some z,size)) :
  ∃ i,P.info? e = some i ∧ i.zero = some z ∧ i.size = size:=by
 cases hi:P.info? e with
 | none=>rw [hi] at h;cases h
 | some i=>rw [hi] at h;simp at h;exact ⟨i,rfl,h.1,h.2⟩
theorem look_cons (p:UInt8 × ByteArray) (ps:List (UInt8 × ByteArray)) (o:UInt8):look (p :: ps) o = if p.1 = o then some p.2 else look ps o:=by
 unfold look
 by_cases h:p.1 = o
 ·rw [List.find?_cons_of_pos (by simp [h]),if_pos h];rfl
 ·rw [List.find?_cons_of_neg (by simp [h]),if_neg h]
theorem look_none (ps:List (UInt8 × ByteArray)) (o:UInt8) (h:o ∉ ps.map (·.1)):look ps o = none:=by
 induction ps with
 | nil=>rfl
 | cons p ps ih =>
  simp only [List.map_cons,List.mem_cons,not_or] at h
  rw [look_cons,if_neg (fun e=>h.1 e.symm),ih h.2]
structure BuildInv (w wr:World) (G:Nat) (ps:List (UInt8 × ByteArray)):Prop where
 below:Below w.heap.size w wr
 lt:w.heap.size < G
 tab:∃ (C:Array Value) (v:Value),wr.heap[G]? = some (.cells C 255 (0,0)) ∧ C.size = 257 ∧ C[256]? = some v ∧ wr.ownsRow w.heap.size 9 1 v ps.length (ps.reverse.map fun p=>Value.string (str1 p.1)) ∧ v.ownBlock ≠ some G ∧
  (∀ o:UInt8,∃ u,C[o.toNat]? = some u ∧ Ent wr u (look ps o) ∧ ∀ h,u.ownBlock = some h → v.ownBlock ≠ some h ∧ h ≠ G ∧ h < wr.heap.size ∧ w.heap.size ≤ h)
theorem BuildInv.step {w wr w2 w3 w4:World} {G:Nat} {ps:List (UInt8 × ByteArray)} {o:UInt8} {nn:ByteArray} {C:Array Value} {v v3 u4:Value}
  (below:Below w.heap.size w wr) (lt:w.heap.size < G) (hG:wr.heap[G]? = some (.cells C 255 (0,0))) (hC:C.size = 257)
  (hvG:v.ownBlock ≠ some G)
  (ents:∀ o:UInt8,∃ u,C[o.toNat]? = some u ∧ Ent wr u (look ps o) ∧ ∀ h,u.ownBlock = some h → v.ownBlock ≠ some h ∧ h ≠ G ∧ h < wr.heap.size ∧ w.heap.size ≤ h)
  (hold:∀ k,v.ownBlock = some k → w.heap.size ≤ k)
  (h2:Below wr.heap.size wr w2) (h3:App w2 w3 v v3) (own3:w3.ownsRow w.heap.size 9 1 v3 (ps.length + 1) (ps.reverse.map (fun p=>Value.string (str1 p.1)) ++ [.string (str1 o)]))
  (h4:Below w3.heap.size (w3.setCell ⟨G,256,none⟩ v3) w4) (hu4:Ent w4 u4 (some nn)) (hub:∀ h,u4.ownBlock = some h → w3.heap.size ≤ h ∧ h < w4.heap.size) :
  BuildInv w (w4.setCell ⟨G,o.toNat,none⟩ u4) G ((o,nn) :: ps):=by
 have hGl:=heap_lt hG
 have hG2:w2.heap[G]? = some (.cells C 255 (0,0)):=(h2.block G hGl).trans hG
 have hGl2:=heap_lt hG2
 have hG3:w3.heap[G]? = some (.cells C 255 (0,0)):=(h3.keep hGl2 hvG).trans hG2
 have hGl3:=heap_lt hG3
 have hvG3:=h3.ne hGl2 hvG
 have hG4:w4.heap[G]? = some (.cells (C.setIfInBounds 256 v3) 255 (0,0)):=(h4.block G hGl3).trans (setCell_heap hG3 v3)
 have hG5:=setCell_heap (i:=o.toNat) hG4 u4
 have ho:o.toNat < 256:=o.toNat_lt
 have hsz2:wr.heap.size ≤ w2.heap.size:=h2.size
 have hsz3:w2.heap.size ≤ w3.heap.size:=h3.grown.size
 have hsz4:w3.heap.size ≤ w4.heap.size:=by have:=h4.size;simpa [World.setCell] using this
 have keep:∀ k,k < wr.heap.size → v.ownBlock ≠ some k → k ≠ G → (w4.setCell ⟨G,o.toNat,none⟩ u4).heap[k]? = wr.heap[k]?:=by
  intro k hk hv hkG
  rw [Below.heap_setCell _ _ _ _ hkG,h4.block k (by omega),Below.heap_setCell _ _ _ _ hkG,h3.keep (by omega) hv,h2.block k hk]
 refine ⟨?_,lt,(C.setIfInBounds 256 v3).setIfInBounds o.toNat u4,v3,hG5,by simp [hC],?_,?_,hvG3,?_⟩
 ·have b2:Below w.heap.size w w2:=below.trans (h2.mono below.size)
  have b3:Below w.heap.size w w3:=b2.trans (h3.below (by have:=below.size;omega) hold)
  have b4:Below w.heap.size w w4:=(b3.setCell (p:=⟨G,256,none⟩) (by show w.heap.size ≤ G;omega) v3).trans (h4.mono (by have:=below.size;simp;omega))
  exact b4.setCell (p:=⟨G,o.toNat,none⟩) (by show w.heap.size ≤ G;omega) u4
 ·rw [Array.getElem?_setIfInBounds_ne (by omega)]
  simp [hC]
 ·have e:((o,nn) :: ps).reverse.map (fun p=>Value.string (str1 p.1)) = ps.reverse.map (fun p=>Value.string (str1 p.1)) ++ [.string (str1 o)]:=by simp
  rw [e]
  refine own_block own3 fun k hk=>?_
  have hkl:=own3.lt k hk
  have hkG:k ≠ G:=fun e=>hvG3 (by rw [hk,e])
  rw [Below.heap_setCell _ _ _ _ hkG,h4.block k hkl.2,Below.heap_setCell _ _ _ _ hkG]
 ·intro q
  by_cases hq:q = o
  ·subst hq
   refine ⟨u4,by simp [hC,Array.getElem?_setIfInBounds];omega,?_,?_⟩
   ·rw [look_cons,if_pos rfl]
    exact hu4.keep fun k hk=>Below.heap_setCell _ _ _ _ (show k ≠ G by have:=hub k hk;omega)
   ·intro h hh
    have hb:=hub h hh
    refine ⟨fun e=>?_,by omega,by simpa [World.setCell] using hb.2,by have:=below.size;omega⟩
    have:=own3.lt h e
    omega
  ·have hqo:q.toNat ≠ o.toNat:=fun e=>hq (UInt8.toNat_inj.1 e)
   have hq256:q.toNat < 256:=q.toNat_lt
   obtain ⟨u,hu,he,hb⟩:=ents q
   refine ⟨u,?_,?_,?_⟩
   ·rw [Array.getElem?_setIfInBounds_ne (by omega),Array.getElem?_setIfInBounds_ne (by omega)];exact hu
   ·rw [look_cons,if_neg (fun e=>hq e.symm)]
    exact he.keep fun k hk=>keep k (hb k hk).2.2.1 (hb k hk).1 (hb k hk).2.1
   ·intro h hh
    obtain ⟨h1,h2',h3',h4'⟩:=hb h hh
    refine ⟨h3.ne (by omega) h1,h2',?_,h4'⟩
    simp only [World.setCell,Array.size_modify]
    omega
end Go.Proofs.YtgjokdngbocehaaGreatDoor
namespace Go.Proofs.YtgjokdngbocehaaGreatDoor
open Go.RowKit
def RetTab (w:World) (e:Ending) (w':World) (ps:List (UInt8 × ByteArray)):Prop :=
 ∃ G,e = .returned (.iface 256 (.pointer (some ⟨G,0,none⟩))) ∧ BuildInv w w' G ps
set_option maxRecDepth 100000 in
set_option maxHeartbeats 1600000 in
theorem build_any (ps:List (UInt8 × ByteArray)) (b:Nat) (a:Option Addr) (n c:Nat) (d0 d1 d2 x3:Value) (w:World)
  (hw:w.heap[b]? = some (.cells #[d0,d1,d2,x3,.slice a n c] 236 (0,0))) (hs:Sl w a n (strsOf ps))
  (hlen:2 ≤ ps.length) (hsm:ps.length ≤ 256) (hnd:(ps.map (·.1)).Nodup) (hbig:∀ p ∈ ps,p.2.size ≤ 1048576) (hwide:ps.all (fun p=>p.2.size == 1) = false) :
  Calls Tryz.prog 155 #[.pointer (some ⟨b,0,none⟩)] w fun e w'=>RetTab w e w' ps:=by
 have c4:=cell_heap (i:=4) hw
 simp only [List.getElem?_toArray,List.getElem?_cons_zero,List.getElem?_cons_succ] at c4
 have hn:n = 2 * ps.length:=by have:=hs.len;rw [strsOf_length] at this;exact this
 obtain ⟨ba,oa,rfl,hba,hcs⟩:=strs_cells hs (by omega)
 have hs1:∀ o,(str1 o).size = 1:=fun _=>rfl
 have hn2:((n:Int) == 2) = false:=by simp;omega
 have HN:=Lib.hid hn
 have HCS:=Lib.hid hcs
 have hnb:n ≤ 512:=by omega
 clear hn hcs
 go_enter Tryz.func155,Tryz.ntmps155
 go_wp2_with fail
 go_loop [4,5] (fun al i=>∃ (j:Nat) (f:Bool),al = .bool f ∧ i = .int .i64 j ∧ j ≤ n ∧ Hid (∃ k,j = 2 * k ∧ f = (ps.take k).all (fun p=>p.2.size == 1))) (fun _ i=>n - (intOf i).toNat)
 case atStart=>exact ⟨0,true,rfl,rfl,Nat.zero_le _,0,rfl,rfl⟩
 case round =>
  obtain ⟨j,f,rfl,rfl,hj,hk⟩:=hrel
  by_cases hlt:j < n
  ·obtain ⟨k,hjk,hf⟩:=hk.out
   have hkl:k < ps.length:=by have:=HN.out;omega
   obtain ⟨e1,e2⟩:=HCS.out k hkl
   rw [← hjk] at e1 e2
   have hnext:j + 2 ≤ n:=by have:=HN.out;omega
   have HK:Hid (∃ k',j + 2 = 2 * k' ∧ (f && (ps[k].2.size == 1)) = (ps.take k').all (fun p=>p.2.size == 1)):=by
    refine ⟨k + 1,by omega,?_⟩
    rw [List.take_succ_eq_append_getElem hkl,List.all_append,← hf]
    simp
   have hsz:ps[k].2.size ≤ 1048576:=hbig _ (List.getElem_mem hkl)
   clear hf hjk hk
   generalize ps[k].1 = o at e1
   generalize ps[k].2 = nn at e2 HK hsz
   by_cases h1:nn.size = 1
   ·have HK2:Hid (∃ k',j + 2 = 2 * k' ∧ f = (ps.take k').all (fun p=>p.2.size == 1)):=by
     obtain ⟨k',h3,h4⟩:=HK;exact ⟨k',h3,by rw [← h4,h1];simp⟩
    go_wp2_with fail
    go_round
    case rel=>exact ⟨j + 2,f,rfl,by go_num,hnext,HK2⟩
    case measure=>simp [intOf];omega
   ·have HK2:Hid (∃ k',j + 2 = 2 * k' ∧ false = (ps.take k').all (fun p=>p.2.size == 1)):=by
     obtain ⟨k',h3,h4⟩:=HK;exact ⟨k',h3,by rw [← h4];simp [h1]⟩
    go_wp2_with fail
    go_round
    case rel=>exact ⟨j + 2,false,rfl,by go_num,hnext,HK2⟩
    case measure=>simp [intOf];omega
  ·have hff:f = false:=by
    obtain ⟨k,hjk,hf⟩:=hk.out
    rw [List.take_of_length_le (by have:=HN.out;omega),hwide] at hf
    exact hf
   subst hff
   obtain ⟨is,his,hisz,his1,his2⟩:=info_parts info_str
   obtain ⟨it,hit,hitz,hits⟩:=info_parts2 info_tab
   have hh:((n / 2:Nat):Int) = (n:Int) / 2:=by omega
   go_upto_region 26 with (fail)
   apply wp_region_lit
   go_wp2_with (at_make;go_loud (refine wpList_make_own _ rfl _ _ 220 rfl w.heap.size 9 is (.string ByteArray.empty) 1 Tryz.underlying220 his hisz his1 .i64 .i64 _ (n / 2) (by rfl) (by rfl) (by omega) (by rw [his2];omega) (by unfold maxLen;omega) (Nat.le_refl _) (fun w1 hown1 hgrow1=>?_);refine wpList_new _ _ _ rfl rfl rfl 255 [(1,.tmp 94)] 95 11 rfl rfl rfl rfl rfl rfl (by decide) (by simp [Act.put]) (by simp [Act.put]) (build_tab _ _ _ _) hit hitz (by rw [hits,tab0_size]) (by rw [tab0_size,tab0_size]) (tab0_one _ _ _) ?_))
   have hb1:Below w.heap.size w w1:=(Below.refl _ _).grown hgrow1 (Nat.le_refl _) (by intro k hk;cases hk)
   have hlt1:=hown1.lt _ rfl
   have hgt:w.heap.size < w1.heap.size:=by have:=hlt1.2;simpa using this
   have hst:Hid (BuildInv w (w1.alloc (.cells (tab0 (.slice (some ⟨w.heap.size,0,none⟩) 0 (n / 2))) 255)) w1.heap.size (ps.drop ps.length)):=by
    rw [List.drop_of_length_le (Nat.le_refl _)]
    refine ⟨hb1.alloc hb1.size _,hgt,_,.slice (some ⟨w.heap.size,0,none⟩) 0 (n / 2),heap_alloc_new _ _,tab0_size _,by unfold tab0;rw [Array.getElem?_push,if_pos (by simp)],hown1.alloc _,?_,?_⟩
    ·intro e;injection e with e;simp at e;omega
    ·intro o
     have ho:o.toNat < 256:=o.toNat_lt
     refine ⟨.slice none 0 0,?_,rfl,fun h hh=>by cases hh⟩
     unfold tab0
     rw [Array.getElem?_push,if_neg (by simp;omega),Array.getElem?_replicate,if_pos ho]
   generalize w1.alloc (.cells (tab0 (.slice (some ⟨w.heap.size,0,none⟩) 0 (n / 2))) 255) = ws at hst
   generalize w1.heap.size = G at hgt hst
   clear hown1 hgrow1 hb1 hlt1
   have hlast:((n:Int) - 2) = 2 * (ps.length:Int) - 2:=by have:=HN.out;omega
   rw [hlast]
   clear hlast hh
   go_loopw [12,13,14] (fun i _ _ wr=>∃ (j:Nat),i = .int .i64 (2 * (j:Int) - 2) ∧ j ≤ ps.length ∧ Hid (BuildInv w wr G (ps.drop j))) (fun i _ _ _=>(intOf i + 2).toNat)
   case atStart=>exact ⟨ps.length,rfl,Nat.le_refl _,hst⟩
   case round =>
    clear hst
    obtain ⟨j,rfl,hj,hI⟩:=hrel
    cases j with
    | zero =>
     go_wp2
     go_ret
     exact ⟨G,rfl,hI.out⟩
    | succ j =>
     have hjl:j < ps.length:=by omega
     rw [show (2 * ((j + 1:Nat):Int) - 2) = ((2 * j:Nat):Int) by omega]
     obtain ⟨e1,e2⟩:=HCS.out j hjl
     have hI':=hI.out
     obtain ⟨below,hGlt,C,v,hG,hC,hC256,hown,hvG,hents⟩:=hI'
     have hnotin:look (ps.drop (j + 1)) ps[j].1 = none:=by
      refine look_none _ _ fun hm=>?_
      rw [List.map_drop] at hm
      have hnd2:=hnd
      rw [← List.take_append_drop j (ps.map (·.1)),List.nodup_append] at hnd2
      have hdj:(ps.map (·.1)).drop j = ps[j].1 :: (ps.map (·.1)).drop (j + 1):=by
       rw [List.drop_eq_getElem_cons (by simpa using hjl)];simp
      have hnd3:=hnd2.2.1
      rw [hdj,List.nodup_cons] at hnd3
      exact hnd3.1 hm
     have hdrop:ps.drop j = (ps[j].1,ps[j].2) :: ps.drop (j + 1):=by rw [List.drop_eq_getElem_cons hjl]
     generalize ps[j].1 = o at e1 hnotin hdrop
     generalize ps[j].2 = nn at e2 hdrop
     generalize hk:2 * j = k at e1 e2
     rw [← below.cell (p:=⟨ba,oa + k,none⟩) hba] at e1
     rw [← below.cell (p:=⟨ba,oa + (k + 1),none⟩) hba] at e2
     have hkb:k + 1 < n:=by have:=HN.out;omega
     have HK:=Lib.hid hk
     have HD:=Lib.hid hdrop
     have HE:=Lib.hid hents
     obtain ⟨m,hm⟩:∃ m,(ps.drop (j + 1)).length = m:=⟨_,rfl⟩
     rw [hm] at hown
     have hm256:m ≤ 256:=by rw [← hm,List.length_drop];omega
     have HM:=Lib.hid hm
     clear hm
     have HO:=Lib.hid hown
     have HV:=Lib.hid hvG
     have HB:=Lib.hid below
     obtain ⟨u0,hu0,he0,_⟩:=hents o
     rw [hnotin] at he0
     have he0':u0 = .slice none 0 0:=he0
     rw [he0'] at hu0
     have g0:wr.cell? ⟨G,o.toNat,none⟩ = some (.slice none 0 0):=by rw [cell_heap hG];exact hu0
     have g1:wr.cell? ⟨G,256,none⟩ = some v:=by rw [cell_heap hG];exact hC256
     have ho:o.toNat < 256:=o.toNat_lt
     have hidx:∀ W,(Instr.index 9 (.string (str1 o)) (.int .i64 0)).run Tryz.prog W = .ok (.int .u8 o.toNat) W:=fun W=>by kernel_rfl
     have HG:=Lib.hid hG
     have H256:=Lib.hid hC256
     clear he0' he0 hu0 hnotin hk hents hown hvG below hI hdrop hG hC256
     have hnil:∀ W,(binOp .eql 136 (.slice none 0 0) (.slice none 0 0)).run Tryz.prog W = .ok (.bool true) W:=fun W=>Lib.run_eql_slice_nil W 136 5 none 0 0 0 0 Tryz.underlying136
     have hcs:∀ W,(convert 136 9 (.slice (some ⟨wr.heap.size,0,none⟩) 1 1)).run Tryz.prog (W:World) = (convert 136 9 (.slice (some ⟨wr.heap.size,0,none⟩) 1 1)).run Tryz.prog W:=fun _=>rfl
     clear hcs
     have hcs:(convert 136 9 (.slice (some ⟨wr.heap.size,0,none⟩) 1 1)).run Tryz.prog (wr.alloc (.cells #[.int .u8 o.toNat] 5)) = .ok (.string (str1 o)) (wr.alloc (.cells #[.int .u8 o.toNat] 5)):=by
      refine run_bytes_str (s:=str1 o) ⟨rfl,fun i hi=>?_⟩ 136 9 5 Tryz.underlying136 Tryz.underlying5 Tryz.underlying9 1
      have hi0:i = 0:=by have:(bytesV (str1 o)).length = 1:=rfl;omega
      subst hi0
      refine ⟨wr.heap.size,0,rfl,by simp,?_⟩
      rw [cell_heap (heap_alloc_new wr _)]
      rfl
     have HST:=Lib.hid (show str1 o = str1 o from rfl)
     have hGl:G < wr.heap.size:=heap_lt HG.out
     have hGl1:G < (wr.alloc (.cells #[.int .u8 o.toNat] 5)).heap.size:=by simp;omega
     have hbl:w.heap.size ≤ wr.heap.size:=HB.out.size
     generalize hon:o.toNat = on at *
     have HON:=Lib.hid hon
     clear hon
     go_upto_region 34 with (at_builtin;go_loud (refine wpList_app (wr.alloc (.cells #[.int .u8 on] 5)) rfl _ _ 220 (by rfl) w.heap.size 9 is (.string ByteArray.empty) 1 16 Tryz.underlying220 his hisz his1 his2 rfl (by decide) _ _ _ (by rfl) (HO.out.alloc _) (wr.heap.size + 1) (by simp) 1 [.string (str1 o)] (by rfl) rfl (by simp [Value.oneCell']) (by simp;omega) (by decide) (by simp;omega) (fun v3 w3 hown3 happ3=>?_));obtain ⟨av,cv,rfl,hsl3⟩:=own_sl hown3;have c3:w3.heap[G]? = some (.cells C 255 (0,0)):=(happ3.keep (by simp;omega) HV.out).trans ((Below.heap_alloc _ _ _ (by simp;omega)).trans ((Below.heap_alloc _ _ _ (by omega)).trans HG.out));have g3:w3.cell? ⟨G,256,none⟩ = some v:=(cell_heap c3).trans H256.out;have f3:w3.frozen? ⟨G,256,none⟩ = false:=frozen_heap c3;have H3:=Lib.hid c3;clear c3;have HA3:=Lib.hid happ3;clear happ3;have HO3:=Lib.hid hown3;clear hown3)
     have c5:=(Lib.bytesWorld_at_old (w3.setCell ⟨G,256,none⟩ (.slice av (m + 1) cv)) 5 nn G (by simp [World.setCell];exact heap_lt H3.out)).trans (setCell_heap H3.out _)
     have g5:(Lib.bytesWorld (w3.setCell ⟨G,256,none⟩ (.slice av (m + 1) cv)) 5 nn).cell? ⟨G,on,none⟩ = some (.slice none 0 0):=by
      rw [cell_heap c5,Array.getElem?_setIfInBounds_ne (by omega)]
      rw [← g0,cell_heap HG.out]
     have f5:(Lib.bytesWorld (w3.setCell ⟨G,256,none⟩ (.slice av (m + 1) cv)) 5 nn).frozen? ⟨G,on,none⟩ = false:=frozen_heap c5
     have hbs:=fun W=>Lib.run_convert_string_bytes (P:=Tryz.prog) W 9 136 5 nn Tryz.underlying9 Tryz.underlying136 Tryz.underlying5
     clear c5 g0 g1 g3 f3 hcs
     go_wp2_with fail
     go_roundw
     case rel =>
      refine ⟨j,by have:=HK.out;congr 1;omega,by omega,?_⟩
      show BuildInv _ _ _ _
      rw [HD.out,← HON.out]
      refine BuildInv.step HB.out hGlt HG.out hC HV.out HE.out (fun k hk=>(HO.out.lt k hk).1) (((Below.refl _ _).alloc (Nat.le_refl _) (.cells #[.int .u8 on] 5)).alloc (by simp) (.cells #[.string (str1 o)] 9)) HA3.out (by rw [HM.out];exact HO3.out) ((bytesW_below _ _ _).mono (by simp [World.setCell])) ⟨_,_,rfl,?_⟩ (fun h hh=>?_)
      ·have:=bytesW_sl (w3.setCell ⟨G,256,none⟩ (.slice av (m + 1) cv)) 5 nn
       simpa [World.setCell] using this
      ·injection hh with hh
       subst hh
       rw [Lib.bytesWorld_size]
       simp [World.setCell]
     case measure=>simp [intOf];omega
end Go.Proofs.YtgjokdngbocehaaGreatDoor
namespace Go.Proofs.YtgjokdngbocehaaGreatDoor
open Go.RowKit
def form (ps:List (UInt8 × ByteArray)) (b:UInt8):List UInt8:=match look ps b with | none=>[b] | some n=>n.data.toList
def replL (ps:List (UInt8 × ByteArray)) (l:List UInt8):List UInt8:=l.flatMap (form ps)
def replS (ps:List (UInt8 × ByteArray)) (s:ByteArray):ByteArray:=⟨(replL ps s.data.toList).toArray⟩
def gain (ps:List (UInt8 × ByteArray)) (b:UInt8):Int:=((form ps b).length:Int) - 1
def gains (ps:List (UInt8 × ByteArray)) (l:List UInt8):Int:=(l.map (gain ps)).sum
def hit (ps:List (UInt8 × ByteArray)) (l:List UInt8):Bool:=l.any fun b=>(look ps b).isSome
theorem replL_length (ps:List (UInt8 × ByteArray)) (l:List UInt8):((replL ps l).length:Int) = l.length + gains ps l:=by
 induction l with
 | nil=>rfl
 | cons b l ih =>
  have e:replL ps (b :: l) = form ps b ++ replL ps l:=rfl
  have e2:gains ps (b :: l) = gain ps b + gains ps l:=by simp [gains]
  rw [e,List.length_append,e2,List.length_cons]
  unfold gain
  omega
theorem replL_snoc (ps:List (UInt8 × ByteArray)) (l:List UInt8) (b:UInt8):replL ps (l ++ [b]) = replL ps l ++ form ps b:=by simp [replL]
theorem gains_snoc (ps:List (UInt8 × ByteArray)) (l:List UInt8) (b:UInt8):gains ps (l ++ [b]) = gains ps l + gain ps b:=by simp [gains]
theorem hit_snoc (ps:List (UInt8 × ByteArray)) (l:List UInt8) (b:UInt8):hit ps (l ++ [b]) = (hit ps l || (look ps b).isSome):=by simp [hit]
theorem no_hit (ps:List (UInt8 × ByteArray)) (l:List UInt8) (h:hit ps l = false):replL ps l = l:=by
 induction l with
 | nil=>rfl
 | cons b l ih =>
  have e:hit ps (b :: l) = ((look ps b).isSome || hit ps l):=rfl
  rw [e,Bool.or_eq_false_iff] at h
  have e2:replL ps (b :: l) = form ps b ++ replL ps l:=rfl
  rw [e2,ih h.2]
  have e3:look ps b = none:=by simpa using h.1
  simp [form,e3]
def cgain (l:List UInt8) (p:UInt8 × ByteArray):Int:=(Lib.countByte l p.1:Int) * ((p.2.size:Int) - 1)
def cgains (qs:List (UInt8 × ByteArray)) (l:List UInt8):Int:=(qs.map (cgain l)).sum
def cany (qs:List (UInt8 × ByteArray)) (l:List UInt8):Bool:=qs.any fun p=>Lib.countByte l p.1 != 0
theorem cgains_snoc (qs:List (UInt8 × ByteArray)) (p:UInt8 × ByteArray) (l:List UInt8):cgains (qs ++ [p]) l = cgains qs l + cgain l p:=by simp [cgains]
theorem cany_snoc (qs:List (UInt8 × ByteArray)) (p:UInt8 × ByteArray) (l:List UInt8):cany (qs ++ [p]) l = (cany qs l || Lib.countByte l p.1 != 0):=by simp [cany]
theorem gain_none (ps:List (UInt8 × ByteArray)) (b:UInt8) (h:look ps b = none):gain ps b = 0:=by simp [gain,form,h]
theorem size_data (n:ByteArray):n.data.toList.length = n.size:=by rw [Array.length_toList];rfl
theorem one_byte (ps:List (UInt8 × ByteArray)) (b:UInt8) (hnd:(ps.map (·.1)).Nodup) :
  (ps.map fun p=>(if p.1 = b then ((p.2.size:Int) - 1) else 0)).sum = gain ps b:=by
 induction ps with
 | nil=>simp [gain,form,look]
 | cons p ps ih =>
  simp only [List.map_cons,List.nodup_cons] at hnd
  have ih:=ih hnd.2
  rw [List.map_cons,List.sum_cons,ih]
  by_cases h:p.1 = b
  ·have hn:look ps b = none:=look_none ps b (by rw [← h];exact hnd.1)
   rw [if_pos h,gain_none ps b hn]
   have e:look (p :: ps) b = some p.2:=by rw [look_cons,if_pos h]
   simp only [gain,form,e,size_data]
   omega
  ·rw [if_neg h]
   have e:look (p :: ps) b = look ps b:=by rw [look_cons,if_neg h]
   simp only [gain,form,e]
   omega
theorem cgains_cons (ps:List (UInt8 × ByteArray)) (b:UInt8) (l:List UInt8) :
  cgains ps (b :: l) = (ps.map fun p=>(if p.1 = b then ((p.2.size:Int) - 1) else 0)).sum + cgains ps l:=by
 induction ps with
 | nil=>rfl
 | cons p ps ih =>
  have e:∀ m,cgains (p :: ps) m = cgain m p + cgains ps m:=fun m=>by simp [cgains]
  rw [e,e,ih,List.map_cons,List.sum_cons]
  have e2:cgain (b :: l) p = (if p.1 = b then ((p.2.size:Int) - 1) else 0) + cgain l p:=by
   unfold cgain Lib.countByte
   rw [List.count_cons]
   by_cases h:p.1 = b
   ·rw [if_pos h,if_pos (by simp [h])]
    rw [Int.natCast_add,Int.add_mul]
    simp
    omega
   ·rw [if_neg h,if_neg (by simpa using fun e=>h e.symm)]
    simp
  rw [e2]
  omega
theorem cgains_eq (ps:List (UInt8 × ByteArray)) (hnd:(ps.map (·.1)).Nodup) (l:List UInt8):cgains ps l = gains ps l:=by
 induction l with
 | nil =>
  have:∀ qs:List (UInt8 × ByteArray),cgains qs [] = 0:=by
   intro qs
   induction qs with
   | nil=>rfl
   | cons p qs ih =>
    have e:cgains (p :: qs) [] = cgain [] p + cgains qs []:=by simp [cgains]
    rw [e,ih]
    simp [cgain,Lib.countByte]
  rw [this]
  rfl
 | cons b l ih =>
  rw [cgains_cons,one_byte ps b hnd,ih]
  simp [gains]
theorem cgains_rev (ps:List (UInt8 × ByteArray)) (l:List UInt8):cgains ps.reverse l = cgains ps l:=by
 unfold cgains
 induction ps with
 | nil=>rfl
 | cons p ps ih =>
  rw [List.reverse_cons,List.map_append,List.sum_append,ih,List.map_cons,List.map_cons,List.sum_cons,List.map_nil,List.sum_cons,List.sum_nil]
  omega
theorem cany_eq (ps:List (UInt8 × ByteArray)) (l:List UInt8):cany ps l = hit ps l:=by
 rw [Bool.eq_iff_iff]
 simp only [cany,hit,List.any_eq_true,bne_iff_ne,ne_eq]
 constructor
 ·rintro ⟨p,hp,hc⟩
  have hm:p.1 ∈ l:=List.count_pos_iff.1 (Nat.pos_of_ne_zero hc)
  refine ⟨p.1,hm,?_⟩
  unfold look
  cases hf:ps.find? (fun q=>q.1 == p.1) with
  | none=>have:=List.find?_eq_none.1 hf p hp;simp at this
  | some q=>rfl
 ·rintro ⟨b,hb,hs⟩
  unfold look at hs
  cases hf:ps.find? (fun q=>q.1 == b) with
  | none=>rw [hf] at hs;cases hs
  | some q =>
   have h1:=List.mem_of_find?_eq_some hf
   have h2:=List.find?_some hf
   simp at h2
   refine ⟨q,h1,?_⟩
   have:0 < Lib.countByte l q.1:=List.count_pos_iff.2 (by rw [h2];exact hb)
   omega
theorem cany_rev (ps:List (UInt8 × ByteArray)) (l:List UInt8):cany ps.reverse l = cany ps l:=by simp [cany]
structure TabOK (w:World) (G:Nat) (ps:List (UInt8 × ByteArray)):Prop where
 tab:∃ (C:Array Value) (a:Option Addr) (n c:Nat),w.heap[G]? = some (.cells C 255 (0,0)) ∧ C[256]? = some (.slice a n c) ∧ Sl w a n (ps.reverse.map fun p=>Value.string (str1 p.1)) ∧
  ∀ o:UInt8,∃ u,C[o.toNat]? = some u ∧ Ent w u (look ps o)
theorem BuildInv.okAt {w wr w':World} {G:Nat} {ps:List (UInt8 × ByteArray)} (h:BuildInv w wr G ps) (hk:∀ k,w.heap.size ≤ k → k < wr.heap.size → w'.heap[k]? = wr.heap[k]?):TabOK w' G ps:=by
 obtain ⟨_,hG0,C,v,hG,_,h256,hown,_,hents⟩:=h
 have hGl:=heap_lt hG
 have hol:=hown.lt
 obtain ⟨a,c,rfl,hs⟩:=own_sl hown
 refine ⟨C,a,ps.length,c,(hk G (by omega) hGl).trans hG,h256,hs.keep fun b o e=>?_,fun o=>?_⟩
 ·have:=hol b (by rw [e];rfl)
  exact hk b this.1 this.2
 ·obtain ⟨u,h1,h2,h3⟩:=hents o
  exact ⟨u,h1,h2.keep fun k hu=>hk k (h3 k hu).2.2.2 (h3 k hu).2.2.1⟩
theorem Ent.below {w w':World} {v:Value} {x:Option ByteArray} (h:Ent w v x) (hb:Below w.heap.size w w'):Ent w' v x:=by
 cases x with
 | none=>exact h
 | some n =>
  obtain ⟨k,c,rfl,hs⟩:=h
  exact ⟨k,c,rfl,hs.below hb⟩
theorem look_mem (ps:List (UInt8 × ByteArray)) (hnd:(ps.map (·.1)).Nodup) (p:UInt8 × ByteArray) (hp:p ∈ ps):look ps p.1 = some p.2:=by
 induction ps with
 | nil=>cases hp
 | cons q ps ih =>
  simp only [List.map_cons,List.nodup_cons] at hnd
  rw [look_cons]
  rcases List.mem_cons.1 hp with rfl | h
  ·rw [if_pos rfl]
  ·rw [if_neg ?_,ih hnd.2 h]
   intro e
   exact hnd.1 (e ▸ List.mem_map_of_mem h)
theorem look_some (ps:List (UInt8 × ByteArray)) (b:UInt8) (n:ByteArray) (h:look ps b = some n):∃ p ∈ ps,p.1 = b ∧ p.2 = n:=by
 unfold look at h
 cases hf:ps.find? (fun q=>q.1 == b) with
 | none=>rw [hf] at h;cases h
 | some q =>
  rw [hf] at h
  injection h with h
  have h2:=List.find?_some hf
  simp at h2
  exact ⟨q,List.mem_of_find?_eq_some hf,h2,h⟩
theorem count_le (l:List UInt8) (c:UInt8):Lib.countByte l c ≤ l.length:=List.count_le_length
theorem cgain_bd (l:List UInt8) (p:UInt8 × ByteArray) (h1:1 ≤ p.2.size):0 ≤ cgain l p:=by
 unfold cgain
 exact Int.mul_nonneg (by omega) (by omega)
theorem cgains_nonneg (qs:List (UInt8 × ByteArray)) (l:List UInt8) (h1:∀ p ∈ qs,1 ≤ p.2.size):0 ≤ cgains qs l:=by
 induction qs with
 | nil=>exact Int.le_refl _
 | cons p qs ih =>
  have e:cgains (p :: qs) l = cgain l p + cgains qs l:=by simp [cgains]
  have:=cgain_bd l p (h1 p (by simp))
  have:=ih fun q hq=>h1 q (by simp [hq])
  omega
theorem cgains_take (qs:List (UInt8 × ByteArray)) (l:List UInt8) (h1:∀ p ∈ qs,1 ≤ p.2.size) (k:Nat):cgains (qs.take k) l ≤ cgains qs l:=by
 have e:cgains qs l = cgains (qs.take k) l + cgains (qs.drop k) l:=by
  unfold cgains
  rw [← List.sum_append,← List.map_append,List.take_append_drop]
 have:=cgains_nonneg (qs.drop k) l fun p hp=>h1 p (List.mem_of_mem_drop hp)
 omega
theorem gain_bd (ps:List (UInt8 × ByteArray)) (h1:∀ p ∈ ps,1 ≤ p.2.size ∧ p.2.size ≤ 8) (b:UInt8):0 ≤ gain ps b ∧ gain ps b ≤ 7:=by
 cases h:look ps b with
 | none=>rw [gain_none ps b h];omega
 | some n =>
  obtain ⟨p,hp,_,rfl⟩:=look_some ps b n h
  have:=h1 p hp
  simp only [gain,form,h,size_data]
  omega
theorem gains_bd (ps:List (UInt8 × ByteArray)) (h1:∀ p ∈ ps,1 ≤ p.2.size ∧ p.2.size ≤ 8) (l:List UInt8):0 ≤ gains ps l ∧ gains ps l ≤ 7 * l.length:=by
 induction l with
 | nil=>simp [gains]
 | cons b l ih =>
  have e:gains ps (b :: l) = gain ps b + gains ps l:=by simp [gains]
  have:=gain_bd ps h1 b
  rw [e,List.length_cons]
  omega
theorem gains_take (ps:List (UInt8 × ByteArray)) (h1:∀ p ∈ ps,1 ≤ p.2.size ∧ p.2.size ≤ 8) (l:List UInt8) (k:Nat):gains ps (l.take k) ≤ gains ps l:=by
 have e:gains ps l = gains ps (l.take k) + gains ps (l.drop k):=by
  unfold gains
  rw [← List.sum_append,← List.map_append,List.take_append_drop]
 have:=(gains_bd ps h1 (l.drop k)).1
 omega
def bufL (N:Nat) (l:List UInt8):List Value:=u8s l ++ List.replicate (N - l.length) (.int .u8 0)
theorem bufL_length (N:Nat) (l:List UInt8) (h:l.length ≤ N):(bufL N l).length = N:=by simp [bufL,u8s];omega
theorem bufL_set (N:Nat) (l:List UInt8) (o:UInt8) (h:l.length < N):(bufL N l).toArray.setIfInBounds l.length (.int .u8 o.toNat) = (bufL N (l ++ [o])).toArray:=by
 obtain ⟨m,hm⟩:∃ m,N - l.length = m + 1:=⟨N - l.length - 1,by omega⟩
 have hl:l.length = (u8s l).length:=by simp [u8s]
 have hm2:N - (l ++ [o]).length = m:=by rw [List.length_append,List.length_singleton];omega
 unfold bufL
 rw [hm,hm2,List.replicate_succ,hl,setIfInBounds_pre]
 simp [u8s]
theorem bufL_splice (N:Nat) (l m:List UInt8) (h:l.length + m.length ≤ N):splice (bufL N l) l.length (u8s m) = bufL N (l ++ m):=by
 have hl:l.length = (u8s l).length:=by simp [u8s]
 have hm:(u8s m).length = m.length:=by simp [u8s]
 unfold splice bufL
 rw [hm,List.take_left' hl.symm,List.drop_append,List.drop_of_length_le (by omega),List.nil_append,List.drop_replicate,hl,← List.append_assoc]
 have e:(N - (u8s l).length - ((u8s l).length + m.length - (u8s l).length)) = N - (l ++ m).length:=by rw [List.length_append];omega
 rw [e]
 simp [u8s]
theorem bufL_full (l:List UInt8):bufL l.length l = u8s l:=by simp [bufL]
theorem u8s_bytesV (l:List UInt8):u8s l = bytesV ⟨l.toArray⟩:=by simp [u8s,bytesV]
theorem bytesV_u8s (n:ByteArray):bytesV n = u8s n.data.toList:=rfl
theorem made_zero (z:Value) (n:Nat):(madeCells #[z] n).toList = List.replicate n z:=by
 apply List.ext_getElem
 ·simp [madeCells]
 ·intro i h1 h2
  simp [madeCells,Nat.mod_one]
theorem own_full {w:World} {base:Nat} {e:TypeId} {g n:Nat} {xs:List Value} (h:w.ownsRow base e 1 (.slice (some ⟨g,0,none⟩) n n) n xs):w.heap[g]? = some (.cells xs.toArray e (0,0)):=by
 obtain ⟨h1,h2⟩:=h
 rcases h2 with ⟨h3,_⟩ | ⟨g',cap,cur,hv,_,hh,_,_,hsz,ht⟩
 ·cases h3
 ·injection hv with e1 e2 e3
  injection e1 with e1
  injection e1 with e1
  subst e1
  subst e3
  rw [hh,← ht,List.take_of_length_le (by rw [Array.length_toList,hsz];exact Nat.le_refl _)]
theorem heap_sl {w:World} {g:Nat} {xs:List Value} {e:TypeId} {fz:Nat × Nat} (h:w.heap[g]? = some (.cells xs.toArray e fz)):Sl w (some ⟨g,0,none⟩) xs.length xs :=
 ⟨rfl,fun i hi=>⟨g,0,rfl,heap_lt h,by rw [cell_heap h,Nat.zero_add];simp [hi]⟩⟩
end Go.Proofs.YtgjokdngbocehaaGreatDoor
