/-
  HalfWhole, where what it reads is of bulk at most 1048576: for every such argument the law returns true, and it reads as before: the row's statement and its card. Condition: the bulk bound of the statement itself.
-/
import Derived.ChangeMaps5
import Derived.Test.YtgjokdngbocehaaGreatDoorHsC
import Derived.Test.YtgjokdngbocehaaGreatDoorHsE
import Derived.Test.YtgjokdngbocehaaGreatDoorHsN
import Derived.Test.YtgjokdngbocehaaGreatDoorHsU
import Derived.Test.YtgjokdngbocehaaGreatDoorHsZN
import Derived.Test.YtgjokdngbocehaaGreatDoorHsZT
namespace Go.Proofs.YtgjokdngbocehaaGreatDoor.halfWhole
open Go.ChangeShapes Go.WideShapes Go.ChangeAt Go.RowKit
open Go.ChangeMaps (open_string shut_string)
theorem at_laid {W:World} (hL:laidMetH Tryz.prog Rows.halfWholeUptoRow.laid W):RangesAt W 2 ∧ Lib.Utf8Tabs 0 1 W:=at_laid3 hL
set_option maxRecDepth 100000 in
theorem contract (H:Type) (enc:TypeId × Value → H) (W:World) (base:Nat) (args:Array Value) (ds gs:List (DataW H)) (before:List MemPlace)
  (hval:∀ (j:Nat) t v,Tryz.f7.params[j]? = some t → args[j]? = some v → Value.okWide Tryz.prog W .any base t v)
  (hW:DataW.Whole enc Tryz.prog Tryz.f7.params.toList Rows.halfWholeSpec.vars false W args.toList ds gs before) (hk:Rows.uptoSmall H (ds ++ gs) = true) (hL:laidMetH Tryz.prog Rows.halfWholeUptoRow.laid W) :
  Calls Tryz.prog 7 args W fun e W'=>∃ v,e = .returned v ∧ Rows.halfWholeSpec.post enc Tryz.prog Tryz.f7 false true false false W args v W':=by
 have hW':=hW
 obtain ⟨p,q,hA0,hV,rfl,hfz,hnd⟩:=hW
 have hA:DataW.TrodAll enc Tryz.prog W 0 (fun _=>true) true Tryz.f7.params.toList args.toList ds p:=hA0
 rw [Tryz.params7] at hA hval
 obtain ⟨v0,vs0,d0,ds0,p0,q0,hargs,rfl,rfl,h0,r0⟩:=trodAll_cons hA
 obtain ⟨v1,vs1,d1,ds1,p1,q1,rfl,rfl,rfl,h1,r1⟩:=trodAll_cons r0
 obtain ⟨rfl,rfl,rfl⟩:=trodAll_nil r1
 obtain rfl:args = #[v0,v1]:=by cases args;simp_all
 obtain ⟨rfl,rfl⟩:=trodVars_none hV
 obtain ⟨a0,n0,c0,rfl⟩:=okWide_slice Tryz.underlying22 (hval 0 22 v0 rfl rfl)
 have hO0:(EvsAt W a0 n0 (evsOf d0) ∧ wtEs (evsOf d0) ≤ Rows.uptoBulk d0) ∧ n0 ≤ c0:=by
  obtain ⟨fuel,hf⟩:=h0
  obtain ⟨a9,n9,c9,hcs,hnc,hO,hw⟩:=evs_read hf
  simp [Value.cells] at hcs
  obtain ⟨rfl,rfl,rfl⟩:=hcs
  exact ⟨⟨hO,hw⟩,hnc⟩
 obtain ⟨ca1,rfl,hsz1⟩:=okWide_struct Tryz.underlying25 (hval 1 25 v1 rfl rfl)
 obtain ⟨cl1,rfl⟩:∃ l:List Value,ca1 = l.toArray:=⟨ca1.toList,by simp⟩
 have hO1:Rows.uptoBulk d1 ≤ 1048576 → ∃ a c,∃ l:List PS,cl1 = [.slice a l.length c] ∧ l.length ≤ c ∧ l.length ≤ 1048576 ∧ SsAt 1048576 W a l:=fun hbb=>by
  obtain ⟨fuel,hf⟩:=h1
  exact path_open (fun m es y hy hb=>expr_open 1048576 m es y hy hb (Nat.le_refl _)) hf (Nat.le_trans hbb (by decide)) hbb
 clear hA0
 simp only [List.append_nil] at hW' hk
 have hb:Rows.uptoBulkAll [d0,d1] ≤ 1048576:=of_decide_eq_true hk
 simp only [Rows.uptoBulkAll] at hb
 have hbe0:Rows.uptoBulk d0 ≤ 1048576:=by omega
 have hbe1:Rows.uptoBulk d1 ≤ 1048576:=by omega
 have hlt0:∀ x ∈ p0,x.block < W.heap.size:=fun x hx=>hW'.lt x (by simp [hx])
 have hlt1:∀ x ∈ p1,x.block < W.heap.size:=fun x hx=>hW'.lt x (by simp [hx])
 obtain ⟨a1,c1,l1,rfl,hc1,hn1,hs1⟩:=hO1 hbe1
 obtain ⟨⟨hev,hwt⟩,hnc0⟩:=hO0
 refine (halfWhole_of (f:=1048576) (by decide) a0 n0 c0 (evsOf d0) a1 c1 l1 W ⟨(at_laid hL).1,(at_laid hL).2⟩ hev (Nat.le_trans hwt hbe0) hs1 hn1 hnc0).mono fun e W' ⟨he,bel⟩=>?_
 subst he
 refine ⟨_,rfl,_,_,_,[],p0 ++ (p1 ++ []),[],hW',?_,?_,rfl,bel.frame _,fun h=>by cases h⟩
 ·exact trodAll_cons_mk (shut_bool Tryz.underlying4 _) trodAll_mk0
 ·exact trodAll_cons_mk (Below.trod laidOut (by kernel_rfl) (of_decide_eq_true (by kernel_rfl)) h0 bel hlt0) (trodAll_cons_mk (Below.trod laidOut (by kernel_rfl) (of_decide_eq_true (by kernel_rfl)) h1 bel hlt1) trodAll_mk0)
theorem reads (os:Os) {H:Type} (enc:TypeId × Value → H):∃ places,DataW.whole enc Tryz.prog ((laidWorld3 os).forCall (fun _ _=>0) ⟨#[],#[.slice none 0 0,.agg #[.slice none 0 0]],[]⟩).memory Tryz.f7.params.toList Rows.halfWholeSpec.vars false (#[.slice none 0 0,.agg #[.slice none 0 0]]:Array Value).toList 8 = some ([.nil,.agg [.nil]],[],places) :=
 ⟨[],by kernel_rfl⟩
set_option maxRecDepth 100000 in
theorem lifted (os:Os) (started:os.Started) (H:Type) (enc:TypeId × Value → H) (F:Stop.Interp) :
  ReturnsInHanded {} Tryz.checked os 7 .any ((Rows.OpenSpec.upto Rows.halfWholeSpec).preRow enc Tryz.prog Tryz.f7 Rows.halfWholeUptoRow.domain false Rows.halfWholeUptoRow.laid) (((Rows.OpenSpec.upto Rows.halfWholeSpec).at F).post enc Tryz.prog Tryz.f7 false true false false):=by
 obtain ⟨places,hx⟩:=reads os enc
 refine returnsInHanded_of_row (C:=Tryz.checked) (s:=Rows.OpenSpec.upto Rows.halfWholeSpec) own' started (by kernel_rfl) Tryz.func7
  (witness_row_atRef (enc:=enc) (C:=Tryz.checked) false (laidWorld3 os) #[.slice none 0 0,.agg #[.slice none 0 0]] rfl (by kernel_rfl) (by kernel_rfl) (by kernel_rfl)
   (OpenSpec.preRow_of_cond 8 hx (by kernel_rfl) (fun k hk=>by cases hk;kernel_rfl) (by kernel_rfl) (laid_met3 os _))) ?_
 intro W base args ds gs before hval hW _ hcond _ hL _ _
 exact contract H enc W base args ds gs before hval hW (hcond _ rfl) hL
theorem proved:Rows.HalfWholeUptoSaid :=
 OpenClaim.holds_of_cond 7 Tryz.f7 rfl rfl rfl rfl rfl rfl rfl ⟨rfl,rfl,rfl,rfl,rfl⟩ rfl rfl rfl rfl rfl (by kernel_rfl) Tryz.func7 (by kernel_rfl)
  (of_decide_eq_true (by kernel_rfl)) (by unfold Func.isWrapper;first | (rw [if_pos (by decide +kernel)];kernel_rfl) | (rw [if_neg (by decide +kernel)];exact ⟨rfl,rfl⟩))
  (fun os started H enc _ F=>by rw [OpenClaim.pre_eq_preRow];exact lifted os started H enc F)
theorem plain (f:FuncId) (fn:Func) (hf:Tryz.pinned.checked.prog.funcNamed "gimlet/gimletlaw15.HalfWhole" = some f) (hfn:Tryz.pinned.checked.prog.funcs[f]? = some fn) :
  true = Tryz.pinned.checked.prog.looks [] ∧ ∀ (j:Nat) t,fn.params[j]? = some t → Tryz.pinned.checked.prog.wantsStandIn t = false:=by
 obtain rfl:f = 7:=Option.some.inj ((show Tryz.prog.funcNamed "gimlet/gimletlaw15.HalfWhole" = some 7 by kernel_rfl).symm.trans hf) |>.symm
 obtain rfl:fn = Tryz.f7:=(Option.some.inj (Tryz.func7.symm.trans hfn)).symm
 refine ⟨by kernel_rfl,fun j t ht=>?_⟩
 rw [Tryz.params7] at ht
 have hm:=Array.mem_of_getElem? ht
 obtain rfl | rfl:t = 22 ∨ t = 25:=by simpa using hm
 ·exact (show Tryz.prog.wantsStandIn 22 = false by kernel_rfl)
 ·exact (show Tryz.prog.wantsStandIn 25 = false by kernel_rfl)
theorem card:Rows.HalfWholeUptoCardSaid :=
 Claim7.holds_tied_plain_at .later [] _ _ _ _ proved (fun _ h=>by cases h) (by kernel_rfl) (fun _ h=>by cases h) halfWholeUpto_row_tie rfl ⟨rfl,rfl⟩ (by kernel_rfl) rfl plain (by kernel_rfl)
#print axioms card
end Go.Proofs.YtgjokdngbocehaaGreatDoor.halfWhole
