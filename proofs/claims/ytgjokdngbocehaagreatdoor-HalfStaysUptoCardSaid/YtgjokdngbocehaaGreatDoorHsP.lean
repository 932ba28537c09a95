/-
  What is known by a beginning: three values, node by node; plain Lean.
-/
import Derived.Test.YtgjokdngbocehaaGreatDoorHsA
import Derived.Test.YtgjokdngbocehaaGreatDoorHsD
import Derived.Test.YtgjokdngbocehaaGreatDoorHsL
import Derived.Test.YtgjokdngbocehaaGreatDoorHsN
namespace Go.Proofs.YtgjokdngbocehaaGreatDoor
open Go.RowKit
theorem notI_3 (t:Int):T3 (notI t):=by have:=seenI_3 t;unfold notI T3 at *;omega
theorem earlyT_3 (v:List UInt8) (x:PX):T3 (earlyT v x):=by
 unfold earlyT T3
 simp only
 repeat' split
 all_goals decide
theorem asksT_3 (h:HN) (x:PX):T3 (asksT h x):=by
 unfold asksT
 split
 ·split
  ·unfold T3;decide
  ·exact truthI_3 _
 ·split
  ·exact earlyT_3 _ _
  ·exact truthI_3 _
theorem testT_3 (h:HN) (s:PS):T3 (testT h s):=by
 unfold testT
 split
 ·exact truthI_3 _
 ·split
  ·exact truthI_3 _
  ·split
   ·exact truthI_3 _
   ·unfold T3;decide
theorem backT_ok (ex:PX → List Int) (hs:List HN) (hp:1 ≤ hs.length) (s:PS) (b:List Int):R3 (backT ex hs s b) ∧ (backT ex hs s b).length = hs.length:=by
 obtain ⟨h1,h2,h3,h4⟩:=cdAll_ok hs (metT ex hs s b) (hs.length - 1) 1 (by omega)
 unfold backT
 simp only
 split
 ·exact ⟨metT_3 _ _ _ _,metT_len ..⟩
 ·split
  ·exact ⟨h1,h3⟩
  ·split
   ·exact ⟨rowOf_3 _ _ fun k=>orL_3 _,rowOf_len ..⟩
   ·exact ⟨h2,h4⟩
theorem exprT_ok (hs:List HN) (hp:1 ≤ hs.length) (f:Nat) (x:PX):R3 (exprT hs (f + 1) x) ∧ (exprT hs (f + 1) x).length = hs.length:=by
 unfold exprT
 split
 ·generalize x.path = l
  induction l with
  | nil =>
   refine ⟨rowOf_3 _ _ fun k=>?_,rowOf_len ..⟩
   cases hs[k]? with
   | none=>show T3 0;unfold T3;decide
   | some h=>exact asksT_3 _ _
  | cons s l _=>exact backT_ok _ _ hp _ _
 ·refine ⟨rowOf_3 _ _ fun k=>?_,rowOf_len ..⟩
  split
  ·exact andL_3 _
  ·split
   ·exact orL_3 _
   ·exact notI_3 _
end Go.Proofs.YtgjokdngbocehaaGreatDoor
