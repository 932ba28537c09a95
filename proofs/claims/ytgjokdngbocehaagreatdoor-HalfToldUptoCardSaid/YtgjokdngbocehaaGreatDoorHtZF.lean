/-
  gimletref09.Along: what it gives is new memory.
-/
import Derived.Test.YtgjokdngbocehaaGreatDoorHtA
import Derived.Test.YtgjokdngbocehaaGreatDoorHtG
import Derived.Test.YtgjokdngbocehaaGreatDoorHtR
import Derived.Test.YtgjokdngbocehaaGreatDoorHtY
import Derived.Test.YtgjokdngbocehaaGreatDoorHtZD
namespace Go.Proofs.YtgjokdngbocehaaGreatDoor
open Go.RowKit
def IntsN (B:Nat) (w:World) (a:Option Addr) (n:Nat) (l:List Int):Prop:=IntsAt w a n l ∧ ∀ ad,a = some ad → B ≤ ad.block
theorem own_from {w:World} {base n m c size:Nat} {e:TypeId} {a:Option Addr} {xs:List Value} (h:w.ownsRow base e size (.slice a m c) n xs):∀ ad,a = some ad → base ≤ ad.block:=by
 rcases h.2 with ⟨h1,_⟩ | ⟨g,cap,cur,h1,_,_,_⟩
 ·cases h1;intro ad e;cases e
 ·cases h1
  intro ad e
  cases e
  exact (h.lt g rfl).1
set_option maxRecDepth 1000000 in
set_option maxHeartbeats 4000000 in
theorem alongF_0p (an:Option Addr) (cn L:Nat) (v:Int) (f:Nat → Nat) (p:Nat → Int) (w:World) (hL:L ≤ 400) (hL0:0 < L) (hf:∀ i,i < L → i ≤ f i ∧ f i < L)
  (hR:∀ i,i < L → ∃ b,an = some ⟨b,0,none⟩ ∧ b < w.heap.size ∧ w.cell? ⟨b,i * 13 + 8,none⟩ = some (.int .i64 (p i)) ∧ w.cell? ⟨b,i * 13 + 9,none⟩ = some (.int .i64 (f i:Nat))) (hv:0 ≤ v) (hv2:v < L) :
  Calls Tryz.prog 60 #[.slice an L cn,.int .i64 v,.int .i64 0] w fun e w'=>∃ A c,e = .returned (.slice A (alongR L f p v 0).length c) ∧ IntsN w.heap.size w' A (alongR L f p v 0).length (alongR L f p v 0) ∧ Below w.heap.size w w':=by
 obtain ⟨j0,hj,hjz0,hjz1,hjz2⟩:=info_parts infoInt
 have hrl:alongR L f p v 0 = (rngL (v + 1).toNat (hiOf L f v)).filter (keepR p v 0):=by
  unfold alongR
  rw [if_neg (by omega),if_neg (by omega),List.nil_append]
 obtain ⟨hi',hhi⟩:∃ hi',hiOf L f v = hi':=⟨_,rfl⟩
 have hhl:hi' ≤ L:=by rw [← hhi];exact hiOf_le hf (by omega)
 obtain ⟨k0,rfl⟩:∃ k0:Nat,v = (k0:Int):=⟨v.toNat,by omega⟩
 have hk0:k0 < L:=by omega
 obtain ⟨b,rfl,hb,_,c9⟩:=hR k0 hk0
 have hfk:f k0 + 1 = hi':=by rw [← hhi];unfold hiOf;rw [if_neg (by omega),Int.toNat_natCast]
 obtain ⟨st,hst⟩:∃ st:Nat,k0 + 1 = st:=⟨_,rfl⟩
 have hsth:st ≤ hi':=by have:=hf k0 hk0;omega
 have g1:(0:Int) ≤ (k0:Int):=by omega
 have g2:(k0:Int) < (L:Int):=by omega
 have ews:IntKind.i64.wrap ((k0:Int) + 1) = (st:Int):=by rw [show (k0:Int) + 1 = (st:Int) by omega];exact IntWalk.i64_in _ (by omega)
 have hst2:((k0:Int) + 1).toNat = st:=by omega
 rw [hst2] at hrl
 clear hst2 hst
 have hq0:decide (L ≤ k0) = false:=decide_eq_false (by omega)
 have ewl:IntKind.i64.wrap ((L:Int) - 1) = (L:Int) - 1:=IntWalk.i64_in _ (by omega)
 rw [hhi] at hrl
 have HRL:=Lib.hid hrl
 have HR:=Lib.hid hR
 clear hrl hR hhi
 go_enter Tryz.func60,Tryz.ntmps60
 go_wp2_with fail
 go_loopw [7,9] (fun ov mv wr=>∃ k:Nat,mv = .int .i64 k ∧ st ≤ k ∧ k ≤ hi' ∧ Hid (Below w.heap.size w wr ∧ wr.ownsRow w.heap.size 3 1 ov ((rngL st k).filter (keepR p (k0:Int) 0)).length (((rngL st k).filter (keepR p (k0:Int) 0)).map (Value.int .i64)))) (fun _ mv _=>hi' - (intOf mv).toNat)
 case atStart=>exact ⟨st,by first | rfl | go_num,Nat.le_refl _,hsth,Lib.hid ⟨Below.refl _ _,by rw [rngL_nil (Nat.le_refl _)];exact World.ownsRow_nil _ _ _ _⟩⟩
 case round =>
  obtain ⟨k,rfl,hks,hkh,HQ⟩:=hrel
  obtain ⟨oa,oc,rfl,_,_,_⟩:=own_slice HQ.out.2
  obtain ⟨on,hon⟩:∃ on,((rngL st k).filter (keepR p (k0:Int) 0)).length = on:=⟨_,rfl⟩
  have honl:on ≤ 402:=by
   have h1:=List.length_filter_le (keepR p (k0:Int) 0) (rngL st k)
   rw [rngL_length] at h1
   rw [← hon]
   first | omega | (simp only [List.length_append,List.length_singleton];omega)
  rw [hon] at HQ ⊢
  have HON:=Lib.hid hon
  clear hon
  by_cases hkh2:k < hi'
  ·have m1:(k:Int) ≤ (f k0:Int):=by omega
   have ewk:IntKind.i64.wrap ((k:Int) + 1) = (k:Int) + 1:=IntWalk.i64_in _ (by omega)
   have hrs:rngL st (k + 1) = rngL st k ++ [(k:Int)]:=by
    rw [← rngL_app (k - st) st k (k + 1) (by omega) (by omega),rngL_cons (by omega:k < k + 1),rngL_nil (Nat.le_refl _)]
   obtain ⟨b2,hbe,hb2,c8,_⟩:=HR.out k (by omega)
   cases hbe
   have d8:=(HQ.out.1.cell (p:=⟨b,k * 13 + 8,none⟩) hb2).trans c8
   have m2:(0:Int) ≤ (k:Int):=by omega
   have m3:(k:Int) < (L:Int):=by omega
   by_cases hpk:p k = (k0:Int)
   ·have hpe:(p k == (k0:Int)) = true:=by rw [hpk];exact beq_self_eq_true _
    go_wp2_with (at_builtin;go_must ((refine wpList_app wr (by rfl) _ _ 66 (by rfl) w.heap.size 3 j0 (.int .i64 0) 1 8 Tryz.underlying66 hj hjz0 hjz1 hjz2 (by rfl) (by decide) (.slice oa on oc) on _ (by rfl) HQ.out.2 _ rfl 1 [.int .i64 (k:Int)] (by rfl) (by rfl) (by intro u hu;simp only [List.mem_cons,List.not_mem_nil,or_false] at hu;subst hu;rfl) (by omega) (by decide) HQ.out.1.size (fun v7 w7 hown7 hap7=>?_))))
    have hb7:Below w.heap.size w w7:=(HQ.out.1.alloc HQ.out.1.size _).trans (hap7.below (by have:=HQ.out.1.size;simp;omega) (fun j hj'=>(HQ.out.2.lt j hj').1))
    have hfl:(rngL st (k + 1)).filter (keepR p (k0:Int) 0) = (rngL st k).filter (keepR p (k0:Int) 0) ++ [(k:Int)]:=by
     rw [hrs,List.filter_append,show [(k:Int)].filter (keepR p (k0:Int) 0) = [(k:Int)] from by unfold keepR;simp [hpk]]
     try simp
    have hown8:w7.ownsRow w.heap.size 3 1 v7 ((rngL st (k + 1)).filter (keepR p (k0:Int) 0)).length (((rngL st (k + 1)).filter (keepR p (k0:Int) 0)).map (Value.int .i64)):=by
     rw [hfl,List.length_append,HON.out,List.map_append]
     exact hown7
    have HN8:=Lib.hid (⟨hb7,hown8⟩:_ ∧ _)
    clear hb7 hown8 hown7 hap7 hfl hrs
    go_wp2_with fail
    go_roundw
    case rel=>exact ⟨k + 1,by go_num,by omega,by omega,HN8⟩
    case measure=>simp [intOf];omega
   ·have hpe:(p k == (k0:Int)) = false:=by simpa using hpk
    have hfl:(rngL st (k + 1)).filter (keepR p (k0:Int) 0) = (rngL st k).filter (keepR p (k0:Int) 0):=by
     rw [hrs,List.filter_append,show [(k:Int)].filter (keepR p (k0:Int) 0) = [] from by unfold keepR;simp [hpk]]
     try simp
    have HN8:Hid (Below w.heap.size w wr ∧ wr.ownsRow w.heap.size 3 1 (.slice oa on oc) ((rngL st (k + 1)).filter (keepR p (k0:Int) 0)).length (((rngL st (k + 1)).filter (keepR p (k0:Int) 0)).map (Value.int .i64))):=Lib.hid (by
     rw [hfl,HON.out]
     exact HQ.out)
    clear hfl hrs
    go_wp2_with fail
    go_roundw
    case rel=>exact ⟨k + 1,by go_num,by omega,by omega,HN8⟩
    case measure=>simp [intOf];omega
  ·have hk2:k = hi':=by omega
   subst hk2
   have m1:(f k0:Int) < (k:Int):=by omega
   go_wp2_with fail
   go_ret
   have ho:=HQ.out.2
   have hb':=HQ.out.1
   have hn:=HON.out
   rw [← HRL.out] at ho hn
   refine ⟨oa,oc,by rw [hn];rfl,?_,hb'⟩
   obtain ⟨a',c',e',_,h2⟩:=own_ints ho
   have hf':=own_from ho
   cases e'
   rw [hn]
   exact ⟨h2,hf'⟩
set_option maxRecDepth 1000000 in
set_option maxHeartbeats 4000000 in
theorem alongF_0n (an:Option Addr) (cn L:Nat) (v:Int) (f:Nat → Nat) (p:Nat → Int) (w:World) (hL:L ≤ 400) (hL0:0 < L) (hf:∀ i,i < L → i ≤ f i ∧ f i < L)
  (hR:∀ i,i < L → ∃ b,an = some ⟨b,0,none⟩ ∧ b < w.heap.size ∧ w.cell? ⟨b,i * 13 + 8,none⟩ = some (.int .i64 (p i)) ∧ w.cell? ⟨b,i * 13 + 9,none⟩ = some (.int .i64 (f i:Nat))) (hv:v = -1) (hv2:v < L) :
  Calls Tryz.prog 60 #[.slice an L cn,.int .i64 v,.int .i64 0] w fun e w'=>∃ A c,e = .returned (.slice A (alongR L f p v 0).length c) ∧ IntsN w.heap.size w' A (alongR L f p v 0).length (alongR L f p v 0) ∧ Below w.heap.size w w':=by
 obtain ⟨j0,hj,hjz0,hjz1,hjz2⟩:=info_parts infoInt
 have hrl:alongR L f p v 0 = (rngL (v + 1).toNat (hiOf L f v)).filter (keepR p v 0):=by
  unfold alongR
  rw [if_neg (by omega),if_neg (by omega),List.nil_append]
 obtain ⟨hi',hhi⟩:∃ hi',hiOf L f v = hi':=⟨_,rfl⟩
 have hhl:hi' ≤ L:=by rw [← hhi];exact hiOf_le hf (by omega)
 obtain ⟨b,rfl,hb,_,_⟩:=hR 0 hL0
 obtain ⟨st,hst⟩:∃ st:Nat,0 = st:=⟨_,rfl⟩
 have hhL:hi' = L:=by rw [← hhi];unfold hiOf;rw [if_pos (by omega)]
 have hsth:st ≤ hi':=by omega
 have hst2:(v + 1).toNat = st:=by omega
 have g1:(-1:Int) ≤ v:=by omega
 have g2:v < 0:=by omega
 have ews:IntKind.i64.wrap (v + 1) = (st:Int):=by rw [show v + 1 = (st:Int) by omega];exact IntWalk.i64_in _ (by omega)
 rw [hst2] at hrl
 clear hv hst2 hst
 have ewl:IntKind.i64.wrap ((L:Int) - 1) = (L:Int) - 1:=IntWalk.i64_in _ (by omega)
 rw [hhi] at hrl
 have HRL:=Lib.hid hrl
 have HR:=Lib.hid hR
 clear hrl hR hhi
 go_enter Tryz.func60,Tryz.ntmps60
 go_wp2_with fail
 go_loopw [7,9] (fun ov mv wr=>∃ k:Nat,mv = .int .i64 k ∧ st ≤ k ∧ k ≤ hi' ∧ Hid (Below w.heap.size w wr ∧ wr.ownsRow w.heap.size 3 1 ov ((rngL st k).filter (keepR p v 0)).length (((rngL st k).filter (keepR p v 0)).map (Value.int .i64)))) (fun _ mv _=>hi' - (intOf mv).toNat)
 case atStart=>exact ⟨st,by first | rfl | go_num,Nat.le_refl _,hsth,Lib.hid ⟨Below.refl _ _,by rw [rngL_nil (Nat.le_refl _)];exact World.ownsRow_nil _ _ _ _⟩⟩
 case round =>
  obtain ⟨k,rfl,hks,hkh,HQ⟩:=hrel
  obtain ⟨oa,oc,rfl,_,_,_⟩:=own_slice HQ.out.2
  obtain ⟨on,hon⟩:∃ on,((rngL st k).filter (keepR p v 0)).length = on:=⟨_,rfl⟩
  have honl:on ≤ 402:=by
   have h1:=List.length_filter_le (keepR p v 0) (rngL st k)
   rw [rngL_length] at h1
   rw [← hon]
   first | omega | (simp only [List.length_append,List.length_singleton];omega)
  rw [hon] at HQ ⊢
  have HON:=Lib.hid hon
  clear hon
  by_cases hkh2:k < hi'
  ·have m1:(k:Int) ≤ (L:Int) - 1:=by omega
   have ewk:IntKind.i64.wrap ((k:Int) + 1) = (k:Int) + 1:=IntWalk.i64_in _ (by omega)
   have hrs:rngL st (k + 1) = rngL st k ++ [(k:Int)]:=by
    rw [← rngL_app (k - st) st k (k + 1) (by omega) (by omega),rngL_cons (by omega:k < k + 1),rngL_nil (Nat.le_refl _)]
   obtain ⟨b2,hbe,hb2,c8,_⟩:=HR.out k (by omega)
   cases hbe
   have d8:=(HQ.out.1.cell (p:=⟨b,k * 13 + 8,none⟩) hb2).trans c8
   have m2:(0:Int) ≤ (k:Int):=by omega
   have m3:(k:Int) < (L:Int):=by omega
   by_cases hpk:p k = v
   ·have hpe:(p k == v) = true:=by rw [hpk];exact beq_self_eq_true _
    go_wp2_with (at_builtin;go_must ((refine wpList_app wr (by rfl) _ _ 66 (by rfl) w.heap.size 3 j0 (.int .i64 0) 1 8 Tryz.underlying66 hj hjz0 hjz1 hjz2 (by rfl) (by decide) (.slice oa on oc) on _ (by rfl) HQ.out.2 _ rfl 1 [.int .i64 (k:Int)] (by rfl) (by rfl) (by intro u hu;simp only [List.mem_cons,List.not_mem_nil,or_false] at hu;subst hu;rfl) (by omega) (by decide) HQ.out.1.size (fun v7 w7 hown7 hap7=>?_))))
    have hb7:Below w.heap.size w w7:=(HQ.out.1.alloc HQ.out.1.size _).trans (hap7.below (by have:=HQ.out.1.size;simp;omega) (fun j hj'=>(HQ.out.2.lt j hj').1))
    have hfl:(rngL st (k + 1)).filter (keepR p v 0) = (rngL st k).filter (keepR p v 0) ++ [(k:Int)]:=by
     rw [hrs,List.filter_append,show [(k:Int)].filter (keepR p v 0) = [(k:Int)] from by unfold keepR;simp [hpk]]
     try simp
    have hown8:w7.ownsRow w.heap.size 3 1 v7 ((rngL st (k + 1)).filter (keepR p v 0)).length (((rngL st (k + 1)).filter (keepR p v 0)).map (Value.int .i64)):=by
     rw [hfl,List.length_append,HON.out,List.map_append]
     exact hown7
    have HN8:=Lib.hid (⟨hb7,hown8⟩:_ ∧ _)
    clear hb7 hown8 hown7 hap7 hfl hrs
    go_wp2_with fail
    go_roundw
    case rel=>exact ⟨k + 1,by go_num,by omega,by omega,HN8⟩
    case measure=>simp [intOf];omega
   ·have hpe:(p k == v) = false:=by simpa using hpk
    have hfl:(rngL st (k + 1)).filter (keepR p v 0) = (rngL st k).filter (keepR p v 0):=by
     rw [hrs,List.filter_append,show [(k:Int)].filter (keepR p v 0) = [] from by unfold keepR;simp [hpk]]
     try simp
    have HN8:Hid (Below w.heap.size w wr ∧ wr.ownsRow w.heap.size 3 1 (.slice oa on oc) ((rngL st (k + 1)).filter (keepR p v 0)).length (((rngL st (k + 1)).filter (keepR p v 0)).map (Value.int .i64))):=Lib.hid (by
     rw [hfl,HON.out]
     exact HQ.out)
    clear hfl hrs
    go_wp2_with fail
    go_roundw
    case rel=>exact ⟨k + 1,by go_num,by omega,by omega,HN8⟩
    case measure=>simp [intOf];omega
  ·have hk2:k = hi':=by omega
   subst hk2
   have m1:(L:Int) - 1 < (k:Int):=by omega
   go_wp2_with fail
   go_ret
   have ho:=HQ.out.2
   have hb':=HQ.out.1
   have hn:=HON.out
   rw [← HRL.out] at ho hn
   refine ⟨oa,oc,by rw [hn];rfl,?_,hb'⟩
   obtain ⟨a',c',e',_,h2⟩:=own_ints ho
   have hf':=own_from ho
   cases e'
   rw [hn]
   exact ⟨h2,hf'⟩
set_option maxRecDepth 1000000 in
set_option maxHeartbeats 4000000 in
theorem alongF_1p (an:Option Addr) (cn L:Nat) (v:Int) (f:Nat → Nat) (p:Nat → Int) (w:World) (hL:L ≤ 400) (hL0:0 < L) (hf:∀ i,i < L → i ≤ f i ∧ f i < L)
  (hR:∀ i,i < L → ∃ b,an = some ⟨b,0,none⟩ ∧ b < w.heap.size ∧ w.cell? ⟨b,i * 13 + 8,none⟩ = some (.int .i64 (p i)) ∧ w.cell? ⟨b,i * 13 + 9,none⟩ = some (.int .i64 (f i:Nat))) (hv:0 ≤ v) (hv2:v < L) :
  Calls Tryz.prog 60 #[.slice an L cn,.int .i64 v,.int .i64 1] w fun e w'=>∃ A c,e = .returned (.slice A (alongR L f p v 1).length c) ∧ IntsN w.heap.size w' A (alongR L f p v 1).length (alongR L f p v 1) ∧ Below w.heap.size w w':=by
 obtain ⟨j0,hj,hjz0,hjz1,hjz2⟩:=info_parts infoInt
 have hrl:alongR L f p v 1 = (rngL (v + 1).toNat (hiOf L f v)).filter (keepR p v 1):=by
  unfold alongR
  rw [if_neg (by omega),if_neg (by omega),List.nil_append]
 obtain ⟨hi',hhi⟩:∃ hi',hiOf L f v = hi':=⟨_,rfl⟩
 have hhl:hi' ≤ L:=by rw [← hhi];exact hiOf_le hf (by omega)
 obtain ⟨k0,rfl⟩:∃ k0:Nat,v = (k0:Int):=⟨v.toNat,by omega⟩
 have hk0:k0 < L:=by omega
 obtain ⟨b,rfl,hb,_,c9⟩:=hR k0 hk0
 have hfk:f k0 + 1 = hi':=by rw [← hhi];unfold hiOf;rw [if_neg (by omega),Int.toNat_natCast]
 obtain ⟨st,hst⟩:∃ st:Nat,k0 + 1 = st:=⟨_,rfl⟩
 have hsth:st ≤ hi':=by have:=hf k0 hk0;omega
 have g1:(0:Int) ≤ (k0:Int):=by omega
 have g2:(k0:Int) < (L:Int):=by omega
 have ews:IntKind.i64.wrap ((k0:Int) + 1) = (st:Int):=by rw [show (k0:Int) + 1 = (st:Int) by omega];exact IntWalk.i64_in _ (by omega)
 have hst2:((k0:Int) + 1).toNat = st:=by omega
 rw [hst2] at hrl
 clear hst2 hst
 have hq0:decide (L ≤ k0) = false:=decide_eq_false (by omega)
 have ewl:IntKind.i64.wrap ((L:Int) - 1) = (L:Int) - 1:=IntWalk.i64_in _ (by omega)
 rw [hhi] at hrl
 have HRL:=Lib.hid hrl
 have HR:=Lib.hid hR
 clear hrl hR hhi
 go_enter Tryz.func60,Tryz.ntmps60
 go_wp2_with fail
 go_loopw [7,9] (fun ov mv wr=>∃ k:Nat,mv = .int .i64 k ∧ st ≤ k ∧ k ≤ hi' ∧ Hid (Below w.heap.size w wr ∧ wr.ownsRow w.heap.size 3 1 ov ((rngL st k).filter (keepR p (k0:Int) 1)).length (((rngL st k).filter (keepR p (k0:Int) 1)).map (Value.int .i64)))) (fun _ mv _=>hi' - (intOf mv).toNat)
 case atStart=>exact ⟨st,by first | rfl | go_num,Nat.le_refl _,hsth,Lib.hid ⟨Below.refl _ _,by rw [rngL_nil (Nat.le_refl _)];exact World.ownsRow_nil _ _ _ _⟩⟩
 case round =>
  obtain ⟨k,rfl,hks,hkh,HQ⟩:=hrel
  obtain ⟨oa,oc,rfl,_,_,_⟩:=own_slice HQ.out.2
  obtain ⟨on,hon⟩:∃ on,((rngL st k).filter (keepR p (k0:Int) 1)).length = on:=⟨_,rfl⟩
  have honl:on ≤ 402:=by
   have h1:=List.length_filter_le (keepR p (k0:Int) 1) (rngL st k)
   rw [rngL_length] at h1
   rw [← hon]
   first | omega | (simp only [List.length_append,List.length_singleton];omega)
  rw [hon] at HQ ⊢
  have HON:=Lib.hid hon
  clear hon
  by_cases hkh2:k < hi'
  ·have m1:(k:Int) ≤ (f k0:Int):=by omega
   have ewk:IntKind.i64.wrap ((k:Int) + 1) = (k:Int) + 1:=IntWalk.i64_in _ (by omega)
   have hrs:rngL st (k + 1) = rngL st k ++ [(k:Int)]:=by
    rw [← rngL_app (k - st) st k (k + 1) (by omega) (by omega),rngL_cons (by omega:k < k + 1),rngL_nil (Nat.le_refl _)]
   go_wp2_with (at_builtin;go_must ((refine wpList_app wr (by rfl) _ _ 66 (by rfl) w.heap.size 3 j0 (.int .i64 0) 1 8 Tryz.underlying66 hj hjz0 hjz1 hjz2 (by rfl) (by decide) (.slice oa on oc) on _ (by rfl) HQ.out.2 _ rfl 1 [.int .i64 (k:Int)] (by rfl) (by rfl) (by intro u hu;simp only [List.mem_cons,List.not_mem_nil,or_false] at hu;subst hu;rfl) (by omega) (by decide) HQ.out.1.size (fun v7 w7 hown7 hap7=>?_))))
   have hb7:Below w.heap.size w w7:=(HQ.out.1.alloc HQ.out.1.size _).trans (hap7.below (by have:=HQ.out.1.size;simp;omega) (fun j hj'=>(HQ.out.2.lt j hj').1))
   have hfl:(rngL st (k + 1)).filter (keepR p (k0:Int) 1) = (rngL st k).filter (keepR p (k0:Int) 1) ++ [(k:Int)]:=by
    rw [hrs,List.filter_append,show [(k:Int)].filter (keepR p (k0:Int) 1) = [(k:Int)] from by unfold keepR;simp]
    try simp
   have hown8:w7.ownsRow w.heap.size 3 1 v7 ((rngL st (k + 1)).filter (keepR p (k0:Int) 1)).length (((rngL st (k + 1)).filter (keepR p (k0:Int) 1)).map (Value.int .i64)):=by
    rw [hfl,List.length_append,HON.out,List.map_append]
    exact hown7
   have HN8:=Lib.hid (⟨hb7,hown8⟩:_ ∧ _)
   clear hb7 hown8 hown7 hap7 hfl hrs
   go_wp2_with fail
   go_roundw
   case rel=>exact ⟨k + 1,by go_num,by omega,by omega,HN8⟩
   case measure=>simp [intOf];omega
  ·have hk2:k = hi':=by omega
   subst hk2
   have m1:(f k0:Int) < (k:Int):=by omega
   go_wp2_with fail
   go_ret
   have ho:=HQ.out.2
   have hb':=HQ.out.1
   have hn:=HON.out
   rw [← HRL.out] at ho hn
   refine ⟨oa,oc,by rw [hn];rfl,?_,hb'⟩
   obtain ⟨a',c',e',_,h2⟩:=own_ints ho
   have hf':=own_from ho
   cases e'
   rw [hn]
   exact ⟨h2,hf'⟩
set_option maxRecDepth 1000000 in
set_option maxHeartbeats 4000000 in
theorem alongF_1n (an:Option Addr) (cn L:Nat) (v:Int) (f:Nat → Nat) (p:Nat → Int) (w:World) (hL:L ≤ 400) (hL0:0 < L) (hf:∀ i,i < L → i ≤ f i ∧ f i < L)
  (hR:∀ i,i < L → ∃ b,an = some ⟨b,0,none⟩ ∧ b < w.heap.size ∧ w.cell? ⟨b,i * 13 + 8,none⟩ = some (.int .i64 (p i)) ∧ w.cell? ⟨b,i * 13 + 9,none⟩ = some (.int .i64 (f i:Nat))) (hv:v = -1) (hv2:v < L) :
  Calls Tryz.prog 60 #[.slice an L cn,.int .i64 v,.int .i64 1] w fun e w'=>∃ A c,e = .returned (.slice A (alongR L f p v 1).length c) ∧ IntsN w.heap.size w' A (alongR L f p v 1).length (alongR L f p v 1) ∧ Below w.heap.size w w':=by
 obtain ⟨j0,hj,hjz0,hjz1,hjz2⟩:=info_parts infoInt
 have hrl:alongR L f p v 1 = (rngL (v + 1).toNat (hiOf L f v)).filter (keepR p v 1):=by
  unfold alongR
  rw [if_neg (by omega),if_neg (by omega),List.nil_append]
 obtain ⟨hi',hhi⟩:∃ hi',hiOf L f v = hi':=⟨_,rfl⟩
 have hhl:hi' ≤ L:=by rw [← hhi];exact hiOf_le hf (by omega)
 obtain ⟨b,rfl,hb,_,_⟩:=hR 0 hL0
 obtain ⟨st,hst⟩:∃ st:Nat,0 = st:=⟨_,rfl⟩
 have hhL:hi' = L:=by rw [← hhi];unfold hiOf;rw [if_pos (by omega)]
 have hsth:st ≤ hi':=by omega
 have hst2:(v + 1).toNat = st:=by omega
 have g1:(-1:Int) ≤ v:=by omega
 have g2:v < 0:=by omega
 have ews:IntKind.i64.wrap (v + 1) = (st:Int):=by rw [show v + 1 = (st:Int) by omega];exact IntWalk.i64_in _ (by omega)
 rw [hst2] at hrl
 clear hv hst2 hst
 have ewl:IntKind.i64.wrap ((L:Int) - 1) = (L:Int) - 1:=IntWalk.i64_in _ (by omega)
 rw [hhi] at hrl
 have HRL:=Lib.hid hrl
 have HR:=Lib.hid hR
 clear hrl hR hhi
 go_enter Tryz.func60,Tryz.ntmps60
 go_wp2_with fail
 go_loopw [7,9] (fun ov mv wr=>∃ k:Nat,mv = .int .i64 k ∧ st ≤ k ∧ k ≤ hi' ∧ Hid (Below w.heap.size w wr ∧ wr.ownsRow w.heap.size 3 1 ov ((rngL st k).filter (keepR p v 1)).length (((rngL st k).filter (keepR p v 1)).map (Value.int .i64)))) (fun _ mv _=>hi' - (intOf mv).toNat)
 case atStart=>exact ⟨st,by first | rfl | go_num,Nat.le_refl _,hsth,Lib.hid ⟨Below.refl _ _,by rw [rngL_nil (Nat.le_refl _)];exact World.ownsRow_nil _ _ _ _⟩⟩
 case round =>
  obtain ⟨k,rfl,hks,hkh,HQ⟩:=hrel
  obtain ⟨oa,oc,rfl,_,_,_⟩:=own_slice HQ.out.2
  obtain ⟨on,hon⟩:∃ on,((rngL st k).filter (keepR p v 1)).length = on:=⟨_,rfl⟩
  have honl:on ≤ 402:=by
   have h1:=List.length_filter_le (keepR p v 1) (rngL st k)
   rw [rngL_length] at h1
   rw [← hon]
   first | omega | (simp only [List.length_append,List.length_singleton];omega)
  rw [hon] at HQ ⊢
  have HON:=Lib.hid hon
  clear hon
  by_cases hkh2:k < hi'
  ·have m1:(k:Int) ≤ (L:Int) - 1:=by omega
   have ewk:IntKind.i64.wrap ((k:Int) + 1) = (k:Int) + 1:=IntWalk.i64_in _ (by omega)
   have hrs:rngL st (k + 1) = rngL st k ++ [(k:Int)]:=by
    rw [← rngL_app (k - st) st k (k + 1) (by omega) (by omega),rngL_cons (by omega:k < k + 1),rngL_nil (Nat.le_refl _)]
   go_wp2_with (at_builtin;go_must ((refine wpList_app wr (by rfl) _ _ 66 (by rfl) w.heap.size 3 j0 (.int .i64 0) 1 8 Tryz.underlying66 hj hjz0 hjz1 hjz2 (by rfl) (by decide) (.slice oa on oc) on _ (by rfl) HQ.out.2 _ rfl 1 [.int .i64 (k:Int)] (by rfl) (by rfl) (by intro u hu;simp only [List.mem_cons,List.not_mem_nil,or_false] at hu;subst hu;rfl) (by omega) (by decide) HQ.out.1.size (fun v7 w7 hown7 hap7=>?_))))
   have hb7:Below w.heap.size w w7:=(HQ.out.1.alloc HQ.out.1.size _).trans (hap7.below (by have:=HQ.out.1.size;simp;omega) (fun j hj'=>(HQ.out.2.lt j hj').1))
   have hfl:(rngL st (k + 1)).filter (keepR p v 1) = (rngL st k).filter (keepR p v 1) ++ [(k:Int)]:=by
    rw [hrs,List.filter_append,show [(k:Int)].filter (keepR p v 1) = [(k:Int)] from by unfold keepR;simp]
    try simp
   have hown8:w7.ownsRow w.heap.size 3 1 v7 ((rngL st (k + 1)).filter (keepR p v 1)).length (((rngL st (k + 1)).filter (keepR p v 1)).map (Value.int .i64)):=by
    rw [hfl,List.length_append,HON.out,List.map_append]
    exact hown7
   have HN8:=Lib.hid (⟨hb7,hown8⟩:_ ∧ _)
   clear hb7 hown8 hown7 hap7 hfl hrs
   go_wp2_with fail
   go_roundw
   case rel=>exact ⟨k + 1,by go_num,by omega,by omega,HN8⟩
   case measure=>simp [intOf];omega
  ·have hk2:k = hi':=by omega
   subst hk2
   have m1:(L:Int) - 1 < (k:Int):=by omega
   go_wp2_with fail
   go_ret
   have ho:=HQ.out.2
   have hb':=HQ.out.1
   have hn:=HON.out
   rw [← HRL.out] at ho hn
   refine ⟨oa,oc,by rw [hn];rfl,?_,hb'⟩
   obtain ⟨a',c',e',_,h2⟩:=own_ints ho
   have hf':=own_from ho
   cases e'
   rw [hn]
   exact ⟨h2,hf'⟩
set_option maxRecDepth 1000000 in
set_option maxHeartbeats 4000000 in
theorem alongF_2p (an:Option Addr) (cn L:Nat) (v:Int) (f:Nat → Nat) (p:Nat → Int) (w:World) (hL:L ≤ 400) (hL0:0 < L) (hf:∀ i,i < L → i ≤ f i ∧ f i < L)
  (hR:∀ i,i < L → ∃ b,an = some ⟨b,0,none⟩ ∧ b < w.heap.size ∧ w.cell? ⟨b,i * 13 + 8,none⟩ = some (.int .i64 (p i)) ∧ w.cell? ⟨b,i * 13 + 9,none⟩ = some (.int .i64 (f i:Nat))) (hv:0 ≤ v) (hv2:v < L) :
  Calls Tryz.prog 60 #[.slice an L cn,.int .i64 v,.int .i64 2] w fun e w'=>∃ A c,e = .returned (.slice A (alongR L f p v 2).length c) ∧ IntsN w.heap.size w' A (alongR L f p v 2).length (alongR L f p v 2) ∧ Below w.heap.size w w':=by
 obtain ⟨j0,hj,hjz0,hjz1,hjz2⟩:=info_parts infoInt
 have hrl:alongR L f p v 2 = [v] ++ (rngL (v + 1).toNat (hiOf L f v)).filter (keepR p v 2):=by
  unfold alongR
  rw [if_neg (by omega),if_pos (by omega)]
 obtain ⟨hi',hhi⟩:∃ hi',hiOf L f v = hi':=⟨_,rfl⟩
 have hhl:hi' ≤ L:=by rw [← hhi];exact hiOf_le hf (by omega)
 obtain ⟨k0,rfl⟩:∃ k0:Nat,v = (k0:Int):=⟨v.toNat,by omega⟩
 have hk0:k0 < L:=by omega
 obtain ⟨b,rfl,hb,_,c9⟩:=hR k0 hk0
 have hfk:f k0 + 1 = hi':=by rw [← hhi];unfold hiOf;rw [if_neg (by omega),Int.toNat_natCast]
 obtain ⟨st,hst⟩:∃ st:Nat,k0 + 1 = st:=⟨_,rfl⟩
 have hsth:st ≤ hi':=by have:=hf k0 hk0;omega
 have g1:(0:Int) ≤ (k0:Int):=by omega
 have g2:(k0:Int) < (L:Int):=by omega
 have ews:IntKind.i64.wrap ((k0:Int) + 1) = (st:Int):=by rw [show (k0:Int) + 1 = (st:Int) by omega];exact IntWalk.i64_in _ (by omega)
 have hst2:((k0:Int) + 1).toNat = st:=by omega
 rw [hst2] at hrl
 clear hst2 hst
 have hq0:decide (L ≤ k0) = false:=decide_eq_false (by omega)
 have ewl:IntKind.i64.wrap ((L:Int) - 1) = (L:Int) - 1:=IntWalk.i64_in _ (by omega)
 rw [hhi] at hrl
 have HRL:=Lib.hid hrl
 have HR:=Lib.hid hR
 clear hrl hR hhi
 go_enter Tryz.func60,Tryz.ntmps60
 go_wp2_with (at_builtin;go_must ((refine wpList_app w (by rfl) _ _ 66 (by rfl) w.heap.size 3 j0 (.int .i64 0) 1 8 Tryz.underlying66 hj hjz0 hjz1 hjz2 (by rfl) (by decide) (.slice none 0 0) 0 [] (by rfl) (World.ownsRow_nil _ _ _ _) _ rfl 1 [.int .i64 (k0:Int)] (by rfl) (by rfl) (by intro u hu;simp only [List.mem_cons,List.not_mem_nil,or_false] at hu;subst hu;rfl) (by omega) (by decide) (Nat.le_refl _) (fun v0 w0 hown0 hap0=>?_));have hb0:Below w.heap.size w w0:=((Below.refl w.heap.size w).alloc (Nat.le_refl _) _).trans (hap0.below (by simp) (fun k hk=>by cases hk));have c9':=hb0.cell (p:=⟨b,k0 * 13 + 9,none⟩) hb))
 go_loopw [7,9] (fun ov mv wr=>∃ k:Nat,mv = .int .i64 k ∧ st ≤ k ∧ k ≤ hi' ∧ Hid (Below w.heap.size w wr ∧ wr.ownsRow w.heap.size 3 1 ov ([(k0:Int)] ++ (rngL st k).filter (keepR p (k0:Int) 2)).length (([(k0:Int)] ++ (rngL st k).filter (keepR p (k0:Int) 2)).map (Value.int .i64)))) (fun _ mv _=>hi' - (intOf mv).toNat)
 case atStart=>exact ⟨st,by first | rfl | go_num,Nat.le_refl _,hsth,Lib.hid ⟨hb0,by rw [rngL_nil (Nat.le_refl _)];exact hown0⟩⟩
 case round =>
  obtain ⟨k,rfl,hks,hkh,HQ⟩:=hrel
  obtain ⟨oa,oc,rfl,_,_,_⟩:=own_slice HQ.out.2
  obtain ⟨on,hon⟩:∃ on,([(k0:Int)] ++ (rngL st k).filter (keepR p (k0:Int) 2)).length = on:=⟨_,rfl⟩
  have honl:on ≤ 402:=by
   have h1:=List.length_filter_le (keepR p (k0:Int) 2) (rngL st k)
   rw [rngL_length] at h1
   rw [← hon]
   first | omega | (simp only [List.length_append,List.length_singleton];omega)
  rw [hon] at HQ ⊢
  have HON:=Lib.hid hon
  clear hon
  by_cases hkh2:k < hi'
  ·have m1:(k:Int) ≤ (f k0:Int):=by omega
   have ewk:IntKind.i64.wrap ((k:Int) + 1) = (k:Int) + 1:=IntWalk.i64_in _ (by omega)
   have hrs:rngL st (k + 1) = rngL st k ++ [(k:Int)]:=by
    rw [← rngL_app (k - st) st k (k + 1) (by omega) (by omega),rngL_cons (by omega:k < k + 1),rngL_nil (Nat.le_refl _)]
   go_wp2_with (at_builtin;go_must ((refine wpList_app wr (by rfl) _ _ 66 (by rfl) w.heap.size 3 j0 (.int .i64 0) 1 8 Tryz.underlying66 hj hjz0 hjz1 hjz2 (by rfl) (by decide) (.slice oa on oc) on _ (by rfl) HQ.out.2 _ rfl 1 [.int .i64 (k:Int)] (by rfl) (by rfl) (by intro u hu;simp only [List.mem_cons,List.not_mem_nil,or_false] at hu;subst hu;rfl) (by omega) (by decide) HQ.out.1.size (fun v7 w7 hown7 hap7=>?_))))
   have hb7:Below w.heap.size w w7:=(HQ.out.1.alloc HQ.out.1.size _).trans (hap7.below (by have:=HQ.out.1.size;simp;omega) (fun j hj'=>(HQ.out.2.lt j hj').1))
   have hfl:[(k0:Int)] ++ (rngL st (k + 1)).filter (keepR p (k0:Int) 2) = [(k0:Int)] ++ (rngL st k).filter (keepR p (k0:Int) 2) ++ [(k:Int)]:=by
    rw [hrs,List.filter_append,show [(k:Int)].filter (keepR p (k0:Int) 2) = [(k:Int)] from by unfold keepR;simp]
    try simp
   have hown8:w7.ownsRow w.heap.size 3 1 v7 ([(k0:Int)] ++ (rngL st (k + 1)).filter (keepR p (k0:Int) 2)).length (([(k0:Int)] ++ (rngL st (k + 1)).filter (keepR p (k0:Int) 2)).map (Value.int .i64)):=by
    rw [hfl,List.length_append,HON.out,List.map_append]
    exact hown7
   have HN8:=Lib.hid (⟨hb7,hown8⟩:_ ∧ _)
   clear hb7 hown8 hown7 hap7 hfl hrs
   go_wp2_with fail
   go_roundw
   case rel=>exact ⟨k + 1,by go_num,by omega,by omega,HN8⟩
   case measure=>simp [intOf];omega
  ·have hk2:k = hi':=by omega
   subst hk2
   have m1:(f k0:Int) < (k:Int):=by omega
   go_wp2_with fail
   go_ret
   have ho:=HQ.out.2
   have hb':=HQ.out.1
   have hn:=HON.out
   rw [← HRL.out] at ho hn
   refine ⟨oa,oc,by rw [hn];rfl,?_,hb'⟩
   obtain ⟨a',c',e',_,h2⟩:=own_ints ho
   have hf':=own_from ho
   cases e'
   rw [hn]
   exact ⟨h2,hf'⟩
set_option maxRecDepth 1000000 in
set_option maxHeartbeats 4000000 in
theorem alongF_2n (an:Option Addr) (cn L:Nat) (v:Int) (f:Nat → Nat) (p:Nat → Int) (w:World) (hL:L ≤ 400) (hL0:0 < L) (hf:∀ i,i < L → i ≤ f i ∧ f i < L)
  (hR:∀ i,i < L → ∃ b,an = some ⟨b,0,none⟩ ∧ b < w.heap.size ∧ w.cell? ⟨b,i * 13 + 8,none⟩ = some (.int .i64 (p i)) ∧ w.cell? ⟨b,i * 13 + 9,none⟩ = some (.int .i64 (f i:Nat))) (hv:v = -1) (hv2:v < L) :
  Calls Tryz.prog 60 #[.slice an L cn,.int .i64 v,.int .i64 2] w fun e w'=>∃ A c,e = .returned (.slice A (alongR L f p v 2).length c) ∧ IntsN w.heap.size w' A (alongR L f p v 2).length (alongR L f p v 2) ∧ Below w.heap.size w w':=by
 obtain ⟨j0,hj,hjz0,hjz1,hjz2⟩:=info_parts infoInt
 have hrl:alongR L f p v 2 = [v] ++ (rngL (v + 1).toNat (hiOf L f v)).filter (keepR p v 2):=by
  unfold alongR
  rw [if_neg (by omega),if_pos (by omega)]
 obtain ⟨hi',hhi⟩:∃ hi',hiOf L f v = hi':=⟨_,rfl⟩
 have hhl:hi' ≤ L:=by rw [← hhi];exact hiOf_le hf (by omega)
 obtain ⟨b,rfl,hb,_,_⟩:=hR 0 hL0
 obtain ⟨st,hst⟩:∃ st:Nat,0 = st:=⟨_,rfl⟩
 have hhL:hi' = L:=by rw [← hhi];unfold hiOf;rw [if_pos (by omega)]
 have hsth:st ≤ hi':=by omega
 have hst2:(v + 1).toNat = st:=by omega
 have g1:(-1:Int) ≤ v:=by omega
 have g2:v < 0:=by omega
 have ews:IntKind.i64.wrap (v + 1) = (st:Int):=by rw [show v + 1 = (st:Int) by omega];exact IntWalk.i64_in _ (by omega)
 rw [hst2] at hrl
 clear hv hst2 hst
 have ewl:IntKind.i64.wrap ((L:Int) - 1) = (L:Int) - 1:=IntWalk.i64_in _ (by omega)
 rw [hhi] at hrl
 have HRL:=Lib.hid hrl
 have HR:=Lib.hid hR
 clear hrl hR hhi
 go_enter Tryz.func60,Tryz.ntmps60
 go_wp2_with (at_builtin;go_must ((refine wpList_app w (by rfl) _ _ 66 (by rfl) w.heap.size 3 j0 (.int .i64 0) 1 8 Tryz.underlying66 hj hjz0 hjz1 hjz2 (by rfl) (by decide) (.slice none 0 0) 0 [] (by rfl) (World.ownsRow_nil _ _ _ _) _ rfl 1 [.int .i64 v] (by rfl) (by rfl) (by intro u hu;simp only [List.mem_cons,List.not_mem_nil,or_false] at hu;subst hu;rfl) (by omega) (by decide) (Nat.le_refl _) (fun v0 w0 hown0 hap0=>?_));have hb0:Below w.heap.size w w0:=((Below.refl w.heap.size w).alloc (Nat.le_refl _) _).trans (hap0.below (by simp) (fun k hk=>by cases hk));have c9':=hb0.cell (p:=⟨b,0,none⟩) hb))
 go_loopw [7,9] (fun ov mv wr=>∃ k:Nat,mv = .int .i64 k ∧ st ≤ k ∧ k ≤ hi' ∧ Hid (Below w.heap.size w wr ∧ wr.ownsRow w.heap.size 3 1 ov ([v] ++ (rngL st k).filter (keepR p v 2)).length (([v] ++ (rngL st k).filter (keepR p v 2)).map (Value.int .i64)))) (fun _ mv _=>hi' - (intOf mv).toNat)
 case atStart=>exact ⟨st,by first | rfl | go_num,Nat.le_refl _,hsth,Lib.hid ⟨hb0,by rw [rngL_nil (Nat.le_refl _)];exact hown0⟩⟩
 case round =>
  obtain ⟨k,rfl,hks,hkh,HQ⟩:=hrel
  obtain ⟨oa,oc,rfl,_,_,_⟩:=own_slice HQ.out.2
  obtain ⟨on,hon⟩:∃ on,([v] ++ (rngL st k).filter (keepR p v 2)).length = on:=⟨_,rfl⟩
  have honl:on ≤ 402:=by
   have h1:=List.length_filter_le (keepR p v 2) (rngL st k)
   rw [rngL_length] at h1
   rw [← hon]
   first | omega | (simp only [List.length_append,List.length_singleton];omega)
  rw [hon] at HQ ⊢
  have HON:=Lib.hid hon
  clear hon
  by_cases hkh2:k < hi'
  ·have m1:(k:Int) ≤ (L:Int) - 1:=by omega
   have ewk:IntKind.i64.wrap ((k:Int) + 1) = (k:Int) + 1:=IntWalk.i64_in _ (by omega)
   have hrs:rngL st (k + 1) = rngL st k ++ [(k:Int)]:=by
    rw [← rngL_app (k - st) st k (k + 1) (by omega) (by omega),rngL_cons (by omega:k < k + 1),rngL_nil (Nat.le_refl _)]
   go_wp2_with (at_builtin;go_must ((refine wpList_app wr (by rfl) _ _ 66 (by rfl) w.heap.size 3 j0 (.int .i64 0) 1 8 Tryz.underlying66 hj hjz0 hjz1 hjz2 (by rfl) (by decide) (.slice oa on oc) on _ (by rfl) HQ.out.2 _ rfl 1 [.int .i64 (k:Int)] (by rfl) (by rfl) (by intro u hu;simp only [List.mem_cons,List.not_mem_nil,or_false] at hu;subst hu;rfl) (by omega) (by decide) HQ.out.1.size (fun v7 w7 hown7 hap7=>?_))))
   have hb7:Below w.heap.size w w7:=(HQ.out.1.alloc HQ.out.1.size _).trans (hap7.below (by have:=HQ.out.1.size;simp;omega) (fun j hj'=>(HQ.out.2.lt j hj').1))
   have hfl:[v] ++ (rngL st (k + 1)).filter (keepR p v 2) = [v] ++ (rngL st k).filter (keepR p v 2) ++ [(k:Int)]:=by
    rw [hrs,List.filter_append,show [(k:Int)].filter (keepR p v 2) = [(k:Int)] from by unfold keepR;simp]
    try simp
   have hown8:w7.ownsRow w.heap.size 3 1 v7 ([v] ++ (rngL st (k + 1)).filter (keepR p v 2)).length (([v] ++ (rngL st (k + 1)).filter (keepR p v 2)).map (Value.int .i64)):=by
    rw [hfl,List.length_append,HON.out,List.map_append]
    exact hown7
   have HN8:=Lib.hid (⟨hb7,hown8⟩:_ ∧ _)
   clear hb7 hown8 hown7 hap7 hfl hrs
   go_wp2_with fail
   go_roundw
   case rel=>exact ⟨k + 1,by go_num,by omega,by omega,HN8⟩
   case measure=>simp [intOf];omega
  ·have hk2:k = hi':=by omega
   subst hk2
   have m1:(L:Int) - 1 < (k:Int):=by omega
   go_wp2_with fail
   go_ret
   have ho:=HQ.out.2
   have hb':=HQ.out.1
   have hn:=HON.out
   rw [← HRL.out] at ho hn
   refine ⟨oa,oc,by rw [hn];rfl,?_,hb'⟩
   obtain ⟨a',c',e',_,h2⟩:=own_ints ho
   have hf':=own_from ho
   cases e'
   rw [hn]
   exact ⟨h2,hf'⟩
set_option maxRecDepth 1000000 in
set_option maxHeartbeats 4000000 in
theorem alongF_3p (an:Option Addr) (cn L:Nat) (v:Int) (f:Nat → Nat) (p:Nat → Int) (w:World) (hL:L ≤ 400) (hL0:0 < L) (hf:∀ i,i < L → i ≤ f i ∧ f i < L)
  (hR:∀ i,i < L → ∃ b,an = some ⟨b,0,none⟩ ∧ b < w.heap.size ∧ w.cell? ⟨b,i * 13 + 8,none⟩ = some (.int .i64 (p i)) ∧ w.cell? ⟨b,i * 13 + 9,none⟩ = some (.int .i64 (f i:Nat))) (hv:0 ≤ v) (hv2:v < L) :
  Calls Tryz.prog 60 #[.slice an L cn,.int .i64 v,.int .i64 3] w fun e w'=>∃ A c,e = .returned (.slice A (alongR L f p v 3).length c) ∧ IntsN w.heap.size w' A (alongR L f p v 3).length (alongR L f p v 3) ∧ Below w.heap.size w w':=by
 obtain ⟨j0,hj,hjz0,hjz1,hjz2⟩:=info_parts infoInt
 have hrl:alongR L f p v 3 = [v] ++ (rngL (v + 1).toNat (hiOf L f v)).filter (keepR p v 3):=by
  unfold alongR
  rw [if_neg (by omega),if_pos (by omega)]
 obtain ⟨hi',hhi⟩:∃ hi',hiOf L f v = hi':=⟨_,rfl⟩
 have hhl:hi' ≤ L:=by rw [← hhi];exact hiOf_le hf (by omega)
 obtain ⟨k0,rfl⟩:∃ k0:Nat,v = (k0:Int):=⟨v.toNat,by omega⟩
 have hk0:k0 < L:=by omega
 obtain ⟨b,rfl,hb,_,c9⟩:=hR k0 hk0
 have hfk:f k0 + 1 = hi':=by rw [← hhi];unfold hiOf;rw [if_neg (by omega),Int.toNat_natCast]
 obtain ⟨st,hst⟩:∃ st:Nat,k0 + 1 = st:=⟨_,rfl⟩
 have hsth:st ≤ hi':=by have:=hf k0 hk0;omega
 have g1:(0:Int) ≤ (k0:Int):=by omega
 have g2:(k0:Int) < (L:Int):=by omega
 have ews:IntKind.i64.wrap ((k0:Int) + 1) = (st:Int):=by rw [show (k0:Int) + 1 = (st:Int) by omega];exact IntWalk.i64_in _ (by omega)
 have hst2:((k0:Int) + 1).toNat = st:=by omega
 rw [hst2] at hrl
 clear hst2 hst
 have hq0:decide (L ≤ k0) = false:=decide_eq_false (by omega)
 have ewl:IntKind.i64.wrap ((L:Int) - 1) = (L:Int) - 1:=IntWalk.i64_in _ (by omega)
 rw [hhi] at hrl
 have HRL:=Lib.hid hrl
 have HR:=Lib.hid hR
 clear hrl hR hhi
 go_enter Tryz.func60,Tryz.ntmps60
 go_wp2_with (at_builtin;go_must ((refine wpList_app w (by rfl) _ _ 66 (by rfl) w.heap.size 3 j0 (.int .i64 0) 1 8 Tryz.underlying66 hj hjz0 hjz1 hjz2 (by rfl) (by decide) (.slice none 0 0) 0 [] (by rfl) (World.ownsRow_nil _ _ _ _) _ rfl 1 [.int .i64 (k0:Int)] (by rfl) (by rfl) (by intro u hu;simp only [List.mem_cons,List.not_mem_nil,or_false] at hu;subst hu;rfl) (by omega) (by decide) (Nat.le_refl _) (fun v0 w0 hown0 hap0=>?_));have hb0:Below w.heap.size w w0:=((Below.refl w.heap.size w).alloc (Nat.le_refl _) _).trans (hap0.below (by simp) (fun k hk=>by cases hk));have c9':=hb0.cell (p:=⟨b,k0 * 13 + 9,none⟩) hb))
 go_loopw [7,9] (fun ov mv wr=>∃ k:Nat,mv = .int .i64 k ∧ st ≤ k ∧ k ≤ hi' ∧ Hid (Below w.heap.size w wr ∧ wr.ownsRow w.heap.size 3 1 ov ([(k0:Int)] ++ (rngL st k).filter (keepR p (k0:Int) 3)).length (([(k0:Int)] ++ (rngL st k).filter (keepR p (k0:Int) 3)).map (Value.int .i64)))) (fun _ mv _=>hi' - (intOf mv).toNat)
 case atStart=>exact ⟨st,by first | rfl | go_num,Nat.le_refl _,hsth,Lib.hid ⟨hb0,by rw [rngL_nil (Nat.le_refl _)];exact hown0⟩⟩
 case round =>
  obtain ⟨k,rfl,hks,hkh,HQ⟩:=hrel
  obtain ⟨oa,oc,rfl,_,_,_⟩:=own_slice HQ.out.2
  obtain ⟨on,hon⟩:∃ on,([(k0:Int)] ++ (rngL st k).filter (keepR p (k0:Int) 3)).length = on:=⟨_,rfl⟩
  have honl:on ≤ 402:=by
   have h1:=List.length_filter_le (keepR p (k0:Int) 3) (rngL st k)
   rw [rngL_length] at h1
   rw [← hon]
   first | omega | (simp only [List.length_append,List.length_singleton];omega)
  rw [hon] at HQ ⊢
  have HON:=Lib.hid hon
  clear hon
  by_cases hkh2:k < hi'
  ·have m1:(k:Int) ≤ (f k0:Int):=by omega
   have ewk:IntKind.i64.wrap ((k:Int) + 1) = (k:Int) + 1:=IntWalk.i64_in _ (by omega)
   have hrs:rngL st (k + 1) = rngL st k ++ [(k:Int)]:=by
    rw [← rngL_app (k - st) st k (k + 1) (by omega) (by omega),rngL_cons (by omega:k < k + 1),rngL_nil (Nat.le_refl _)]
   have hfl:[(k0:Int)] ++ (rngL st (k + 1)).filter (keepR p (k0:Int) 3) = [(k0:Int)] ++ (rngL st k).filter (keepR p (k0:Int) 3):=by
    rw [hrs,List.filter_append,show [(k:Int)].filter (keepR p (k0:Int) 3) = [] from by unfold keepR;simp]
    try simp
   have HN8:Hid (Below w.heap.size w wr ∧ wr.ownsRow w.heap.size 3 1 (.slice oa on oc) ([(k0:Int)] ++ (rngL st (k + 1)).filter (keepR p (k0:Int) 3)).length (([(k0:Int)] ++ (rngL st (k + 1)).filter (keepR p (k0:Int) 3)).map (Value.int .i64))):=Lib.hid (by
    rw [hfl,HON.out]
    exact HQ.out)
   clear hfl hrs
   go_wp2_with fail
   go_roundw
   case rel=>exact ⟨k + 1,by go_num,by omega,by omega,HN8⟩
   case measure=>simp [intOf];omega
  ·have hk2:k = hi':=by omega
   subst hk2
   have m1:(f k0:Int) < (k:Int):=by omega
   go_wp2_with fail
   go_ret
   have ho:=HQ.out.2
   have hb':=HQ.out.1
   have hn:=HON.out
   rw [← HRL.out] at ho hn
   refine ⟨oa,oc,by rw [hn];rfl,?_,hb'⟩
   obtain ⟨a',c',e',_,h2⟩:=own_ints ho
   have hf':=own_from ho
   cases e'
   rw [hn]
   exact ⟨h2,hf'⟩
set_option maxRecDepth 1000000 in
set_option maxHeartbeats 4000000 in
theorem alongF_3n (an:Option Addr) (cn L:Nat) (v:Int) (f:Nat → Nat) (p:Nat → Int) (w:World) (hL:L ≤ 400) (hL0:0 < L) (hf:∀ i,i < L → i ≤ f i ∧ f i < L)
  (hR:∀ i,i < L → ∃ b,an = some ⟨b,0,none⟩ ∧ b < w.heap.size ∧ w.cell? ⟨b,i * 13 + 8,none⟩ = some (.int .i64 (p i)) ∧ w.cell? ⟨b,i * 13 + 9,none⟩ = some (.int .i64 (f i:Nat))) (hv:v = -1) (hv2:v < L) :
  Calls Tryz.prog 60 #[.slice an L cn,.int .i64 v,.int .i64 3] w fun e w'=>∃ A c,e = .returned (.slice A (alongR L f p v 3).length c) ∧ IntsN w.heap.size w' A (alongR L f p v 3).length (alongR L f p v 3) ∧ Below w.heap.size w w':=by
 obtain ⟨j0,hj,hjz0,hjz1,hjz2⟩:=info_parts infoInt
 have hrl:alongR L f p v 3 = [v] ++ (rngL (v + 1).toNat (hiOf L f v)).filter (keepR p v 3):=by
  unfold alongR
  rw [if_neg (by omega),if_pos (by omega)]
 obtain ⟨hi',hhi⟩:∃ hi',hiOf L f v = hi':=⟨_,rfl⟩
 have hhl:hi' ≤ L:=by rw [← hhi];exact hiOf_le hf (by omega)
 obtain ⟨b,rfl,hb,_,_⟩:=hR 0 hL0
 obtain ⟨st,hst⟩:∃ st:Nat,0 = st:=⟨_,rfl⟩
 have hhL:hi' = L:=by rw [← hhi];unfold hiOf;rw [if_pos (by omega)]
 have hsth:st ≤ hi':=by omega
 have hst2:(v + 1).toNat = st:=by omega
 have g1:(-1:Int) ≤ v:=by omega
 have g2:v < 0:=by omega
 have ews:IntKind.i64.wrap (v + 1) = (st:Int):=by rw [show v + 1 = (st:Int) by omega];exact IntWalk.i64_in _ (by omega)
 rw [hst2] at hrl
 clear hv hst2 hst
 have ewl:IntKind.i64.wrap ((L:Int) - 1) = (L:Int) - 1:=IntWalk.i64_in _ (by omega)
 rw [hhi] at hrl
 have HRL:=Lib.hid hrl
 have HR:=Lib.hid hR
 clear hrl hR hhi
 go_enter Tryz.func60,Tryz.ntmps60
 go_wp2_with (at_builtin;go_must ((refine wpList_app w (by rfl) _ _ 66 (by rfl) w.heap.size 3 j0 (.int .i64 0) 1 8 Tryz.underlying66 hj hjz0 hjz1 hjz2 (by rfl) (by decide) (.slice none 0 0) 0 [] (by rfl) (World.ownsRow_nil _ _ _ _) _ rfl 1 [.int .i64 v] (by rfl) (by rfl) (by intro u hu;simp only [List.mem_cons,List.not_mem_nil,or_false] at hu;subst hu;rfl) (by omega) (by decide) (Nat.le_refl _) (fun v0 w0 hown0 hap0=>?_));have hb0:Below w.heap.size w w0:=((Below.refl w.heap.size w).alloc (Nat.le_refl _) _).trans (hap0.below (by simp) (fun k hk=>by cases hk));have c9':=hb0.cell (p:=⟨b,0,none⟩) hb))
 go_loopw [7,9] (fun ov mv wr=>∃ k:Nat,mv = .int .i64 k ∧ st ≤ k ∧ k ≤ hi' ∧ Hid (Below w.heap.size w wr ∧ wr.ownsRow w.heap.size 3 1 ov ([v] ++ (rngL st k).filter (keepR p v 3)).length (([v] ++ (rngL st k).filter (keepR p v 3)).map (Value.int .i64)))) (fun _ mv _=>hi' - (intOf mv).toNat)
 case atStart=>exact ⟨st,by first | rfl | go_num,Nat.le_refl _,hsth,Lib.hid ⟨hb0,by rw [rngL_nil (Nat.le_refl _)];exact hown0⟩⟩
 case round =>
  obtain ⟨k,rfl,hks,hkh,HQ⟩:=hrel
  obtain ⟨oa,oc,rfl,_,_,_⟩:=own_slice HQ.out.2
  obtain ⟨on,hon⟩:∃ on,([v] ++ (rngL st k).filter (keepR p v 3)).length = on:=⟨_,rfl⟩
  have honl:on ≤ 402:=by
   have h1:=List.length_filter_le (keepR p v 3) (rngL st k)
   rw [rngL_length] at h1
   rw [← hon]
   first | omega | (simp only [List.length_append,List.length_singleton];omega)
  rw [hon] at HQ ⊢
  have HON:=Lib.hid hon
  clear hon
  by_cases hkh2:k < hi'
  ·have m1:(k:Int) ≤ (L:Int) - 1:=by omega
   have ewk:IntKind.i64.wrap ((k:Int) + 1) = (k:Int) + 1:=IntWalk.i64_in _ (by omega)
   have hrs:rngL st (k + 1) = rngL st k ++ [(k:Int)]:=by
    rw [← rngL_app (k - st) st k (k + 1) (by omega) (by omega),rngL_cons (by omega:k < k + 1),rngL_nil (Nat.le_refl _)]
   have hfl:[v] ++ (rngL st (k + 1)).filter (keepR p v 3) = [v] ++ (rngL st k).filter (keepR p v 3):=by
    rw [hrs,List.filter_append,show [(k:Int)].filter (keepR p v 3) = [] from by unfold keepR;simp]
    try simp
   have HN8:Hid (Below w.heap.size w wr ∧ wr.ownsRow w.heap.size 3 1 (.slice oa on oc) ([v] ++ (rngL st (k + 1)).filter (keepR p v 3)).length (([v] ++ (rngL st (k + 1)).filter (keepR p v 3)).map (Value.int .i64))):=Lib.hid (by
    rw [hfl,HON.out]
    exact HQ.out)
   clear hfl hrs
   go_wp2_with fail
   go_roundw
   case rel=>exact ⟨k + 1,by go_num,by omega,by omega,HN8⟩
   case measure=>simp [intOf];omega
  ·have hk2:k = hi':=by omega
   subst hk2
   have m1:(L:Int) - 1 < (k:Int):=by omega
   go_wp2_with fail
   go_ret
   have ho:=HQ.out.2
   have hb':=HQ.out.1
   have hn:=HON.out
   rw [← HRL.out] at ho hn
   refine ⟨oa,oc,by rw [hn];rfl,?_,hb'⟩
   obtain ⟨a',c',e',_,h2⟩:=own_ints ho
   have hf':=own_from ho
   cases e'
   rw [hn]
   exact ⟨h2,hf'⟩
set_option maxRecDepth 1000000 in
set_option maxHeartbeats 4000000 in
theorem alongF_out (an:Option Addr) (cn L:Nat) (v x:Int) (f:Nat → Nat) (p:Nat → Int) (w:World) (hv:v < -1 ∨ (L:Int) ≤ v) :
  Calls Tryz.prog 60 #[.slice an L cn,.int .i64 v,.int .i64 x] w fun e w'=>∃ A c,e = .returned (.slice A (alongR L f p v x).length c) ∧ IntsN w.heap.size w' A (alongR L f p v x).length (alongR L f p v x) ∧ Below w.heap.size w w':=by
 have hr:alongR L f p v x = []:=by unfold alongR;rw [if_pos hv]
 rw [hr]
 rcases hv with hv | hv
 ·go_enter Tryz.func60,Tryz.ntmps60
  go_wp2_with fail
  go_ret
  exact ⟨none,0,rfl,⟨⟨rfl,fun i hi=>by simp at hi⟩,fun ad e=>by cases e⟩,Below.refl _ _⟩
 ·by_cases hv1:v < -1
  ·go_enter Tryz.func60,Tryz.ntmps60
   go_wp2_with fail
   go_ret
   exact ⟨none,0,rfl,⟨⟨rfl,fun i hi=>by simp at hi⟩,fun ad e=>by cases e⟩,Below.refl _ _⟩
  ·have h1:(-1:Int) ≤ v:=by omega
   clear hv1
   go_enter Tryz.func60,Tryz.ntmps60
   go_wp2_with fail
   go_ret
   exact ⟨none,0,rfl,⟨⟨rfl,fun i hi=>by simp at hi⟩,fun ad e=>by cases e⟩,Below.refl _ _⟩
theorem alongF_any (an:Option Addr) (cn L:Nat) (v x:Int) (f:Nat → Nat) (p:Nat → Int) (w:World) (hL:L ≤ 400) (hL0:0 < L) (hf:∀ i,i < L → i ≤ f i ∧ f i < L)
  (hR:∀ i,i < L → ∃ b,an = some ⟨b,0,none⟩ ∧ b < w.heap.size ∧ w.cell? ⟨b,i * 13 + 8,none⟩ = some (.int .i64 (p i)) ∧ w.cell? ⟨b,i * 13 + 9,none⟩ = some (.int .i64 (f i:Nat))) (hx:0 ≤ x) (hx2:x ≤ 3) :
  Calls Tryz.prog 60 #[.slice an L cn,.int .i64 v,.int .i64 x] w fun e w'=>∃ A c,e = .returned (.slice A (alongR L f p v x).length c) ∧ IntsN w.heap.size w' A (alongR L f p v x).length (alongR L f p v x) ∧ Below w.heap.size w w':=by
 by_cases hv:v < -1 ∨ (L:Int) ≤ v
 ·exact alongF_out an cn L v x f p w hv
 by_cases hn:v = -1
 ·obtain rfl | rfl | rfl | rfl:x = 0 ∨ x = 1 ∨ x = 2 ∨ x = 3:=by omega
  ·exact alongF_0n an cn L v f p w hL hL0 hf hR hn (by omega)
  ·exact alongF_1n an cn L v f p w hL hL0 hf hR hn (by omega)
  ·exact alongF_2n an cn L v f p w hL hL0 hf hR hn (by omega)
  ·exact alongF_3n an cn L v f p w hL hL0 hf hR hn (by omega)
 ·have hp:0 ≤ v:=by omega
  obtain rfl | rfl | rfl | rfl:x = 0 ∨ x = 1 ∨ x = 2 ∨ x = 3:=by omega
  ·exact alongF_0p an cn L v f p w hL hL0 hf hR hp (by omega)
  ·exact alongF_1p an cn L v f p w hL hL0 hf hR hp (by omega)
  ·exact alongF_2p an cn L v f p w hL hL0 hf hR hp (by omega)
  ·exact alongF_3p an cn L v f p w hL hL0 hf hR hp (by omega)
end Go.Proofs.YtgjokdngbocehaaGreatDoor
