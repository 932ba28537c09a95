/-
  What paths and expressions mean: sets of nodes as rows of booleans, node n at n + 1.
-/
import Derived.Test.YtgjokdngbocehaaGreatDoorHsD
import Derived.Test.YtgjokdngbocehaaGreatDoorHsE
import Derived.Test.YtgjokdngbocehaaGreatDoorHsH
import Derived.Test.YtgjokdngbocehaaGreatDoorHsN
namespace Go.Proofs.YtgjokdngbocehaaGreatDoor
structure PT where
 N:Nat
 along:Int → Int → List Int
 node:Nat → Ev
 value:Int → List UInt8
def meetsP (T:PT) (n:Int) (s:PS):Bool :=
 if s.test = 3 then true else if n < 0 then false
 else if s.test = 0 then decide ((T.node n.toNat).kind = 0) && decide ((T.node n.toNat).name = s.name)
 else if s.test = 1 then decide ((T.node n.toNat).kind = 0) else decide ((T.node n.toNat).kind = 1)
def askedP (T:PT) (n:Int) (attr:List UInt8):Option (List UInt8) :=
 if attr = [] then some (T.value n) else if n < 0 then none else ((T.node n.toNat).ats.find? fun p=>p.1 == attr).map (·.2)
def comparesP (T:PT) (n:Int) (x:PX):Bool:=match askedP T n x.attr with | none=>false | some v=>(cmpB v x.cmp x.text x.num).getD false
def reachP (T:PT) (fr:List Bool) (a:Int) (k:Nat):Bool:=(List.range fr.length).any fun (j:Nat)=>fr[j]?.getD false && (T.along ((j:Int) - 1) a).contains ((k:Int) - 1)
def stepP (hold:Int → PX → Bool) (T:PT) (fr:List Bool) (s:PS):List Bool :=
 (List.range fr.length).map fun (k:Nat)=>reachP T fr s.axis k && (meetsP T ((k:Int) - 1) s && s.wher.all (hold ((k:Int) - 1)))
def stepsP (hold:Int → PX → Bool) (T:PT) (fr:List Bool) (ss:List PS):List Bool:=ss.foldl (stepP hold T) fr
def oneP (N:Nat) (n:Int):List Bool:=(List.range (N + 1)).map fun (k:Nat)=>decide ((k:Int) = n + 1)
def someP (T:PT) (fr:List Bool) (x:PX):Bool:=(List.range fr.length).any fun (k:Nat)=>fr[k]?.getD false && comparesP T ((k:Int) - 1) x
def holdP (T:PT):Nat → Int → PX → Bool
 | 0,_,_=>false
 | f + 1,n,x =>
  if x.op = 0 then x.args.all (holdP T f n)
  else if x.op = 1 then x.args.any (holdP T f n)
  else if x.op = 2 then !((x.args.head?.map (holdP T f n)).getD false)
  else someP T (stepsP (holdP T f) T (oneP T.N n) x.path) x
def trueIdx (fr:List Bool):List Int:=(List.range fr.length).filterMap fun (k:Nat)=>if fr[k]?.getD false then some ((k:Int) - 1) else none
def fromP (T:PT) (f:Nat) (n:Int) (ss:List PS):List Int:=trueIdx (stepsP (holdP T f) T (oneP T.N n) ss)
theorem stepP_len (hold:Int → PX → Bool) (T:PT) (fr:List Bool) (s:PS):(stepP hold T fr s).length = fr.length:=by simp [stepP]
theorem stepsP_len (hold:Int → PX → Bool) (T:PT):∀ (ss:List PS) (fr:List Bool),(stepsP hold T fr ss).length = fr.length:=by
 intro ss
 induction ss with
 | nil=>intro fr;rfl
 | cons s ss ih=>intro fr;rw [stepsP,List.foldl_cons];exact (ih _).trans (stepP_len ..)
theorem oneP_len (N:Nat) (n:Int):(oneP N n).length = N + 1:=by simp [oneP]
end Go.Proofs.YtgjokdngbocehaaGreatDoor
namespace Go.Proofs.YtgjokdngbocehaaGreatDoor
open Go.RowKit
structure IntsAt (w:World) (a:Option Addr) (n:Nat) (l:List Int):Prop where
 len:n = l.length
 at':∀ i,(h:i < l.length) → ∃ b o,a = some ⟨b,o,none⟩ ∧ b < w.heap.size ∧ w.cell? ⟨b,o + i,none⟩ = some (.int .i64 l[i])
theorem IntsAt.below {w w':World} {a:Option Addr} {n:Nat} {l:List Int} (h:IntsAt w a n l) (hb:Below w.heap.size w w'):IntsAt w' a n l :=
 ⟨h.len,fun i hi=>by
  obtain ⟨b,o,e,hlt,hc⟩:=h.at' i hi
  exact ⟨b,o,e,Nat.lt_of_lt_of_le hlt hb.size,(hb.cell (p:=⟨b,o + i,none⟩) hlt).trans hc⟩⟩
theorem own_ints {w:World} {base n:Nat} {e:TypeId} {v:Value} {l:List Int} (h:w.ownsRow base e 1 v n (l.map (Value.int .i64))):∃ a c,v = .slice a n c ∧ n ≤ c ∧ IntsAt w a n l:=by
 have hn:n = l.length:=by have:=h.1;simp at this;omega
 obtain ⟨a,c,rfl,h1,h2,h3⟩:=own_slice h
 refine ⟨a,c,rfl,h1,hn,fun i hi=>?_⟩
 cases a with
 | none=>have:=h2 rfl;omega
 | some ad =>
  obtain ⟨g,rfl,hg,hl,_,hc⟩:=h3 _ rfl
  exact ⟨g,0,rfl,hl,by rw [Nat.zero_add];exact hc _ _ (by simp [hi])⟩
end Go.Proofs.YtgjokdngbocehaaGreatDoor
namespace Go.Proofs.YtgjokdngbocehaaGreatDoor
open Go.RowKit
def rngL (a b:Nat):List Int:=(List.range' a (b - a)).map (fun (i:Nat)=>(i:Int))
theorem rngL_cons {a b:Nat} (h:a < b):rngL a b = (a:Int) :: rngL (a + 1) b:=by
 unfold rngL
 rw [show b - a = (b - (a + 1)) + 1 by omega,List.range'_succ]
 simp
theorem rngL_nil {a b:Nat} (h:b ≤ a):rngL a b = []:=by
 unfold rngL
 rw [show b - a = 0 by omega];rfl
theorem rngL_app:∀ (m a b c:Nat),b = a + m → b ≤ c → rngL a b ++ rngL b c = rngL a c
 | 0,a,b,c,h,_=>by rw [rngL_nil (by omega),show b = a by omega];rfl
 | m + 1,a,b,c,h,hc=>by
  rw [rngL_cons (by omega:a < b),rngL_cons (by omega:a < c),List.cons_append,rngL_app m (a + 1) b c (by omega) hc]
theorem steps_rng {f:Nat → Nat} {a:Int} (ha:a ≠ 0) (hi:Nat):∀ m k,hi ≤ k + m → stepsF (nextOf f a) hi m k = rngL k hi
 | 0,k,h=>by rw [rngL_nil (by omega)];rfl
 | m + 1,k,h=>by
  by_cases hk:k < hi
  ·rw [stepsF_at hk (by omega),rngL_cons hk,Nat.add_sub_cancel]
   have hn:nextOf f a k = k + 1:=by unfold nextOf;rw [if_neg ha]
   rw [hn,steps_rng ha hi m (k + 1) (by omega)]
  ·rw [stepsF_end (by omega),rngL_nil (by omega)]
section
variable {L:Nat} {f:Nat → Nat} {p:Nat → Int}
theorem hiOf_le (h:∀ i,i < L → i ≤ f i ∧ f i < L) {n:Int} (hn:n < L):hiOf L f n ≤ L:=by
 unfold hiOf
 split
 ·exact Nat.le_refl _
 ·have:=h n.toNat (by omega);omega
theorem alongM_desc (h:∀ i,i < L → i ≤ f i ∧ f i < L) {n:Int} (h1:-1 ≤ n) (h2:n < L):alongM L f n 1 = rngL (n + 1).toNat (hiOf L f n):=by
 unfold alongM
 rw [if_neg (by omega),if_neg (by omega),if_neg (by omega),List.nil_append]
 exact steps_rng (by omega) _ _ _ (by have:=hiOf_le h h2;omega)
theorem alongM_self {n:Int} (h1:-1 ≤ n) (h2:n < L):alongM L f n 3 = [n]:=by
 unfold alongM
 rw [if_neg (by omega),if_pos (by omega),if_pos rfl]
 rfl
theorem alongM_orself (h:∀ i,i < L → i ≤ f i ∧ f i < L) {n:Int} (h1:-1 ≤ n) (h2:n < L):alongM L f n 2 = n :: alongM L f n 1:=by
 rw [alongM_desc h h1 h2]
 unfold alongM
 rw [if_neg (by omega),if_pos (by omega),if_neg (by omega)]
 rw [steps_rng (by omega) _ _ _ (by have:=hiOf_le h h2;omega)]
 rfl
end
end Go.Proofs.YtgjokdngbocehaaGreatDoor
