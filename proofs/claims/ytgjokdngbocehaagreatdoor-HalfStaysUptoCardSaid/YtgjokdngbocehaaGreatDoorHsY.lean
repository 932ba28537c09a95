/-
  The plain law: the answer's query is half's way forth.
-/
import Derived.Test.YtgjokdngbocehaaGreatDoorHsA
import Derived.Test.YtgjokdngbocehaaGreatDoorHsC
import Derived.Test.YtgjokdngbocehaaGreatDoorHsD
import Derived.Test.YtgjokdngbocehaaGreatDoorHsL
import Derived.Test.YtgjokdngbocehaaGreatDoorHsN
import Derived.Test.YtgjokdngbocehaaGreatDoorHsP
import Derived.Test.YtgjokdngbocehaaGreatDoorHsS
import Derived.Test.YtgjokdngbocehaaGreatDoorHsV
import Derived.Test.YtgjokdngbocehaaGreatDoorHsX
namespace Go.Proofs.YtgjokdngbocehaaGreatDoor
open Go.RowKit
theorem T3.max {a b:Int} (ha:T3 a) (hb:T3 b):T3 (Max.max a b):=by unfold T3 at *;omega
theorem T3.min {a b:Int} (ha:T3 a) (hb:T3 b):T3 (Min.min a b):=by unfold T3 at *;omega
section
variable {hs:List HN} {rs:List RN}
theorem frT_3 (led:List Int) (h3:R3 led) (ax:Int) (k:Nat):T3 (frT hs led ax k):=by
 unfold frT parV
 repeat' split
 all_goals first | exact h3.at _ | exact (abvAll_3 hs led _).at _ | exact orL_3 _ | (unfold T3;decide)
end
end Go.Proofs.YtgjokdngbocehaaGreatDoor
namespace Go.Proofs.YtgjokdngbocehaaGreatDoor
open Go.RowKit
theorem runesF_drop:∀ (f:Nat) (s t:ByteArray) (p q:Nat),s.data.toList.drop p = t.data.toList.drop q → runesF s f p = runesF t f q
 | 0,_,_,_,_,_=>rfl
 | f + 1,s,t,p,q,h=>by
  have hl:=congrArg List.length h
  rw [List.length_drop,List.length_drop] at hl
  have e1:s.data.toList.length = s.size:=by rw [Array.length_toList];rfl
  have e2:t.data.toList.length = t.size:=by rw [Array.length_toList];rfl
  rw [e1,e2] at hl
  simp only [runesF]
  by_cases hp:p < s.size
  ·rw [if_pos hp,if_pos (by omega),decode_drop,decode_drop,h]
   refine congrArg _ (runesF_drop f _ _ _ _ ?_)
   rw [← List.drop_drop,← List.drop_drop,h]
  ·rw [if_neg hp,if_neg (by omega)]
def rL (l:List UInt8):List Int:=runesOf (strL l)
theorem rL_cons (l:List UInt8) (h:l ≠ []):rL l = ((decL l).1:Int) :: rL (l.drop (decL l).2):=by
 have hs:(strL l).size = l.length:=strL_size l
 have hp:0 < (strL l).size:=by rw [hs];exact List.length_pos_iff.2 h
 have h1:=runesAt_step (strL l) 0 hp
 rw [runesAt_zero] at h1
 have hd:Utf8.decode (strL l) 0 = decL l:=by rw [decode_drop,strL_data,List.drop_zero]
 rw [hd] at h1
 unfold rL
 rw [h1,Nat.zero_add]
 congr 1
 unfold runesAt runesOf
 have hz:(strL (l.drop (decL l).2)).size = (strL l).size - (decL l).2:=by rw [strL_size,strL_size,List.length_drop]
 rw [hz]
 refine runesF_drop _ _ _ _ _ ?_
 rw [strL_data,strL_data,List.drop_zero]
theorem rL_app (v u:List UInt8) (h:Lib.validD v = true):rL (v ++ u) = rL v ++ rL u:=by
 have key:∀ (n:Nat) (v:List UInt8),v.length ≤ n → Lib.validD v = true → rL (v ++ u) = rL v ++ rL u:=by
  intro n
  induction n with
  | zero =>
   intro v hn _
   have:v = []:=List.eq_nil_of_length_eq_zero (by omega)
   subst this
   rfl
  | succ n ih =>
   intro v hn hv
   by_cases h0:v = []
   ·subst h0;rfl
   ·have hp:=dec_pos v h0
    rw [Lib.validD_step v h0,decodeL_dec] at hv
    by_cases hb:(decL v).1 = 65533 ∧ (decL v).2 = 1
    ·rw [if_pos hb] at hv;cases hv
    ·rw [if_neg hb] at hv
     rcases dec_inv v h0 with ⟨k1,k2,k3⟩ | k
     ·have hd:decL (v ++ u) = decL v:=by
       have e:v ++ u = encU (decL v).1 ++ (v.drop (decL v).2 ++ u):=by
        rw [← List.append_assoc]
        exact congrArg (· ++ u) k2
       rw [e,dec_enc _ k1,← k3]
      have hlen:(decL v).2 ≤ v.length:=by
       have:=congrArg List.length k2
       rw [List.length_append,List.length_drop] at this
       have e3:(encU (decL v).1).length = (decL v).2:=by rw [k3];unfold encU;simp
       omega
      rw [rL_cons (v ++ u) (by simp [h0]),rL_cons v h0,hd,List.drop_append_of_le_length hlen,ih _ (by rw [List.length_drop];omega) hv]
      rfl
     ·rw [k] at hb;exact absurd ⟨rfl,rfl⟩ hb
 exact key v.length v (Nat.le_refl _) h
theorem validD_app {v u:List UInt8} (h:Lib.validD v = true) (hu:Lib.validD u = true):Lib.validD (v ++ u) = true:=by
 have key:∀ (n:Nat) (v:List UInt8),v.length ≤ n → Lib.validD v = true → Lib.validD (v ++ u) = true:=by
  intro n
  induction n with
  | zero =>
   intro v hn _
   have:v = []:=List.eq_nil_of_length_eq_zero (by omega)
   subst this
   exact hu
  | succ n ih =>
   intro v hn hv
   by_cases h0:v = []
   ·subst h0;exact hu
   ·have hp:=dec_pos v h0
    rw [Lib.validD_step v h0,decodeL_dec] at hv
    by_cases hb:(decL v).1 = 65533 ∧ (decL v).2 = 1
    ·rw [if_pos hb] at hv;cases hv
    ·rw [if_neg hb] at hv
     rcases dec_inv v h0 with ⟨k1,k2,k3⟩ | k
     ·have hd:decL (v ++ u) = decL v:=by
       have e:v ++ u = encU (decL v).1 ++ (v.drop (decL v).2 ++ u):=by
        rw [← List.append_assoc]
        exact congrArg (· ++ u) k2
       rw [e,dec_enc _ k1,← k3]
      have hlen:(decL v).2 ≤ v.length:=by
       have:=congrArg List.length k2
       rw [List.length_append,List.length_drop] at this
       have e3:(encU (decL v).1).length = (decL v).2:=by rw [k3];unfold encU;simp
       omega
      rw [Lib.validD_step (v ++ u) (by simp [h0]),decodeL_dec,hd,if_neg hb,List.drop_append_of_le_length hlen]
      exact ih _ (by rw [List.length_drop];omega) hv
     ·rw [k] at hb;exact absurd ⟨rfl,rfl⟩ hb
 exact key v.length v (Nat.le_refl _) h
def Kn (a b:Int):Prop:=a = 1 ∨ a = b
theorem Kn.rfl {a:Int}:Kn a a:=.inr (by trivial)
theorem stands0 (xs ys:List Int):standsL xs ys 0 = true ↔ ys <+: xs:=by
 by_cases h:ys.length ≤ xs.length
 ·rw [standsL_seg _ _ _ (by omega),decide_eq_true_iff,List.drop_zero]
  constructor
  ·intro e;rw [← e];exact List.take_prefix _ _
  ·rintro ⟨t,rfl⟩;simp
 ·rw [standsL_short _ _ _ (by omega)]
  constructor
  ·intro e;cases e
  ·intro e;exact absurd e.length_le h
theorem cmpL_zero:∀ xs ys:List Int,cmpL xs ys = 0 ↔ xs = ys
 | [],[]=>by simp [cmpL]
 | [],_ :: _=>by simp [cmpL]
 | _ :: _,[]=>by simp [cmpL]
 | a :: s,b :: t=>by
  unfold cmpL
  by_cases h1:a < b
  ·rw [if_pos h1]
   constructor
   ·intro h;cases h
   ·intro h;cases h;omega
  ·rw [if_neg h1]
   by_cases h2:b < a
   ·rw [if_pos h2]
    constructor
    ·intro h;cases h
    ·intro h;cases h;omega
   ·rw [if_neg h2,cmpL_zero s t]
    have:a = b:=by omega
    subst this
    simp
theorem findL_iff (xs ys:List Int):0 ≤ findL xs ys ↔ ∃ p,standsL xs ys p = true:=by
 unfold findL
 constructor
 ·intro h
  by_cases hp:∃ p,standsL xs ys p = true
  ·exact hp
  ·rw [kfind_none _ _ fun q _ _=>by
    cases hs:standsL xs ys q with
    | false=>rfl
    | true=>exact absurd ⟨q,hs⟩ hp] at h
   exact absurd h (by decide)
 ·rintro ⟨p,hp⟩
  have key:∀ (n:Nat) (st:Nat → Bool) (q:Nat),q ≤ p → p ≤ q + n → st p = true → 0 ≤ kfind st q n:=by
   intro n
   induction n with
   | zero =>
    intro st q h1 h2 h3
    have:q = p:=by omega
    subst this
    unfold kfind
    rw [if_pos h3];omega
   | succ n ih =>
    intro st q h1 h2 h3
    unfold kfind
    by_cases hq:st q = true
    ·rw [if_pos hq];omega
    ·rw [if_neg hq]
     exact ih st (q + 1) (by
      by_cases e:q = p
      ·subst e;exact absurd h3 hq
      ·omega) (by omega) h3
  have hl:p ≤ xs.length:=by
   simp only [standsL,decide_eq_true_eq] at hp
   omega
  exact key _ _ _ (Nat.zero_le _) (by omega) hp
theorem stands_more {xs ys:List Int} {p:Nat} (h:standsL xs ys p = true) (us:List Int):standsL (xs ++ us) ys p = true:=by
 simp only [standsL,decide_eq_true_eq] at h ⊢
 refine ⟨by rw [List.length_append];omega,fun i hi=>?_⟩
 rw [List.getElem?_append_left (by omega)]
 exact h.2 i hi
theorem early_more (v w:List UInt8) (x:PX) (h:∃ zs,rL w = rL v ++ zs):Kn (earlyT v x) (earlyT w x) ∧ Kn (earlyT v x) (cmpT w x):=by
 obtain ⟨zs,hz⟩:=h
 unfold earlyT cmpT cmpB
 have e1:runesOf (strL w) = runesOf (strL v) ++ zs:=hz
 simp only [e1]
 generalize runesOf (strL v) = xs
 generalize runesOf (strL x.text) = ys
 have hpre:¬ xs <+: ys → ¬ (xs ++ zs) <+: ys:=fun h1 h2=>h1 ((List.prefix_append xs zs).trans h2)
 by_cases c0:x.cmp = 0
 ·simp only [if_pos c0];exact ⟨Kn.rfl,Kn.rfl⟩
 by_cases c1:x.cmp = 1
 ·simp only [if_neg c0,if_pos c1]
  by_cases hs:standsL ys xs 0 = true
  ·rw [if_pos hs];exact ⟨.inl rfl,.inl rfl⟩
  ·rw [if_neg hs]
   have h2:=hpre (fun h=>hs ((stands0 _ _).2 h))
   rw [if_neg (fun h=>h2 ((stands0 _ _).1 h))]
   refine ⟨Kn.rfl,.inr ?_⟩
   rw [decide_eq_false (fun h=>h2 (by rw [(cmpL_zero _ _).1 h];exact List.prefix_refl _))]
   rfl
 by_cases c2:x.cmp = 2
 ·simp only [if_neg c0,if_neg c1,if_pos c2]
  by_cases hs:standsL ys xs 0 = true
  ·rw [if_pos hs];exact ⟨.inl rfl,.inl rfl⟩
  ·rw [if_neg hs]
   have h2:=hpre (fun h=>hs ((stands0 _ _).2 h))
   rw [if_neg (fun h=>h2 ((stands0 _ _).1 h))]
   refine ⟨Kn.rfl,.inr ?_⟩
   have h4:cmpL (xs ++ zs) ys ≠ 0:=fun h=>h2 (by rw [(cmpL_zero _ _).1 h];exact List.prefix_refl _)
   simp [h4,truthI]
 by_cases c3:x.cmp = 3
 ·simp only [if_neg c0,if_neg c1,if_neg c2,if_pos c3]
  by_cases hs:standsL xs ys 0 = true
  ·rw [if_pos hs,if_pos (stands_more hs zs),stands_more hs zs];exact ⟨Kn.rfl,.inr rfl⟩
  ·rw [if_neg hs]
   by_cases ht:standsL ys xs 0 = true
   ·rw [if_pos ht];exact ⟨.inl rfl,.inl rfl⟩
   ·rw [if_neg ht]
    have h2:=hpre (fun h=>ht ((stands0 _ _).2 h))
    have h3:¬ standsL (xs ++ zs) ys 0 = true:=fun h=>by
     have h4:=(stands0 _ _).1 h
     rcases List.prefix_or_prefix_of_prefix (List.prefix_append xs zs) h4 with h5 | h5
     ·exact ht ((stands0 _ _).2 h5)
     ·exact hs ((stands0 _ _).2 h5)
    rw [if_neg h3,if_neg (fun h=>h2 ((stands0 _ _).1 h))]
    refine ⟨Kn.rfl,.inr ?_⟩
    rw [Bool.not_eq_true] at h3
    rw [h3];rfl
 by_cases c5:x.cmp = 5
 ·have c4:¬ x.cmp = 4:=by omega
  simp only [if_neg c0,if_neg c1,if_neg c2,if_neg c3,if_neg c4,if_pos c5]
  by_cases hs:0 ≤ findL xs ys
  ·obtain ⟨p,hp⟩:=(findL_iff _ _).1 hs
   have h2:=(findL_iff (xs ++ zs) ys).2 ⟨p,stands_more hp zs⟩
   rw [if_pos hs,if_pos h2,decide_eq_true h2]
   exact ⟨Kn.rfl,.inr rfl⟩
  ·rw [if_neg hs];exact ⟨.inl rfl,.inl rfl⟩
 by_cases c6:x.cmp = 6
 ·have c4:¬ x.cmp = 4:=by omega
  simp only [if_neg c0,if_neg c1,if_neg c2,if_neg c3,if_neg c4,if_neg c5,if_pos c6,List.length_append]
  by_cases hs:x.num < (xs.length:Int)
  ·rw [if_pos hs,if_pos (by omega),decide_eq_false (by omega)];exact ⟨Kn.rfl,.inr rfl⟩
  ·rw [if_neg hs];exact ⟨.inl rfl,.inl rfl⟩
 by_cases c7:x.cmp = 7
 ·have c4:¬ x.cmp = 4:=by omega
  simp only [if_neg c0,if_neg c1,if_neg c2,if_neg c3,if_neg c4,if_neg c5,if_neg c6,if_pos c7,List.length_append]
  by_cases hs:x.num < (xs.length:Int)
  ·rw [if_pos hs,if_pos (by omega),decide_eq_true (by omega)];exact ⟨Kn.rfl,.inr rfl⟩
  ·rw [if_neg hs];exact ⟨.inl rfl,.inl rfl⟩
 by_cases c8:x.cmp = 8
 ·have c4:¬ x.cmp = 4:=by omega
  simp only [if_neg c0,if_neg c1,if_neg c2,if_neg c3,if_neg c4,if_neg c5,if_neg c6,if_neg c7,if_pos c8,List.length_append]
  by_cases hs:x.num ≤ (xs.length:Int)
  ·rw [if_pos hs,if_pos (by omega),decide_eq_false (by omega)];exact ⟨Kn.rfl,.inr rfl⟩
  ·rw [if_neg hs];exact ⟨.inl rfl,.inl rfl⟩
 ·simp only [if_neg c0,if_neg c1,if_neg c2,if_neg c3,if_neg c5,if_neg c6,if_neg c7,if_neg c8]
  exact ⟨.inl rfl,.inl rfl⟩
end Go.Proofs.YtgjokdngbocehaaGreatDoor
namespace Go.Proofs.YtgjokdngbocehaaGreatDoor
open Go.RowKit
theorem kn_iff {a b:Int} (ha:T3 a) (hb:T3 b):Kn a b ↔ (b ≤ 1 → a ≤ 1) ∧ (a ≤ 0 → b ≤ 0):=by unfold Kn T3 at *;omega
theorem Kn.min {a b c d:Int} (h:Kn a c) (h2:Kn b d) (ha:T3 a) (hb:T3 b) (hc:T3 c) (hd:T3 d):Kn (Min.min a b) (Min.min c d):=by unfold Kn T3 at *;omega
theorem Kn.max {a b c d:Int} (h:Kn a c) (h2:Kn b d) (ha:T3 a) (hb:T3 b) (hc:T3 c) (hd:T3 d):Kn (Max.max a b) (Max.max c d):=by unfold Kn T3 at *;omega
theorem Kn.seen {a b:Int} (h:Kn a b):Kn (seenI a) (seenI b):=by unfold Kn seenI at *;split <;> split <;> omega
theorem Kn.not {a b:Int} (h:Kn a b):Kn (notI a) (notI b):=by have:=h.seen;unfold Kn notI at *;omega
theorem and_kn {α:Type} (l:List α) (g g':α → Int) (h:∀ y ∈ l,Kn (g y) (g' y)):Kn (andL (l.map g)) (andL (l.map g')):=by
 have:∀ (l:List α) (a b:Int),T3 a → T3 b → Kn a b → (∀ y ∈ l,Kn (g y) (g' y)) → Kn ((l.map g).foldl (fun a t=>Min.min a (seenI t)) a) ((l.map g').foldl (fun a t=>Min.min a (seenI t)) b):=by
  intro l
  induction l with
  | nil=>intro a b _ _ h _;exact h
  | cons y l ih =>
   intro a b ha hb h hl
   exact ih _ _ (ha.min (seenI_3 _)) (hb.min (seenI_3 _)) (h.min (hl y List.mem_cons_self).seen ha (seenI_3 _) hb (seenI_3 _)) fun z hz=>hl z (List.mem_cons_of_mem _ hz)
 exact this l 2 2 (by unfold T3;decide) (by unfold T3;decide) Kn.rfl h
theorem or_kn {α:Type} (l:List α) (g g':α → Int) (h:∀ y ∈ l,Kn (g y) (g' y)):Kn (orL (l.map g)) (orL (l.map g')):=by
 have:∀ (l:List α) (a b:Int),T3 a → T3 b → Kn a b → (∀ y ∈ l,Kn (g y) (g' y)) → Kn ((l.map g).foldl (fun a t=>Max.max a (seenI t)) a) ((l.map g').foldl (fun a t=>Max.max a (seenI t)) b):=by
  intro l
  induction l with
  | nil=>intro a b _ _ h _;exact h
  | cons y l ih =>
   intro a b ha hb h hl
   exact ih _ _ (ha.max (seenI_3 _)) (hb.max (seenI_3 _)) (h.max (hl y List.mem_cons_self).seen ha (seenI_3 _) hb (seenI_3 _)) fun z hz=>hl z (List.mem_cons_of_mem _ hz)
 exact this l 0 0 (by unfold T3;decide) (by unfold T3;decide) Kn.rfl h
structure Gr (hs hs':List HN) (rs rs':List RN):Prop where
 lk:Lk hs rs
 lk':Lk hs' rs'
 ps:Pars hs
 ps':Pars hs'
 len:hs.length ≤ hs'.length
 same:∀ i h,hs[i]? = some h → ∃ h',hs'[i]? = some h' ∧ h'.par = h.par ∧ h'.ev = h.ev ∧ h'.kd = h.kd ∧ (h.op = false → h'.op = false ∧ h'.txt = h.txt ∧ h'.en = h.en) ∧ (∃ zs,rL h'.txt = rL h.txt ++ zs) ∧ (1 ≤ i → h'.bg = h.bg)
 new:∀ j,hs.length ≤ j → j < hs'.length → parH hs' j < hs.length → opI hs (parH hs' j) = 1
section
variable {hs hs':List HN} {rs rs':List RN}
theorem Lk.anc (h:Lk hs rs) {m k:Nat} (h1:1 ≤ k) (hk:k < hs.length) (hm:m < hs.length):(m < k ∧ k ≤ lastH rs m) ↔ (m = parH hs k ∨ (m < parH hs k ∧ parH hs k ≤ lastH rs m)):=by
 have hpk:=h.parlt k h1 hk
 have hcc:=h.hc k h1 hk
 constructor
 ·rintro ⟨a,b⟩
  have:=(h.hg m k hm a b).2
  by_cases e:m = parH hs k
  ·exact .inl e
  ·exact .inr ⟨by omega,by omega⟩
 ·rintro (e | ⟨a,b⟩)
  ·rw [e];exact ⟨hpk,hcc⟩
  ·have:=h.hn m _ hm a b
   exact ⟨by omega,by omega⟩
theorem Gr.parH (h:Gr hs hs' rs rs') (k:Nat) (hk:k < hs.length):Go.Proofs.YtgjokdngbocehaaGreatDoor.parH hs' k = Go.Proofs.YtgjokdngbocehaaGreatDoor.parH hs k:=by
 obtain ⟨y,h1,h2,_⟩:=h.same k _ (List.getElem?_eq_getElem hk)
 unfold Go.Proofs.YtgjokdngbocehaaGreatDoor.parH
 rw [h1,List.getElem?_eq_getElem hk]
 simp only [Option.map_some,Option.getD_some,h2]
theorem Gr.anc (h:Gr hs hs' rs rs'):∀ k,k < hs.length → ∀ m,m < hs.length → ((m < k ∧ k ≤ lastH rs m) ↔ (m < k ∧ k ≤ lastH rs' m)):=by
 intro k
 induction k using Nat.strongRecOn with
 | _ k ih =>
  intro hk m hm
  have hl:=h.len
  by_cases h0:k = 0
  ·subst h0;exact ⟨fun e=>by omega,fun e=>by omega⟩
  ·have hpk:=h.lk.parlt k (by omega) hk
   rw [h.lk.anc (by omega) hk hm,h.lk'.anc (by omega) (by omega) (by omega),h.parH k hk,ih _ hpk (by omega) m hm]
theorem up_open (h:Lk hs rs):∀ k,k < hs.length → opI hs k = 1 → ∀ m,m < k → k ≤ lastH rs m → opI hs m = 1:=by
 intro k
 induction k using Nat.strongRecOn with
 | _ k ih =>
  intro hk ho m h1 h2
  have hpk:=h.parlt k (by omega) hk
  have hop:=h.opn k (by omega) hk
  have ho':opI hs (parH hs k) = 1:=by have:=(opI_3 hs (parH hs k));unfold opI at *;split at hop <;> split <;> simp_all
  rcases (h.anc (by omega) hk (by omega)).1 ⟨h1,h2⟩ with e | ⟨e1,e2⟩
  ·rw [e];exact ho'
  ·exact ih _ hpk (by omega) ho' m e1 e2
theorem Gr.newOpen (h:Gr hs hs' rs rs'):∀ k,hs.length ≤ k → k < hs'.length → ∀ m,m < hs.length → m < k → k ≤ lastH rs' m → opI hs m = 1:=by
 intro k
 induction k using Nat.strongRecOn with
 | _ k ih =>
  intro h1 hk m hm h2 h3
  have hpk:=h.lk'.parlt k (by omega) hk
  have hnw:=h.new k h1 hk
  rcases (h.lk'.anc (by omega) hk (by omega)).1 ⟨h2,h3⟩ with e | ⟨e1,e2⟩
  ·rw [← e] at hnw;exact hnw hm
  ·by_cases hp:Go.Proofs.YtgjokdngbocehaaGreatDoor.parH hs' k < hs.length
   ·have:=(h.anc _ hp m hm).2 ⟨e1,e2⟩
    exact up_open h.lk _ hp (hnw hp) m this.1 this.2
   ·exact ih _ hpk (by omega) (by omega) m hm e1 e2
theorem Gr.leads (h:Gr hs hs' rs rs') (ax:Int) (m k:Nat) (hm:m < hs.length) (hk:k < hs.length):Leads hs rs ax m k ↔ Leads hs' rs' ax m k:=by
 unfold Leads
 rw [h.parH k hk]
 have:=h.anc k hk m hm
 constructor
 ·rintro (a | ⟨a,b,c,d⟩)
  ·exact .inl a
  ·exact .inr ⟨a,(this.1 ⟨b,c⟩).1,(this.1 ⟨b,c⟩).2,d⟩
 ·rintro (a | ⟨a,b,c,d⟩)
  ·exact .inl a
  ·exact .inr ⟨a,(this.2 ⟨b,c⟩).1,(this.2 ⟨b,c⟩).2,d⟩
theorem Gr.op (h:Gr hs hs' rs rs') (m:Nat) (hm:m < hs.length) (ho:opI hs m ≤ 0):opI hs' m ≤ 0:=by
 obtain ⟨y,h1,_,_,_,h5,_⟩:=h.same m _ (List.getElem?_eq_getElem hm)
 have e1:opI hs m = if hs[m].op then 1 else 0:=by unfold opI;rw [List.getElem?_eq_getElem hm];rfl
 have e2:opI hs' m = if y.op then 1 else 0:=by unfold opI;rw [h1];rfl
 rw [e1] at ho
 rw [e2]
 cases hb:hs[m].op with
 | true=>simp [hb] at ho
 | false=>simp [(h5 hb).1]
theorem back_mono (h:Gr hs hs' rs rs') (ex ex':PX → List Int) (s:PS) (l l':List Int) (ha:0 ≤ s.axis ∧ s.axis ≤ 3)
  (hm:∀ k,k < hs.length → Kn ((metT ex hs s l).getD k 0) ((metT ex' hs' s l').getD k 0)):∀ m,m < hs.length → Kn ((backT ex hs s l).getD m 0) ((backT ex' hs' s l').getD m 0):=by
 intro m hml
 have hl:=h.len
 have hb1:=(backT_ok ex hs (by omega) s l).1.at m
 have hb2:=(backT_ok ex' hs' (by omega) s l').1.at m
 have e3:R3 (metT ex hs s l):=metT_3 _ _ _ _
 have e3':R3 (metT ex' hs' s l'):=metT_3 _ _ _ _
 rw [kn_iff hb1 hb2]
 constructor
 ·intro q
  rw [back_le h.lk' ex' s l' ha 1 m (by omega)] at q
  rw [back_le h.lk ex s l ha 1 m hml]
  refine ⟨by decide,fun _=>by unfold opI;split <;> decide,fun k hk hL=>?_⟩
  exact ((kn_iff (e3.at k) (e3'.at k)).1 (hm k hk)).1 (q.2.2 k (by omega) ((h.leads _ _ _ hml hk).1 hL))
 ·intro q
  rw [back_le h.lk ex s l ha 0 m hml] at q
  rw [back_le h.lk' ex' s l' ha 0 m (by omega)]
  refine ⟨by decide,fun h3=>h.op m hml (q.2.1 h3),fun k hk hL=>?_⟩
  by_cases hk2:k < hs.length
  ·exact ((kn_iff (e3.at k) (e3'.at k)).1 (hm k hk2)).2 (q.2.2 k hk2 ((h.leads _ _ _ hml hk2).2 hL))
  ·rcases hL with ⟨_,x⟩ | ⟨x0,x1,x2,_⟩
   ·omega
   ·have:=h.newOpen k (by omega) hk m hml x1 x2
    have:=q.2.1 x0
    omega
theorem tst_same (h:Gr hs hs' rs rs') (s:PS) (k:Nat) (hk:k < hs.length):(hs'[k]?.map fun h=>testT h s).getD 0 = (hs[k]?.map fun h=>testT h s).getD 0:=by
 obtain ⟨y,h1,_,h3,h4,_⟩:=h.same k _ (List.getElem?_eq_getElem hk)
 rw [h1,List.getElem?_eq_getElem hk]
 simp only [Option.map_some,Option.getD_some]
 unfold testT
 rw [h3,h4]
theorem met_mono (h:Gr hs hs' rs rs') (ex ex':PX → List Int) (s:PS) (l l':List Int) (h3:R3 l) (h3':R3 l') (hl:∀ k,k < hs.length → Kn (l.getD k 0) (l'.getD k 0))
  (hx:∀ x ∈ s.wher,R3 (ex x) ∧ R3 (ex' x) ∧ ∀ k,k < hs.length → Kn ((ex x).getD k 0) ((ex' x).getD k 0)):∀ k,k < hs.length → Kn ((metT ex hs s l).getD k 0) ((metT ex' hs' s l').getD k 0):=by
 intro k hk
 have hle:=h.len
 unfold metT
 have key:∀ (w:List PX) (o o':List Int),R3 o → R3 o' → Kn (o.getD k 0) (o'.getD k 0) → (∀ x ∈ w,R3 (ex x) ∧ R3 (ex' x) ∧ Kn ((ex x).getD k 0) ((ex' x).getD k 0)) →
   Kn ((w.foldl (fun out x=>rowOf hs.length fun k=>andL [out.getD k 0,(ex x).getD k 0]) o).getD k 0) ((w.foldl (fun out x=>rowOf hs'.length fun k=>andL [out.getD k 0,(ex' x).getD k 0]) o').getD k 0):=by
  intro w
  induction w with
  | nil=>intro o o' _ _ ho _;exact ho
  | cons x w ih =>
   intro o o' h1 h2 ho hw
   obtain ⟨q1,q2,q3⟩:=hw x List.mem_cons_self
   refine ih _ _ (rowOf_3 _ _ fun k=>andL_3 _) (rowOf_3 _ _ fun k=>andL_3 _) ?_ fun y hy=>hw y (List.mem_cons_of_mem _ hy)
   rw [rowOf_getD _ _ _ hk,rowOf_getD _ _ _ (by omega),andL_two (h1.at k) (q1.at k),andL_two (h2.at k) (q2.at k)]
   exact ho.min q3 (h1.at k) (q1.at k) (h2.at k) (q2.at k)
 refine key _ _ _ (rowOf_3 _ _ fun k=>andL_3 _) (rowOf_3 _ _ fun k=>andL_3 _) ?_ fun x hx'=>⟨(hx x hx').1,(hx x hx').2.1,(hx x hx').2.2 k hk⟩
 rw [rowOf_getD _ _ _ hk,rowOf_getD _ _ _ (by omega),tst_same h s k hk]
 have ht:T3 ((hs[k]?.map fun h=>testT h s).getD 0):=by rw [List.getElem?_eq_getElem hk];exact testT_3 _ _
 rw [andL_two ht (h3.at k),andL_two ht (h3'.at k)]
 exact Kn.rfl.min (hl k hk) ht (h3.at k) ht (h3'.at k)
theorem asks_mono (h:Gr hs hs' rs rs') (x:PX) (k:Nat) (hk:k < hs.length):Kn ((hs[k]?.map fun h=>asksT h x).getD 0) ((hs'[k]?.map fun h=>asksT h x).getD 0):=by
 obtain ⟨y,h1,_,h3,h4,h5,h6⟩:=h.same k _ (List.getElem?_eq_getElem hk)
 rw [h1,List.getElem?_eq_getElem hk]
 simp only [Option.map_some,Option.getD_some]
 unfold asksT
 by_cases ha:x.attr ≠ []
 ·rw [if_pos ha,if_pos ha,h3];exact Kn.rfl
 ·rw [if_neg ha,if_neg ha]
  cases hb:hs[k].op with
  | false=>rw [(h5 hb).1,(h5 hb).2.1];exact Kn.rfl
  | true =>
   have:=early_more hs[k].txt y.txt x h6.1
   rw [if_pos rfl]
   split
   ·exact this.1
   ·exact this.2
theorem exprT_3 (hp:1 ≤ hs.length) (f:Nat) (x:PX):R3 (exprT hs f x):=by
 cases f with
 | zero=>intro t ht;cases ht
 | succ f=>exact (exprT_ok hs hp f x).1
theorem expr_mono (h:Gr hs hs' rs rs') (hp:1 ≤ hs.length):∀ (f:Nat) (x:PX),goodXB f x = true → ∀ k,k < hs.length → Kn ((exprT hs f x).getD k 0) ((exprT hs' f x).getD k 0)
 | 0,_,hg=>by cases hg
 | f + 1,x,hg=>by
  have hle:=h.len
  have hg':(if x.op = 3 then x.args.isEmpty && goodPB (goodXB f) x.path && (x.attr.isEmpty || nameB x.attr) && goodCB x.cmp x.text x.num
   else bareB x && (if x.op = 0 ∨ x.op = 1 then decide (2 ≤ x.args.length) else if x.op = 2 then decide (x.args.length = 1) else false) && x.args.all (goodXB f)) = true:=hg
  unfold exprT
  by_cases hop:x.op = 3
  ·rw [if_pos hop,if_pos hop]
   rw [if_pos hop] at hg'
   simp only [Bool.and_eq_true] at hg'
   have hgp:=hg'.1.1.2
   unfold goodPB at hgp
   rw [Bool.and_eq_true] at hgp
   have hss:=List.all_eq_true.1 hgp.2
   have key:∀ (ss:List PS),(∀ s ∈ ss,goodSB (goodXB f) s = true) → R3 (ss.foldr (fun s out=>backT (exprT hs f) hs s out) (rowOf hs.length fun k=>(hs[k]?.map fun h=>asksT h x).getD 0)) ∧ R3 (ss.foldr (fun s out=>backT (exprT hs' f) hs' s out) (rowOf hs'.length fun k=>(hs'[k]?.map fun h=>asksT h x).getD 0)) ∧ ∀ k,k < hs.length →
     Kn ((ss.foldr (fun s out=>backT (exprT hs f) hs s out) (rowOf hs.length fun k=>(hs[k]?.map fun h=>asksT h x).getD 0)).getD k 0) ((ss.foldr (fun s out=>backT (exprT hs' f) hs' s out) (rowOf hs'.length fun k=>(hs'[k]?.map fun h=>asksT h x).getD 0)).getD k 0):=by
    intro ss
    induction ss with
    | nil =>
     intro _
     have h3:∀ (zs:List HN) (k:Nat),T3 ((zs[k]?.map fun h=>asksT h x).getD 0):=fun zs k=>by
      cases zs[k]? with
      | none=>show T3 0;unfold T3;decide
      | some h=>exact asksT_3 _ _
     refine ⟨rowOf_3 _ _ (h3 _),rowOf_3 _ _ (h3 _),fun k hk=>?_⟩
     show Kn ((rowOf hs.length fun k=>(hs[k]?.map fun h=>asksT h x).getD 0).getD k 0) ((rowOf hs'.length fun k=>(hs'[k]?.map fun h=>asksT h x).getD 0).getD k 0)
     rw [rowOf_getD _ _ _ hk,rowOf_getD _ _ _ (by omega)]
     exact asks_mono h x k hk
    | cons s ss ih =>
     intro hs2
     obtain ⟨i1,i2,i3⟩:=ih fun y hy=>hs2 y (List.mem_cons_of_mem _ hy)
     have hgs:=hs2 s List.mem_cons_self
     unfold goodSB at hgs
     simp only [Bool.and_eq_true,decide_eq_true_eq] at hgs
     rw [List.foldr_cons,List.foldr_cons]
     refine ⟨(backT_ok _ _ hp _ _).1,(backT_ok _ _ (by omega) _ _).1,?_⟩
     refine back_mono h _ _ s _ _ ⟨hgs.1.1.1.1.1,hgs.1.1.1.1.2⟩ ?_
     refine met_mono h _ _ s _ _ i1 i2 i3 fun y hy=>⟨exprT_3 hp f y,exprT_3 (by omega) f y,?_⟩
     exact expr_mono h hp f y (List.all_eq_true.1 hgs.2 y hy)
   exact (key x.path hss).2.2
  ·rw [if_neg hop,if_neg hop]
   rw [if_neg hop] at hg'
   simp only [Bool.and_eq_true] at hg'
   have hargs:=List.all_eq_true.1 hg'.2
   intro k hk
   have hk2:k < hs'.length:=by omega
   have hl:∀ y ∈ x.args,Kn ((exprT hs f y).getD k 0) ((exprT hs' f y).getD k 0):=fun y hy=>expr_mono h hp f y (hargs y hy) k hk
   rw [rowOf_getD _ _ _ hk,rowOf_getD _ _ _ hk2]
   split
   ·exact and_kn _ _ _ hl
   ·split
    ·exact or_kn _ _ _ hl
    ·cases hh:x.args.head? with
     | none=>exact Kn.rfl
     | some y=>exact (hl y (List.mem_of_head? hh)).not
theorem fr_mono (h:Gr hs hs' rs rs') (led led':List Int) (h3:R3 led) (h3':R3 led') (hl:∀ k,k < hs.length → Kn (led.getD k 0) (led'.getD k 0)) (ax:Int) (ha:0 ≤ ax ∧ ax ≤ 3) (k:Nat) (hk:k < hs.length):Kn (frT hs led ax k) (frT hs' led' ax k):=by
 have hle:=h.len
 rw [kn_iff (frT_3 led h3 ax k) (frT_3 led' h3' ax k)]
 have key:∀ m,m < hs'.length → Leads hs' rs' ax m k → m < hs.length:=fun m _ hL=>by
  rcases hL with ⟨_,x⟩ | ⟨_,x,_⟩ <;> omega
 constructor
 ·intro q
  rw [frT_le h.lk' h.ps' led' h3' ax ha 1 k (by omega)] at q
  rw [frT_le h.lk h.ps led h3 ax ha 1 k hk]
  exact ⟨by decide,fun m hm hL=>((kn_iff (h3.at m) (h3'.at m)).1 (hl m hm)).1 (q.2 m (by omega) ((h.leads _ _ _ hm hk).1 hL))⟩
 ·intro q
  rw [frT_le h.lk h.ps led h3 ax ha 0 k hk] at q
  rw [frT_le h.lk' h.ps' led' h3' ax ha 0 k (by omega)]
  exact ⟨by decide,fun m hm hL=>((kn_iff (h3.at m) (h3'.at m)).1 (hl m (key m hm hL))).2 (q.2 m (key m hm hL) ((h.leads _ _ _ (key m hm hL) hk).2 hL))⟩
theorem path_mono (h:Gr hs hs' rs rs') (hp:1 ≤ hs.length) (f:Nat) (ss:List PS) (hg:∀ s ∈ ss,goodSB (goodXB f) s = true):∀ j,j ≤ ss.length → ∀ k,k < hs.length → Kn ((pathT (exprT hs f) hs ss j).getD k 0) ((pathT (exprT hs' f) hs' ss j).getD k 0):=by
 have hle:=h.len
 intro j
 induction j with
 | zero =>
  intro _ k hk
  rw [pathT_zero,pathT_zero]
  unfold led0
  rw [rowOf_getD _ _ _ hk,rowOf_getD _ _ _ (by omega)]
  exact Kn.rfl
 | succ j ih =>
  intro hj k hk
  have hgs:=hg _ (List.getElem_mem (show j < ss.length by omega))
  unfold goodSB at hgs
  simp only [Bool.and_eq_true,decide_eq_true_eq] at hgs
  rw [pathT_succ _ _ _ _ (by omega),pathT_succ _ _ _ _ (by omega)]
  have p3:=pathT_3 (exprT hs f) hs ss j (by omega)
  have p3':=pathT_3 (exprT hs' f) hs' ss j (by omega)
  unfold ledT
  refine met_mono h _ _ _ _ _ (rowOf_3 _ _ fun k=>frT_3 _ p3 _ k) (rowOf_3 _ _ fun k=>frT_3 _ p3' _ k) (fun i hi=>?_) (fun y hy=>⟨exprT_3 hp f y,exprT_3 (by omega) f y,expr_mono h hp f y (List.all_eq_true.1 hgs.2 y hy)⟩) k hk
  rw [rowOf_getD _ _ _ hi,rowOf_getD _ _ _ (by omega)]
  exact fr_mono h _ _ p3 p3' (ih (by omega)) _ ⟨hgs.1.1.1.1.1,hgs.1.1.1.1.2⟩ i hi
end
end Go.Proofs.YtgjokdngbocehaaGreatDoor
