/-
  gimletref09: Along.
-/
import Derived.Test.YtgjokdngbocehaaGreatDoorHsE
import Derived.Test.YtgjokdngbocehaaGreatDoorHsH
import Derived.Test.YtgjokdngbocehaaGreatDoorHsL
import Derived.Test.YtgjokdngbocehaaGreatDoorHsO
import Derived.Test.YtgjokdngbocehaaGreatDoorHsV
namespace Go.Proofs.YtgjokdngbocehaaGreatDoor
open Go.RowKit
def keepR (p:Nat → Int) (v x:Int) (m:Int):Bool:=decide (x = 1) || decide (x = 2) || (decide (x = 0) && decide (p m.toNat = v))
def alongR (L:Nat) (f:Nat → Nat) (p:Nat → Int) (v x:Int):List Int :=
 if v < -1 ∨ (L:Int) ≤ v then [] else (if x = 2 ∨ x = 3 then [v] else []) ++ (rngL (v + 1).toNat (hiOf L f v)).filter (keepR p v x)
section
variable {L:Nat} {f:Nat → Nat} {p:Nat → Int}
theorem filt_none {l:List Int} {q:Int → Bool} (h:∀ x ∈ l,q x = false):l.filter q = []:=by
 rw [List.filter_eq_nil_iff]
 intro x hx
 rw [h x hx];simp
theorem filt_all {l:List Int} {q:Int → Bool} (h:∀ x ∈ l,q x = true):l.filter q = l:=by
 rw [List.filter_eq_self];exact h
theorem rngL_mem {a b:Nat} {x:Int} (h:x ∈ rngL a b):∃ i:Nat,x = (i:Int) ∧ a ≤ i ∧ i < b:=by
 unfold rngL at h
 obtain ⟨i,hi,rfl⟩:=List.mem_map.1 h
 rw [List.mem_range'_1] at hi
 exact ⟨i,rfl,hi.1,by omega⟩
theorem steps_filt (h:AxF L f p) {n:Int} (hn1:-1 ≤ n) (hn:n < L):∀ m k,hiOf L f n ≤ k + m → n < k → (k < hiOf L f n → p k = n) → stepsF (nextOf f 0) (hiOf L f n) m k = (rngL k (hiOf L f n)).filter (keepR p n 0)
 | 0,k,hm,_,_=>by rw [rngL_nil (by omega)];rfl
 | m + 1,k,hm,hnk,hp=>by
  by_cases hk:k < hiOf L f n
  ·have hkL:k < L:=Nat.lt_of_lt_of_le hk (hiOf_le h.rng hn)
   have hpk:=hp hk
   have hins:=h.ins k hkL
   rw [hpk] at hins
   have hins':f k < hiOf L f n:=hins
   have hrk:=h.rng k hkL
   have hnx:nextOf f 0 k = f k + 1:=by unfold nextOf;rw [if_pos rfl]
   have hsib:=h.sib k hkL
   rw [hpk] at hsib
   rw [stepsF_at hk (by omega),Nat.add_sub_cancel,hnx,steps_filt h hn1 hn m (f k + 1) (by omega) (by omega) hsib]
   rw [rngL_cons hk,← rngL_app (f k - k) (k + 1) (f k + 1) (hiOf L f n) (by omega) (by omega),List.filter_cons,List.filter_append]
   rw [if_pos (by unfold keepR;simp [hpk]),filt_none (l:=rngL (k + 1) (f k + 1)) (fun x hx=>?_),List.nil_append]
   obtain ⟨i,rfl,hi1,hi2⟩:=rngL_mem hx
   have:=par_ge h k hkL i (by omega) (by omega)
   unfold keepR
   simp
   omega
  ·rw [stepsF_end (by omega),rngL_nil (by omega)];rfl
theorem alongR_eq (h:AxF L f p) (v x:Int):alongR L f p v x = alongM L f v x:=by
 unfold alongR
 by_cases hv:v < -1 ∨ (L:Int) ≤ v
 ·rw [if_pos hv];unfold alongM;rw [if_pos (by omega)]
 rw [if_neg hv]
 by_cases hx:x < 0 ∨ 3 < x
 ·rw [if_neg (by omega),filt_none (fun y _=>by unfold keepR;simp;omega)]
  unfold alongM
  rw [if_pos (by omega)]
  rfl
 have hle:=hiOf_le h.rng (n:=v) (by omega)
 obtain rfl | rfl | rfl | rfl:x = 0 ∨ x = 1 ∨ x = 2 ∨ x = 3:=by omega
 ·rw [if_neg (by omega)]
  unfold alongM
  rw [if_neg (by omega),if_neg (by omega),if_neg (by omega),List.nil_append,List.nil_append]
  refine (steps_filt h (by omega) (by omega) L _ (by omega) (by omega) (fun hk=>?_)).symm
  by_cases hn:v = -1
  ·subst hn
   exact h.root (by omega)
  ·have e1:(v + 1).toNat = v.toNat + 1:=by omega
   have e2:hiOf L f v = f v.toNat + 1:=by unfold hiOf;rw [if_neg (by omega)]
   rw [e1,e2] at hk
   rw [e1,h.first v.toNat (by omega) (by omega)]
   omega
 ·rw [if_neg (by omega),filt_all (fun y _=>by unfold keepR;simp),alongM_desc h.rng (by omega) (by omega)]
  rfl
 ·rw [if_pos (by omega),filt_all (fun y _=>by unfold keepR;simp),alongM_orself h.rng (by omega) (by omega),alongM_desc h.rng (by omega) (by omega)]
  rfl
 ·rw [if_pos (by omega),filt_none (fun y _=>by unfold keepR;simp),alongM_self (by omega) (by omega)]
  rfl
end
end Go.Proofs.YtgjokdngbocehaaGreatDoor
namespace Go.Proofs.YtgjokdngbocehaaGreatDoor
open Go.RowKit
theorem along_rng {L:Nat} {f:Nat → Nat} {p:Nat → Int} (h:∀ i,i < L → i ≤ f i ∧ f i < L) (v x:Int) (hv:-1 ≤ v):∀ u ∈ alongR L f p v x,-1 ≤ u ∧ u < (L:Int) ∨ (u = -1 ∧ v = -1):=by
 intro u hu
 unfold alongR at hu
 split at hu
 ·cases hu
 ·rename_i hvv
  rcases List.mem_append.1 hu with hu | hu
  ·split at hu
   ·obtain rfl:=List.mem_singleton.1 hu
    exact .inl ⟨hv,by omega⟩
   ·cases hu
  ·obtain ⟨i,rfl,h1,h2⟩:=rngL_mem ((List.mem_filter.1 hu).1)
   have:=hiOf_le h (n:=v) (by omega)
   exact .inl ⟨by omega,by omega⟩
end Go.Proofs.YtgjokdngbocehaaGreatDoor
namespace Go.Proofs.YtgjokdngbocehaaGreatDoor
open Go.RowKit
theorem eq_of_le_iff {a b:Int} (h:∀ c,a ≤ c ↔ b ≤ c):a = b:=Int.le_antisymm ((h b).2 (Int.le_refl _)) ((h a).1 (Int.le_refl _))
section
variable {hs:List HN} {rs:List RN}
theorem hiH (rs:List RN) (m:Nat):hiOf rs.length (lastR rs) ((m:Int) - 1) = lastH rs m:=by
 unfold hiOf lastH
 by_cases h0:m = 0
 ·subst h0;rfl
 ·rw [if_neg (by omega),if_neg h0]
  have:((m:Int) - 1).toNat = m - 1:=by omega
  rw [this]
end
end Go.Proofs.YtgjokdngbocehaaGreatDoor
