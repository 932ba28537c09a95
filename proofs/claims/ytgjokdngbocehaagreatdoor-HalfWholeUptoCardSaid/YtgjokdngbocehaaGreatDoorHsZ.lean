/-
  The plain law: the answer's query is half's way forth.
-/
import Derived.Test.YtgjokdngbocehaaGreatDoorHsE
import Derived.Test.YtgjokdngbocehaaGreatDoorHsH
import Derived.Test.YtgjokdngbocehaaGreatDoorHsL
import Derived.Test.YtgjokdngbocehaaGreatDoorHsN
import Derived.Test.YtgjokdngbocehaaGreatDoorHsO
import Derived.Test.YtgjokdngbocehaaGreatDoorHsV
import Derived.Test.YtgjokdngbocehaaGreatDoorHsW
import Derived.Test.YtgjokdngbocehaaGreatDoorHsX
namespace Go.Proofs.YtgjokdngbocehaaGreatDoor
open Go.RowKit
section
variable {hs:List HN} {rs:List RN}
theorem leads_iff (h:Lk hs rs) (ax:Int) (ha:0 ≤ ax ∧ ax ≤ 3) (m k:Nat) (hm:m < hs.length):(∃ u ∈ alongR rs.length (lastR rs) (parR rs) ((m:Int) - 1) ax,(u + 1).toNat = k) ↔ Leads hs rs ax m k:=by
 have hl:=h.len
 unfold alongR
 rw [if_neg (by omega),hiH rs m]
 have e0:((m:Int) - 1 + 1).toNat = m:=by omega
 rw [e0]
 unfold Leads
 constructor
 ·rintro ⟨u,hu,rfl⟩
  rcases List.mem_append.1 hu with hu | hu
  ·left
   split at hu
   ·rename_i hx
    have:=List.mem_singleton.1 hu
    subst this
    exact ⟨by omega,e0⟩
   ·cases hu
  ·right
   obtain ⟨h1,h2⟩:=List.mem_filter.1 hu
   obtain ⟨i,rfl,k1,k2⟩:=rngL_mem h1
   have e1:((i:Int) + 1).toNat = i + 1:=by omega
   have hkg:=h.hg m (i + 1) hm (by omega) (by omega)
   rw [e1]
   unfold keepR at h2
   simp at h2
   have hp:=h.par i (by omega)
   have hpl:=h.ax.plt i (by omega)
   refine ⟨?_,by omega,by omega,fun hx=>?_⟩
   ·rcases h2 with (h2 | h2) | h2 <;> omega
   ·rcases h2 with (h2 | h2) | h2 <;> omega
 ·rintro (⟨h1,rfl⟩ | ⟨h1,h2,h3,h4⟩)
  ·refine ⟨(k:Int) - 1,List.mem_append_left _ ?_,e0⟩
   rw [if_pos (by omega)]
   exact List.mem_singleton.2 rfl
  ·obtain ⟨i,rfl⟩:∃ i,k = i + 1:=⟨k - 1,by omega⟩
   have hkg:=h.hg m (i + 1) hm h2 h3
   refine ⟨(i:Int),List.mem_append_right _ (List.mem_filter.2 ⟨?_,?_⟩),by omega⟩
   ·unfold rngL
    exact List.mem_map.2 ⟨i,List.mem_range'_1.2 ⟨by omega,by omega⟩,rfl⟩
   ·unfold keepR
    have hp:=h.par i (by omega)
    have hpl:=h.ax.plt i (by omega)
    have:ax = 0 ∨ ax = 1 ∨ ax = 2:=by omega
    rcases this with rfl | rfl | rfl
    ·have:=h4 rfl
     simp;omega
    ·simp
    ·simp
end
end Go.Proofs.YtgjokdngbocehaaGreatDoor
