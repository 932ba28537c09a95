/-
  append([]byte{}, b...): a copy.
-/
import Derived.Test.YtlomcmichbnkaaaGreatDoorCutsP
import Derived.Test.YtlomcmichbnkaaaGreatDoorGenC
namespace Go.Proofs.YtlomcmichbnkaaaGreatDoor
open Go.RowKit

theorem own_sl' {w : World} {base : Nat} {e : TypeId} {v : Value} {n : Nat} {xs : List Value} (h : w.ownsRow base e 1 v n xs) :
    ∃ a c, v = .slice a n c ∧ n ≤ c ∧ Sl w a n xs := by
  obtain ⟨a, c, rfl, hs⟩ := own_sl h
  refine ⟨a, c, rfl, ?_, hs⟩
  rcases h.2 with ⟨e1, e2⟩ | ⟨g, cap, cur, e1, _, _, h5, _⟩
  · omega
  · injection e1 with _ _ e4; omega
theorem own_empty (w : World) (base : Nat) (hb : base ≤ w.heap.size) (e : TypeId) : (w.alloc (.cells #[] e)).ownsRow base e 1 (.slice (some ⟨w.heap.size, 0, none⟩) 0 0) 0 [] :=
  ⟨rfl, .inr ⟨w.heap.size, 0, #[], rfl, hb, heap_alloc_new w _, Nat.le_refl _, by unfold maxLen; omega, rfl, rfl⟩⟩
theorem u8s_append (l m : List UInt8) : u8s (l ++ m) = u8s l ++ u8s m := by simp [u8s]
theorem u8s_one (l : List UInt8) : ∀ u ∈ u8s l, u.oneCell' = true := by
  intro u hu
  obtain ⟨b, _, rfl⟩ := List.mem_map.1 hu
  rfl

theorem info_u8c : (Tryz.prog.info? 5).map (fun i => (i.zero, i.size, i.bytes)) = some (some (.int .u8 0), 1, 1) := by kernel_rfl
theorem Sl.take {w : World} {a : Option Addr} {n : Nat} {l : List UInt8} (h : Sl w a n (u8s l)) (i : Nat) (hi : i ≤ n) : Sl w a i (u8s (l.take i)) := by
  have hn : n = l.length := by have := h.len; rw [u8s_length] at this; exact this
  have hl : (l.take i).length = i := by rw [List.length_take]; omega
  refine ⟨by rw [u8s_length, hl], fun j hj => ?_⟩
  rw [u8s_length, hl] at hj
  obtain ⟨b, o, e, hlt, hc⟩ := h.cell j (by rw [u8s_length]; omega)
  refine ⟨b, o, e, hlt, ?_⟩
  rw [hc]
  simp [u8s]
/-- of a copy's append: what the walk goes on with -/
theorem wpList_copy {w : World} {ops : Array Oper} {rest : List Oper} {o : Oper} {a : Act} {Q : Exit → Act → World → Prop} (hgd : o.guard = none) (s x : Operand)
    (ho : o.op = .call { callee := .builtin .append, args := #[s, x], argTypes := #[31, 31] })
    (base : Nat) (v : Value) (n : Nat) (l : List UInt8) (hs : a.eval s = v) (hown : w.ownsRow base 5 1 v n (u8s l))
    (A : Option Addr) (m c : Nat) (news : List UInt8) (hx : a.eval x = .slice A m c) (hl : Sl w A m (u8s news))
    (hn : n + m ≤ 4294967296) (hbase : base ≤ w.heap.size)
    (h : ∀ A' C' w', w'.ownsRow base 5 1 (.slice A' (n + m) C') (n + m) (u8s (l ++ news)) → n + m ≤ C' → Sl w' A' (n + m) (u8s (l ++ news)) → Below base w w' → wpList Tryz.prog ops Q rest (a.put o.dst (.slice A' (n + m) C')) w') :
    wpList Tryz.prog ops Q (o :: rest) a w := by
  obtain ⟨i, hi, hz0, hz1, hz2⟩ : ∃ i, Tryz.prog.info? 5 = some i ∧ i.zero = some (.int .u8 0) ∧ i.size = 1 ∧ i.bytes = 1 := by
    have h := info_u8c
    cases hi : Tryz.prog.info? 5 with
    | none => rw [hi] at h; cases h
    | some i => rw [hi] at h; simp at h; exact ⟨i, rfl, h⟩
  have hlt := hown.lt
  refine wpList_app_sl w hgd s x 31 ho base 5 i (.int .u8 0) 1 Tryz.underlying31 hi hz0 hz1 hz2 rfl v n (u8s l) hs hown A m c (u8s news) hx hl (u8s_one news) hn (by decide) hbase fun v' w' h1 h2 => ?_
  rw [← u8s_append] at h1
  obtain ⟨A', C', rfl, h3, h4⟩ := own_sl' h1
  exact h A' C' w' h1 h3 h4 ((Below.refl base w).grown h2 hbase fun k hk => (hlt k hk).1)

end Go.Proofs.YtlomcmichbnkaaaGreatDoor
