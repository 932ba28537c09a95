/-
  append of a whole row of one-cell values, wherever it lies (nil, too), onto a row that is owned.
-/
import Derived.Test.YtlomcmichbnkaaaGreatDoorGenB
import Derived.Deep.Upon
namespace Go.Proofs.YtlomcmichbnkaaaGreatDoor
open Go.RowKit

/-- what an owned row's block does not touch -/
theorem wpList_app_sl {P : Program} (w : World) {ops : Array Oper} {rest : List Oper} {o : Oper} {a : Act} {Q : Exit → Act → World → Prop} (hgd : o.guard = none) (s x : Operand) (t : TypeId)
    (ho : o.op = .call { callee := .builtin .append, args := #[s, x], argTypes := #[t, t] })
    (base : Nat) (e : TypeId) (i : TypeInfo) (z : Value) (bytes : Nat) (ht : P.underlying t = some (.slice e)) (hi : P.info? e = some i) (hz : i.zero = some z)
    (hsize : i.size = 1) (hby : i.bytes = bytes) (hzs : z.cells.size = 1)
    (v : Value) (n : Nat) (xs : List Value) (hs : a.eval s = v) (hown : w.ownsRow base e 1 v n xs)
    (A : Option Addr) (m c : Nat) (news : List Value) (hx : a.eval x = .slice A m c) (hl : Sl w A m news) (h1 : ∀ u ∈ news, u.oneCell' = true)
    (hn : n + m ≤ 4294967296) (hbb : bytes ≤ 16384) (hbase : base ≤ w.heap.size)
    (h : ∀ v' w', w'.ownsRow base e 1 v' (n + m) (xs ++ news) → w.grownBy w' v.ownBlock → wpList P ops Q rest (a.put o.dst v') w') :
    wpList P ops Q (o :: rest) a w := by
  have hb : (n + m) * bytes ≤ 140737488355328 := Nat.le_trans (Nat.mul_le_mul hn hbb) (by decide)
  rcases A with _ | ad
  · -- nothing is appended
    have hnews : news = [] := by
      rcases news with _ | ⟨u, us⟩
      · rfl
      · obtain ⟨_, _, he, _⟩ := hl.cell 0 (by simp)
        cases he
    subst hnews
    have hm : m = 0 := hl.len
    subst hm
    obtain ⟨av, cv, rfl, _⟩ := own_sl hown
    refine wpList_plain hgd fun K hK' => ?_
    have hle : n ≤ cv := by
      rcases hown.2 with ⟨e1, e2⟩ | ⟨g, cap, cur, e1, _, _, h5, _⟩
      · injection e1 with _ e3 e4; omega
      · injection e1 with _ _ e4; omega
    have hrun := run_append_nothing (P := P) w t t o.type e i ht hi av n cv hle _ (Src.ofNil (P := P) (size := i.size) w ht c)
    unfold Oper.wp
    simp [execOp, ho, resolve, invoke, builtin, hs, hx, hrun, Result.andThen]
    exact hK' _ _ (h _ _ (by simpa using hown) ⟨rfl, rfl, rfl, Nat.le_refl _, fun _ _ _ => rfl⟩)
  · refine wpList_append_own (P := P) w hgd s x t ho base e i z 1 bytes ht hi hz hsize hby hzs (by decide) v n xs hs hown ad m c news hx (by have := hl.len; omega) ?_ h1 (by unfold maxLen; omega) hb hbase fun v' w' h2 h3 _ => h v' w' h2 h3
    intro j u hj
    obtain ⟨hj1, hj2⟩ := List.getElem?_eq_some_iff.1 hj
    obtain ⟨b, off, he, _, hc⟩ := hl.cell j hj1
    injection he with he
    subst he
    rw [Addr.add_lit, hc, hj2]
end Go.Proofs.YtlomcmichbnkaaaGreatDoor
