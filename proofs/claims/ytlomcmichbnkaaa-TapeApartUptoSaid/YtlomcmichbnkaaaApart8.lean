/-
  gimletlaw21.TapeApart: its eighth region alone (what the two tapes say of themselves).
-/
import Derived.Test.YtlomcmichbnkaaaLawTapeA
import Derived.Test.YtlomcmichbnkaaaOpenE
import Derived.BigRegion
import Derived.Deep.RegionHeld3
namespace Go.Proofs.Ytlomcmichbnkaaa
open Go.RowKit

/-- the region of this number -/
def regNo (n : Nat) : Code → Option Code
  | .region id ops b => if id == n then some (.region id ops b) else none
  | .seq a b => match regNo n a with
    | some c => some c
    | none => regNo n b
  | .loop c => regNo n c
  | .block _ c => regNo n c
  | .scope c => regNo n c
  | .cond _ a b => match regNo n a with
    | some c => some c
    | none => regNo n b
  | _ => none
noncomputable def reg8 : Code := ((Try.f3.body.bind (regNo 8)).getD .skip)

set_option maxRecDepth 1000000 in
set_option maxHeartbeats 8000000 in
theorem apart8 (SInv : World → Prop) (q3 q4 tb ub LA LB : Nat) (oa ob : List UInt8) (ek en ed efr ett : Int) (ename etext : List UInt8) (A : Option Addr) (m c : Nat) (fk fn fd ffr ftt : Int) (fname ftext : List UInt8) (B : Option Addr) (m2 c2 : Nat)
    (u0 u1 u2 u5 u6 u9 u10 u11 u12 u13 u14 u15 u16 u17 u18 u19 u20 u21 u22 u23 u24 u25 u26 u27 u28 u29 u30 u31 u32 u33 u34 u35 u36 u37 u38 u39 u40 u41 u42 u43 u44 u45 u46 u47 u48 u49 u50 u51 u52 u53 u54 u55 u56 u57 u58 u59 u60 u61 u62 u63 u64 u65 u66 u67 u68 u69 u70 u71 u72 u73 u74 u75 u76 u77 u78 u79 u80 u81 u82 u83 u84 u85 u86 u87 u88 u89 u90 u91 u92 u93 u94 u95 u96 u97 u98 u99 u100 u101 u102 u103 u104 u105 u106 u107 u108 u109 u110 u111 u112 u113 u114 : Value)
    (za : (strL oa).size = LA) (zb : (strL ob).size = LB) (el : IntKind.i64.wrap ((LA : Int) + (LB : Int)) = (LA : Int) + (LB : Int))
    (KPt : Hid (∀ w', SInv w' → Calls Try.prog 7 #[.pointer (some ⟨tb, 0, none⟩)] w' fun e w'' => e = .returned (.int .i64 ((LA : Int) + (LB : Int))) ∧ SInv w''))
    (KPu : Hid (∀ w', SInv w' → Calls Try.prog 7 #[.pointer (some ⟨ub, 0, none⟩)] w' fun e w'' => e = .returned (.int .i64 (LB : Int)) ∧ SInv w''))
    (KH : Hid (∀ w', SInv w' → Calls Try.prog 10 #[.pointer (some ⟨tb, 0, none⟩)] w' fun e w'' => e = .returned (.int .i64 ((LA : Int) + (LB : Int))) ∧ SInv w''))
    (KD : Hid (∀ w', SInv w' → Calls Try.prog 9 #[.pointer (some ⟨ub, 0, none⟩), .int .i64 (LB : Int)] w' fun e w'' => e = .returned (.int .i64 0) ∧ SInv w''))
    (KEa : Hid (∀ w', SInv w' → Calls Try.prog 8 #[.agg #[.int .i64 ek, .int .i64 en, .int .i64 ed, .string (strL ename), .slice A m c, .string (strL etext), .int .i64 efr, .int .i64 ett]] w' fun e w'' => e = .returned (.string (strL oa)) ∧ SInv w''))
    (KEb : Hid (∀ w', SInv w' → Calls Try.prog 8 #[.agg #[.int .i64 fk, .int .i64 fn, .int .i64 fd, .string (strL fname), .slice B m2 c2, .string (strL ftext), .int .i64 ffr, .int .i64 ftt]] w' fun e w'' => e = .returned (.string (strL ob)) ∧ SInv w''))
    (MKS : Hid (∀ w', SInv w' → w'.cell? ⟨q3, 0, none⟩ = some (.int .i64 ek) ∧ w'.cell? ⟨q3, 1, none⟩ = some (.int .i64 en) ∧ w'.cell? ⟨q3, 2, none⟩ = some (.int .i64 ed) ∧ w'.cell? ⟨q3, 3, none⟩ = some (.string (strL ename)) ∧ w'.cell? ⟨q3, 4, none⟩ = some (.slice A m c) ∧ w'.cell? ⟨q3, 5, none⟩ = some (.string (strL etext)) ∧ w'.cell? ⟨q3, 6, none⟩ = some (.int .i64 efr) ∧ w'.cell? ⟨q3, 7, none⟩ = some (.int .i64 ett) ∧ w'.cell? ⟨q4, 0, none⟩ = some (.int .i64 fk) ∧ w'.cell? ⟨q4, 1, none⟩ = some (.int .i64 fn) ∧ w'.cell? ⟨q4, 2, none⟩ = some (.int .i64 fd) ∧ w'.cell? ⟨q4, 3, none⟩ = some (.string (strL fname)) ∧ w'.cell? ⟨q4, 4, none⟩ = some (.slice B m2 c2) ∧ w'.cell? ⟨q4, 5, none⟩ = some (.string (strL ftext)) ∧ w'.cell? ⟨q4, 6, none⟩ = some (.int .i64 ffr) ∧ w'.cell? ⟨q4, 7, none⟩ = some (.int .i64 ftt) ∧ SInv w'))
    (w7 : World) (hS7d : SInv w7.drew) (Q : Exit → Act → World → Prop)
    (hQ : ∀ w', SInv w' → Q .normal ⟨#[u0, u1, u2, .pointer (some ⟨q3, 0, none⟩), .pointer (some ⟨q4, 0, none⟩), u5, u6, .pointer (some ⟨tb, 0, none⟩), .pointer (some ⟨ub, 0, none⟩), u9, u10, u11, u12, u13, u14, u15, u16, u17, u18, u19, u20, u21, u22, u23, u24, u25, u26, u27, u28, u29, u30, u31, u32, u33, u34, u35, u36, u37, u38, u39, u40, u41, u42, u43, u44, u45, u46, u47, .pointer (some ⟨tb, 0, none⟩), .int .i64 ((LA : Int) + (LB : Int)), .agg #[.int .i64 ek, .int .i64 en, .int .i64 ed, .string (strL ename), .slice A m c, .string (strL etext), .int .i64 efr, .int .i64 ett], .string (strL oa), .int .i64 (LA : Int), .agg #[.int .i64 fk, .int .i64 fn, .int .i64 fd, .string (strL fname), .slice B m2 c2, .string (strL ftext), .int .i64 ffr, .int .i64 ftt], .string (strL ob), .int .i64 (LB : Int), .int .i64 ((LA : Int) + (LB : Int)), .bool false, .bool false, .pointer (some ⟨ub, 0, none⟩), .int .i64 (LB : Int), .agg #[.int .i64 fk, .int .i64 fn, .int .i64 fd, .string (strL fname), .slice B m2 c2, .string (strL ftext), .int .i64 ffr, .int .i64 ftt], .string (strL ob), .int .i64 (LB : Int), .bool false, .bool false, .bool false, .pointer (some ⟨ub, 0, none⟩), .pointer (some ⟨ub, 0, none⟩), .int .i64 (LB : Int), .int .i64 0, .bool false, .bool false, .bool false, .pointer (some ⟨tb, 0, none⟩), .int .i64 ((LA : Int) + (LB : Int)), .pointer (some ⟨tb, 0, none⟩), .int .i64 ((LA : Int) + (LB : Int)), .bool false, .bool false, u80, u81, u82, u83, u84, u85, u86, u87, u88, u89, u90, u91, u92, u93, u94, u95, u96, u97, u98, u99, u100, u101, u102, u103, u104, u105, u106, u107, u108, u109, u110, u111, u112, u113, u114], []⟩ w') :
    Code.wp Try.prog reg8 Q ⟨#[u0, u1, u2, .pointer (some ⟨q3, 0, none⟩), .pointer (some ⟨q4, 0, none⟩), u5, u6, .pointer (some ⟨tb, 0, none⟩), .pointer (some ⟨ub, 0, none⟩), u9, u10, u11, u12, u13, u14, u15, u16, u17, u18, u19, u20, u21, u22, u23, u24, u25, u26, u27, u28, u29, u30, u31, u32, u33, u34, u35, u36, u37, u38, u39, u40, u41, u42, u43, u44, u45, u46, u47, u48, u49, u50, u51, u52, u53, u54, u55, u56, u57, u58, u59, u60, u61, u62, u63, u64, u65, u66, u67, u68, u69, u70, u71, u72, u73, u74, u75, u76, u77, u78, u79, u80, u81, u82, u83, u84, u85, u86, u87, u88, u89, u90, u91, u92, u93, u94, u95, u96, u97, u98, u99, u100, u101, u102, u103, u104, u105, u106, u107, u108, u109, u110, u111, u112, u113, u114], []⟩ w7 := by
  conv => arg 2; whnf
  have HQ := Lib.hid hQ
  clear hQ
  go_region_held3 (fun w' => w'.cell? ⟨q3, 0, none⟩ = some (.int .i64 ek) ∧ w'.cell? ⟨q3, 1, none⟩ = some (.int .i64 en) ∧ w'.cell? ⟨q3, 2, none⟩ = some (.int .i64 ed) ∧ w'.cell? ⟨q3, 3, none⟩ = some (.string (strL ename)) ∧ w'.cell? ⟨q3, 4, none⟩ = some (.slice A m c) ∧ w'.cell? ⟨q3, 5, none⟩ = some (.string (strL etext)) ∧ w'.cell? ⟨q3, 6, none⟩ = some (.int .i64 efr) ∧ w'.cell? ⟨q3, 7, none⟩ = some (.int .i64 ett) ∧ w'.cell? ⟨q4, 0, none⟩ = some (.int .i64 fk) ∧ w'.cell? ⟨q4, 1, none⟩ = some (.int .i64 fn) ∧ w'.cell? ⟨q4, 2, none⟩ = some (.int .i64 fd) ∧ w'.cell? ⟨q4, 3, none⟩ = some (.string (strL fname)) ∧ w'.cell? ⟨q4, 4, none⟩ = some (.slice B m2 c2) ∧ w'.cell? ⟨q4, 5, none⟩ = some (.string (strL ftext)) ∧ w'.cell? ⟨q4, 6, none⟩ = some (.int .i64 ffr) ∧ w'.cell? ⟨q4, 7, none⟩ = some (.int .i64 ftt) ∧ SInv w') (first | exact MKS.out _ ‹_› | (refine MKS.out _ ?_; assumption) | go_keep)
      (first
        | (go_at_call 7; (with_reducible refine (KPt.out _ ?_).mono ?_); (assumption); rintro e wz ⟨rfl, hs⟩)
        | (go_at_call 7; (with_reducible refine (KPu.out _ ?_).mono ?_); (assumption); rintro e wz ⟨rfl, hs⟩)
        | (go_at_call 10; (with_reducible refine (KH.out _ ?_).mono ?_); (assumption); rintro e wz ⟨rfl, hs⟩)
        | (go_at_call 9; (with_reducible refine (KD.out _ ?_).mono ?_); (assumption); rintro e wz ⟨rfl, hs⟩)
        | (go_at_call 8; (with_reducible refine (KEa.out _ ?_).mono ?_); (assumption); rintro e wz ⟨rfl, hs⟩)
        | (go_at_call 8; (with_reducible refine (KEb.out _ ?_).mono ?_); (assumption); rintro e wz ⟨rfl, hs⟩))
  exact HQ.out _ ‹_›
#print axioms apart8
end Go.Proofs.Ytlomcmichbnkaaa
