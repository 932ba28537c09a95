/-
  (*tree.Check).opens: its sixth region, in the cases that skip operations.
-/
import Derived.Test.YtekoflcioooncaaDoorMxH
import Derived.Deep.RegionHeld3
namespace Go.Proofs.YtekoflcioooncaaDoor
open Go.RowKit

def regNo6 (n : Nat) : Code → Option Code
  | .region id ops b => if id == n then some (.region id ops b) else none
  | .seq a b => match regNo6 n a with
    | some c => some c
    | none => regNo6 n b
  | .loop c => regNo6 n c
  | .block _ c => regNo6 n c
  | .scope c => regNo6 n c
  | .cond _ a b => match regNo6 n a with
    | some c => some c
    | none => regNo6 n b
  | _ => none
noncomputable def opens6 : Code := ((Tryd.f54.body.bind (regNo6 6)).getD .skip)

set_option maxRecDepth 1000000 in
set_option maxHeartbeats 4000000 in
theorem opens6_zero (SInv : World → Prop) (eb ab : Nat) (nm vl : ByteArray) (u0 u1 u2 u4 u7 u8 u9 u10 u11 u12 u13 u14 u15 u16 u17 u18 u19 u20 u21 u22 u23 u24 u25 u26 u27 u28 u29 u30 u31 u32 u33 u34 u35 u36 u37 u38 u39 u40 u41 u42 u43 u44 u45 u46 u47 u48 u49 u50 u51 u52 u53 u54 u55 u56 u57 u58 u59 u60 u61 u62 u63 u64 u65 u66 u67 u68 u69 u70 : Value) (w : World)
    (HC : Hid (∀ w', SInv w' → w'.cell? ⟨ab, 0, none⟩ = some (.string nm) ∧ w'.cell? ⟨ab, 1, none⟩ = some (.string vl) ∧ SInv w'))
    (HNK : Hid (∀ w', SInv w' → Calls Tryd.prog 75 #[.string nm] w' fun e w'' => e = .returned (.bool true) ∧ SInv w''))
    (HTK : Hid (∀ w', SInv w' → Calls Tryd.prog 55 #[.string vl] w' fun e w'' => e = .returned (.bool true) ∧ SInv w''))
    (hS : SInv w.drew) (Q : Exit → Act → World → Prop) (hQ : Hid (∀ w', SInv w' → Q .normal ⟨#[u0, u1, u2, .pointer (some ⟨eb, 0, none⟩), u4, .int .i64 0, .pointer (some ⟨ab, 0, none⟩), u7, u8, u9, u10, u11, u12, u13, u14, u15, u16, u17, u18, u19, u20, u21, u22, u23, u24, u25, u26, u27, u28, u29, u30, u31, u32, u33, u34, u35, u36, u37, u38, u39, u40, u41, u42, u43, .pointer (some ⟨ab, 0, none⟩), .string nm, .bool true, .bool false, .bool false, .pointer (some ⟨ab, 1, none⟩), .string vl, .bool true, .bool false, .bool false, .bool false, .int .i64 0, .bool false, .bool false, undef, undef, undef, undef, undef, undef, undef, undef, undef, undef, .bool false, .bool false, u70], []⟩ w')) :
    Code.wp Tryd.prog opens6 Q ⟨#[u0, u1, u2, .pointer (some ⟨eb, 0, none⟩), u4, .int .i64 0, .pointer (some ⟨ab, 0, none⟩), u7, u8, u9, u10, u11, u12, u13, u14, u15, u16, u17, u18, u19, u20, u21, u22, u23, u24, u25, u26, u27, u28, u29, u30, u31, u32, u33, u34, u35, u36, u37, u38, u39, u40, u41, u42, u43, u44, u45, u46, u47, u48, u49, u50, u51, u52, u53, u54, u55, u56, u57, u58, u59, u60, u61, u62, u63, u64, u65, u66, u67, u68, u69, u70], []⟩ w := by
  conv => arg 2; whnf
  have HQ0 := hQ.out
  refine wp_region_noPanic ?_
  refine wp_region_held_drew (S := (fun w' => w'.cell? ⟨ab, 0, none⟩ = some (.string nm) ∧ w'.cell? ⟨ab, 1, none⟩ = some (.string vl) ∧ SInv w')) (by kernel_rfl) (HC.out _ hS) (fun hHeld => ?_)
  refine wpAnyH_take (i := 0) (oi := ⟨some 44, _, _, _, _, _⟩) (v := ?_) rfl (by kernel_rfl) (by kernel_rfl) (by kernel_rfl) (fun _ _ _ h => h) (Or.inl ⟨by kernel_rfl, ?_⟩) (by assumption) ?_
  rotate_left
  · intro w hSw; (try dsimp only at hSw); go_simp; try with_reducible rfl
  try simp only [Act.put, List.setIfInBounds_toArray, List.set_cons_zero, List.set_cons_succ]
  refine wpAnyH_take (i := 1) (oi := ⟨some 45, _, _, _, _, _⟩) (v := ?_) rfl (by kernel_rfl) (by kernel_rfl) (by kernel_rfl) (fun _ _ _ h => h) (Or.inl ⟨by kernel_rfl, ?_⟩) (by assumption) ?_
  rotate_left
  · intro w hSw; (try dsimp only at hSw); go_simp; try with_reducible rfl
  try simp only [Act.put, List.setIfInBounds_toArray, List.set_cons_zero, List.set_cons_succ]
  refine wpAnyH_ready (rs := [2]) (by kernel_rfl) (by simp) ?_
  refine AllReadyH.cons rfl (fun K hK => ?_) AllReadyH.nil
  go_simp
  (go_at_call 75; (with_reducible refine (HNK.out _ (by first | exact hHeld.2.2)).mono ?_); rintro e w2 ⟨rfl, hs2⟩)
  refine hK.out _ _ (HC.out _ hs2) (fun hHeld2 => ?_)
  clear hK K
  try simp only [Act.put, List.setIfInBounds_toArray, List.set_cons_zero, List.set_cons_succ]
  refine wpAnyH_take (i := 3) (oi := ⟨some 47, _, _, _, _, _⟩) (v := ?_) rfl (by kernel_rfl) (by kernel_rfl) (by kernel_rfl) (fun _ _ _ h => h) (Or.inl ⟨by kernel_rfl, ?_⟩) (by assumption) ?_
  rotate_left
  · intro w hSw; (try dsimp only at hSw); go_simp; try with_reducible rfl
  try simp only [Act.put, List.setIfInBounds_toArray, List.set_cons_zero, List.set_cons_succ]
  refine wpAnyH_take (i := 4) (oi := ⟨some 48, _, _, _, _, _⟩) (v := ?_) rfl (by kernel_rfl) (by kernel_rfl) (by kernel_rfl) (fun _ _ _ h => h) (Or.inl ⟨by kernel_rfl, ?_⟩) (by assumption) ?_
  rotate_left
  · intro w hSw; (try dsimp only at hSw); go_simp; try with_reducible rfl
  try simp only [Act.put, List.setIfInBounds_toArray, List.set_cons_zero, List.set_cons_succ]
  refine wpAnyH_take (i := 5) (oi := ⟨some 49, _, _, _, _, _⟩) (v := ?_) rfl (by kernel_rfl) (by kernel_rfl) (by kernel_rfl) (fun _ _ _ h => h) (Or.inl ⟨by kernel_rfl, ?_⟩) (by assumption) ?_
  rotate_left
  · intro w hSw; (try dsimp only at hSw); go_simp; try with_reducible rfl
  try simp only [Act.put, List.setIfInBounds_toArray, List.set_cons_zero, List.set_cons_succ]
  refine wpAnyH_take (i := 6) (oi := ⟨some 50, _, _, _, _, _⟩) (v := ?_) rfl (by kernel_rfl) (by kernel_rfl) (by kernel_rfl) (fun _ _ _ h => h) (Or.inl ⟨by kernel_rfl, ?_⟩) (by assumption) ?_
  rotate_left
  · intro w hSw; (try dsimp only at hSw); go_simp; try with_reducible rfl
  try simp only [Act.put, List.setIfInBounds_toArray, List.set_cons_zero, List.set_cons_succ]
  refine wpAnyH_ready (rs := [7]) (by kernel_rfl) (by simp) ?_
  refine AllReadyH.cons rfl (fun K hK => ?_) AllReadyH.nil
  go_simp
  (go_at_call 55; (with_reducible refine (HTK.out _ (by first | exact hHeld2.2.2)).mono ?_); rintro e w7 ⟨rfl, hs7⟩)
  refine hK.out _ _ (HC.out _ hs7) (fun hHeld7 => ?_)
  clear hK K
  try simp only [Act.put, List.setIfInBounds_toArray, List.set_cons_zero, List.set_cons_succ]
  refine wpAnyH_take (i := 8) (oi := ⟨some 52, _, _, _, _, _⟩) (v := ?_) rfl (by kernel_rfl) (by kernel_rfl) (by kernel_rfl) (fun _ _ _ h => h) (Or.inl ⟨by kernel_rfl, ?_⟩) (by assumption) ?_
  rotate_left
  · intro w hSw; (try dsimp only at hSw); go_simp; try with_reducible rfl
  try simp only [Act.put, List.setIfInBounds_toArray, List.set_cons_zero, List.set_cons_succ]
  refine wpAnyH_take (i := 9) (oi := ⟨some 53, _, _, _, _, _⟩) (v := ?_) rfl (by kernel_rfl) (by kernel_rfl) (by kernel_rfl) (fun _ _ _ h => h) (Or.inl ⟨by kernel_rfl, ?_⟩) (by assumption) ?_
  rotate_left
  · intro w hSw; (try dsimp only at hSw); go_simp; try with_reducible rfl
  try simp only [Act.put, List.setIfInBounds_toArray, List.set_cons_zero, List.set_cons_succ]
  refine wpAnyH_take (i := 10) (oi := ⟨some 54, _, _, _, _, _⟩) (v := ?_) rfl (by kernel_rfl) (by kernel_rfl) (by kernel_rfl) (fun _ _ _ h => h) (Or.inl ⟨by kernel_rfl, ?_⟩) (by assumption) ?_
  rotate_left
  · intro w hSw; (try dsimp only at hSw); go_simp; try with_reducible rfl
  try simp only [Act.put, List.setIfInBounds_toArray, List.set_cons_zero, List.set_cons_succ]
  refine wpAnyH_take (i := 11) (oi := ⟨some 55, _, _, _, _, _⟩) (v := ?_) rfl (by kernel_rfl) (by kernel_rfl) (by kernel_rfl) (fun _ _ _ h => h) (Or.inl ⟨by kernel_rfl, ?_⟩) (by assumption) ?_
  rotate_left
  · intro w hSw; (try dsimp only at hSw); go_simp; try with_reducible rfl
  try simp only [Act.put, List.setIfInBounds_toArray, List.set_cons_zero, List.set_cons_succ]
  refine wpAnyH_take (i := 12) (oi := ⟨some 56, _, _, _, _, _⟩) (v := ?_) rfl (by kernel_rfl) (by kernel_rfl) (by kernel_rfl) (fun _ _ _ h => h) (Or.inl ⟨by kernel_rfl, ?_⟩) (by assumption) ?_
  rotate_left
  · intro w hSw; (try dsimp only at hSw); go_simp; try with_reducible rfl
  try simp only [Act.put, List.setIfInBounds_toArray, List.set_cons_zero, List.set_cons_succ]
  refine wpAnyH_take (i := 13) (oi := ⟨some 57, _, _, _, _, _⟩) (v := ?_) rfl (by kernel_rfl) (by kernel_rfl) (by kernel_rfl) (fun _ _ _ h => h) (Or.inl ⟨by kernel_rfl, ?_⟩) (by assumption) ?_
  rotate_left
  · intro w hSw; (try dsimp only at hSw); go_simp; try with_reducible rfl
  try simp only [Act.put, List.setIfInBounds_toArray, List.set_cons_zero, List.set_cons_succ]
  refine wpAnyH_skips (fuel := 2) (by kernel_rfl) (fun _ _ _ _ h => h) (by assumption) [14, 15, 16, 17, 18, 19, 20, 21, 22, 23] [some 58, some 59, some 60, some 61, some 62, some 63, some 64, some 65, some 66, some 67] 10 _ _ rfl (by kernel_rfl) ?_
  simp only [listedAfter, putU, Act.put, List.setIfInBounds_toArray, List.set_cons_zero, List.set_cons_succ]
  refine wpAnyH_take (i := 24) (oi := ⟨some 68, _, _, _, _, _⟩) (v := ?_) rfl (by kernel_rfl) (by kernel_rfl) (by kernel_rfl) (fun _ _ _ h => h) (Or.inl ⟨by kernel_rfl, ?_⟩) (by assumption) ?_
  rotate_left
  · intro w hSw; (try dsimp only at hSw); go_simp; try with_reducible rfl
  try simp only [Act.put, List.setIfInBounds_toArray, List.set_cons_zero, List.set_cons_succ]
  refine wpAnyH_take (i := 25) (oi := ⟨some 69, _, _, _, _, _⟩) (v := ?_) rfl (by kernel_rfl) (by kernel_rfl) (by kernel_rfl) (fun _ _ _ h => h) (Or.inl ⟨by kernel_rfl, ?_⟩) (by assumption) ?_
  rotate_left
  · intro w hSw; (try dsimp only at hSw); go_simp; try with_reducible rfl
  try simp only [Act.put, List.setIfInBounds_toArray, List.set_cons_zero, List.set_cons_succ]
  refine wpAnyH_done (by kernel_rfl) ?_ _
  exact HQ0 _ hs7

set_option maxRecDepth 1000000 in
set_option maxHeartbeats 4000000 in
theorem opens6_name (SInv : World → Prop) (eb ab k : Nat) (nm vl : ByteArray) (u0 u1 u2 u4 u7 u8 u9 u10 u11 u12 u13 u14 u15 u16 u17 u18 u19 u20 u21 u22 u23 u24 u25 u26 u27 u28 u29 u30 u31 u32 u33 u34 u35 u36 u37 u38 u39 u40 u41 u42 u43 u44 u45 u46 u47 u48 u49 u50 u51 u52 u53 u54 u55 u56 u57 u58 u59 u60 u61 u62 u63 u64 u65 u66 u67 u68 u69 u70 : Value) (w : World)
    (HC : Hid (∀ w', SInv w' → w'.cell? ⟨ab, 0, none⟩ = some (.string nm) ∧ w'.cell? ⟨ab, 1, none⟩ = some (.string vl) ∧ SInv w'))
    (HNK : Hid (∀ w', SInv w' → Calls Tryd.prog 75 #[.string nm] w' fun e w'' => e = .returned (.bool false) ∧ SInv w''))
    (hS : SInv w.drew) (Q : Exit → Act → World → Prop) (hQ : Hid (∀ w', SInv w' → Q .normal ⟨#[u0, u1, u2, .pointer (some ⟨eb, 0, none⟩), u4, .int .i64 k, .pointer (some ⟨ab, 0, none⟩), u7, u8, u9, u10, u11, u12, u13, u14, u15, u16, u17, u18, u19, u20, u21, u22, u23, u24, u25, u26, u27, u28, u29, u30, u31, u32, u33, u34, u35, u36, u37, u38, u39, u40, u41, u42, u43, .pointer (some ⟨ab, 0, none⟩), .string nm, .bool false, .bool true, .bool true, undef, undef, undef, undef, .bool true, .bool true, undef, undef, undef, undef, undef, undef, undef, undef, undef, undef, undef, undef, undef, undef, .bool true, u70], []⟩ w')) :
    Code.wp Tryd.prog opens6 Q ⟨#[u0, u1, u2, .pointer (some ⟨eb, 0, none⟩), u4, .int .i64 k, .pointer (some ⟨ab, 0, none⟩), u7, u8, u9, u10, u11, u12, u13, u14, u15, u16, u17, u18, u19, u20, u21, u22, u23, u24, u25, u26, u27, u28, u29, u30, u31, u32, u33, u34, u35, u36, u37, u38, u39, u40, u41, u42, u43, u44, u45, u46, u47, u48, u49, u50, u51, u52, u53, u54, u55, u56, u57, u58, u59, u60, u61, u62, u63, u64, u65, u66, u67, u68, u69, u70], []⟩ w := by
  conv => arg 2; whnf
  have HQ0 := hQ.out
  refine wp_region_noPanic ?_
  refine wp_region_held_drew (S := (fun w' => w'.cell? ⟨ab, 0, none⟩ = some (.string nm) ∧ w'.cell? ⟨ab, 1, none⟩ = some (.string vl) ∧ SInv w')) (by kernel_rfl) (HC.out _ hS) (fun hHeld => ?_)
  refine wpAnyH_take (i := 0) (oi := ⟨some 44, _, _, _, _, _⟩) (v := ?_) rfl (by kernel_rfl) (by kernel_rfl) (by kernel_rfl) (fun _ _ _ h => h) (Or.inl ⟨by kernel_rfl, ?_⟩) (by assumption) ?_
  rotate_left
  · intro w hSw; (try dsimp only at hSw); go_simp; try with_reducible rfl
  try simp only [Act.put, List.setIfInBounds_toArray, List.set_cons_zero, List.set_cons_succ]
  refine wpAnyH_take (i := 1) (oi := ⟨some 45, _, _, _, _, _⟩) (v := ?_) rfl (by kernel_rfl) (by kernel_rfl) (by kernel_rfl) (fun _ _ _ h => h) (Or.inl ⟨by kernel_rfl, ?_⟩) (by assumption) ?_
  rotate_left
  · intro w hSw; (try dsimp only at hSw); go_simp; try with_reducible rfl
  try simp only [Act.put, List.setIfInBounds_toArray, List.set_cons_zero, List.set_cons_succ]
  refine wpAnyH_ready (rs := [2]) (by kernel_rfl) (by simp) ?_
  refine AllReadyH.cons rfl (fun K hK => ?_) AllReadyH.nil
  go_simp
  (go_at_call 75; (with_reducible refine (HNK.out _ (by first | exact hHeld.2.2)).mono ?_); rintro e w2 ⟨rfl, hs2⟩)
  refine hK.out _ _ (HC.out _ hs2) (fun hHeld2 => ?_)
  clear hK K
  try simp only [Act.put, List.setIfInBounds_toArray, List.set_cons_zero, List.set_cons_succ]
  refine wpAnyH_take (i := 3) (oi := ⟨some 47, _, _, _, _, _⟩) (v := ?_) rfl (by kernel_rfl) (by kernel_rfl) (by kernel_rfl) (fun _ _ _ h => h) (Or.inl ⟨by kernel_rfl, ?_⟩) (by assumption) ?_
  rotate_left
  · intro w hSw; (try dsimp only at hSw); go_simp; try with_reducible rfl
  try simp only [Act.put, List.setIfInBounds_toArray, List.set_cons_zero, List.set_cons_succ]
  refine wpAnyH_take (i := 4) (oi := ⟨some 48, _, _, _, _, _⟩) (v := ?_) rfl (by kernel_rfl) (by kernel_rfl) (by kernel_rfl) (fun _ _ _ h => h) (Or.inl ⟨by kernel_rfl, ?_⟩) (by assumption) ?_
  rotate_left
  · intro w hSw; (try dsimp only at hSw); go_simp; try with_reducible rfl
  try simp only [Act.put, List.setIfInBounds_toArray, List.set_cons_zero, List.set_cons_succ]
  refine wpAnyH_skips (fuel := 17) (by kernel_rfl) (fun _ _ _ _ h => h) (by assumption) [5, 6, 7, 8] [some 49, some 50, some 51, some 52] 4 _ _ rfl (by kernel_rfl) ?_
  simp only [listedAfter, putU, Act.put, List.setIfInBounds_toArray, List.set_cons_zero, List.set_cons_succ]
  refine wpAnyH_take (i := 9) (oi := ⟨some 53, _, _, _, _, _⟩) (v := ?_) rfl (by kernel_rfl) (by kernel_rfl) (by kernel_rfl) (fun _ _ _ h => h) (Or.inl ⟨by kernel_rfl, ?_⟩) (by assumption) ?_
  rotate_left
  · intro w hSw; (try dsimp only at hSw); go_simp; try with_reducible rfl
  try simp only [Act.put, List.setIfInBounds_toArray, List.set_cons_zero, List.set_cons_succ]
  refine wpAnyH_take (i := 10) (oi := ⟨some 54, _, _, _, _, _⟩) (v := ?_) rfl (by kernel_rfl) (by kernel_rfl) (by kernel_rfl) (fun _ _ _ h => h) (Or.inl ⟨by kernel_rfl, ?_⟩) (by assumption) ?_
  rotate_left
  · intro w hSw; (try dsimp only at hSw); go_simp; try with_reducible rfl
  try simp only [Act.put, List.setIfInBounds_toArray, List.set_cons_zero, List.set_cons_succ]
  refine wpAnyH_skips (fuel := 1) (by kernel_rfl) (fun _ _ _ _ h => h) (by assumption) [11, 12, 13, 14, 15, 16, 17, 18, 19, 20, 21, 22, 23, 24] [some 55, some 56, some 57, some 58, some 59, some 60, some 61, some 62, some 63, some 64, some 65, some 66, some 67, some 68] 14 _ _ rfl (by kernel_rfl) ?_
  simp only [listedAfter, putU, Act.put, List.setIfInBounds_toArray, List.set_cons_zero, List.set_cons_succ]
  refine wpAnyH_take (i := 25) (oi := ⟨some 69, _, _, _, _, _⟩) (v := ?_) rfl (by kernel_rfl) (by kernel_rfl) (by kernel_rfl) (fun _ _ _ h => h) (Or.inl ⟨by kernel_rfl, ?_⟩) (by assumption) ?_
  rotate_left
  · intro w hSw; (try dsimp only at hSw); go_simp; try with_reducible rfl
  try simp only [Act.put, List.setIfInBounds_toArray, List.set_cons_zero, List.set_cons_succ]
  refine wpAnyH_done (by kernel_rfl) ?_ _
  exact HQ0 _ hs2

set_option maxRecDepth 1000000 in
set_option maxHeartbeats 4000000 in
theorem opens6_texts (SInv : World → Prop) (eb ab k : Nat) (nm vl : ByteArray) (u0 u1 u2 u4 u7 u8 u9 u10 u11 u12 u13 u14 u15 u16 u17 u18 u19 u20 u21 u22 u23 u24 u25 u26 u27 u28 u29 u30 u31 u32 u33 u34 u35 u36 u37 u38 u39 u40 u41 u42 u43 u44 u45 u46 u47 u48 u49 u50 u51 u52 u53 u54 u55 u56 u57 u58 u59 u60 u61 u62 u63 u64 u65 u66 u67 u68 u69 u70 : Value) (w : World)
    (HC : Hid (∀ w', SInv w' → w'.cell? ⟨ab, 0, none⟩ = some (.string nm) ∧ w'.cell? ⟨ab, 1, none⟩ = some (.string vl) ∧ SInv w'))
    (HNK : Hid (∀ w', SInv w' → Calls Tryd.prog 75 #[.string nm] w' fun e w'' => e = .returned (.bool true) ∧ SInv w''))
    (HTK : Hid (∀ w', SInv w' → Calls Tryd.prog 55 #[.string vl] w' fun e w'' => e = .returned (.bool false) ∧ SInv w''))
    (hS : SInv w.drew) (Q : Exit → Act → World → Prop) (hQ : Hid (∀ w', SInv w' → Q .normal ⟨#[u0, u1, u2, .pointer (some ⟨eb, 0, none⟩), u4, .int .i64 k, .pointer (some ⟨ab, 0, none⟩), u7, u8, u9, u10, u11, u12, u13, u14, u15, u16, u17, u18, u19, u20, u21, u22, u23, u24, u25, u26, u27, u28, u29, u30, u31, u32, u33, u34, u35, u36, u37, u38, u39, u40, u41, u42, u43, .pointer (some ⟨ab, 0, none⟩), .string nm, .bool true, .bool false, .bool false, .pointer (some ⟨ab, 1, none⟩), .string vl, .bool false, .bool true, .bool true, .bool true, undef, undef, undef, undef, undef, undef, undef, undef, undef, undef, undef, undef, undef, undef, .bool true, u70], []⟩ w')) :
    Code.wp Tryd.prog opens6 Q ⟨#[u0, u1, u2, .pointer (some ⟨eb, 0, none⟩), u4, .int .i64 k, .pointer (some ⟨ab, 0, none⟩), u7, u8, u9, u10, u11, u12, u13, u14, u15, u16, u17, u18, u19, u20, u21, u22, u23, u24, u25, u26, u27, u28, u29, u30, u31, u32, u33, u34, u35, u36, u37, u38, u39, u40, u41, u42, u43, u44, u45, u46, u47, u48, u49, u50, u51, u52, u53, u54, u55, u56, u57, u58, u59, u60, u61, u62, u63, u64, u65, u66, u67, u68, u69, u70], []⟩ w := by
  conv => arg 2; whnf
  have HQ0 := hQ.out
  refine wp_region_noPanic ?_
  refine wp_region_held_drew (S := (fun w' => w'.cell? ⟨ab, 0, none⟩ = some (.string nm) ∧ w'.cell? ⟨ab, 1, none⟩ = some (.string vl) ∧ SInv w')) (by kernel_rfl) (HC.out _ hS) (fun hHeld => ?_)
  refine wpAnyH_take (i := 0) (oi := ⟨some 44, _, _, _, _, _⟩) (v := ?_) rfl (by kernel_rfl) (by kernel_rfl) (by kernel_rfl) (fun _ _ _ h => h) (Or.inl ⟨by kernel_rfl, ?_⟩) (by assumption) ?_
  rotate_left
  · intro w hSw; (try dsimp only at hSw); go_simp; try with_reducible rfl
  try simp only [Act.put, List.setIfInBounds_toArray, List.set_cons_zero, List.set_cons_succ]
  refine wpAnyH_take (i := 1) (oi := ⟨some 45, _, _, _, _, _⟩) (v := ?_) rfl (by kernel_rfl) (by kernel_rfl) (by kernel_rfl) (fun _ _ _ h => h) (Or.inl ⟨by kernel_rfl, ?_⟩) (by assumption) ?_
  rotate_left
  · intro w hSw; (try dsimp only at hSw); go_simp; try with_reducible rfl
  try simp only [Act.put, List.setIfInBounds_toArray, List.set_cons_zero, List.set_cons_succ]
  refine wpAnyH_ready (rs := [2]) (by kernel_rfl) (by simp) ?_
  refine AllReadyH.cons rfl (fun K hK => ?_) AllReadyH.nil
  go_simp
  (go_at_call 75; (with_reducible refine (HNK.out _ (by first | exact hHeld.2.2)).mono ?_); rintro e w2 ⟨rfl, hs2⟩)
  refine hK.out _ _ (HC.out _ hs2) (fun hHeld2 => ?_)
  clear hK K
  try simp only [Act.put, List.setIfInBounds_toArray, List.set_cons_zero, List.set_cons_succ]
  refine wpAnyH_take (i := 3) (oi := ⟨some 47, _, _, _, _, _⟩) (v := ?_) rfl (by kernel_rfl) (by kernel_rfl) (by kernel_rfl) (fun _ _ _ h => h) (Or.inl ⟨by kernel_rfl, ?_⟩) (by assumption) ?_
  rotate_left
  · intro w hSw; (try dsimp only at hSw); go_simp; try with_reducible rfl
  try simp only [Act.put, List.setIfInBounds_toArray, List.set_cons_zero, List.set_cons_succ]
  refine wpAnyH_take (i := 4) (oi := ⟨some 48, _, _, _, _, _⟩) (v := ?_) rfl (by kernel_rfl) (by kernel_rfl) (by kernel_rfl) (fun _ _ _ h => h) (Or.inl ⟨by kernel_rfl, ?_⟩) (by assumption) ?_
  rotate_left
  · intro w hSw; (try dsimp only at hSw); go_simp; try with_reducible rfl
  try simp only [Act.put, List.setIfInBounds_toArray, List.set_cons_zero, List.set_cons_succ]
  refine wpAnyH_take (i := 5) (oi := ⟨some 49, _, _, _, _, _⟩) (v := ?_) rfl (by kernel_rfl) (by kernel_rfl) (by kernel_rfl) (fun _ _ _ h => h) (Or.inl ⟨by kernel_rfl, ?_⟩) (by assumption) ?_
  rotate_left
  · intro w hSw; (try dsimp only at hSw); go_simp; try with_reducible rfl
  try simp only [Act.put, List.setIfInBounds_toArray, List.set_cons_zero, List.set_cons_succ]
  refine wpAnyH_take (i := 6) (oi := ⟨some 50, _, _, _, _, _⟩) (v := ?_) rfl (by kernel_rfl) (by kernel_rfl) (by kernel_rfl) (fun _ _ _ h => h) (Or.inl ⟨by kernel_rfl, ?_⟩) (by assumption) ?_
  rotate_left
  · intro w hSw; (try dsimp only at hSw); go_simp; try with_reducible rfl
  try simp only [Act.put, List.setIfInBounds_toArray, List.set_cons_zero, List.set_cons_succ]
  refine wpAnyH_ready (rs := [7]) (by kernel_rfl) (by simp) ?_
  refine AllReadyH.cons rfl (fun K hK => ?_) AllReadyH.nil
  go_simp
  (go_at_call 55; (with_reducible refine (HTK.out _ (by first | exact hHeld2.2.2)).mono ?_); rintro e w7 ⟨rfl, hs7⟩)
  refine hK.out _ _ (HC.out _ hs7) (fun hHeld7 => ?_)
  clear hK K
  try simp only [Act.put, List.setIfInBounds_toArray, List.set_cons_zero, List.set_cons_succ]
  refine wpAnyH_take (i := 8) (oi := ⟨some 52, _, _, _, _, _⟩) (v := ?_) rfl (by kernel_rfl) (by kernel_rfl) (by kernel_rfl) (fun _ _ _ h => h) (Or.inl ⟨by kernel_rfl, ?_⟩) (by assumption) ?_
  rotate_left
  · intro w hSw; (try dsimp only at hSw); go_simp; try with_reducible rfl
  try simp only [Act.put, List.setIfInBounds_toArray, List.set_cons_zero, List.set_cons_succ]
  refine wpAnyH_take (i := 9) (oi := ⟨some 53, _, _, _, _, _⟩) (v := ?_) rfl (by kernel_rfl) (by kernel_rfl) (by kernel_rfl) (fun _ _ _ h => h) (Or.inl ⟨by kernel_rfl, ?_⟩) (by assumption) ?_
  rotate_left
  · intro w hSw; (try dsimp only at hSw); go_simp; try with_reducible rfl
  try simp only [Act.put, List.setIfInBounds_toArray, List.set_cons_zero, List.set_cons_succ]
  refine wpAnyH_take (i := 10) (oi := ⟨some 54, _, _, _, _, _⟩) (v := ?_) rfl (by kernel_rfl) (by kernel_rfl) (by kernel_rfl) (fun _ _ _ h => h) (Or.inl ⟨by kernel_rfl, ?_⟩) (by assumption) ?_
  rotate_left
  · intro w hSw; (try dsimp only at hSw); go_simp; try with_reducible rfl
  try simp only [Act.put, List.setIfInBounds_toArray, List.set_cons_zero, List.set_cons_succ]
  refine wpAnyH_skips (fuel := 1) (by kernel_rfl) (fun _ _ _ _ h => h) (by assumption) [11, 12, 13, 14, 15, 16, 17, 18, 19, 20, 21, 22, 23, 24] [some 55, some 56, some 57, some 58, some 59, some 60, some 61, some 62, some 63, some 64, some 65, some 66, some 67, some 68] 14 _ _ rfl (by kernel_rfl) ?_
  simp only [listedAfter, putU, Act.put, List.setIfInBounds_toArray, List.set_cons_zero, List.set_cons_succ]
  refine wpAnyH_take (i := 25) (oi := ⟨some 69, _, _, _, _, _⟩) (v := ?_) rfl (by kernel_rfl) (by kernel_rfl) (by kernel_rfl) (fun _ _ _ h => h) (Or.inl ⟨by kernel_rfl, ?_⟩) (by assumption) ?_
  rotate_left
  · intro w hSw; (try dsimp only at hSw); go_simp; try with_reducible rfl
  try simp only [Act.put, List.setIfInBounds_toArray, List.set_cons_zero, List.set_cons_succ]
  refine wpAnyH_done (by kernel_rfl) ?_ _
  exact HQ0 _ hs7
end Go.Proofs.YtekoflcioooncaaDoor

namespace Go.Proofs.YtekoflcioooncaaDoor
open Go.RowKit

noncomputable def tree13 : Code := ((Tryd.f10.body.bind (regNo6 13)).getD .skip)
def ldNodes : Op := Op.load 76 (Operand.tmp 63)
theorem ldNodes_eq : ldNodes = Op.load 76 (Operand.tmp 63) := rfl
theorem infoNode : (Tryd.prog.info? 82).map (fun i => (i.zero, i.size, i.bytes)) = some (some (.agg #[.int .i64 0, .int .i64 0, .int .i64 0, .string ⟨#[]⟩, .slice none 0 0, .string ⟨#[]⟩, .int .i64 0, .int .i64 0, .int .i64 0, .int .i64 0, .int .i64 0, .int .i64 0]), 12, 128) := by kernel_rfl
set_option maxRecDepth 1000000 in
set_option maxHeartbeats 4000000 in
theorem tree13_any (R tb eb go on l oc k nn : Nat) (par : Int) (e : Ev) (A : Option Addr) (m c : Nat) (oa : Option Addr) (na : Nat) (q : Value) (ncs : List Value) (u0 u1 u2 u3 u4 u9 u10 u11 u12 u13 u14 u15 u16 u17 u18 u19 u20 u21 u22 u23 u24 u25 u26 u27 u28 u29 u30 u31 u32 u33 u34 u35 u36 u37 u38 u39 u40 u41 u42 u43 u44 u45 u46 u47 u48 u49 u50 u51 u52 u53 u54 u55 u56 u57 u58 u59 u60 u61 u62 u63 u64 u65 u66 u67 u68 u69 u70 u71 u72 u73 u74 u75 u76 u77 u78 u79 u80 u81 u82 u83 u84 u85 u86 u87 u88 u89 u90 u91 u92 u93 u94 : Value) (W3 : World)
    (h0 : W3.heap[tb]? = some (.cells #[q, .slice oa nn na] 78 (0, 0))) (h1 : W3.heap[eb]? = some (.cells (evC e.kind e.num e.dep e.name A m c e.text e.fr e.tt) 71 (0, 0)))
    (h2 : W3.ownsRow R 82 12 (.slice oa nn na) nn ncs) (hR : R ≤ W3.heap.size) (htb : tb < R) (hgo : go < W3.heap.size) (htop : W3.cell? ⟨go, on, none⟩ = some (.int .i64 par))
    (hnt : (Value.slice oa nn na).ownBlock ≠ some tb) (hne : (Value.slice oa nn na).ownBlock ≠ some eb) (hng : (Value.slice oa nn na).ownBlock ≠ some go) (het : tb ≠ eb) (hgt : tb ≠ go) (hon : on ≤ 1048576) (hk : k ≤ 1048576) (hnn : nn ≤ 1048576) (hl1 : l = on + 1)
    (Q : Exit → Act → World → Prop) (hQ : Hid (∀ (y60 y61 y62 y63 y64 y65 y66 y67 y68 y69 y70 y71 y72 y73 y74 y75 y76 y77 y78 y79 y80 y81 : Value) (oa6 : Option Addr) (na6 : Nat) (w6 : World), w6.ownsRow R 82 12 (.slice oa6 (nn + 1) na6) (nn + 1) (ncs ++ ndL e ⟨k, par, e.num, k + 1⟩ A m c) → Moved tb (.slice oa nn na) (.slice oa6 (nn + 1) na6) W3 w6 →
      w6.heap[tb]? = some (.cells #[q, .slice oa6 (nn + 1) na6] 78 (0, 0)) → Q .normal ⟨#[u0, u1, u2, u3, u4, .pointer (some ⟨tb, 0, none⟩), .slice (some ⟨go, 0, none⟩) l oc, .int .i64 k, .pointer (some ⟨eb, 0, none⟩), u9, u10, u11, u12, u13, u14, u15, u16, u17, u18, u19, u20, u21, u22, u23, u24, u25, u26, u27, u28, u29, u30, u31, u32, u33, u34, u35, u36, u37, u38, u39, u40, u41, u42, u43, u44, u45, u46, u47, u48, u49, u50, u51, u52, u53, u54, u55, u56, u57, u58, u59, y60, y61, y62, y63, y64, y65, y66, y67, y68, y69, y70, y71, y72, y73, y74, y75, y76, y77, y78, y79, y80, y81, u82, u83, u84, u85, u86, u87, u88, u89, u90, u91, u92, u93, u94], []⟩ w6)) :
    Code.wp Tryd.prog tree13 Q ⟨#[u0, u1, u2, u3, u4, .pointer (some ⟨tb, 0, none⟩), .slice (some ⟨go, 0, none⟩) l oc, .int .i64 k, .pointer (some ⟨eb, 0, none⟩), u9, u10, u11, u12, u13, u14, u15, u16, u17, u18, u19, u20, u21, u22, u23, u24, u25, u26, u27, u28, u29, u30, u31, u32, u33, u34, u35, u36, u37, u38, u39, u40, u41, u42, u43, u44, u45, u46, u47, u48, u49, u50, u51, u52, u53, u54, u55, u56, u57, u58, u59, u60, u61, u62, u63, u64, u65, u66, u67, u68, u69, u70, u71, u72, u73, u74, u75, u76, u77, u78, u79, u80, u81, u82, u83, u84, u85, u86, u87, u88, u89, u90, u91, u92, u93, u94], []⟩ W3 := by
  obtain ⟨i0, hi, hz0, hz1, hz2⟩ := info_parts infoNode
  have hlt3 : tb < W3.heap.size := heap_lt h0
  have HOWA : Hid (∀ o, (W3.drew.alloc o).ownsRow R 82 12 (.slice oa nn na) nn ncs) := Lib.hid fun o => h2.drew.alloc o
  have HNEW : Hid (∀ o, (W3.drew.alloc o).heap[W3.heap.size]? = some o) := Lib.hid fun o => heap_alloc_new W3.drew o
  have HLE3 : Hid (∀ o, R ≤ (W3.drew.alloc o).heap.size) := Lib.hid fun o => by simp; omega
  have HCBA : Hid (∀ o, (W3.drew.alloc o).heap[tb]? = some (.cells #[q, .slice oa nn na] 78 (0, 0)) ∧ tb < (W3.drew.alloc o).heap.size) := Lib.hid fun o => ⟨(Below.heap_alloc W3.drew o tb hlt3).trans h0, by simp; omega⟩
  have HEBA : Hid (∀ o, (W3.drew.alloc o).heap[eb]? = some (.cells (evC e.kind e.num e.dep e.name A m c e.text e.fr e.tt) 71 (0, 0)) ∧ eb < (W3.drew.alloc o).heap.size) := Lib.hid fun o => by
    have hl := heap_lt h1
    exact ⟨(Below.heap_alloc W3.drew o eb hl).trans h1, by simp; omega⟩
  have HGOA : Hid (∀ o, (W3.drew.alloc o).heap[go]? = W3.heap[go]? ∧ go < (W3.drew.alloc o).heap.size) := Lib.hid fun o => ⟨Below.heap_alloc W3.drew o go hgo, by simp; omega⟩
  have HMV : Hid (∀ o, Moved tb (.slice oa nn na) (.slice oa nn na) W3 (W3.drew.alloc o)) := Lib.hid fun o => Moved.of (((Below.refl W3.heap.size W3).drew).alloc (Nat.le_refl _) o)
  have HNT := Lib.hid (⟨hnt, hne, hng⟩ : _ ∧ _ ∧ _)
  have HTBR := Lib.hid htb
  have c1 : W3.cell? ⟨tb, 1, none⟩ = some (.slice oa nn na) := by rw [cell_heap h0]; rfl
  have e0 : W3.cell? ⟨eb, 0, none⟩ = some (.int .i64 e.kind) := by rw [cell_heap h1]; rfl
  have e1 : W3.cell? ⟨eb, 1, none⟩ = some (.int .i64 e.num) := by rw [cell_heap h1]; rfl
  have e2 : W3.cell? ⟨eb, 2, none⟩ = some (.int .i64 e.dep) := by rw [cell_heap h1]; rfl
  have e3 : W3.cell? ⟨eb, 3, none⟩ = some (.string (strL e.name)) := by rw [cell_heap h1]; rfl
  have e4 : W3.cell? ⟨eb, 4, none⟩ = some (.slice A m c) := by rw [cell_heap h1]; rfl
  have e5 : W3.cell? ⟨eb, 5, none⟩ = some (.string (strL e.text)) := by rw [cell_heap h1]; rfl
  have e6 : W3.cell? ⟨eb, 6, none⟩ = some (.int .i64 e.fr) := by rw [cell_heap h1]; rfl
  have e7 : W3.cell? ⟨eb, 7, none⟩ = some (.int .i64 e.tt) := by rw [cell_heap h1]; rfl
  have ca2 : ∀ o, (W3.alloc o).cell? ⟨tb, 1, none⟩ = some (.slice oa nn na) := fun o => by rw [cell_heap ((Below.heap_alloc W3 o tb hlt3).trans h0)]; rfl
  have HTOP := Lib.hid htop
  have honm : nn + 1 ≤ 4294967296 := by omega
  have ew : IntKind.i64.wrap ((l : Int) - 1) = (on : Int) := by rw [IntWalk.i64_in _ (by omega)]; omega
  have ew2 : IntKind.i64.wrap ((k : Int) + 1) = (k : Int) + 1 := IntWalk.i64_in _ (by omega)
  have i1 : (0 : Int) ≤ (on : Int) := by omega
  have i2 : (on : Int) < (l : Int) := by omega
  conv => arg 2; whnf
  rw [← ldNodes_eq]
  have hld := ldNodes_eq
  clear h0 h1 h2 hR htb hnt hne hng hon hk hnn hl1
  go_region_held3 (fun w' => w'.cell? ⟨eb, 0, none⟩ = some (.int .i64 e.kind) ∧ w'.cell? ⟨eb, 1, none⟩ = some (.int .i64 e.num) ∧ w'.cell? ⟨eb, 2, none⟩ = some (.int .i64 e.dep) ∧ w'.cell? ⟨eb, 3, none⟩ = some (.string (strL e.name)) ∧ w'.cell? ⟨eb, 4, none⟩ = some (.slice A m c) ∧ w'.cell? ⟨eb, 5, none⟩ = some (.string (strL e.text)) ∧ w'.cell? ⟨eb, 6, none⟩ = some (.int .i64 e.fr) ∧ w'.cell? ⟨eb, 7, none⟩ = some (.int .i64 e.tt) ∧ w'.cell? ⟨go, on, none⟩ = some (.int .i64 par)) (go_keep) (first | (refine step_app _ rfl (.tmp 64) (.tmp 78) 76 rfl R 82 i0 _ 12 128 Tryd.underlying76 hi hz0 hz1 hz2 (by rfl) (by decide) (.slice oa nn na) nn ncs (by rfl) (HOWA.out _) W3.heap.size 1 (ndL e ⟨k, par, e.num, k + 1⟩ A m c) (by rfl) (by rfl) (HNEW.out _) (ndL_one _ _ _ _ _) honm (by decide) (HLE3.out _) ?_; intro v6 w6 hown hap; obtain ⟨oa6, na6, rfl, _⟩ := own_slice hown; have KC := Lib.hid ((hap.keep (HCBA.out _).2 HNT.out.1).trans (HCBA.out _).1); have KE := Lib.hid ((hap.keep (HEBA.out _).2 HNT.out.2.1).trans (HEBA.out _).1); have g0 : w6.cell? ⟨eb, 0, none⟩ = some (.int .i64 e.kind) := (by rw [cell_heap KE.out]; rfl); have g1 : w6.cell? ⟨eb, 1, none⟩ = some (.int .i64 e.num) := (by rw [cell_heap KE.out]; rfl); have g2 : w6.cell? ⟨eb, 2, none⟩ = some (.int .i64 e.dep) := (by rw [cell_heap KE.out]; rfl); have g3 : w6.cell? ⟨eb, 3, none⟩ = some (.string (strL e.name)) := (by rw [cell_heap KE.out]; rfl); have g4 : w6.cell? ⟨eb, 4, none⟩ = some (.slice A m c) := (by rw [cell_heap KE.out]; rfl); have g5 : w6.cell? ⟨eb, 5, none⟩ = some (.string (strL e.text)) := (by rw [cell_heap KE.out]; rfl); have g6 : w6.cell? ⟨eb, 6, none⟩ = some (.int .i64 e.fr) := (by rw [cell_heap KE.out]; rfl); have g7 : w6.cell? ⟨eb, 7, none⟩ = some (.int .i64 e.tt) := (by rw [cell_heap KE.out]; rfl); have gt : w6.cell? ⟨go, on, none⟩ = some (.int .i64 par) := (by rw [← HTOP.out]; simp only [World.cell?, (hap.keep (HGOA.out _).2 HNT.out.2.2).trans (HGOA.out _).1]); have d0 : w6.cell? ⟨tb, 1, none⟩ = some (.slice oa nn na) := (by rw [cell_heap KC.out]; rfl); have fz : ∀ j, w6.frozen? ⟨tb, j, none⟩ = false := (fun j => frozen_heap KC.out); have HAP := Lib.hid ((HMV.out _).trans (Moved.app hap)); have HOWN := Lib.hid hown; clear hap hown))
  all_goals
    refine hQ.out _ _ _ _ _ _ _ _ _ _ _ _ _ _ _ _ _ _ _ _ _ _ oa6 na6 _ ?_ (HAP.out.set _ _) (setCell_heap KC.out _)
    exact own_block HOWN.out (fun k hk => Below.heap_setCell _ _ _ _ (fun e => by have := (HOWN.out.lt k hk).1; have := HTBR.out; have e' : k = tb := e; omega))
end Go.Proofs.YtekoflcioooncaaDoor
