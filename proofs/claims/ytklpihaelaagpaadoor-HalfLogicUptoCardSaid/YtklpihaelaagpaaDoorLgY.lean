/-
  (*tree.Check).opens: its sixth region, in the cases that skip operations.
-/
import Derived.Test.YtklpihaelaagpaaDoorLgX
import Derived.Test.YtklpihaelaagpaaDoorLgN
import Derived.IntWalk
namespace Go.Proofs.YtklpihaelaagpaaDoor
open Go.RowKit

def regNo6 (n : Nat) : Code → Option Code
  | .region id ops b => if id == n then some (.region id ops b) else none
  | .seq a b => match regNo6 n a with
    | some c => some c
    | none => regNo6 n b
  | .loop c => regNo6 n c
  | .block _ c => regNo6 n c
  | .scope c => regNo6 n c
  | .cond _ a b => match regNo6 n a with
    | some c => some c
    | none => regNo6 n b
  | _ => none
noncomputable def opens6 : Code := ((Tryd.f46.body.bind (regNo6 6)).getD .skip)

set_option maxRecDepth 1000000 in
set_option maxHeartbeats 4000000 in
theorem opens6_zero (SInv : World → Prop) (eb ab : Nat) (nm vl : ByteArray) (u0 u1 u2 u4 u7 u8 u9 u10 u11 u12 u13 u14 u15 u16 u17 u18 u19 u20 u21 u22 u23 u24 u25 u26 u27 u28 u29 u30 u31 u32 u33 u34 u35 u36 u37 u38 u39 u40 u41 u42 u43 u44 u45 u46 u47 u48 u49 u50 u51 u52 u53 u54 u55 u56 u57 u58 u59 u60 u61 u62 u63 u64 u65 u66 u67 u68 u69 u70 : Value) (w : World)
    (HC : Hid (∀ w', SInv w' → w'.cell? ⟨ab, 0, none⟩ = some (.string nm) ∧ w'.cell? ⟨ab, 1, none⟩ = some (.string vl) ∧ SInv w'))
    (HNK : Hid (∀ w', SInv w' → Calls Tryd.prog 41 #[.string nm] w' fun e w'' => e = .returned (.bool true) ∧ SInv w''))
    (HTK : Hid (∀ w', SInv w' → Calls Tryd.prog 47 #[.string vl] w' fun e w'' => e = .returned (.bool true) ∧ SInv w''))
    (hS : SInv w.drew) (Q : Exit → Act → World → Prop) (hQ : Hid (∀ w', SInv w' → Q .normal ⟨#[u0, u1, u2, .pointer (some ⟨eb, 0, none⟩), u4, .int .i64 0, .pointer (some ⟨ab, 0, none⟩), u7, u8, u9, u10, u11, u12, u13, u14, u15, u16, u17, u18, u19, u20, u21, u22, u23, u24, u25, u26, u27, u28, u29, u30, u31, u32, u33, u34, u35, u36, u37, u38, u39, u40, u41, u42, u43, .pointer (some ⟨ab, 0, none⟩), .string nm, .bool true, .bool false, .bool false, .pointer (some ⟨ab, 1, none⟩), .string vl, .bool true, .bool false, .bool false, .bool false, .int .i64 0, .bool false, .bool false, undef, undef, undef, undef, undef, undef, undef, undef, undef, undef, .bool false, .bool false, u70], []⟩ w')) :
    Code.wp Tryd.prog opens6 Q ⟨#[u0, u1, u2, .pointer (some ⟨eb, 0, none⟩), u4, .int .i64 0, .pointer (some ⟨ab, 0, none⟩), u7, u8, u9, u10, u11, u12, u13, u14, u15, u16, u17, u18, u19, u20, u21, u22, u23, u24, u25, u26, u27, u28, u29, u30, u31, u32, u33, u34, u35, u36, u37, u38, u39, u40, u41, u42, u43, u44, u45, u46, u47, u48, u49, u50, u51, u52, u53, u54, u55, u56, u57, u58, u59, u60, u61, u62, u63, u64, u65, u66, u67, u68, u69, u70], []⟩ w := by
  conv => arg 2; whnf
  have HQ0 := hQ.out
  refine wp_region_noPanic ?_
  refine wp_region_held_drew (S := (fun w' => w'.cell? ⟨ab, 0, none⟩ = some (.string nm) ∧ w'.cell? ⟨ab, 1, none⟩ = some (.string vl) ∧ SInv w')) (by kernel_rfl) (HC.out _ hS) (fun hHeld => ?_)
  refine wpAnyH_take (i := 0) (oi := ⟨some 44, _, _, _, _, _⟩) (v := ?_) rfl (by kernel_rfl) (by kernel_rfl) (by kernel_rfl) (fun _ _ _ h => h) (Or.inl ⟨by kernel_rfl, ?_⟩) (by assumption) ?_
  rotate_left
  · intro w hSw; (try dsimp only at hSw); go_simp; try with_reducible rfl
  try simp only [Act.put, List.setIfInBounds_toArray, List.set_cons_zero, List.set_cons_succ]
  refine wpAnyH_take (i := 1) (oi := ⟨some 45, _, _, _, _, _⟩) (v := ?_) rfl (by kernel_rfl) (by kernel_rfl) (by kernel_rfl) (fun _ _ _ h => h) (Or.inl ⟨by kernel_rfl, ?_⟩) (by assumption) ?_
  rotate_left
  · intro w hSw; (try dsimp only at hSw); go_simp; try with_reducible rfl
  try simp only [Act.put, List.setIfInBounds_toArray, List.set_cons_zero, List.set_cons_succ]
  refine wpAnyH_ready (rs := [2]) (by kernel_rfl) (by simp) ?_
  refine AllReadyH.cons rfl (fun K hK => ?_) AllReadyH.nil
  go_simp
  (go_at_call 41; (with_reducible refine (HNK.out _ (by first | exact hHeld.2.2)).mono ?_); rintro e w2 ⟨rfl, hs2⟩)
  refine hK.out _ _ (HC.out _ hs2) (fun hHeld2 => ?_)
  clear hK K
  try simp only [Act.put, List.setIfInBounds_toArray, List.set_cons_zero, List.set_cons_succ]
  refine wpAnyH_take (i := 3) (oi := ⟨some 47, _, _, _, _, _⟩) (v := ?_) rfl (by kernel_rfl) (by kernel_rfl) (by kernel_rfl) (fun _ _ _ h => h) (Or.inl ⟨by kernel_rfl, ?_⟩) (by assumption) ?_
  rotate_left
  · intro w hSw; (try dsimp only at hSw); go_simp; try with_reducible rfl
  try simp only [Act.put, List.setIfInBounds_toArray, List.set_cons_zero, List.set_cons_succ]
  refine wpAnyH_take (i := 4) (oi := ⟨some 48, _, _, _, _, _⟩) (v := ?_) rfl (by kernel_rfl) (by kernel_rfl) (by kernel_rfl) (fun _ _ _ h => h) (Or.inl ⟨by kernel_rfl, ?_⟩) (by assumption) ?_
  rotate_left
  · intro w hSw; (try dsimp only at hSw); go_simp; try with_reducible rfl
  try simp only [Act.put, List.setIfInBounds_toArray, List.set_cons_zero, List.set_cons_succ]
  refine wpAnyH_take (i := 5) (oi := ⟨some 49, _, _, _, _, _⟩) (v := ?_) rfl (by kernel_rfl) (by kernel_rfl) (by kernel_rfl) (fun _ _ _ h => h) (Or.inl ⟨by kernel_rfl, ?_⟩) (by assumption) ?_
  rotate_left
  · intro w hSw; (try dsimp only at hSw); go_simp; try with_reducible rfl
  try simp only [Act.put, List.setIfInBounds_toArray, List.set_cons_zero, List.set_cons_succ]
  refine wpAnyH_take (i := 6) (oi := ⟨some 50, _, _, _, _, _⟩) (v := ?_) rfl (by kernel_rfl) (by kernel_rfl) (by kernel_rfl) (fun _ _ _ h => h) (Or.inl ⟨by kernel_rfl, ?_⟩) (by assumption) ?_
  rotate_left
  · intro w hSw; (try dsimp only at hSw); go_simp; try with_reducible rfl
  try simp only [Act.put, List.setIfInBounds_toArray, List.set_cons_zero, List.set_cons_succ]
  refine wpAnyH_ready (rs := [7]) (by kernel_rfl) (by simp) ?_
  refine AllReadyH.cons rfl (fun K hK => ?_) AllReadyH.nil
  go_simp
  (go_at_call 47; (with_reducible refine (HTK.out _ (by first | exact hHeld2.2.2)).mono ?_); rintro e w7 ⟨rfl, hs7⟩)
  refine hK.out _ _ (HC.out _ hs7) (fun hHeld7 => ?_)
  clear hK K
  try simp only [Act.put, List.setIfInBounds_toArray, List.set_cons_zero, List.set_cons_succ]
  refine wpAnyH_take (i := 8) (oi := ⟨some 52, _, _, _, _, _⟩) (v := ?_) rfl (by kernel_rfl) (by kernel_rfl) (by kernel_rfl) (fun _ _ _ h => h) (Or.inl ⟨by kernel_rfl, ?_⟩) (by assumption) ?_
  rotate_left
  · intro w hSw; (try dsimp only at hSw); go_simp; try with_reducible rfl
  try simp only [Act.put, List.setIfInBounds_toArray, List.set_cons_zero, List.set_cons_succ]
  refine wpAnyH_take (i := 9) (oi := ⟨some 53, _, _, _, _, _⟩) (v := ?_) rfl (by kernel_rfl) (by kernel_rfl) (by kernel_rfl) (fun _ _ _ h => h) (Or.inl ⟨by kernel_rfl, ?_⟩) (by assumption) ?_
  rotate_left
  · intro w hSw; (try dsimp only at hSw); go_simp; try with_reducible rfl
  try simp only [Act.put, List.setIfInBounds_toArray, List.set_cons_zero, List.set_cons_succ]
  refine wpAnyH_take (i := 10) (oi := ⟨some 54, _, _, _, _, _⟩) (v := ?_) rfl (by kernel_rfl) (by kernel_rfl) (by kernel_rfl) (fun _ _ _ h => h) (Or.inl ⟨by kernel_rfl, ?_⟩) (by assumption) ?_
  rotate_left
  · intro w hSw; (try dsimp only at hSw); go_simp; try with_reducible rfl
  try simp only [Act.put, List.setIfInBounds_toArray, List.set_cons_zero, List.set_cons_succ]
  refine wpAnyH_take (i := 11) (oi := ⟨some 55, _, _, _, _, _⟩) (v := ?_) rfl (by kernel_rfl) (by kernel_rfl) (by kernel_rfl) (fun _ _ _ h => h) (Or.inl ⟨by kernel_rfl, ?_⟩) (by assumption) ?_
  rotate_left
  · intro w hSw; (try dsimp only at hSw); go_simp; try with_reducible rfl
  try simp only [Act.put, List.setIfInBounds_toArray, List.set_cons_zero, List.set_cons_succ]
  refine wpAnyH_take (i := 12) (oi := ⟨some 56, _, _, _, _, _⟩) (v := ?_) rfl (by kernel_rfl) (by kernel_rfl) (by kernel_rfl) (fun _ _ _ h => h) (Or.inl ⟨by kernel_rfl, ?_⟩) (by assumption) ?_
  rotate_left
  · intro w hSw; (try dsimp only at hSw); go_simp; try with_reducible rfl
  try simp only [Act.put, List.setIfInBounds_toArray, List.set_cons_zero, List.set_cons_succ]
  refine wpAnyH_take (i := 13) (oi := ⟨some 57, _, _, _, _, _⟩) (v := ?_) rfl (by kernel_rfl) (by kernel_rfl) (by kernel_rfl) (fun _ _ _ h => h) (Or.inl ⟨by kernel_rfl, ?_⟩) (by assumption) ?_
  rotate_left
  · intro w hSw; (try dsimp only at hSw); go_simp; try with_reducible rfl
  try simp only [Act.put, List.setIfInBounds_toArray, List.set_cons_zero, List.set_cons_succ]
  refine wpAnyH_skips (fuel := 2) (by kernel_rfl) (fun _ _ _ _ h => h) (by assumption) [14, 15, 16, 17, 18, 19, 20, 21, 22, 23] [some 58, some 59, some 60, some 61, some 62, some 63, some 64, some 65, some 66, some 67] 10 _ _ rfl (by kernel_rfl) ?_
  simp only [listedAfter, putU, Act.put, List.setIfInBounds_toArray, List.set_cons_zero, List.set_cons_succ]
  refine wpAnyH_take (i := 24) (oi := ⟨some 68, _, _, _, _, _⟩) (v := ?_) rfl (by kernel_rfl) (by kernel_rfl) (by kernel_rfl) (fun _ _ _ h => h) (Or.inl ⟨by kernel_rfl, ?_⟩) (by assumption) ?_
  rotate_left
  · intro w hSw; (try dsimp only at hSw); go_simp; try with_reducible rfl
  try simp only [Act.put, List.setIfInBounds_toArray, List.set_cons_zero, List.set_cons_succ]
  refine wpAnyH_take (i := 25) (oi := ⟨some 69, _, _, _, _, _⟩) (v := ?_) rfl (by kernel_rfl) (by kernel_rfl) (by kernel_rfl) (fun _ _ _ h => h) (Or.inl ⟨by kernel_rfl, ?_⟩) (by assumption) ?_
  rotate_left
  · intro w hSw; (try dsimp only at hSw); go_simp; try with_reducible rfl
  try simp only [Act.put, List.setIfInBounds_toArray, List.set_cons_zero, List.set_cons_succ]
  refine wpAnyH_done (by kernel_rfl) ?_ _
  exact HQ0 _ hs7

set_option maxRecDepth 1000000 in
set_option maxHeartbeats 4000000 in
theorem opens6_name (SInv : World → Prop) (eb ab k : Nat) (nm vl : ByteArray) (u0 u1 u2 u4 u7 u8 u9 u10 u11 u12 u13 u14 u15 u16 u17 u18 u19 u20 u21 u22 u23 u24 u25 u26 u27 u28 u29 u30 u31 u32 u33 u34 u35 u36 u37 u38 u39 u40 u41 u42 u43 u44 u45 u46 u47 u48 u49 u50 u51 u52 u53 u54 u55 u56 u57 u58 u59 u60 u61 u62 u63 u64 u65 u66 u67 u68 u69 u70 : Value) (w : World)
    (HC : Hid (∀ w', SInv w' → w'.cell? ⟨ab, 0, none⟩ = some (.string nm) ∧ w'.cell? ⟨ab, 1, none⟩ = some (.string vl) ∧ SInv w'))
    (HNK : Hid (∀ w', SInv w' → Calls Tryd.prog 41 #[.string nm] w' fun e w'' => e = .returned (.bool false) ∧ SInv w''))
    (hS : SInv w.drew) (Q : Exit → Act → World → Prop) (hQ : Hid (∀ w', SInv w' → Q .normal ⟨#[u0, u1, u2, .pointer (some ⟨eb, 0, none⟩), u4, .int .i64 k, .pointer (some ⟨ab, 0, none⟩), u7, u8, u9, u10, u11, u12, u13, u14, u15, u16, u17, u18, u19, u20, u21, u22, u23, u24, u25, u26, u27, u28, u29, u30, u31, u32, u33, u34, u35, u36, u37, u38, u39, u40, u41, u42, u43, .pointer (some ⟨ab, 0, none⟩), .string nm, .bool false, .bool true, .bool true, undef, undef, undef, undef, .bool true, .bool true, undef, undef, undef, undef, undef, undef, undef, undef, undef, undef, undef, undef, undef, undef, .bool true, u70], []⟩ w')) :
    Code.wp Tryd.prog opens6 Q ⟨#[u0, u1, u2, .pointer (some ⟨eb, 0, none⟩), u4, .int .i64 k, .pointer (some ⟨ab, 0, none⟩), u7, u8, u9, u10, u11, u12, u13, u14, u15, u16, u17, u18, u19, u20, u21, u22, u23, u24, u25, u26, u27, u28, u29, u30, u31, u32, u33, u34, u35, u36, u37, u38, u39, u40, u41, u42, u43, u44, u45, u46, u47, u48, u49, u50, u51, u52, u53, u54, u55, u56, u57, u58, u59, u60, u61, u62, u63, u64, u65, u66, u67, u68, u69, u70], []⟩ w := by
  conv => arg 2; whnf
  have HQ0 := hQ.out
  refine wp_region_noPanic ?_
  refine wp_region_held_drew (S := (fun w' => w'.cell? ⟨ab, 0, none⟩ = some (.string nm) ∧ w'.cell? ⟨ab, 1, none⟩ = some (.string vl) ∧ SInv w')) (by kernel_rfl) (HC.out _ hS) (fun hHeld => ?_)
  refine wpAnyH_take (i := 0) (oi := ⟨some 44, _, _, _, _, _⟩) (v := ?_) rfl (by kernel_rfl) (by kernel_rfl) (by kernel_rfl) (fun _ _ _ h => h) (Or.inl ⟨by kernel_rfl, ?_⟩) (by assumption) ?_
  rotate_left
  · intro w hSw; (try dsimp only at hSw); go_simp; try with_reducible rfl
  try simp only [Act.put, List.setIfInBounds_toArray, List.set_cons_zero, List.set_cons_succ]
  refine wpAnyH_take (i := 1) (oi := ⟨some 45, _, _, _, _, _⟩) (v := ?_) rfl (by kernel_rfl) (by kernel_rfl) (by kernel_rfl) (fun _ _ _ h => h) (Or.inl ⟨by kernel_rfl, ?_⟩) (by assumption) ?_
  rotate_left
  · intro w hSw; (try dsimp only at hSw); go_simp; try with_reducible rfl
  try simp only [Act.put, List.setIfInBounds_toArray, List.set_cons_zero, List.set_cons_succ]
  refine wpAnyH_ready (rs := [2]) (by kernel_rfl) (by simp) ?_
  refine AllReadyH.cons rfl (fun K hK => ?_) AllReadyH.nil
  go_simp
  (go_at_call 41; (with_reducible refine (HNK.out _ (by first | exact hHeld.2.2)).mono ?_); rintro e w2 ⟨rfl, hs2⟩)
  refine hK.out _ _ (HC.out _ hs2) (fun hHeld2 => ?_)
  clear hK K
  try simp only [Act.put, List.setIfInBounds_toArray, List.set_cons_zero, List.set_cons_succ]
  refine wpAnyH_take (i := 3) (oi := ⟨some 47, _, _, _, _, _⟩) (v := ?_) rfl (by kernel_rfl) (by kernel_rfl) (by kernel_rfl) (fun _ _ _ h => h) (Or.inl ⟨by kernel_rfl, ?_⟩) (by assumption) ?_
  rotate_left
  · intro w hSw; (try dsimp only at hSw); go_simp; try with_reducible rfl
  try simp only [Act.put, List.setIfInBounds_toArray, List.set_cons_zero, List.set_cons_succ]
  refine wpAnyH_take (i := 4) (oi := ⟨some 48, _, _, _, _, _⟩) (v := ?_) rfl (by kernel_rfl) (by kernel_rfl) (by kernel_rfl) (fun _ _ _ h => h) (Or.inl ⟨by kernel_rfl, ?_⟩) (by assumption) ?_
  rotate_left
  · intro w hSw; (try dsimp only at hSw); go_simp; try with_reducible rfl
  try simp only [Act.put, List.setIfInBounds_toArray, List.set_cons_zero, List.set_cons_succ]
  refine wpAnyH_skips (fuel := 17) (by kernel_rfl) (fun _ _ _ _ h => h) (by assumption) [5, 6, 7, 8] [some 49, some 50, some 51, some 52] 4 _ _ rfl (by kernel_rfl) ?_
  simp only [listedAfter, putU, Act.put, List.setIfInBounds_toArray, List.set_cons_zero, List.set_cons_succ]
  refine wpAnyH_take (i := 9) (oi := ⟨some 53, _, _, _, _, _⟩) (v := ?_) rfl (by kernel_rfl) (by kernel_rfl) (by kernel_rfl) (fun _ _ _ h => h) (Or.inl ⟨by kernel_rfl, ?_⟩) (by assumption) ?_
  rotate_left
  · intro w hSw; (try dsimp only at hSw); go_simp; try with_reducible rfl
  try simp only [Act.put, List.setIfInBounds_toArray, List.set_cons_zero, List.set_cons_succ]
  refine wpAnyH_take (i := 10) (oi := ⟨some 54, _, _, _, _, _⟩) (v := ?_) rfl (by kernel_rfl) (by kernel_rfl) (by kernel_rfl) (fun _ _ _ h => h) (Or.inl ⟨by kernel_rfl, ?_⟩) (by assumption) ?_
  rotate_left
  · intro w hSw; (try dsimp only at hSw); go_simp; try with_reducible rfl
  try simp only [Act.put, List.setIfInBounds_toArray, List.set_cons_zero, List.set_cons_succ]
  refine wpAnyH_skips (fuel := 1) (by kernel_rfl) (fun _ _ _ _ h => h) (by assumption) [11, 12, 13, 14, 15, 16, 17, 18, 19, 20, 21, 22, 23, 24] [some 55, some 56, some 57, some 58, some 59, some 60, some 61, some 62, some 63, some 64, some 65, some 66, some 67, some 68] 14 _ _ rfl (by kernel_rfl) ?_
  simp only [listedAfter, putU, Act.put, List.setIfInBounds_toArray, List.set_cons_zero, List.set_cons_succ]
  refine wpAnyH_take (i := 25) (oi := ⟨some 69, _, _, _, _, _⟩) (v := ?_) rfl (by kernel_rfl) (by kernel_rfl) (by kernel_rfl) (fun _ _ _ h => h) (Or.inl ⟨by kernel_rfl, ?_⟩) (by assumption) ?_
  rotate_left
  · intro w hSw; (try dsimp only at hSw); go_simp; try with_reducible rfl
  try simp only [Act.put, List.setIfInBounds_toArray, List.set_cons_zero, List.set_cons_succ]
  refine wpAnyH_done (by kernel_rfl) ?_ _
  exact HQ0 _ hs2

set_option maxRecDepth 1000000 in
set_option maxHeartbeats 4000000 in
theorem opens6_texts (SInv : World → Prop) (eb ab k : Nat) (nm vl : ByteArray) (u0 u1 u2 u4 u7 u8 u9 u10 u11 u12 u13 u14 u15 u16 u17 u18 u19 u20 u21 u22 u23 u24 u25 u26 u27 u28 u29 u30 u31 u32 u33 u34 u35 u36 u37 u38 u39 u40 u41 u42 u43 u44 u45 u46 u47 u48 u49 u50 u51 u52 u53 u54 u55 u56 u57 u58 u59 u60 u61 u62 u63 u64 u65 u66 u67 u68 u69 u70 : Value) (w : World)
    (HC : Hid (∀ w', SInv w' → w'.cell? ⟨ab, 0, none⟩ = some (.string nm) ∧ w'.cell? ⟨ab, 1, none⟩ = some (.string vl) ∧ SInv w'))
    (HNK : Hid (∀ w', SInv w' → Calls Tryd.prog 41 #[.string nm] w' fun e w'' => e = .returned (.bool true) ∧ SInv w''))
    (HTK : Hid (∀ w', SInv w' → Calls Tryd.prog 47 #[.string vl] w' fun e w'' => e = .returned (.bool false) ∧ SInv w''))
    (hS : SInv w.drew) (Q : Exit → Act → World → Prop) (hQ : Hid (∀ w', SInv w' → Q .normal ⟨#[u0, u1, u2, .pointer (some ⟨eb, 0, none⟩), u4, .int .i64 k, .pointer (some ⟨ab, 0, none⟩), u7, u8, u9, u10, u11, u12, u13, u14, u15, u16, u17, u18, u19, u20, u21, u22, u23, u24, u25, u26, u27, u28, u29, u30, u31, u32, u33, u34, u35, u36, u37, u38, u39, u40, u41, u42, u43, .pointer (some ⟨ab, 0, none⟩), .string nm, .bool true, .bool false, .bool false, .pointer (some ⟨ab, 1, none⟩), .string vl, .bool false, .bool true, .bool true, .bool true, undef, undef, undef, undef, undef, undef, undef, undef, undef, undef, undef, undef, undef, undef, .bool true, u70], []⟩ w')) :
    Code.wp Tryd.prog opens6 Q ⟨#[u0, u1, u2, .pointer (some ⟨eb, 0, none⟩), u4, .int .i64 k, .pointer (some ⟨ab, 0, none⟩), u7, u8, u9, u10, u11, u12, u13, u14, u15, u16, u17, u18, u19, u20, u21, u22, u23, u24, u25, u26, u27, u28, u29, u30, u31, u32, u33, u34, u35, u36, u37, u38, u39, u40, u41, u42, u43, u44, u45, u46, u47, u48, u49, u50, u51, u52, u53, u54, u55, u56, u57, u58, u59, u60, u61, u62, u63, u64, u65, u66, u67, u68, u69, u70], []⟩ w := by
  conv => arg 2; whnf
  have HQ0 := hQ.out
  refine wp_region_noPanic ?_
  refine wp_region_held_drew (S := (fun w' => w'.cell? ⟨ab, 0, none⟩ = some (.string nm) ∧ w'.cell? ⟨ab, 1, none⟩ = some (.string vl) ∧ SInv w')) (by kernel_rfl) (HC.out _ hS) (fun hHeld => ?_)
  refine wpAnyH_take (i := 0) (oi := ⟨some 44, _, _, _, _, _⟩) (v := ?_) rfl (by kernel_rfl) (by kernel_rfl) (by kernel_rfl) (fun _ _ _ h => h) (Or.inl ⟨by kernel_rfl, ?_⟩) (by assumption) ?_
  rotate_left
  · intro w hSw; (try dsimp only at hSw); go_simp; try with_reducible rfl
  try simp only [Act.put, List.setIfInBounds_toArray, List.set_cons_zero, List.set_cons_succ]
  refine wpAnyH_take (i := 1) (oi := ⟨some 45, _, _, _, _, _⟩) (v := ?_) rfl (by kernel_rfl) (by kernel_rfl) (by kernel_rfl) (fun _ _ _ h => h) (Or.inl ⟨by kernel_rfl, ?_⟩) (by assumption) ?_
  rotate_left
  · intro w hSw; (try dsimp only at hSw); go_simp; try with_reducible rfl
  try simp only [Act.put, List.setIfInBounds_toArray, List.set_cons_zero, List.set_cons_succ]
  refine wpAnyH_ready (rs := [2]) (by kernel_rfl) (by simp) ?_
  refine AllReadyH.cons rfl (fun K hK => ?_) AllReadyH.nil
  go_simp
  (go_at_call 41; (with_reducible refine (HNK.out _ (by first | exact hHeld.2.2)).mono ?_); rintro e w2 ⟨rfl, hs2⟩)
  refine hK.out _ _ (HC.out _ hs2) (fun hHeld2 => ?_)
  clear hK K
  try simp only [Act.put, List.setIfInBounds_toArray, List.set_cons_zero, List.set_cons_succ]
  refine wpAnyH_take (i := 3) (oi := ⟨some 47, _, _, _, _, _⟩) (v := ?_) rfl (by kernel_rfl) (by kernel_rfl) (by kernel_rfl) (fun _ _ _ h => h) (Or.inl ⟨by kernel_rfl, ?_⟩) (by assumption) ?_
  rotate_left
  · intro w hSw; (try dsimp only at hSw); go_simp; try with_reducible rfl
  try simp only [Act.put, List.setIfInBounds_toArray, List.set_cons_zero, List.set_cons_succ]
  refine wpAnyH_take (i := 4) (oi := ⟨some 48, _, _, _, _, _⟩) (v := ?_) rfl (by kernel_rfl) (by kernel_rfl) (by kernel_rfl) (fun _ _ _ h => h) (Or.inl ⟨by kernel_rfl, ?_⟩) (by assumption) ?_
  rotate_left
  · intro w hSw; (try dsimp only at hSw); go_simp; try with_reducible rfl
  try simp only [Act.put, List.setIfInBounds_toArray, List.set_cons_zero, List.set_cons_succ]
  refine wpAnyH_take (i := 5) (oi := ⟨some 49, _, _, _, _, _⟩) (v := ?_) rfl (by kernel_rfl) (by kernel_rfl) (by kernel_rfl) (fun _ _ _ h => h) (Or.inl ⟨by kernel_rfl, ?_⟩) (by assumption) ?_
  rotate_left
  · intro w hSw; (try dsimp only at hSw); go_simp; try with_reducible rfl
  try simp only [Act.put, List.setIfInBounds_toArray, List.set_cons_zero, List.set_cons_succ]
  refine wpAnyH_take (i := 6) (oi := ⟨some 50, _, _, _, _, _⟩) (v := ?_) rfl (by kernel_rfl) (by kernel_rfl) (by kernel_rfl) (fun _ _ _ h => h) (Or.inl ⟨by kernel_rfl, ?_⟩) (by assumption) ?_
  rotate_left
  · intro w hSw; (try dsimp only at hSw); go_simp; try with_reducible rfl
  try simp only [Act.put, List.setIfInBounds_toArray, List.set_cons_zero, List.set_cons_succ]
  refine wpAnyH_ready (rs := [7]) (by kernel_rfl) (by simp) ?_
  refine AllReadyH.cons rfl (fun K hK => ?_) AllReadyH.nil
  go_simp
  (go_at_call 47; (with_reducible refine (HTK.out _ (by first | exact hHeld2.2.2)).mono ?_); rintro e w7 ⟨rfl, hs7⟩)
  refine hK.out _ _ (HC.out _ hs7) (fun hHeld7 => ?_)
  clear hK K
  try simp only [Act.put, List.setIfInBounds_toArray, List.set_cons_zero, List.set_cons_succ]
  refine wpAnyH_take (i := 8) (oi := ⟨some 52, _, _, _, _, _⟩) (v := ?_) rfl (by kernel_rfl) (by kernel_rfl) (by kernel_rfl) (fun _ _ _ h => h) (Or.inl ⟨by kernel_rfl, ?_⟩) (by assumption) ?_
  rotate_left
  · intro w hSw; (try dsimp only at hSw); go_simp; try with_reducible rfl
  try simp only [Act.put, List.setIfInBounds_toArray, List.set_cons_zero, List.set_cons_succ]
  refine wpAnyH_take (i := 9) (oi := ⟨some 53, _, _, _, _, _⟩) (v := ?_) rfl (by kernel_rfl) (by kernel_rfl) (by kernel_rfl) (fun _ _ _ h => h) (Or.inl ⟨by kernel_rfl, ?_⟩) (by assumption) ?_
  rotate_left
  · intro w hSw; (try dsimp only at hSw); go_simp; try with_reducible rfl
  try simp only [Act.put, List.setIfInBounds_toArray, List.set_cons_zero, List.set_cons_succ]
  refine wpAnyH_take (i := 10) (oi := ⟨some 54, _, _, _, _, _⟩) (v := ?_) rfl (by kernel_rfl) (by kernel_rfl) (by kernel_rfl) (fun _ _ _ h => h) (Or.inl ⟨by kernel_rfl, ?_⟩) (by assumption) ?_
  rotate_left
  · intro w hSw; (try dsimp only at hSw); go_simp; try with_reducible rfl
  try simp only [Act.put, List.setIfInBounds_toArray, List.set_cons_zero, List.set_cons_succ]
  refine wpAnyH_skips (fuel := 1) (by kernel_rfl) (fun _ _ _ _ h => h) (by assumption) [11, 12, 13, 14, 15, 16, 17, 18, 19, 20, 21, 22, 23, 24] [some 55, some 56, some 57, some 58, some 59, some 60, some 61, some 62, some 63, some 64, some 65, some 66, some 67, some 68] 14 _ _ rfl (by kernel_rfl) ?_
  simp only [listedAfter, putU, Act.put, List.setIfInBounds_toArray, List.set_cons_zero, List.set_cons_succ]
  refine wpAnyH_take (i := 25) (oi := ⟨some 69, _, _, _, _, _⟩) (v := ?_) rfl (by kernel_rfl) (by kernel_rfl) (by kernel_rfl) (fun _ _ _ h => h) (Or.inl ⟨by kernel_rfl, ?_⟩) (by assumption) ?_
  rotate_left
  · intro w hSw; (try dsimp only at hSw); go_simp; try with_reducible rfl
  try simp only [Act.put, List.setIfInBounds_toArray, List.set_cons_zero, List.set_cons_succ]
  refine wpAnyH_done (by kernel_rfl) ?_ _
  exact HQ0 _ hs7
end Go.Proofs.YtklpihaelaagpaaDoor

namespace Go.Proofs.YtklpihaelaagpaaDoor
open Go.RowKit

set_option maxRecDepth 1000000 in
set_option maxHeartbeats 4000000 in
theorem opens6_next (SInv : World → Prop) (eb ab b o m c k j : Nat) (hj : k = j + 1) (hkm : k < m) (hm : m ≤ 1048576) (nm vl q : ByteArray) (T : Bool) (hT : (!(Op.bytesLess q.toList nm.toList)) = T) (u0 u1 u2 u4 u7 u8 u9 u10 u11 u12 u13 u14 u15 u16 u17 u18 u19 u20 u21 u22 u23 u24 u25 u26 u27 u28 u29 u30 u31 u32 u33 u34 u35 u36 u37 u38 u39 u40 u41 u42 u43 u44 u45 u46 u47 u48 u49 u50 u51 u52 u53 u54 u55 u56 u57 u58 u59 u60 u61 u62 u63 u64 u65 u66 u67 u68 u69 u70 : Value) (w : World)
    (HC : Hid (∀ w', SInv w' → w'.cell? ⟨ab, 0, none⟩ = some (.string nm) ∧ w'.cell? ⟨ab, 1, none⟩ = some (.string vl) ∧ w'.cell? ⟨eb, 4, none⟩ = some (.slice (some ⟨b, o, none⟩) m c) ∧ w'.cell? ⟨b, o + j * 2, none⟩ = some (.string q) ∧ SInv w'))
    (HNK : Hid (∀ w', SInv w' → Calls Tryd.prog 41 #[.string nm] w' fun e w'' => e = .returned (.bool true) ∧ SInv w''))
    (HTK : Hid (∀ w', SInv w' → Calls Tryd.prog 47 #[.string vl] w' fun e w'' => e = .returned (.bool true) ∧ SInv w''))
    (hS : SInv w.drew) (Q : Exit → Act → World → Prop) (hQ : Hid (∀ w', SInv w' → Q .normal ⟨#[u0, u1, u2, .pointer (some ⟨eb, 0, none⟩), u4, .int .i64 k, .pointer (some ⟨ab, 0, none⟩), u7, u8, u9, u10, u11, u12, u13, u14, u15, u16, u17, u18, u19, u20, u21, u22, u23, u24, u25, u26, u27, u28, u29, u30, u31, u32, u33, u34, u35, u36, u37, u38, u39, u40, u41, u42, u43, .pointer (some ⟨ab, 0, none⟩), .string nm, .bool true, .bool false, .bool false, .pointer (some ⟨ab, 1, none⟩), .string vl, .bool true, .bool false, .bool false, .bool false, .int .i64 k, .bool true, .bool true, .pointer (some ⟨eb, 4, none⟩), .slice (some ⟨b, o, none⟩) m c, .int .i64 k, .int .i64 j, .pointer (some ⟨b, o + j * 2, none⟩), .pointer (some ⟨b, o + j * 2, none⟩), .string q, .pointer (some ⟨ab, 0, none⟩), .string nm, .bool T, .bool T, .bool T, u70], []⟩ w')) :
    Code.wp Tryd.prog opens6 Q ⟨#[u0, u1, u2, .pointer (some ⟨eb, 0, none⟩), u4, .int .i64 k, .pointer (some ⟨ab, 0, none⟩), u7, u8, u9, u10, u11, u12, u13, u14, u15, u16, u17, u18, u19, u20, u21, u22, u23, u24, u25, u26, u27, u28, u29, u30, u31, u32, u33, u34, u35, u36, u37, u38, u39, u40, u41, u42, u43, u44, u45, u46, u47, u48, u49, u50, u51, u52, u53, u54, u55, u56, u57, u58, u59, u60, u61, u62, u63, u64, u65, u66, u67, u68, u69, u70], []⟩ w := by
  conv => arg 2; whnf
  have HQ0 := hQ.out
  have HQ1 := Lib.hid HQ0
  clear HQ0
  have hk1 : 0 < k := by omega
  have ew : IntKind.i64.wrap ((k : Int) - 1) = (j : Int) := by rw [IntWalk.i64_in _ (by omega)]; omega
  have i1 : (0 : Int) ≤ (j : Int) := by omega
  have i2 : (j : Int) < (m : Int) := by omega
  clear hQ hj
  go_region_held3 (fun w' => w'.cell? ⟨ab, 0, none⟩ = some (.string nm) ∧ w'.cell? ⟨ab, 1, none⟩ = some (.string vl) ∧ w'.cell? ⟨eb, 4, none⟩ = some (.slice (some ⟨b, o, none⟩) m c) ∧ w'.cell? ⟨b, o + j * 2, none⟩ = some (.string q) ∧ SInv w') (first | exact HC.out _ ‹_› | go_keep) (first | (go_at_call 41; (with_reducible refine (HNK.out _ (by assumption)).mono ?_); rintro e w5 ⟨rfl, hs5⟩) | (go_at_call 47; (with_reducible refine (HTK.out _ (by assumption)).mono ?_); rintro e w6 ⟨rfl, hs6⟩))
  subst hT
  exact HQ1.out _ (by assumption)
end Go.Proofs.YtklpihaelaagpaaDoor
