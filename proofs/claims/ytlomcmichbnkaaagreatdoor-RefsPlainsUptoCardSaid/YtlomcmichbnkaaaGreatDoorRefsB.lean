/-
  Package refs: names, goesOn, named.
-/
import Derived.Test.YtlomcmichbnkaaaGreatDoorRefsA
import Derived.Test.YtlomcmichbnkaaaGreatDoorShelf
import Derived.Test.YtlomcmichbnkaaaGreatDoorGenM
import Derived.Maps.OwnSet
import Derived.StringKeys
namespace Go.Proofs.YtlomcmichbnkaaaGreatDoor
open Go.RowKit Go.Maps

theorem strKeyed : Keyed Tryz.prog 9 := string_keyed Tryz.underlying9
def kS (l : List UInt8) : Lit := .string l
/-- the five names and their characters, as a map reads -/
def nameL : List (List UInt8 × Int) := [([97, 109, 112], 38), ([97, 112, 111, 115], 39), ([103, 116], 62), ([108, 116], 60), ([113, 117, 111, 116], 34)]
def nameD : DataW Unit := .map (nameL.map fun p => (.string p.1, .lit (.int .i32 p.2)))
theorem key_at (l : List UInt8) (h : l.length ≤ 1048576) : keyOf Tryz.prog 9 (.string ⟨l.toArray⟩) = some (.string l) := by
  have e : (⟨l.toArray⟩ : ByteArray).size = l.length := by simp [ByteArray.size]
  have := Go.WideMaps.keyOf_string_mk (P := Tryz.prog) (k := 9) Tryz.underlying9 (s := ⟨l.toArray⟩) (by unfold maxLen; omega)
  simpa using this
theorem elem_at (n : Int) (h : (Lit.int .i32 n).wf = true) : plainElem (H := Unit) Tryz.prog 21 (.int .i32 n) = some (.lit (.int .i32 n), []) := plainElem_int Tryz.underlying21 h

/-- the map of names -/
def RetNames (w : World) (e : Ending) (w' : World) : Prop :=
  ∃ b, e = .returned (.map (some b)) ∧ w'.ownsMap Tryz.prog 9 (plainElem (H := Unit) Tryz.prog 21) b 5 nameD ∧ w.heap.size ≤ b ∧ b < w'.heap.size ∧ Below w.heap.size w w'

theorem gb {w w' : World} {B b : Nat} (h : w.grownBy w' (some b)) (hB : B ≤ b) (hs : B ≤ w.heap.size) : Below B w w' := (Below.refl B w).grown h hs (fun k hk => by injection hk with hk; omega)

set_option maxHeartbeats 1000000 in
theorem names_any (w : World) :
    Calls Tryz.prog 35 #[] w fun e w' => RetNames w e w' := by
  go_enter Tryz.func35, Tryz.ntmps35
  go_wp2_with (refine wpList_makeMap _ rfl 72 (by rfl) ?_; refine wpList_insert_own _ rfl _ _ _ 72 (by rfl) 9 21 strKeyed Tryz.underlying72 _ w.heap.size 0 _ (World.ownsMap_made _ _ _ _) (by rfl) (by decide) _ _ _ (by rfl) (by rfl) (key_at [97, 109, 112] (by decide)) _ _ (elem_at 38 (by decide)) (fun w1 o1 g1 => ?_); refine wpList_insert_own _ rfl _ _ _ 72 (by rfl) 9 21 strKeyed Tryz.underlying72 _ w.heap.size 1 _ o1 (by rfl) (by decide) _ _ _ (by rfl) (by rfl) (key_at [108, 116] (by decide)) _ _ (elem_at 60 (by decide)) (fun w2 o2 g2 => ?_); refine wpList_insert_own _ rfl _ _ _ 72 (by rfl) 9 21 strKeyed Tryz.underlying72 _ w.heap.size 2 _ o2 (by rfl) (by decide) _ _ _ (by rfl) (by rfl) (key_at [103, 116] (by decide)) _ _ (elem_at 62 (by decide)) (fun w3 o3 g3 => ?_); refine wpList_insert_own _ rfl _ _ _ 72 (by rfl) 9 21 strKeyed Tryz.underlying72 _ w.heap.size 3 _ o3 (by rfl) (by decide) _ _ _ (by rfl) (by rfl) (key_at [113, 117, 111, 116] (by decide)) _ _ (elem_at 34 (by decide)) (fun w4 o4 g4 => ?_); refine wpList_insert_own _ rfl _ _ _ 72 (by rfl) 9 21 strKeyed Tryz.underlying72 _ w.heap.size 4 _ o4 (by rfl) (by decide) _ _ _ (by rfl) (by rfl) (key_at [97, 112, 111, 115] (by decide)) _ _ (elem_at 39 (by decide)) (fun w5 o5 g5 => ?_))
  go_ret
  have hlt : w.heap.size < (w.alloc (.map #[] 0)).heap.size := by simp
  have b1 := gb g1 (Nat.le_refl _) (Nat.le_of_lt hlt)
  have l1 := Nat.lt_of_lt_of_le hlt g1.size
  have b2 := gb g2 (Nat.le_refl _) (Nat.le_of_lt l1)
  have l2 := Nat.lt_of_lt_of_le l1 g2.size
  have b3 := gb g3 (Nat.le_refl _) (Nat.le_of_lt l2)
  have l3 := Nat.lt_of_lt_of_le l2 g3.size
  have b4 := gb g4 (Nat.le_refl _) (Nat.le_of_lt l3)
  have l4 := Nat.lt_of_lt_of_le l3 g4.size
  have b5 := gb g5 (Nat.le_refl _) (Nat.le_of_lt l4)
  have l5 := Nat.lt_of_lt_of_le l4 g5.size
  exact ⟨w.heap.size, rfl, o5, Nat.le_refl _, l5, ((((((Below.refl _ w).alloc (Nat.le_refl _) _).trans b1).trans b2).trans b3).trans b4).trans b5⟩

/-- does a name begin with these bytes? -/
def goesL (t : List UInt8) : Bool := nameL.any fun p => t.isPrefixOf p.1

theorem key_inv {key : Value} {kl : Lit} (h : keyOf Tryz.prog 9 key = some kl) : ∃ x : ByteArray, key = .string x := by
  cases key <;> simp [keyOf, Tryz.underlying9, mapKey] at h
  exact ⟨_, rfl⟩
theorem key_inv2 {x : ByteArray} {kl : Lit} (h : keyOf Tryz.prog 9 (.string x) = some kl) : kl = .string x.data.toList := by
  simp [keyOf, Tryz.underlying9, mapKey] at h
  exact h.2.symm
theorem has_name (l : List UInt8) (h : has nameD (.string l) = true) : ∃ p ∈ nameL, p.1 = l := by
  simp only [nameD, has, List.any_map, List.any_eq_true] at h
  obtain ⟨p, hp, hk⟩ := h
  refine ⟨p, hp, ?_⟩
  simpa [Lit.sameKey] using hk

set_option maxRecDepth 100000 in
set_option maxHeartbeats 1000000 in
theorem goesOn_any (b : Nat) (s : ByteArray) (w : World) (hown : w.ownsMap Tryz.prog 9 (plainElem (H := Unit) Tryz.prog 21) b 5 nameD) :
    Calls Tryz.prog 36 #[.map (some b), .string s] w fun e w' => e = .returned (.bool (goesL s.data.toList)) ∧ Below w.heap.size w w' := by
  go_enter Tryz.func36, Tryz.ntmps36
  go_wp2_with (refine wpList_range_own _ rfl _ 72 (by rfl) 9 21 strKeyed Tryz.underlying72 _ b 5 nameD (by rfl) hown (fun w0 hrg0 hg0 hs0 => ?_))
  go_frame
  go_loopw [5] (fun _ wr => ∃ (left : Lit → Bool) (cnt : Nat), wr.ranges Tryz.prog 9 (plainElem (H := Unit) Tryz.prog 21) b w.heap.size 5 nameD left cnt ∧ Below w.heap.size w wr ∧ Hid (w.heap.size < wr.heap.size) ∧ Hid (∀ z, left z = true → has nameD z = true) ∧ Hid (∀ p ∈ nameL, left (.string p.1) = false → s.data.toList.isPrefixOf p.1 = false)) (fun _ wr => wr.rangeLeft b w.heap.size)
  case atStart =>
    refine ⟨_, _, hrg0, (Below.refl _ _).grown hg0 (Nat.le_refl _) (by intro k hk; cases hk), ?_, fun z h => h, ?_⟩
    · show _ < _; omega
    · intro p hp h
      exfalso
      have : ∀ p ∈ nameL, has nameD (.string p.1) = true := by decide
      rw [this p hp] at h
      cases h
  case round =>
    obtain ⟨left, cnt, hrg, hbw, hlt, hlh, hno⟩ := hrel
    clear hrg0 hg0 hs0 hown
    go_wp2_with (first | (refine wpList_next_ranges (α := ByteArray) (β := Int) _ rfl _ (by rfl) 9 strKeyed _ (fun x => .string x) (fun c => .int .i32 c) (fun key kl h => key_inv h) (fun v y h => let ⟨c, e, _⟩ := plainElem_int_inv Tryz.underlying21 h; ⟨c, e⟩) b w.heap.size 5 nameD left cnt (by rfl) hrg (fun h0 hl0 => ?_) (fun x c kl y w1 cnt1 hk1 hl1 _ _ hrg1 hc1 hg1 hs1 hen => ?_)) | (go_at_call 51; refine (Tryz.strings_HasPrefix _ _ _).mono ?_; rintro e w2 ⟨rfl, rfl⟩))
    · go_ret
      refine ⟨ret_bool ?_, hbw⟩
      unfold goesL
      symm
      rw [List.any_eq_false]
      intro p hp
      rw [hno.out p hp (hl0 _)]
      simp
    · rename_i htest
      have hkl := key_inv2 hk1
      subst hkl
      obtain ⟨p, hp, hpx⟩ := has_name _ (hlh.out _ hl1)
      have hpre : s.data.toList.isPrefixOf x.data.toList = true := by first | exact htest | assumption
      go_ret
      refine ⟨ret_bool ?_, hbw.trans ((Below.refl _ wr).grown hg1 (Nat.le_of_lt hlt.out) (by intro k hk; injection hk with hk; omega))⟩
      unfold goesL
      symm
      rw [List.any_eq_true]
      exact ⟨p, hp, by rw [hpx]; exact hpre⟩
    · have hpre : s.data.toList.isPrefixOf x.data.toList = false := by assumption
      have hkl := key_inv2 hk1
      subst hkl
      go_roundw
      case rel =>
        refine ⟨_, _, hrg1, hbw.trans ((Below.refl _ wr).grown hg1 (Nat.le_of_lt hlt.out) (by intro k hk; injection hk with hk; omega)), ?_, ?_, ?_⟩
        · show _ < _; rw [hs1]; exact hlt.out
        · intro z hz
          rw [Bool.and_eq_true] at hz
          exact hlh.out z hz.1
        · intro p hp h
          rw [Bool.and_eq_false_iff] at h
          rcases h with h | h
          · exact hno.out p hp h
          · have e : p.1 = x.data.toList := by simpa [Lit.sameKey] using h
            rw [e]; exact hpre
      case measure => rw [hrg1.left_eq, hrg.left_eq]; exact hc1

theorem ownsMap_below {w w' : World} {b n : Nat} {D : DataW Unit} {R : Value → Option (DataW Unit × List MemPlace)} {k : TypeId} (h : w.ownsMap Tryz.prog k R b n D) {B : Nat} (hb : Below B w w') (hB : b < B) : w'.ownsMap Tryz.prog k R b n D := by
  obtain ⟨es, clock, h1, h2⟩ := h
  exact ⟨es, clock, (hb.block b hB).trans h1, h2⟩

def lookN (l : List UInt8) : Option Int := (nameL.find? fun p => p.1 == l).map (·.2)
theorem look_map (l : List UInt8) : (∀ r, lookN l = some r → has nameD (.string l) = true ∧ nameD.atKey (.string l) (.lit (.int .i32 0)) = .lit (.int .i32 r)) ∧ (lookN l = none → has nameD (.string l) = false) := by
  by_cases h1 : l = [97, 109, 112]
  · subst h1; exact ⟨fun r h => by (have : r = 38 := by cases h; rfl); subst this; exact ⟨rfl, rfl⟩, fun h => by cases h⟩
  by_cases h2 : l = [97, 112, 111, 115]
  · subst h2; exact ⟨fun r h => by (have : r = 39 := by cases h; rfl); subst this; exact ⟨rfl, rfl⟩, fun h => by cases h⟩
  by_cases h3 : l = [103, 116]
  · subst h3; exact ⟨fun r h => by (have : r = 62 := by cases h; rfl); subst this; exact ⟨rfl, rfl⟩, fun h => by cases h⟩
  by_cases h4 : l = [108, 116]
  · subst h4; exact ⟨fun r h => by (have : r = 60 := by cases h; rfl); subst this; exact ⟨rfl, rfl⟩, fun h => by cases h⟩
  by_cases h5 : l = [113, 117, 111, 116]
  · subst h5; exact ⟨fun r h => by (have : r = 34 := by cases h; rfl); subst this; exact ⟨rfl, rfl⟩, fun h => by cases h⟩
  · have hn : lookN l = none := by
      have q1 : (([97, 109, 112] : List UInt8) == l) = false := beq_eq_false_iff_ne.2 (Ne.symm h1)
      have q2 : (([97, 112, 111, 115] : List UInt8) == l) = false := beq_eq_false_iff_ne.2 (Ne.symm h2)
      have q3 : (([103, 116] : List UInt8) == l) = false := beq_eq_false_iff_ne.2 (Ne.symm h3)
      have q4 : (([108, 116] : List UInt8) == l) = false := beq_eq_false_iff_ne.2 (Ne.symm h4)
      have q5 : (([113, 117, 111, 116] : List UInt8) == l) = false := beq_eq_false_iff_ne.2 (Ne.symm h5)
      simp only [lookN, nameL, List.find?_cons, q1, q2, q3, q4, q5, List.find?_nil, Option.map_none]
    refine ⟨fun r h => (by rw [hn] at h; cases h), fun _ => ?_⟩
    cases hh : has nameD (.string l) with
    | false => rfl
    | true =>
      obtain ⟨p, hp, e⟩ := has_name l hh
      simp only [nameL, List.mem_cons, List.not_mem_nil, or_false] at hp
      rcases hp with rfl | rfl | rfl | rfl | rfl
      · exact absurd e.symm h1
      · exact absurd e.symm h2
      · exact absurd e.symm h3
      · exact absurd e.symm h4
      · exact absurd e.symm h5

/-- the bytes from the first on, that many -/
def seg (l : List UInt8) (m : Nat) : List UInt8 := (l.drop 1).take m
/-- a reference with a name: m bytes of the name have been passed -/
def namF (l : List UInt8) : Nat → Nat → Int × Int × Int
  | 0, _ => (0, 0, 1)
  | f + 1, m =>
    if h : m + 1 ≤ 5 ∧ m + 1 < l.length then
      if (lookN (seg l m)).isSome = true ∧ (l[m + 1]'h.2).toNat = 59 then ((lookN (seg l m)).getD 0, (m : Int) + 2, 0)
      else if goesL (seg l (m + 1)) = false then (0, (m : Int) + 1, 2)
      else namF l f (m + 1)
    else (0, 0, 1)

theorem namF_succ (l : List UInt8) (f m : Nat) : namF l (f + 1) m =
    if h : m + 1 ≤ 5 ∧ m + 1 < l.length then
      if (lookN (seg l m)).isSome = true ∧ (l[m + 1]'h.2).toNat = 59 then ((lookN (seg l m)).getD 0, (m : Int) + 2, 0)
      else if goesL (seg l (m + 1)) = false then (0, (m : Int) + 1, 2)
      else namF l f (m + 1)
    else (0, 0, 1) := rfl
theorem zeroI32 (w : World) : (zeroValue 21).run Tryz.prog w = .ok (.int .i32 0) w := by kernel_rfl
theorem Sl.sub {w : World} {b o n : Nat} {l : List UInt8} (h : Sl w (some ⟨b, o, none⟩) n (u8s l)) (m : Nat) (hm : m + 1 ≤ l.length) : Sl w (some ⟨b, o + 1, none⟩) m (u8s (seg l m)) := by
  have hl : (seg l m).length = m := by simp [seg]; omega
  refine ⟨by rw [u8s_length, hl], fun i hi => ?_⟩
  rw [u8s_length, hl] at hi
  obtain ⟨b', o', e, hlt, hc⟩ := h.cell (i + 1) (by rw [u8s_length]; omega)
  injection e with e
  injection e with e1 e2
  subst e1
  subst e2
  refine ⟨b, o + 1, rfl, hlt, ?_⟩
  rw [show o + 1 + i = o + (i + 1) by omega, hc]
  simp [u8s, seg]

set_option maxRecDepth 100000 in
set_option maxHeartbeats 2000000 in
theorem named_any (b o n c : Nat) (l : List UInt8) (w : World) (hs : Sl w (some ⟨b, o, none⟩) n (u8s l)) (hnc : n ≤ c) :
    Calls Tryz.prog 23 #[.slice (some ⟨b, o, none⟩) n c] w fun e w' => Ret3 e (namF l 6 0) ∧ Below w.heap.size w w' := by
  have hl : n = l.length := by have := hs.len; rw [u8s_length] at this; exact this
  have HL := Lib.hid hl
  have HS := Lib.hid hs
  clear hl hs
  go_enter Tryz.func23, Tryz.ntmps23
  go_wp2_with fail
  refine (names_any w).mono ?_
  rintro e w1 ⟨m, rfl, hown, hm1, hm2, hb1⟩
  have HO := Lib.hid hown
  clear hown
  go_wp2_with fail
  go_loopw [6] (fun ix wr => ∃ (k f : Nat), ix = .int .i64 ((k : Int) + 1) ∧ f + k = 6 ∧ Below w.heap.size w wr ∧ Below w1.heap.size w1 wr ∧ Hid (namF l f k = namF l 6 0)) (fun ix _ => 6 - (intOf ix).toNat)
  case atStart => exact ⟨0, 6, rfl, rfl, hb1, Below.refl _ _, rfl⟩
  case round =>
    obtain ⟨k, f, rfl, hfk, hbw, hbw1, hf⟩ := hrel
    by_cases hk : k + 1 ≤ 5 ∧ k + 1 < n
    · obtain ⟨hk5, hkn⟩ := hk
      obtain ⟨f, rfl⟩ : ∃ f', f = f' + 1 := ⟨f - 1, by omega⟩
      have hkl : k + 1 < l.length := by rw [← HL.out]; exact hkn
      have hd := hf.out
      rw [namF_succ l f k, dif_pos ⟨hk5, hkl⟩] at hd
      have hs1 := HS.out.below hbw
      have s0 := hs1.sub k (by omega)
      have s1 := hs1.sub (k + 1) (by omega)
      obtain ⟨_, _, he, _, e0⟩ := hs1.cell (k + 1) (by rw [u8s_length]; exact hkl)
      injection he with he
      injection he with he1 he2
      subst he1
      subst he2
      simp only [u8s, List.getElem_map] at e0
      generalize l[k + 1] = x at *
      have hx : x.toNat < 256 := x.toNat_lt
      have hc0 := run_bytes_str (P := Tryz.prog) (s := ⟨(seg l k).toArray⟩) s0 31 9 5 Tryz.underlying31 Tryz.underlying5 Tryz.underlying9 (c - 1)
      have hc1 := run_bytes_str (P := Tryz.prog) (s := ⟨(seg l (k + 1)).toArray⟩) s1 31 9 5 Tryz.underlying31 Tryz.underlying5 Tryz.underlying9 (c - 1)
      have hkey := key_at (seg l k) (by simp [seg]; omega)
      have hown := ownsMap_below HO.out hbw1 hm2
      obtain ⟨hlm1, hlm2⟩ := look_map (seg l k)
      have hgo := Lib.hid (goesOn_any m ⟨(seg l (k + 1)).toArray⟩ wr hown)
      have HD := Lib.hid hd
      have HM1 := Lib.hid hlm1
      have HM2 := Lib.hid hlm2
      have HBW := Lib.hid hbw
      have HBW1 := Lib.hid hbw1
      have hws : w1.heap.size ≤ wr.heap.size := hbw1.size
      have hws0 : w.heap.size ≤ wr.heap.size := hbw.size
      clear hs1 s0 s1 hd hlm1 hlm2 hf hbw hbw1
      obtain ⟨g, hg⟩ : ∃ g, goesL (seg l (k + 1)) = g := ⟨_, rfl⟩
      rw [show (⟨(seg l (k + 1)).toArray⟩ : ByteArray).data.toList = seg l (k + 1) by simp, hg] at hgo
      have HGO := Lib.hid hg
      clear hg
      cases hlk : lookN (seg l k) with
      | some r =>
        obtain ⟨hh, hat⟩ := HM1.out r hlk
        have HLK := Lib.hid hlk
        have HAT := Lib.hid hat
        clear hlk hat
        generalize (⟨(seg l k).toArray⟩ : ByteArray) = sk at *
        generalize (⟨(seg l (k + 1)).toArray⟩ : ByteArray) = sk1 at *
        by_cases h59 : x.toNat = 59
        · have hx59 : ((x.toNat : Int) == 59) = true := by simp; omega
          have HR : Hid (namF l 6 0 = (r, (k : Int) + 2, 0)) := by
            show _ = _
            rw [← HD.out, if_pos ⟨by rw [HLK.out]; rfl, h59⟩, HLK.out]; rfl
          clear HD
          go_wp2_with (at_lookup; refine wpList_lookup_own_ok_int _ rfl _ _ 72 (by rfl) 9 21 .i32 strKeyed Tryz.underlying72 Tryz.underlying21 (zeroI32 _) m 5 nameD (by rfl) hown _ _ (by rfl) hkey (fun cc hcc _ => ?_))
          refine bodyPost_ret (results_tmp3 rfl _ _ _) rfl ?_
          have hcr : cc = r := by
            have h9 := HAT.out
            rw [hcc] at h9
            injection h9 with h9
            injection h9 with _ h9
          have hi1 : ((k : Int) + 1 + 1) = (k : Int) + 2 := by omega
          exact ⟨by rw [HR.out]; unfold Ret3; simp [hcr, hi1], HBW.out⟩
        · have hx59 : ((x.toNat : Int) == 59) = false := by simp; omega
          cases g with
          | false =>
            have HR : Hid (namF l 6 0 = (0, (k : Int) + 1, 2)) := by
              show _ = _
              rw [← HD.out, if_neg (fun h => h59 h.2), if_pos HGO.out]
            clear HD
            go_wp2_with (first | (at_lookup; refine wpList_lookup_own_ok_int _ rfl _ _ 72 (by rfl) 9 21 .i32 strKeyed Tryz.underlying72 Tryz.underlying21 (zeroI32 _) m 5 nameD (by rfl) hown _ _ (by rfl) hkey (fun cc hcc _ => ?_)) | (go_at_call 36; refine hgo.out.mono ?_; rintro e w2 ⟨rfl, hb2⟩))
            refine bodyPost_ret (results_tmp3 rfl _ _ _) rfl ?_
            exact ⟨by rw [HR.out]; rfl, HBW.out.trans (hb2.mono hws0)⟩
          | true =>
            have HR : Hid (namF l f (k + 1) = namF l 6 0) := by
              show _ = _
              rw [← HD.out, if_neg (fun h => h59 h.2), if_neg (by rw [HGO.out]; simp)]
            clear HD
            go_wp2_with (first | (at_lookup; refine wpList_lookup_own_ok_int _ rfl _ _ 72 (by rfl) 9 21 .i32 strKeyed Tryz.underlying72 Tryz.underlying21 (zeroI32 _) m 5 nameD (by rfl) hown _ _ (by rfl) hkey (fun cc hcc _ => ?_)) | (go_at_call 36; refine hgo.out.mono ?_; rintro e w2 ⟨rfl, hb2⟩))
            go_roundw
            case rel => exact ⟨k + 1, f, by go_num, by omega, HBW.out.trans (hb2.mono hws0), HBW1.out.trans (hb2.mono hws), HR⟩
            case measure => simp [intOf]; omega
      | none =>
        have hh := HM2.out hlk
        have HLK := Lib.hid hlk
        clear hlk
        generalize (⟨(seg l k).toArray⟩ : ByteArray) = sk at *
        generalize (⟨(seg l (k + 1)).toArray⟩ : ByteArray) = sk1 at *
        cases g with
          | false =>
            have HR : Hid (namF l 6 0 = (0, (k : Int) + 1, 2)) := by
              show _ = _
              rw [← HD.out, if_neg (fun h => by rw [HLK.out] at h; exact absurd h.1 (by simp)), if_pos HGO.out]
            clear HD
            go_wp2_with (first | (at_lookup; refine wpList_lookup_own_ok_int _ rfl _ _ 72 (by rfl) 9 21 .i32 strKeyed Tryz.underlying72 Tryz.underlying21 (zeroI32 _) m 5 nameD (by rfl) hown _ _ (by rfl) hkey (fun cc hcc _ => ?_)) | (go_at_call 36; refine hgo.out.mono ?_; rintro e w2 ⟨rfl, hb2⟩))
            refine bodyPost_ret (results_tmp3 rfl _ _ _) rfl ?_
            exact ⟨by rw [HR.out]; rfl, HBW.out.trans (hb2.mono hws0)⟩
          | true =>
            have HR : Hid (namF l f (k + 1) = namF l 6 0) := by
              show _ = _
              rw [← HD.out, if_neg (fun h => by rw [HLK.out] at h; exact absurd h.1 (by simp)), if_neg (by rw [HGO.out]; simp)]
            clear HD
            go_wp2_with (first | (at_lookup; refine wpList_lookup_own_ok_int _ rfl _ _ 72 (by rfl) 9 21 .i32 strKeyed Tryz.underlying72 Tryz.underlying21 (zeroI32 _) m 5 nameD (by rfl) hown _ _ (by rfl) hkey (fun cc hcc _ => ?_)) | (go_at_call 36; refine hgo.out.mono ?_; rintro e w2 ⟨rfl, hb2⟩))
            go_roundw
            case rel => exact ⟨k + 1, f, by go_num, by omega, HBW.out.trans (hb2.mono hws0), HBW1.out.trans (hb2.mono hws), HR⟩
            case measure => simp [intOf]; omega
    · have hd := hf.out
      have hdd : namF l f k = (0, 0, 1) := by
        cases f with
        | zero => rfl
        | succ f => simp only [namF]; rw [dif_neg (by rw [← HL.out]; exact hk)]
      rw [hdd] at hd
      have HD := Lib.hid hd
      clear hd hdd hf
      by_cases hk5 : k + 1 ≤ 5
      · have hkn : ¬ k + 1 < n := fun h => hk ⟨hk5, h⟩
        clear hk
        go_wp2
        refine bodyPost_ret (results_tmp3 rfl _ _ _) rfl ?_
        exact ⟨by rw [← HD.out]; rfl, hbw⟩
      · clear hk
        go_wp2
        refine bodyPost_ret (results_tmp3 rfl _ _ _) rfl ?_
        exact ⟨by rw [← HD.out]; rfl, hbw⟩
end Go.Proofs.YtlomcmichbnkaaaGreatDoor
