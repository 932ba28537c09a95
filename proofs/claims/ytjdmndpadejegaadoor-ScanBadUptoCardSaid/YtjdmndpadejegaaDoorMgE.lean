/-
  Package refs: names, goesOn, named.
-/
import Derived.Test.YtjdmndpadejegaaDoorMgD
import Derived.Test.YtjdmndpadejegaaDoorShelf
import Derived.Maps.OwnSet
import Derived.StringKeys
namespace Go.Proofs.YtjdmndpadejegaaDoor
open Go.RowKit Go.Maps

theorem strKeyed : Keyed Tryd.prog 9 := string_keyed Tryd.underlying9
def kS (l : List UInt8) : Lit := .string l
def nameL : List (List UInt8 × Int) := [([97, 109, 112], 38), ([97, 112, 111, 115], 39), ([103, 116], 62), ([108, 116], 60), ([113, 117, 111, 116], 34)]
def nameD : DataW Unit := .map (nameL.map fun p => (.string p.1, .lit (.int .i32 p.2)))
theorem key_at (l : List UInt8) (h : l.length ≤ 1048576) : keyOf Tryd.prog 9 (.string ⟨l.toArray⟩) = some (.string l) := by
  have e : (⟨l.toArray⟩ : ByteArray).size = l.length := by simp [ByteArray.size]
  have := Go.WideMaps.keyOf_string_mk (P := Tryd.prog) (k := 9) Tryd.underlying9 (s := ⟨l.toArray⟩) (by unfold maxLen; omega)
  simpa using this
theorem elem_at (n : Int) (h : (Lit.int .i32 n).wf = true) : plainElem (H := Unit) Tryd.prog 21 (.int .i32 n) = some (.lit (.int .i32 n), []) := plainElem_int Tryd.underlying21 h

def RetNames (w : World) (e : Ending) (w' : World) : Prop :=
  ∃ b, e = .returned (.map (some b)) ∧ w'.ownsMap Tryd.prog 9 (plainElem (H := Unit) Tryd.prog 21) b 5 nameD ∧ w.heap.size ≤ b ∧ b < w'.heap.size ∧ Below w.heap.size w w'

theorem gb {w w' : World} {B b : Nat} (h : w.grownBy w' (some b)) (hB : B ≤ b) (hs : B ≤ w.heap.size) : Below B w w' := (Below.refl B w).grown h hs (fun k hk => by injection hk with hk; omega)

set_option maxHeartbeats 1000000 in
theorem names_any (w : World) :
    Calls Tryd.prog 77 #[] w fun e w' => RetNames w e w' := by
  go_enter Tryd.func77, Tryd.ntmps77
  go_wp2_with (refine wpList_makeMap _ rfl 145 (by rfl) ?_; refine wpList_insert_own _ rfl _ _ _ 145 (by rfl) 9 21 strKeyed Tryd.underlying145 _ w.heap.size 0 _ (World.ownsMap_made _ _ _ _) (by rfl) (by decide) _ _ _ (by rfl) (by rfl) (key_at [97, 109, 112] (by decide)) _ _ (elem_at 38 (by decide)) (fun w1 o1 g1 => ?_); refine wpList_insert_own _ rfl _ _ _ 145 (by rfl) 9 21 strKeyed Tryd.underlying145 _ w.heap.size 1 _ o1 (by rfl) (by decide) _ _ _ (by rfl) (by rfl) (key_at [108, 116] (by decide)) _ _ (elem_at 60 (by decide)) (fun w2 o2 g2 => ?_); refine wpList_insert_own _ rfl _ _ _ 145 (by rfl) 9 21 strKeyed Tryd.underlying145 _ w.heap.size 2 _ o2 (by rfl) (by decide) _ _ _ (by rfl) (by rfl) (key_at [103, 116] (by decide)) _ _ (elem_at 62 (by decide)) (fun w3 o3 g3 => ?_); refine wpList_insert_own _ rfl _ _ _ 145 (by rfl) 9 21 strKeyed Tryd.underlying145 _ w.heap.size 3 _ o3 (by rfl) (by decide) _ _ _ (by rfl) (by rfl) (key_at [113, 117, 111, 116] (by decide)) _ _ (elem_at 34 (by decide)) (fun w4 o4 g4 => ?_); refine wpList_insert_own _ rfl _ _ _ 145 (by rfl) 9 21 strKeyed Tryd.underlying145 _ w.heap.size 4 _ o4 (by rfl) (by decide) _ _ _ (by rfl) (by rfl) (key_at [97, 112, 111, 115] (by decide)) _ _ (elem_at 39 (by decide)) (fun w5 o5 g5 => ?_))
  go_ret
  have hlt : w.heap.size < (w.alloc (.map #[] 0)).heap.size := by simp
  have b1 := gb g1 (Nat.le_refl _) (Nat.le_of_lt hlt)
  have l1 := Nat.lt_of_lt_of_le hlt g1.size
  have b2 := gb g2 (Nat.le_refl _) (Nat.le_of_lt l1)
  have l2 := Nat.lt_of_lt_of_le l1 g2.size
  have b3 := gb g3 (Nat.le_refl _) (Nat.le_of_lt l2)
  have l3 := Nat.lt_of_lt_of_le l2 g3.size
  have b4 := gb g4 (Nat.le_refl _) (Nat.le_of_lt l3)
  have l4 := Nat.lt_of_lt_of_le l3 g4.size
  have b5 := gb g5 (Nat.le_refl _) (Nat.le_of_lt l4)
  have l5 := Nat.lt_of_lt_of_le l4 g5.size
  exact ⟨w.heap.size, rfl, o5, Nat.le_refl _, l5, ((((((Below.refl _ w).alloc (Nat.le_refl _) _).trans b1).trans b2).trans b3).trans b4).trans b5⟩

def goesL (t : List UInt8) : Bool := nameL.any fun p => t.isPrefixOf p.1

theorem key_inv {key : Value} {kl : Lit} (h : keyOf Tryd.prog 9 key = some kl) : ∃ x : ByteArray, key = .string x := by
  cases key <;> simp [keyOf, Tryd.underlying9, mapKey] at h
  exact ⟨_, rfl⟩
theorem key_inv2 {x : ByteArray} {kl : Lit} (h : keyOf Tryd.prog 9 (.string x) = some kl) : kl = .string x.data.toList := by
  simp [keyOf, Tryd.underlying9, mapKey] at h
  exact h.2.symm
theorem has_name (l : List UInt8) (h : has nameD (.string l) = true) : ∃ p ∈ nameL, p.1 = l := by
  simp only [nameD, has, List.any_map, List.any_eq_true] at h
  obtain ⟨p, hp, hk⟩ := h
  refine ⟨p, hp, ?_⟩
  simpa [Lit.sameKey] using hk

set_option maxRecDepth 100000 in
set_option maxHeartbeats 1000000 in
theorem goesOn_any (b : Nat) (s : ByteArray) (w : World) (hown : w.ownsMap Tryd.prog 9 (plainElem (H := Unit) Tryd.prog 21) b 5 nameD) :
    Calls Tryd.prog 78 #[.map (some b), .string s] w fun e w' => e = .returned (.bool (goesL s.data.toList)) ∧ Below w.heap.size w w' := by
  go_enter Tryd.func78, Tryd.ntmps78
  go_wp2_with (refine wpList_range_own _ rfl _ 145 (by rfl) 9 21 strKeyed Tryd.underlying145 _ b 5 nameD (by rfl) hown (fun w0 hrg0 hg0 hs0 => ?_))
  go_frame
  go_loopw [5] (fun _ wr => ∃ (left : Lit → Bool) (cnt : Nat), wr.ranges Tryd.prog 9 (plainElem (H := Unit) Tryd.prog 21) b w.heap.size 5 nameD left cnt ∧ Below w.heap.size w wr ∧ Hid (w.heap.size < wr.heap.size) ∧ Hid (∀ z, left z = true → has nameD z = true) ∧ Hid (∀ p ∈ nameL, left (.string p.1) = false → s.data.toList.isPrefixOf p.1 = false)) (fun _ wr => wr.rangeLeft b w.heap.size)
  case atStart =>
    refine ⟨_, _, hrg0, (Below.refl _ _).grown hg0 (Nat.le_refl _) (by intro k hk; cases hk), ?_, fun z h => h, ?_⟩
    · show _ < _; omega
    · intro p hp h
      exfalso
      have : ∀ p ∈ nameL, has nameD (.string p.1) = true := by decide
      rw [this p hp] at h
      cases h
  case round =>
    obtain ⟨left, cnt, hrg, hbw, hlt, hlh, hno⟩ := hrel
    clear hrg0 hg0 hs0 hown
    go_wp2_with (first | (refine wpList_next_ranges (α := ByteArray) (β := Int) _ rfl _ (by rfl) 9 strKeyed _ (fun x => .string x) (fun c => .int .i32 c) (fun key kl h => key_inv h) (fun v y h => let ⟨c, e, _⟩ := plainElem_int_inv Tryd.underlying21 h; ⟨c, e⟩) b w.heap.size 5 nameD left cnt (by rfl) hrg (fun h0 hl0 => ?_) (fun x c kl y w1 cnt1 hk1 hl1 _ _ hrg1 hc1 hg1 hs1 hen => ?_)) | (go_at_call 83; refine (Tryd.strings_HasPrefix _ _ _).mono ?_; rintro e w2 ⟨rfl, rfl⟩))
    · go_ret
      refine ⟨ret_bool ?_, hbw⟩
      unfold goesL
      symm
      rw [List.any_eq_false]
      intro p hp
      rw [hno.out p hp (hl0 _)]
      simp
    · rename_i htest
      have hkl := key_inv2 hk1
      subst hkl
      obtain ⟨p, hp, hpx⟩ := has_name _ (hlh.out _ hl1)
      have hpre : s.data.toList.isPrefixOf x.data.toList = true := by first | exact htest | assumption
      go_ret
      refine ⟨ret_bool ?_, hbw.trans ((Below.refl _ wr).grown hg1 (Nat.le_of_lt hlt.out) (by intro k hk; injection hk with hk; omega))⟩
      unfold goesL
      symm
      rw [List.any_eq_true]
      exact ⟨p, hp, by rw [hpx]; exact hpre⟩
    · have hpre : s.data.toList.isPrefixOf x.data.toList = false := by assumption
      have hkl := key_inv2 hk1
      subst hkl
      go_roundw
      case rel =>
        refine ⟨_, _, hrg1, hbw.trans ((Below.refl _ wr).grown hg1 (Nat.le_of_lt hlt.out) (by intro k hk; injection hk with hk; omega)), ?_, ?_, ?_⟩
        · show _ < _; rw [hs1]; exact hlt.out
        · intro z hz
          rw [Bool.and_eq_true] at hz
          exact hlh.out z hz.1
        · intro p hp h
          rw [Bool.and_eq_false_iff] at h
          rcases h with h | h
          · exact hno.out p hp h
          · have e : p.1 = x.data.toList := by simpa [Lit.sameKey] using h
            rw [e]; exact hpre
      case measure => rw [hrg1.left_eq, hrg.left_eq]; exact hc1

theorem ownsMap_below {w w' : World} {b n : Nat} {D : DataW Unit} {R : Value → Option (DataW Unit × List MemPlace)} {k : TypeId} (h : w.ownsMap Tryd.prog k R b n D) {B : Nat} (hb : Below B w w') (hB : b < B) : w'.ownsMap Tryd.prog k R b n D := by
  obtain ⟨es, clock, h1, h2⟩ := h
  exact ⟨es, clock, (hb.block b hB).trans h1, h2⟩

def lookN (l : List UInt8) : Option Int := (nameL.find? fun p => p.1 == l).map (·.2)
theorem look_map (l : List UInt8) : (∀ r, lookN l = some r → has nameD (.string l) = true ∧ nameD.atKey (.string l) (.lit (.int .i32 0)) = .lit (.int .i32 r)) ∧ (lookN l = none → has nameD (.string l) = false) := by
  by_cases h1 : l = [97, 109, 112]
  · subst h1; exact ⟨fun r h => by (have : r = 38 := by cases h; rfl); subst this; exact ⟨rfl, rfl⟩, fun h => by cases h⟩
  by_cases h2 : l = [97, 112, 111, 115]
  · subst h2; exact ⟨fun r h => by (have : r = 39 := by cases h; rfl); subst this; exact ⟨rfl, rfl⟩, fun h => by cases h⟩
  by_cases h3 : l = [103, 116]
  · subst h3; exact ⟨fun r h => by (have : r = 62 := by cases h; rfl); subst this; exact ⟨rfl, rfl⟩, fun h => by cases h⟩
  by_cases h4 : l = [108, 116]
  · subst h4; exact ⟨fun r h => by (have : r = 60 := by cases h; rfl); subst this; exact ⟨rfl, rfl⟩, fun h => by cases h⟩
  by_cases h5 : l = [113, 117, 111, 116]
  · subst h5; exact ⟨fun r h => by (have : r = 34 := by cases h; rfl); subst this; exact ⟨rfl, rfl⟩, fun h => by cases h⟩
  · have hn : lookN l = none := by
      have q1 : (([97, 109, 112] : List UInt8) == l) = false := beq_eq_false_iff_ne.2 (Ne.symm h1)
      have q2 : (([97, 112, 111, 115] : List UInt8) == l) = false := beq_eq_false_iff_ne.2 (Ne.symm h2)
      have q3 : (([103, 116] : List UInt8) == l) = false := beq_eq_false_iff_ne.2 (Ne.symm h3)
      have q4 : (([108, 116] : List UInt8) == l) = false := beq_eq_false_iff_ne.2 (Ne.symm h4)
      have q5 : (([113, 117, 111, 116] : List UInt8) == l) = false := beq_eq_false_iff_ne.2 (Ne.symm h5)
      simp only [lookN, nameL, List.find?_cons, q1, q2, q3, q4, q5, List.find?_nil, Option.map_none]
    refine ⟨fun r h => (by rw [hn] at h; cases h), fun _ => ?_⟩
    cases hh : has nameD (.string l) with
    | false => rfl
    | true =>
      obtain ⟨p, hp, e⟩ := has_name l hh
      simp only [nameL, List.mem_cons, List.not_mem_nil, or_false] at hp
      rcases hp with rfl | rfl | rfl | rfl | rfl
      · exact absurd e.symm h1
      · exact absurd e.symm h2
      · exact absurd e.symm h3
      · exact absurd e.symm h4
      · exact absurd e.symm h5

def seg (l : List UInt8) (m : Nat) : List UInt8 := (l.drop 1).take m
def namF (l : List UInt8) : Nat → Nat → Int × Int × Int
  | 0, _ => (0, 0, 1)
  | f + 1, m =>
    if h : m + 1 ≤ 5 ∧ m + 1 < l.length then
      if (lookN (seg l m)).isSome = true ∧ (l[m + 1]'h.2).toNat = 59 then ((lookN (seg l m)).getD 0, (m : Int) + 2, 0)
      else if goesL (seg l (m + 1)) = false then (0, (m : Int) + 1, 2)
      else namF l f (m + 1)
    else (0, 0, 1)

theorem namF_succ (l : List UInt8) (f m : Nat) : namF l (f + 1) m =
    if h : m + 1 ≤ 5 ∧ m + 1 < l.length then
      if (lookN (seg l m)).isSome = true ∧ (l[m + 1]'h.2).toNat = 59 then ((lookN (seg l m)).getD 0, (m : Int) + 2, 0)
      else if goesL (seg l (m + 1)) = false then (0, (m : Int) + 1, 2)
      else namF l f (m + 1)
    else (0, 0, 1) := rfl
theorem zeroI32 (w : World) : (zeroValue 21).run Tryd.prog w = .ok (.int .i32 0) w := by kernel_rfl
theorem Sl.sub {w : World} {b o n : Nat} {l : List UInt8} (h : Sl w (some ⟨b, o, none⟩) n (u8s l)) (m : Nat) (hm : m + 1 ≤ l.length) : Sl w (some ⟨b, o + 1, none⟩) m (u8s (seg l m)) := by
  have hl : (seg l m).length = m := by simp [seg]; omega
  refine ⟨by rw [u8s_length, hl], fun i hi => ?_⟩
  rw [u8s_length, hl] at hi
  obtain ⟨b', o', e, hlt, hc⟩ := h.cell (i + 1) (by rw [u8s_length]; omega)
  injection e with e
  injection e with e1 e2
  subst e1
  subst e2
  refine ⟨b, o + 1, rfl, hlt, ?_⟩
  rw [show o + 1 + i = o + (i + 1) by omega, hc]
  simp [u8s, seg]

set_option maxRecDepth 100000 in
set_option maxHeartbeats 2000000 in
theorem named_any (b o n c : Nat) (l : List UInt8) (w : World) (hs : Sl w (some ⟨b, o, none⟩) n (u8s l)) (hnc : n ≤ c) :
    Calls Tryd.prog 61 #[.slice (some ⟨b, o, none⟩) n c] w fun e w' => Ret3 e (namF l 6 0) ∧ Below w.heap.size w w' := by
  have hl : n = l.length := by have := hs.len; rw [u8s_length] at this; exact this
  have HL := Lib.hid hl
  have HS := Lib.hid hs
  clear hl hs
  go_enter Tryd.func61, Tryd.ntmps61
  go_wp2_with fail
  refine (names_any w).mono ?_
  rintro e w1 ⟨m, rfl, hown, hm1, hm2, hb1⟩
  have HO := Lib.hid hown
  clear hown
  go_wp2_with fail
  go_loopw [6] (fun ix wr => ∃ (k f : Nat), ix = .int .i64 ((k : Int) + 1) ∧ f + k = 6 ∧ Below w.heap.size w wr ∧ Below w1.heap.size w1 wr ∧ Hid (namF l f k = namF l 6 0)) (fun ix _ => 6 - (intOf ix).toNat)
  case atStart => exact ⟨0, 6, rfl, rfl, hb1, Below.refl _ _, rfl⟩
  case round =>
    obtain ⟨k, f, rfl, hfk, hbw, hbw1, hf⟩ := hrel
    by_cases hk : k + 1 ≤ 5 ∧ k + 1 < n
    · obtain ⟨hk5, hkn⟩ := hk
      obtain ⟨f, rfl⟩ : ∃ f', f = f' + 1 := ⟨f - 1, by omega⟩
      have hkl : k + 1 < l.length := by rw [← HL.out]; exact hkn
      have hd := hf.out
      rw [namF_succ l f k, dif_pos ⟨hk5, hkl⟩] at hd
      have hs1 := HS.out.below hbw
      have s0 := hs1.sub k (by omega)
      have s1 := hs1.sub (k + 1) (by omega)
      obtain ⟨_, _, he, _, e0⟩ := hs1.cell (k + 1) (by rw [u8s_length]; exact hkl)
      injection he with he
      injection he with he1 he2
      subst he1
      subst he2
      simp only [u8s, List.getElem_map] at e0
      generalize l[k + 1] = x at *
      have hx : x.toNat < 256 := x.toNat_lt
      have hc0 := run_bytes_str (P := Tryd.prog) (s := ⟨(seg l k).toArray⟩) s0 26 9 5 Tryd.underlying26 Tryd.underlying5 Tryd.underlying9 (c - 1)
      have hc1 := run_bytes_str (P := Tryd.prog) (s := ⟨(seg l (k + 1)).toArray⟩) s1 26 9 5 Tryd.underlying26 Tryd.underlying5 Tryd.underlying9 (c - 1)
      have hkey := key_at (seg l k) (by simp [seg]; omega)
      have hown := ownsMap_below HO.out hbw1 hm2
      obtain ⟨hlm1, hlm2⟩ := look_map (seg l k)
      have hgo := Lib.hid (goesOn_any m ⟨(seg l (k + 1)).toArray⟩ wr hown)
      have HD := Lib.hid hd
      have HM1 := Lib.hid hlm1
      have HM2 := Lib.hid hlm2
      have HBW := Lib.hid hbw
      have HBW1 := Lib.hid hbw1
      have hws : w1.heap.size ≤ wr.heap.size := hbw1.size
      have hws0 : w.heap.size ≤ wr.heap.size := hbw.size
      clear hs1 s0 s1 hd hlm1 hlm2 hf hbw hbw1
      obtain ⟨g, hg⟩ : ∃ g, goesL (seg l (k + 1)) = g := ⟨_, rfl⟩
      rw [show (⟨(seg l (k + 1)).toArray⟩ : ByteArray).data.toList = seg l (k + 1) by simp, hg] at hgo
      have HGO := Lib.hid hg
      clear hg
      cases hlk : lookN (seg l k) with
      | some r =>
        obtain ⟨hh, hat⟩ := HM1.out r hlk
        have HLK := Lib.hid hlk
        have HAT := Lib.hid hat
        clear hlk hat
        generalize (⟨(seg l k).toArray⟩ : ByteArray) = sk at *
        generalize (⟨(seg l (k + 1)).toArray⟩ : ByteArray) = sk1 at *
        by_cases h59 : x.toNat = 59
        · have hx59 : ((x.toNat : Int) == 59) = true := by simp; omega
          have HR : Hid (namF l 6 0 = (r, (k : Int) + 2, 0)) := by
            show _ = _
            rw [← HD.out, if_pos ⟨by rw [HLK.out]; rfl, h59⟩, HLK.out]; rfl
          clear HD
          go_wp2_with (at_lookup; refine wpList_lookup_own_ok_int _ rfl _ _ 145 (by rfl) 9 21 .i32 strKeyed Tryd.underlying145 Tryd.underlying21 (zeroI32 _) m 5 nameD (by rfl) hown _ _ (by rfl) hkey (fun cc hcc _ => ?_))
          refine bodyPost_ret (results_tmp3 rfl _ _ _) rfl ?_
          have hcr : cc = r := by
            have h9 := HAT.out
            rw [hcc] at h9
            injection h9 with h9
            injection h9 with _ h9
          have hi1 : ((k : Int) + 1 + 1) = (k : Int) + 2 := by omega
          exact ⟨by rw [HR.out]; unfold Ret3; simp [hcr, hi1], HBW.out⟩
        · have hx59 : ((x.toNat : Int) == 59) = false := by simp; omega
          cases g with
          | false =>
            have HR : Hid (namF l 6 0 = (0, (k : Int) + 1, 2)) := by
              show _ = _
              rw [← HD.out, if_neg (fun h => h59 h.2), if_pos HGO.out]
            clear HD
            go_wp2_with (first | (at_lookup; refine wpList_lookup_own_ok_int _ rfl _ _ 145 (by rfl) 9 21 .i32 strKeyed Tryd.underlying145 Tryd.underlying21 (zeroI32 _) m 5 nameD (by rfl) hown _ _ (by rfl) hkey (fun cc hcc _ => ?_)) | (go_at_call 78; refine hgo.out.mono ?_; rintro e w2 ⟨rfl, hb2⟩))
            refine bodyPost_ret (results_tmp3 rfl _ _ _) rfl ?_
            exact ⟨by rw [HR.out]; rfl, HBW.out.trans (hb2.mono hws0)⟩
          | true =>
            have HR : Hid (namF l f (k + 1) = namF l 6 0) := by
              show _ = _
              rw [← HD.out, if_neg (fun h => h59 h.2), if_neg (by rw [HGO.out]; simp)]
            clear HD
            go_wp2_with (first | (at_lookup; refine wpList_lookup_own_ok_int _ rfl _ _ 145 (by rfl) 9 21 .i32 strKeyed Tryd.underlying145 Tryd.underlying21 (zeroI32 _) m 5 nameD (by rfl) hown _ _ (by rfl) hkey (fun cc hcc _ => ?_)) | (go_at_call 78; refine hgo.out.mono ?_; rintro e w2 ⟨rfl, hb2⟩))
            go_roundw
            case rel => exact ⟨k + 1, f, by go_num, by omega, HBW.out.trans (hb2.mono hws0), HBW1.out.trans (hb2.mono hws), HR⟩
            case measure => simp [intOf]; omega
      | none =>
        have hh := HM2.out hlk
        have HLK := Lib.hid hlk
        clear hlk
        generalize (⟨(seg l k).toArray⟩ : ByteArray) = sk at *
        generalize (⟨(seg l (k + 1)).toArray⟩ : ByteArray) = sk1 at *
        cases g with
          | false =>
            have HR : Hid (namF l 6 0 = (0, (k : Int) + 1, 2)) := by
              show _ = _
              rw [← HD.out, if_neg (fun h => by rw [HLK.out] at h; exact absurd h.1 (by simp)), if_pos HGO.out]
            clear HD
            go_wp2_with (first | (at_lookup; refine wpList_lookup_own_ok_int _ rfl _ _ 145 (by rfl) 9 21 .i32 strKeyed Tryd.underlying145 Tryd.underlying21 (zeroI32 _) m 5 nameD (by rfl) hown _ _ (by rfl) hkey (fun cc hcc _ => ?_)) | (go_at_call 78; refine hgo.out.mono ?_; rintro e w2 ⟨rfl, hb2⟩))
            refine bodyPost_ret (results_tmp3 rfl _ _ _) rfl ?_
            exact ⟨by rw [HR.out]; rfl, HBW.out.trans (hb2.mono hws0)⟩
          | true =>
            have HR : Hid (namF l f (k + 1) = namF l 6 0) := by
              show _ = _
              rw [← HD.out, if_neg (fun h => by rw [HLK.out] at h; exact absurd h.1 (by simp)), if_neg (by rw [HGO.out]; simp)]
            clear HD
            go_wp2_with (first | (at_lookup; refine wpList_lookup_own_ok_int _ rfl _ _ 145 (by rfl) 9 21 .i32 strKeyed Tryd.underlying145 Tryd.underlying21 (zeroI32 _) m 5 nameD (by rfl) hown _ _ (by rfl) hkey (fun cc hcc _ => ?_)) | (go_at_call 78; refine hgo.out.mono ?_; rintro e w2 ⟨rfl, hb2⟩))
            go_roundw
            case rel => exact ⟨k + 1, f, by go_num, by omega, HBW.out.trans (hb2.mono hws0), HBW1.out.trans (hb2.mono hws), HR⟩
            case measure => simp [intOf]; omega
    · have hd := hf.out
      have hdd : namF l f k = (0, 0, 1) := by
        cases f with
        | zero => rfl
        | succ f => simp only [namF]; rw [dif_neg (by rw [← HL.out]; exact hk)]
      rw [hdd] at hd
      have HD := Lib.hid hd
      clear hd hdd hf
      by_cases hk5 : k + 1 ≤ 5
      · have hkn : ¬ k + 1 < n := fun h => hk ⟨hk5, h⟩
        clear hk
        go_wp2
        refine bodyPost_ret (results_tmp3 rfl _ _ _) rfl ?_
        exact ⟨by rw [← HD.out]; rfl, hbw⟩
      · clear hk
        go_wp2
        refine bodyPost_ret (results_tmp3 rfl _ _ _) rfl ?_
        exact ⟨by rw [← HD.out]; rfl, hbw⟩
end Go.Proofs.YtjdmndpadejegaaDoor

namespace Go.Proofs.YtjdmndpadejegaaDoor
open Go.RowKit

def readF : List UInt8 → Int × Int × Int
  | [] => (0, 0, 1)
  | a :: t =>
    if a.toNat = 38 then
      match t with
      | [] => (0, 0, 1)
      | b :: u =>
        if b.toNat = 35 then
          match u with
          | [] => (0, 0, 1)
          | c :: v => if c.toNat = 120 then numF 16 3 3 0 v else numF 10 2 2 0 (c :: v)
        else namF (a :: b :: u) 6 0
    else (0, 0, 2)

theorem numbered16_at (a : Option Addr) (n c : Nat) (l : List UInt8) (w : World) (hs : Sl w a n (u8s l)) (hn : n ≤ 1125899906842624) (hat : 3 ≤ n) (hR : RangesAt w 0) :
    Calls Tryd.prog 62 #[.slice a n c, .int .i64 3, .int .i32 16] w fun e w' => Ret3 e (numF 16 3 3 0 (l.drop 3)) ∧ Below w.heap.size w w' := numbered_16 3 a n c l w hs hn hat hR
theorem numbered10_at (a : Option Addr) (n c : Nat) (l : List UInt8) (w : World) (hs : Sl w a n (u8s l)) (hn : n ≤ 1125899906842624) (hat : 2 ≤ n) (hR : RangesAt w 0) :
    Calls Tryd.prog 62 #[.slice a n c, .int .i64 2, .int .i32 10] w fun e w' => Ret3 e (numF 10 2 2 0 (l.drop 2)) ∧ Below w.heap.size w w' := numbered_10 2 a n c l w hs hn hat hR

set_option maxRecDepth 100000 in
set_option maxHeartbeats 400000 in
theorem Read_bad (b o n c xn : Nat) (w : World)
    (e0 : w.cell? ⟨b, o, none⟩ = some (.int .u8 xn)) (h0 : 0 < n) (hxx : ((xn : Int) != 38) = true) :
    Calls Tryd.prog 45 #[.slice (some ⟨b, o, none⟩) n c] w fun e w' => Ret3 e (0, 0, 2) ∧ Below w.heap.size w w' := by
  have hn0 : ((n : Int) == 0) = false := by simp; omega
  go_enter Tryd.func45, Tryd.ntmps45
  go_wp2
  refine bodyPost_ret (results_tmp3 rfl _ _ _) rfl ?_
  exact ⟨rfl, Below.refl _ _⟩

set_option maxRecDepth 100000 in
set_option maxHeartbeats 400000 in
theorem Read_one (b o c xn : Nat) (w : World)
    (e0 : w.cell? ⟨b, o, none⟩ = some (.int .u8 xn)) (hxx : ((xn : Int) != 38) = false) :
    Calls Tryd.prog 45 #[.slice (some ⟨b, o, none⟩) 1 c] w fun e w' => Ret3 e (0, 0, 1) ∧ Below w.heap.size w w' := by
  go_enter Tryd.func45, Tryd.ntmps45
  go_wp2
  refine bodyPost_ret (results_tmp3 rfl _ _ _) rfl ?_
  exact ⟨rfl, Below.refl _ _⟩

set_option maxRecDepth 100000 in
set_option maxHeartbeats 400000 in
theorem Read_named (b o n c xn yn : Nat) (t : Int × Int × Int) (w : World)
    (e0 : w.cell? ⟨b, o, none⟩ = some (.int .u8 xn)) (e1 : w.cell? ⟨b, o + 1, none⟩ = some (.int .u8 yn)) (h1 : 1 < n) (hxx : ((xn : Int) != 38) = false) (hyy : ((yn : Int) != 35) = true)
    (hN : Calls Tryd.prog 61 #[.slice (some ⟨b, o, none⟩) n c] w fun e w' => Ret3 e t ∧ Below w.heap.size w w') :
    Calls Tryd.prog 45 #[.slice (some ⟨b, o, none⟩) n c] w fun e w' => Ret3 e t ∧ Below w.heap.size w w' := by
  have HN := Lib.hid hN
  clear hN
  have hn0 : ((n : Int) == 0) = false := by simp; omega
  have hn1 : ((n : Int) == 1) = false := by simp; omega
  go_enter Tryd.func45, Tryd.ntmps45
  go_wp2_with (go_at_call 61; refine HN.out.mono ?_; rintro e w1 ⟨rfl, hb1⟩)
  refine bodyPost_ret (results_tmp3 rfl _ _ _) rfl ?_
  exact ⟨rfl, hb1⟩

set_option maxRecDepth 100000 in
set_option maxHeartbeats 400000 in
theorem Read_two (b o c xn yn : Nat) (w : World)
    (e0 : w.cell? ⟨b, o, none⟩ = some (.int .u8 xn)) (e1 : w.cell? ⟨b, o + 1, none⟩ = some (.int .u8 yn)) (hxx : ((xn : Int) != 38) = false) (hyy : ((yn : Int) != 35) = false) :
    Calls Tryd.prog 45 #[.slice (some ⟨b, o, none⟩) 2 c] w fun e w' => Ret3 e (0, 0, 1) ∧ Below w.heap.size w w' := by
  go_enter Tryd.func45, Tryd.ntmps45
  go_wp2
  refine bodyPost_ret (results_tmp3 rfl _ _ _) rfl ?_
  exact ⟨rfl, Below.refl _ _⟩

set_option maxRecDepth 100000 in
set_option maxHeartbeats 400000 in
theorem Read_hex (b o n c xn yn zn : Nat) (t : Int × Int × Int) (w : World)
    (e0 : w.cell? ⟨b, o, none⟩ = some (.int .u8 xn)) (e1 : w.cell? ⟨b, o + 1, none⟩ = some (.int .u8 yn)) (e2 : w.cell? ⟨b, o + 2, none⟩ = some (.int .u8 zn)) (h2 : 2 < n) (hxx : ((xn : Int) != 38) = false) (hyy : ((yn : Int) != 35) = false) (hzz : ((zn : Int) == 120) = true)
    (hN : Calls Tryd.prog 62 #[.slice (some ⟨b, o, none⟩) n c, .int .i64 3, .int .i32 16] w fun e w' => Ret3 e t ∧ Below w.heap.size w w') :
    Calls Tryd.prog 45 #[.slice (some ⟨b, o, none⟩) n c] w fun e w' => Ret3 e t ∧ Below w.heap.size w w' := by
  have HN := Lib.hid hN
  clear hN
  have hn0 : ((n : Int) == 0) = false := by simp; omega
  have hn1 : ((n : Int) == 1) = false := by simp; omega
  have hn2 : ((n : Int) == 2) = false := by simp; omega
  go_enter Tryd.func45, Tryd.ntmps45
  go_wp2_with (go_at_call 62; refine HN.out.mono ?_; rintro e w1 ⟨rfl, hb1⟩)
  refine bodyPost_ret (results_tmp3 rfl _ _ _) rfl ?_
  exact ⟨rfl, hb1⟩

set_option maxRecDepth 100000 in
set_option maxHeartbeats 400000 in
theorem Read_dec (b o n c xn yn zn : Nat) (t : Int × Int × Int) (w : World)
    (e0 : w.cell? ⟨b, o, none⟩ = some (.int .u8 xn)) (e1 : w.cell? ⟨b, o + 1, none⟩ = some (.int .u8 yn)) (e2 : w.cell? ⟨b, o + 2, none⟩ = some (.int .u8 zn)) (h2 : 2 < n) (hxx : ((xn : Int) != 38) = false) (hyy : ((yn : Int) != 35) = false) (hzz : ((zn : Int) == 120) = false)
    (hN : Calls Tryd.prog 62 #[.slice (some ⟨b, o, none⟩) n c, .int .i64 2, .int .i32 10] w fun e w' => Ret3 e t ∧ Below w.heap.size w w') :
    Calls Tryd.prog 45 #[.slice (some ⟨b, o, none⟩) n c] w fun e w' => Ret3 e t ∧ Below w.heap.size w w' := by
  have HN := Lib.hid hN
  clear hN
  have hn0 : ((n : Int) == 0) = false := by simp; omega
  have hn1 : ((n : Int) == 1) = false := by simp; omega
  have hn2 : ((n : Int) == 2) = false := by simp; omega
  go_enter Tryd.func45, Tryd.ntmps45
  go_wp2_with (go_at_call 62; refine HN.out.mono ?_; rintro e w1 ⟨rfl, hb1⟩)
  refine bodyPost_ret (results_tmp3 rfl _ _ _) rfl ?_
  exact ⟨rfl, hb1⟩

theorem Read_any (a : Option Addr) (n c : Nat) (l : List UInt8) (w : World) (hs : Sl w a n (u8s l)) (hnc : n ≤ c) (hn : n ≤ 1125899906842624) (hR : RangesAt w 0) :
    Calls Tryd.prog 45 #[.slice a n c] w fun e w' => Ret3 e (readF l) ∧ Below w.heap.size w w' := by
  have hl : n = l.length := by have := hs.len; rw [u8s_length] at this; exact this
  rcases l with _ | ⟨x, t⟩
  · obtain rfl : n = 0 := hl
    go_enter Tryd.func45, Tryd.ntmps45
    go_wp2
    refine bodyPost_ret (results_tmp3 rfl _ _ _) rfl ?_
    exact ⟨rfl, Below.refl _ _⟩
  · have cells : ∃ b o, a = some ⟨b, o, none⟩ ∧ ∀ i, (h : i < (x :: t).length) → w.cell? ⟨b, o + i, none⟩ = some (.int .u8 ((x :: t)[i]).toNat) := by
      obtain ⟨b, o, rfl, _, _⟩ := hs.cell 0 (by simp [u8s])
      refine ⟨b, o, rfl, fun i hi => ?_⟩
      obtain ⟨_, _, he, _, e⟩ := hs.cell i (by rw [u8s_length]; exact hi)
      injection he with he
      injection he with he1 he2
      subst he1
      subst he2
      rw [e]
      simp only [u8s, List.getElem_map]
    obtain ⟨b, o, rfl, cells⟩ := cells
    have e0 : w.cell? ⟨b, o, none⟩ = some (.int .u8 x.toNat) := cells 0 (by simp)
    by_cases h38 : x.toNat = 38
    · have hxx : ((x.toNat : Int) != 38) = false := by simp; omega
      rcases t with _ | ⟨y, u⟩
      · obtain rfl : n = 1 := hl
        have e : readF [x] = (0, 0, 1) := by simp only [readF]; rw [if_pos h38]
        rw [e]
        exact Read_one b o c _ w e0 hxx
      · have e1 : w.cell? ⟨b, o + 1, none⟩ = some (.int .u8 y.toNat) := cells 1 (by simp)
        by_cases h35 : y.toNat = 35
        · have hyy : ((y.toNat : Int) != 35) = false := by simp; omega
          rcases u with _ | ⟨z, v⟩
          · obtain rfl : n = 2 := hl
            have e : readF [x, y] = (0, 0, 1) := by simp only [readF]; rw [if_pos h38, if_pos h35]
            rw [e]
            exact Read_two b o c _ _ w e0 e1 hxx hyy
          · have e2 : w.cell? ⟨b, o + 2, none⟩ = some (.int .u8 z.toNat) := cells 2 (by simp)
            have hn2 : 2 < n := by simp at hl; omega
            by_cases h120 : z.toNat = 120
            · have hzz : ((z.toNat : Int) == 120) = true := by simp; omega
              have e : readF (x :: y :: z :: v) = numF 16 3 3 0 v := by simp only [readF]; rw [if_pos h38, if_pos h35, if_pos h120]
              rw [e]
              exact Read_hex b o n c _ _ _ _ w e0 e1 e2 hn2 hxx hyy hzz (numbered16_at _ n c _ w hs hn (by omega) hR)
            · have hzz : ((z.toNat : Int) == 120) = false := by simp; omega
              have e : readF (x :: y :: z :: v) = numF 10 2 2 0 (z :: v) := by simp only [readF]; rw [if_pos h38, if_pos h35, if_neg h120]
              rw [e]
              exact Read_dec b o n c _ _ _ _ w e0 e1 e2 hn2 hxx hyy hzz (numbered10_at _ n c _ w hs hn (by omega) hR)
        · have hyy : ((y.toNat : Int) != 35) = true := by simp; omega
          have e : readF (x :: y :: u) = namF (x :: y :: u) 6 0 := by simp only [readF]; rw [if_pos h38, if_neg h35]
          rw [e]
          exact Read_named b o n c _ _ _ w e0 e1 (by simp at hl; omega) hxx hyy (named_any b o n c _ w hs hnc)
    · have hxx : ((x.toNat : Int) != 38) = true := by simp; omega
      have e : readF (x :: t) = (0, 0, 2) := by simp only [readF]; rw [if_neg h38]
      rw [e]
      exact Read_bad b o n c _ w e0 (by simp at hl; omega) hxx
end Go.Proofs.YtjdmndpadejegaaDoor

namespace Go.Proofs.YtjdmndpadejegaaDoor
open Go.RowKit

def Cut (f : List UInt8 → Int × Int × Int) (off : Nat) (l : List UInt8) : Prop :=
  (∀ j, j ≤ l.length → f (l.take j) = (0, 0, 1)) ∨
  ∃ k, k < l.length ∧ (∀ j, j ≤ k → f (l.take j) = (0, 0, 1)) ∧ ((∃ r, f l = (r, (off : Int) + k + 1, 0)) ∨ f l = (0, (off : Int) + k, 2)) ∧ ∀ m, f (l ++ m) = f l

theorem numF_cut (base : Int) (at' : Nat) (l : List UInt8) : ∀ (i : Nat) (r : Int), Cut (numF base at' i r) i l := by
  induction l with
  | nil => intro i r; left; intro j _; simp [numF]
  | cons b l ih =>
    intro i r
    by_cases h1 : b.toNat = 59 ∧ at' < i ∧ isR (rng 0) r = true
    · right
      refine ⟨0, by simp, fun j hj => by (obtain rfl : j = 0 := by omega); simp [numF], .inl ⟨r, ?_⟩, fun m => ?_⟩
      · simp only [numF]; rw [if_pos h1]; simp
      · simp only [List.cons_append, numF]; rw [if_pos h1, if_pos h1]
    · by_cases h2 : ¬ valD b.toNat < base ∨ 1114111 < r * base + valD b.toNat
      · right
        refine ⟨0, by simp, fun j hj => by (obtain rfl : j = 0 := by omega); simp [numF], .inr ?_, fun m => ?_⟩
        · simp only [numF]; rw [if_neg h1, if_pos h2]; simp
        · simp only [List.cons_append, numF]; rw [if_neg h1, if_pos h2, if_neg h1, if_pos h2]
      · have step : ∀ t, numF base at' i r (b :: t) = numF base at' (i + 1) (r * base + valD b.toNat) t := by
          intro t; simp only [numF]; rw [if_neg h1, if_neg h2]
        have nil : numF base at' i r [] = (0, 0, 1) := by simp [numF]
        rcases ih (i + 1) (r * base + valD b.toNat) with hw | ⟨k, hk, hj, hr, hm⟩
        · left
          intro j hj
          cases j with
          | zero => exact nil
          | succ j => rw [List.take_succ_cons, step]; exact hw j (by simpa using hj)
        · right
          refine ⟨k + 1, by simpa using hk, fun j hjk => ?_, ?_, fun m => ?_⟩
          · cases j with
            | zero => exact nil
            | succ j => rw [List.take_succ_cons, step]; exact hj j (by omega)
          · rw [step]
            rcases hr with ⟨r', e⟩ | e
            · left; exact ⟨r', by rw [e]; simp; omega⟩
            · right; rw [e]; simp; omega
          · rw [List.cons_append, step, step]; exact hm m

theorem namF_short (l : List UInt8) (f m : Nat) (h : l.length ≤ m + 1) : namF l f m = (0, 0, 1) := by
  cases f with
  | zero => rfl
  | succ f => rw [namF_succ, dif_neg (by omega)]
theorem seg_take (l : List UInt8) (m j : Nat) (h : m + 1 ≤ j) : seg (l.take j) m = seg l m := by
  unfold seg
  rw [List.drop_take, List.take_take, Nat.min_eq_left (by omega)]
theorem seg_app (l t : List UInt8) (m : Nat) (h : m + 1 ≤ l.length) : seg (l ++ t) m = seg l m := by
  unfold seg
  rw [List.drop_append_of_le_length (by omega), List.take_append_of_le_length (by rw [List.length_drop]; omega)]

theorem namF_cut (l : List UInt8) : ∀ (f m : Nat), Cut (fun l => namF l f m) 0 l := by
  intro f
  induction f with
  | zero => intro m; left; intro j _; rfl
  | succ f ih =>
    intro m
    by_cases h : m + 1 ≤ 5 ∧ m + 1 < l.length
    · by_cases h1 : (lookN (seg l m)).isSome = true ∧ (l[m + 1]'h.2).toNat = 59
      · right
        refine ⟨m + 1, h.2, fun j hj => namF_short _ _ _ (by simp; omega), .inl ⟨(lookN (seg l m)).getD 0, ?_⟩, fun t => ?_⟩
        · show namF l (f + 1) m = _
          rw [namF_succ, dif_pos h, if_pos h1]
          simp; omega
        · show namF (l ++ t) (f + 1) m = namF l (f + 1) m
          rw [namF_succ, namF_succ, dif_pos h, dif_pos ⟨h.1, by simp; omega⟩, seg_app l t m (by omega), List.getElem_append_left h.2, if_pos h1, if_pos h1]
      · by_cases h2 : goesL (seg l (m + 1)) = false
        · right
          refine ⟨m + 1, h.2, fun j hj => namF_short _ _ _ (by simp; omega), .inr ?_, fun t => ?_⟩
          · show namF l (f + 1) m = _
            rw [namF_succ, dif_pos h, if_neg h1, if_pos h2]
            simp
          · show namF (l ++ t) (f + 1) m = namF l (f + 1) m
            rw [namF_succ, namF_succ, dif_pos h, dif_pos ⟨h.1, by simp; omega⟩, seg_app l t m (by omega), seg_app l t (m + 1) (by omega), List.getElem_append_left h.2, if_neg h1, if_pos h2, if_neg h1, if_pos h2]
        · have step : namF l (f + 1) m = namF l f (m + 1) := by rw [namF_succ, dif_pos h, if_neg h1, if_neg h2]
          have stepj : ∀ j, m + 1 < j → j ≤ l.length → namF (l.take j) (f + 1) m = namF (l.take j) f (m + 1) := by
            intro j hj hjl
            rw [namF_succ, dif_pos ⟨h.1, by simp; omega⟩, seg_take l m j (by omega), seg_take l (m + 1) j (by omega), List.getElem_take, if_neg h1, if_neg h2]
          have stept : ∀ t, namF (l ++ t) (f + 1) m = namF (l ++ t) f (m + 1) := by
            intro t
            rw [namF_succ, dif_pos ⟨h.1, by simp; omega⟩, seg_app l t m (by omega), seg_app l t (m + 1) (by omega), List.getElem_append_left h.2, if_neg h1, if_neg h2]
          rcases ih (m + 1) with hw | ⟨k, hk, hj, hr, hm⟩
          · left
            intro j hj
            by_cases hjm : m + 1 < j
            · show namF (l.take j) (f + 1) m = _
              rw [stepj j hjm hj]; exact hw j hj
            · exact namF_short _ _ _ (by simp; omega)
          · right
            refine ⟨k, hk, fun j hjk => ?_, ?_, fun t => ?_⟩
            · by_cases hjm : m + 1 < j
              · show namF (l.take j) (f + 1) m = _
                rw [stepj j hjm (by omega)]; exact hj j hjk
              · exact namF_short _ _ _ (by simp; omega)
            · show (∃ r, namF l (f + 1) m = _) ∨ namF l (f + 1) m = _
              rw [step]; exact hr
            · show namF (l ++ t) (f + 1) m = namF l (f + 1) m
              rw [stept, step]; exact hm t
    · left
      intro j _
      show namF (l.take j) (f + 1) m = _
      rw [namF_succ, dif_neg (by simp; omega)]

theorem Cut.of_tail {f g : List UInt8 → Int × Int × Int} {off o : Nat} {p l : List UInt8} (ho : o = p.length) (hp : ∀ j, j ≤ p.length → f (p.take j) = (0, 0, 1)) (he : ∀ t, f (p ++ t) = g t) (h : Cut g (off + o) l) : Cut f off (p ++ l) := by
  subst ho
  have low : ∀ j, j ≤ p.length → f ((p ++ l).take j) = (0, 0, 1) := fun j hj => by rw [List.take_append_of_le_length hj]; exact hp j hj
  have high : ∀ j, p.length ≤ j → f ((p ++ l).take j) = g (l.take (j - p.length)) := fun j hj => by rw [List.take_append, List.take_of_length_le hj, he]
  rcases h with hw | ⟨k, hk, hj, hr, hm⟩
  · left
    intro j hj
    by_cases h : j ≤ p.length
    · exact low j h
    · rw [high j (by omega)]; exact hw _ (by simp at hj; omega)
  · right
    refine ⟨p.length + k, by simp; omega, fun j hjk => ?_, ?_, fun m => ?_⟩
    · by_cases h : j ≤ p.length
      · exact low j h
      · rw [high j (by omega)]; exact hj _ (by omega)
    · rw [he]
      rcases hr with ⟨r', e⟩ | e
      · left; exact ⟨r', by rw [e]; simp; omega⟩
      · right; rw [e]; simp; omega
    · rw [List.append_assoc, he, he]; exact hm m

theorem readF_cut (l : List UInt8) : Cut readF 0 l := by
  rcases l with _ | ⟨a, t⟩
  · left; intro j _; simp [readF]
  · by_cases h38 : a.toNat = 38
    · have r1 : readF [a] = (0, 0, 1) := by simp only [readF]; rw [if_pos h38]
      rcases t with _ | ⟨b, u⟩
      · left
        intro j hj
        match j, hj with
        | 0, _ => rfl
        | 1, _ => exact r1
      · by_cases h35 : b.toNat = 35
        · have r2 : readF [a, b] = (0, 0, 1) := by simp only [readF]; rw [if_pos h38, if_pos h35]
          rcases u with _ | ⟨c, v⟩
          · left
            intro j hj
            match j, hj with
            | 0, _ => rfl
            | 1, _ => exact r1
            | 2, _ => exact r2
          · by_cases h120 : c.toNat = 120
            · have he : ∀ t, readF ([a, b, c] ++ t) = numF 16 3 3 0 t := by
                intro t; simp only [List.cons_append, List.nil_append, readF]; rw [if_pos h38, if_pos h35, if_pos h120]
              refine Cut.of_tail (p := [a, b, c]) (o := 3) rfl ?_ he (numF_cut 16 3 v 3 0)
              intro j hj
              match j, hj with
              | 0, _ => rfl
              | 1, _ => exact r1
              | 2, _ => exact r2
              | 3, _ => exact he []
            · -- the tail's law is told of the whole of a text that begins with c alone
              have he : ∀ t, readF ([a, b] ++ c :: t) = numF 10 2 2 0 (c :: t) := by
                intro t; simp only [List.cons_append, List.nil_append, readF]; rw [if_pos h38, if_pos h35, if_neg h120]
              have hc := numF_cut 10 2 (c :: v) 2 0
              have take : ∀ j, readF ((a :: b :: c :: v).take (j + 2)) = numF 10 2 2 0 ((c :: v).take j) := by
                intro j
                cases j with
                | zero => exact r2
                | succ j => exact he _
              rcases hc with hw | ⟨k, hk, hj, hr, hm⟩
              · left
                intro j hj
                match j with
                | 0 => rfl
                | 1 => exact r1
                | j + 2 => rw [take]; exact hw j (by simp at hj ⊢; omega)
              · right
                refine ⟨k + 2, by simp at hk ⊢; omega, fun j hjk => ?_, ?_, fun m => ?_⟩
                · match j with
                  | 0 => rfl
                  | 1 => exact r1
                  | j + 2 => rw [take]; exact hj j (by omega)
                · show (∃ r, readF ([a, b] ++ c :: v) = _) ∨ readF ([a, b] ++ c :: v) = _
                  rw [he]
                  rcases hr with ⟨r', e⟩ | e
                  · left; exact ⟨r', by rw [e]; simp; omega⟩
                  · right; rw [e]; simp; omega
                · show readF ([a, b] ++ c :: (v ++ m)) = readF ([a, b] ++ c :: v)
                  rw [he, he]; exact hm m
        · have he : ∀ t, readF (a :: b :: t) = namF (a :: b :: t) 6 0 := by
            intro t; simp only [readF]; rw [if_pos h38, if_neg h35]
          have take : ∀ j, readF ((a :: b :: u).take (j + 2)) = namF ((a :: b :: u).take (j + 2)) 6 0 := fun j => he _
          rcases namF_cut (a :: b :: u) 6 0 with hw | ⟨k, hk, hj, hr, hm⟩
          · left
            intro j hj
            match j with
            | 0 => rfl
            | 1 => exact r1
            | j + 2 => rw [take]; exact hw (j + 2) hj
          · right
            refine ⟨k, hk, fun j hjk => ?_, ?_, fun m => ?_⟩
            · match j with
              | 0 => rfl
              | 1 => exact r1
              | j + 2 => rw [take]; exact hj (j + 2) hjk
            · rw [he]; exact hr
            · rw [List.cons_append, List.cons_append, he, he]; exact hm m
    · have bad : ∀ t, readF (a :: t) = (0, 0, 2) := by intro t; simp only [readF]; rw [if_neg h38]
      right
      refine ⟨0, by simp, fun j hj => by (obtain rfl : j = 0 := by omega); rfl, .inr (by rw [bad]; rfl), fun m => by rw [List.cons_append, bad, bad]⟩
end Go.Proofs.YtjdmndpadejegaaDoor
