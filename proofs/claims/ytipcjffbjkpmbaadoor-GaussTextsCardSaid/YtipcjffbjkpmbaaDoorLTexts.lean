/- The walk of GaussTexts: whatever the arguments, true. -/
import Derived.Test.YtipcjffbjkpmbaaDoorLOrder
import Derived.Test.YtipcjffbjkpmbaaDoorGp
namespace Go.Proofs.YtipcjffbjkpmbaaDoor
open Go.RowKit Flo
theorem tolds_yes (x y f : Int) (w : World) :
    Calls Tryd.prog 25 #[.complex .f64 (W x) (W y), .int .i64 f, .agg #[.int .i64 x, .int .i64 y], .int .i64 f] w fun en w' => en = .returned (.bool true) ∧ Below w.heap.size w w' := by
  have q := told_any (W x) (W y) f x y f w
  rwa [decide_eq_true ⟨rfl, rfl, rfl⟩] at q
theorem tolds_no (w : World) :
    Calls Tryd.prog 25 #[.complex .f64 0 0, .int .i64 10, .agg #[.int .i64 0, .int .i64 0], .int .i64 10] w fun en w' => en = .returned (.bool true) ∧ Below w.heap.size w w' := by
  have q := tolds_yes 0 0 10 w
  rwa [W0] at q
set_option maxRecDepth 100000 in
set_option maxHeartbeats 4000000 in
theorem texts_00 (x y : Int) (raw : Bool) (s : ByteArray) (hs : s.size ≤ 140737488351232) (h1 : numC (zw raw x) (zw raw y) = none) (h2 : refParse s.data.toList = none) (w : World) (hI : Inv w) :
    Calls Tryd.prog 9 #[.agg #[.int .i64 x, .int .i64 y, .bool raw], .string s] w fun e w' => e = .returned (.bool true) ∧ Below w.heap.size w w' := by
  have HI := Lib.hid hI
  have qr := fun w => refParse_any s hs w
  have qg := fun w hI => gparse_any s hs w hI
  rw [h2] at qr qg
  simp only [refA, parseA] at qr qg
  have QR := Lib.hid qr; have QG := Lib.hid qg
  have QZ := Lib.hid (fun w => z_any x y raw w)
  have QO := Lib.hid (fun w => of_none (zw_lt raw x) (zw_lt raw y) h1 w)
  have QT := Lib.hid (fun w => text_none (zw_lt raw x) (zw_lt raw y) h1 w)
  clear h1 h2 hI hs qr qg
  go_enter Tryd.func9, Tryd.ntmps9
  go_wp2_with fail
  refine (awake_any _).mono ?_; rintro e w' ⟨rfl, rfl⟩
  go_wp2_with fail
  refine (QZ.out _).mono ?_; rintro e w1 ⟨rfl, hb1⟩
  have K1 : Keep w [(w.heap.size, 0, .int .i64 x), (w.heap.size, 1, .int .i64 y), (w.heap.size, 2, .bool raw)] w1 := Keep.below hb1 (Keep.alloc3 (k := w.heap.size) _ _ _ _ (by simp) (Keep.start w))
  clear hb1
  obtain ⟨⟨k0, z0, k1, z1, k2, z2, _⟩, hB⟩ := id K1
  clear hB
  go_wp2_with fail
  refine (QO.out _).mono ?_; rintro e w2 ⟨rfl, hb2⟩
  have K2 : Keep w [(w.heap.size, 0, .int .i64 x), (w.heap.size, 1, .int .i64 y), (w.heap.size, 2, .bool raw)] w2 := Keep.below hb2 K1
  clear hb2
  clear k0 z0 k1 z1 k2 z2
  obtain ⟨⟨k0, z0, k1, z1, k2, z2, _⟩, hB⟩ := id K2
  clear hB
  go_wp2_with fail
  refine (QZ.out _).mono ?_; rintro e w3 ⟨rfl, hb3⟩
  have K3 : Keep w [(w2.heap.size, 0, .int .i64 0), (w2.heap.size, 1, .int .i64 0), (w.heap.size, 0, .int .i64 x), (w.heap.size, 1, .int .i64 y), (w.heap.size, 2, .bool raw)] w3 := Keep.below hb3 (Keep.alloc2 (k := w2.heap.size) _ _ 32 (by simp) K2)
  clear hb3
  clear k0 z0 k1 z1 k2 z2
  obtain ⟨⟨k0, z0, k1, z1, k2, z2, k3, z3, k4, z4, _⟩, hB⟩ := id K3
  clear hB
  go_wp2_with fail
  refine (QT.out _).mono ?_; rintro e w' ⟨rfl, rfl⟩
  go_wp2_with fail
  refine (QR.out _).mono ?_; rintro e w4 ⟨rfl, hb4⟩
  have K4 : Keep w [(w2.heap.size, 0, .int .i64 0), (w2.heap.size, 1, .int .i64 0), (w.heap.size, 0, .int .i64 x), (w.heap.size, 1, .int .i64 y), (w.heap.size, 2, .bool raw)] w4 := Keep.below hb4 K3
  clear hb4
  clear k0 z0 k1 z1 k2 z2 k3 z3 k4 z4
  obtain ⟨⟨k0, z0, k1, z1, k2, z2, k3, z3, k4, z4, _⟩, hB⟩ := id K4
  clear hB
  go_wp2_with fail
  refine (QG.out _ (HI.out.below (And.right (Keep.alloc2 (k := w4.heap.size) _ _ 32 (by simp) K4)))).mono ?_; rintro e w5 ⟨rfl, hb5⟩
  have K5 : Keep w [(w4.heap.size, 0, .int .i64 0), (w4.heap.size, 1, .int .i64 0), (w2.heap.size, 0, .int .i64 0), (w2.heap.size, 1, .int .i64 0), (w.heap.size, 0, .int .i64 x), (w.heap.size, 1, .int .i64 y), (w.heap.size, 2, .bool raw)] w5 := Keep.below hb5 (Keep.alloc2 (k := w4.heap.size) _ _ 32 (by simp) K4)
  clear hb5
  clear k0 z0 k1 z1 k2 z2 k3 z3 k4 z4
  obtain ⟨⟨k0, z0, k1, z1, k2, z2, k3, z3, k4, z4, k5, z5, k6, z6, _⟩, hB⟩ := id K5
  clear hB
  go_wp2_with fail
  refine (tolds_no _).mono ?_; rintro e w6 ⟨rfl, hb6⟩
  have K6 : Keep w [(w4.heap.size, 0, .int .i64 0), (w4.heap.size, 1, .int .i64 0), (w2.heap.size, 0, .int .i64 0), (w2.heap.size, 1, .int .i64 0), (w.heap.size, 0, .int .i64 x), (w.heap.size, 1, .int .i64 y), (w.heap.size, 2, .bool raw)] w6 := Keep.below hb6 K5
  clear hb6
  clear k0 z0 k1 z1 k2 z2 k3 z3 k4 z4 k5 z5 k6 z6
  obtain ⟨⟨k0, z0, k1, z1, k2, z2, k3, z3, k4, z4, k5, z5, k6, z6, _⟩, hB⟩ := id K6
  clear hB
  go_wp2_with fail
  go_ret
  exact ⟨rfl, And.right K6⟩
set_option maxRecDepth 100000 in
set_option maxHeartbeats 4000000 in
theorem texts_01 (x y : Int) (raw : Bool) (s : ByteArray) (hs : s.size ≤ 140737488351232) (h1 : numC (zw raw x) (zw raw y) = none) (c d : Int) (h2 : refParse s.data.toList = some (c, d)) (w : World) (hI : Inv w) :
    Calls Tryd.prog 9 #[.agg #[.int .i64 x, .int .i64 y, .bool raw], .string s] w fun e w' => e = .returned (.bool true) ∧ Below w.heap.size w w' := by
  have HI := Lib.hid hI
  have qr := fun w => refParse_any s hs w
  have qg := fun w hI => gparse_any s hs w hI
  rw [h2] at qr qg
  simp only [refA, parseA] at qr qg
  have QR := Lib.hid qr; have QG := Lib.hid qg
  have QZ := Lib.hid (fun w => z_any x y raw w)
  have QO := Lib.hid (fun w => of_none (zw_lt raw x) (zw_lt raw y) h1 w)
  have QT := Lib.hid (fun w => text_none (zw_lt raw x) (zw_lt raw y) h1 w)
  clear h1 h2 hI hs qr qg
  go_enter Tryd.func9, Tryd.ntmps9
  go_wp2_with fail
  refine (awake_any _).mono ?_; rintro e w' ⟨rfl, rfl⟩
  go_wp2_with fail
  refine (QZ.out _).mono ?_; rintro e w1 ⟨rfl, hb1⟩
  have K1 : Keep w [(w.heap.size, 0, .int .i64 x), (w.heap.size, 1, .int .i64 y), (w.heap.size, 2, .bool raw)] w1 := Keep.below hb1 (Keep.alloc3 (k := w.heap.size) _ _ _ _ (by simp) (Keep.start w))
  clear hb1
  obtain ⟨⟨k0, z0, k1, z1, k2, z2, _⟩, hB⟩ := id K1
  clear hB
  go_wp2_with fail
  refine (QO.out _).mono ?_; rintro e w2 ⟨rfl, hb2⟩
  have K2 : Keep w [(w.heap.size, 0, .int .i64 x), (w.heap.size, 1, .int .i64 y), (w.heap.size, 2, .bool raw)] w2 := Keep.below hb2 K1
  clear hb2
  clear k0 z0 k1 z1 k2 z2
  obtain ⟨⟨k0, z0, k1, z1, k2, z2, _⟩, hB⟩ := id K2
  clear hB
  go_wp2_with fail
  refine (QZ.out _).mono ?_; rintro e w3 ⟨rfl, hb3⟩
  have K3 : Keep w [(w2.heap.size, 0, .int .i64 0), (w2.heap.size, 1, .int .i64 0), (w.heap.size, 0, .int .i64 x), (w.heap.size, 1, .int .i64 y), (w.heap.size, 2, .bool raw)] w3 := Keep.below hb3 (Keep.alloc2 (k := w2.heap.size) _ _ 32 (by simp) K2)
  clear hb3
  clear k0 z0 k1 z1 k2 z2
  obtain ⟨⟨k0, z0, k1, z1, k2, z2, k3, z3, k4, z4, _⟩, hB⟩ := id K3
  clear hB
  go_wp2_with fail
  refine (QT.out _).mono ?_; rintro e w' ⟨rfl, rfl⟩
  go_wp2_with fail
  refine (QR.out _).mono ?_; rintro e w4 ⟨rfl, hb4⟩
  have K4 : Keep w [(w2.heap.size, 0, .int .i64 0), (w2.heap.size, 1, .int .i64 0), (w.heap.size, 0, .int .i64 x), (w.heap.size, 1, .int .i64 y), (w.heap.size, 2, .bool raw)] w4 := Keep.below hb4 K3
  clear hb4
  clear k0 z0 k1 z1 k2 z2 k3 z3 k4 z4
  obtain ⟨⟨k0, z0, k1, z1, k2, z2, k3, z3, k4, z4, _⟩, hB⟩ := id K4
  clear hB
  go_wp2_with fail
  refine (QG.out _ (HI.out.below (And.right (Keep.alloc2 (k := w4.heap.size) _ _ 32 (by simp) K4)))).mono ?_; rintro e w5 ⟨rfl, hb5⟩
  have K5 : Keep w [(w4.heap.size, 0, .int .i64 c), (w4.heap.size, 1, .int .i64 d), (w2.heap.size, 0, .int .i64 0), (w2.heap.size, 1, .int .i64 0), (w.heap.size, 0, .int .i64 x), (w.heap.size, 1, .int .i64 y), (w.heap.size, 2, .bool raw)] w5 := Keep.below hb5 (Keep.alloc2 (k := w4.heap.size) _ _ 32 (by simp) K4)
  clear hb5
  clear k0 z0 k1 z1 k2 z2 k3 z3 k4 z4
  obtain ⟨⟨k0, z0, k1, z1, k2, z2, k3, z3, k4, z4, k5, z5, k6, z6, _⟩, hB⟩ := id K5
  clear hB
  go_wp2_with fail
  refine (tolds_yes _ _ _ _).mono ?_; rintro e w6 ⟨rfl, hb6⟩
  have K6 : Keep w [(w4.heap.size, 0, .int .i64 c), (w4.heap.size, 1, .int .i64 d), (w2.heap.size, 0, .int .i64 0), (w2.heap.size, 1, .int .i64 0), (w.heap.size, 0, .int .i64 x), (w.heap.size, 1, .int .i64 y), (w.heap.size, 2, .bool raw)] w6 := Keep.below hb6 K5
  clear hb6
  clear k0 z0 k1 z1 k2 z2 k3 z3 k4 z4 k5 z5 k6 z6
  obtain ⟨⟨k0, z0, k1, z1, k2, z2, k3, z3, k4, z4, k5, z5, k6, z6, _⟩, hB⟩ := id K6
  clear hB
  go_wp2_with fail
  go_ret
  exact ⟨rfl, And.right K6⟩
set_option maxRecDepth 100000 in
set_option maxHeartbeats 4000000 in
theorem texts_10 (x y : Int) (raw : Bool) (s : ByteArray) (hs : s.size ≤ 140737488351232) (a b : Int) (h1 : numC (zw raw x) (zw raw y) = some (a, b)) (h2 : refParse s.data.toList = none) (w : World) (hI : Inv w) :
    Calls Tryd.prog 9 #[.agg #[.int .i64 x, .int .i64 y, .bool raw], .string s] w fun e w' => e = .returned (.bool true) ∧ Below w.heap.size w w' := by
  have HI := Lib.hid hI
  have qr := fun w => refParse_any s hs w
  have qg := fun w hI => gparse_any s hs w hI
  rw [h2] at qr qg
  simp only [refA, parseA] at qr qg
  have QR := Lib.hid qr; have QG := Lib.hid qg
  have ka := okR_of h1
  have QZ := Lib.hid (fun w => z_some h1 w)
  have QO := Lib.hid (fun w => of_some (W_lt' a) (W_lt' b) (numC_R ka) w)
  have QT := Lib.hid (fun w hT => text_W ka w hT)
  have QS := Lib.hid (fun w => refText_any ka w)
  obtain ⟨S, hS⟩ : ∃ S : ByteArray, S = ⟨(textL a b).toArray⟩ := ⟨_, rfl⟩
  rw [← hS] at QT QS
  have hq : (S.toList == S.toList) = true := (Lib.bytes_beq_iff _ _).2 rfl
  clear h1 h2 hI hs qr qg ka hS
  go_enter Tryd.func9, Tryd.ntmps9
  go_wp2_with fail
  refine (awake_any _).mono ?_; rintro e w' ⟨rfl, rfl⟩
  go_wp2_with fail
  refine (QZ.out _).mono ?_; rintro e w1 ⟨rfl, hb1⟩
  have K1 : Keep w [(w.heap.size, 0, .int .i64 x), (w.heap.size, 1, .int .i64 y), (w.heap.size, 2, .bool raw)] w1 := Keep.below hb1 (Keep.alloc3 (k := w.heap.size) _ _ _ _ (by simp) (Keep.start w))
  clear hb1
  obtain ⟨⟨k0, z0, k1, z1, k2, z2, _⟩, hB⟩ := id K1
  clear hB
  go_wp2_with fail
  refine (QO.out _).mono ?_; rintro e w2 ⟨rfl, hb2⟩
  have K2 : Keep w [(w.heap.size, 0, .int .i64 x), (w.heap.size, 1, .int .i64 y), (w.heap.size, 2, .bool raw)] w2 := Keep.below hb2 K1
  clear hb2
  clear k0 z0 k1 z1 k2 z2
  obtain ⟨⟨k0, z0, k1, z1, k2, z2, _⟩, hB⟩ := id K2
  clear hB
  go_wp2_with fail
  refine (QZ.out _).mono ?_; rintro e w3 ⟨rfl, hb3⟩
  have K3 : Keep w [(w2.heap.size, 0, .int .i64 a), (w2.heap.size, 1, .int .i64 b), (w.heap.size, 0, .int .i64 x), (w.heap.size, 1, .int .i64 y), (w.heap.size, 2, .bool raw)] w3 := Keep.below hb3 (Keep.alloc2 (k := w2.heap.size) _ _ 32 (by simp) K2)
  clear hb3
  clear k0 z0 k1 z1 k2 z2
  obtain ⟨⟨k0, z0, k1, z1, k2, z2, k3, z3, k4, z4, _⟩, hB⟩ := id K3
  clear hB
  go_wp2_with fail
  refine (QT.out _ (HI.out.below (And.right K3)).pow).mono ?_; rintro e w4 ⟨rfl, hb4⟩
  have K4 : Keep w [(w2.heap.size, 0, .int .i64 a), (w2.heap.size, 1, .int .i64 b), (w.heap.size, 0, .int .i64 x), (w.heap.size, 1, .int .i64 y), (w.heap.size, 2, .bool raw)] w4 := Keep.below hb4 K3
  clear hb4
  clear k0 z0 k1 z1 k2 z2 k3 z3 k4 z4
  obtain ⟨⟨k0, z0, k1, z1, k2, z2, k3, z3, k4, z4, _⟩, hB⟩ := id K4
  clear hB
  go_wp2_with fail
  refine (QS.out _).mono ?_; rintro e w5 ⟨rfl, hb5⟩
  have K5 : Keep w [(w2.heap.size, 0, .int .i64 a), (w2.heap.size, 1, .int .i64 b), (w.heap.size, 0, .int .i64 x), (w.heap.size, 1, .int .i64 y), (w.heap.size, 2, .bool raw)] w5 := Keep.below hb5 K4
  clear hb5
  clear k0 z0 k1 z1 k2 z2 k3 z3 k4 z4
  obtain ⟨⟨k0, z0, k1, z1, k2, z2, k3, z3, k4, z4, _⟩, hB⟩ := id K5
  clear hB
  go_wp2_with fail
  refine (QR.out _).mono ?_; rintro e w6 ⟨rfl, hb6⟩
  have K6 : Keep w [(w2.heap.size, 0, .int .i64 a), (w2.heap.size, 1, .int .i64 b), (w.heap.size, 0, .int .i64 x), (w.heap.size, 1, .int .i64 y), (w.heap.size, 2, .bool raw)] w6 := Keep.below hb6 K5
  clear hb6
  clear k0 z0 k1 z1 k2 z2 k3 z3 k4 z4
  obtain ⟨⟨k0, z0, k1, z1, k2, z2, k3, z3, k4, z4, _⟩, hB⟩ := id K6
  clear hB
  go_wp2_with fail
  refine (QG.out _ (HI.out.below (And.right (Keep.alloc2 (k := w6.heap.size) _ _ 32 (by simp) K6)))).mono ?_; rintro e w7 ⟨rfl, hb7⟩
  have K7 : Keep w [(w6.heap.size, 0, .int .i64 0), (w6.heap.size, 1, .int .i64 0), (w2.heap.size, 0, .int .i64 a), (w2.heap.size, 1, .int .i64 b), (w.heap.size, 0, .int .i64 x), (w.heap.size, 1, .int .i64 y), (w.heap.size, 2, .bool raw)] w7 := Keep.below hb7 (Keep.alloc2 (k := w6.heap.size) _ _ 32 (by simp) K6)
  clear hb7
  clear k0 z0 k1 z1 k2 z2 k3 z3 k4 z4
  obtain ⟨⟨k0, z0, k1, z1, k2, z2, k3, z3, k4, z4, k5, z5, k6, z6, _⟩, hB⟩ := id K7
  clear hB
  go_wp2_with fail
  refine (tolds_no _).mono ?_; rintro e w8 ⟨rfl, hb8⟩
  have K8 : Keep w [(w6.heap.size, 0, .int .i64 0), (w6.heap.size, 1, .int .i64 0), (w2.heap.size, 0, .int .i64 a), (w2.heap.size, 1, .int .i64 b), (w.heap.size, 0, .int .i64 x), (w.heap.size, 1, .int .i64 y), (w.heap.size, 2, .bool raw)] w8 := Keep.below hb8 K7
  clear hb8
  clear k0 z0 k1 z1 k2 z2 k3 z3 k4 z4 k5 z5 k6 z6
  obtain ⟨⟨k0, z0, k1, z1, k2, z2, k3, z3, k4, z4, k5, z5, k6, z6, _⟩, hB⟩ := id K8
  clear hB
  go_wp2_with fail
  go_ret
  exact ⟨rfl, And.right K8⟩
set_option maxRecDepth 100000 in
set_option maxHeartbeats 4000000 in
theorem texts_11 (x y : Int) (raw : Bool) (s : ByteArray) (hs : s.size ≤ 140737488351232) (a b : Int) (h1 : numC (zw raw x) (zw raw y) = some (a, b)) (c d : Int) (h2 : refParse s.data.toList = some (c, d)) (w : World) (hI : Inv w) :
    Calls Tryd.prog 9 #[.agg #[.int .i64 x, .int .i64 y, .bool raw], .string s] w fun e w' => e = .returned (.bool true) ∧ Below w.heap.size w w' := by
  have HI := Lib.hid hI
  have qr := fun w => refParse_any s hs w
  have qg := fun w hI => gparse_any s hs w hI
  rw [h2] at qr qg
  simp only [refA, parseA] at qr qg
  have QR := Lib.hid qr; have QG := Lib.hid qg
  have ka := okR_of h1
  have QZ := Lib.hid (fun w => z_some h1 w)
  have QO := Lib.hid (fun w => of_some (W_lt' a) (W_lt' b) (numC_R ka) w)
  have QT := Lib.hid (fun w hT => text_W ka w hT)
  have QS := Lib.hid (fun w => refText_any ka w)
  obtain ⟨S, hS⟩ : ∃ S : ByteArray, S = ⟨(textL a b).toArray⟩ := ⟨_, rfl⟩
  rw [← hS] at QT QS
  have hq : (S.toList == S.toList) = true := (Lib.bytes_beq_iff _ _).2 rfl
  clear h1 h2 hI hs qr qg ka hS
  go_enter Tryd.func9, Tryd.ntmps9
  go_wp2_with fail
  refine (awake_any _).mono ?_; rintro e w' ⟨rfl, rfl⟩
  go_wp2_with fail
  refine (QZ.out _).mono ?_; rintro e w1 ⟨rfl, hb1⟩
  have K1 : Keep w [(w.heap.size, 0, .int .i64 x), (w.heap.size, 1, .int .i64 y), (w.heap.size, 2, .bool raw)] w1 := Keep.below hb1 (Keep.alloc3 (k := w.heap.size) _ _ _ _ (by simp) (Keep.start w))
  clear hb1
  obtain ⟨⟨k0, z0, k1, z1, k2, z2, _⟩, hB⟩ := id K1
  clear hB
  go_wp2_with fail
  refine (QO.out _).mono ?_; rintro e w2 ⟨rfl, hb2⟩
  have K2 : Keep w [(w.heap.size, 0, .int .i64 x), (w.heap.size, 1, .int .i64 y), (w.heap.size, 2, .bool raw)] w2 := Keep.below hb2 K1
  clear hb2
  clear k0 z0 k1 z1 k2 z2
  obtain ⟨⟨k0, z0, k1, z1, k2, z2, _⟩, hB⟩ := id K2
  clear hB
  go_wp2_with fail
  refine (QZ.out _).mono ?_; rintro e w3 ⟨rfl, hb3⟩
  have K3 : Keep w [(w2.heap.size, 0, .int .i64 a), (w2.heap.size, 1, .int .i64 b), (w.heap.size, 0, .int .i64 x), (w.heap.size, 1, .int .i64 y), (w.heap.size, 2, .bool raw)] w3 := Keep.below hb3 (Keep.alloc2 (k := w2.heap.size) _ _ 32 (by simp) K2)
  clear hb3
  clear k0 z0 k1 z1 k2 z2
  obtain ⟨⟨k0, z0, k1, z1, k2, z2, k3, z3, k4, z4, _⟩, hB⟩ := id K3
  clear hB
  go_wp2_with fail
  refine (QT.out _ (HI.out.below (And.right K3)).pow).mono ?_; rintro e w4 ⟨rfl, hb4⟩
  have K4 : Keep w [(w2.heap.size, 0, .int .i64 a), (w2.heap.size, 1, .int .i64 b), (w.heap.size, 0, .int .i64 x), (w.heap.size, 1, .int .i64 y), (w.heap.size, 2, .bool raw)] w4 := Keep.below hb4 K3
  clear hb4
  clear k0 z0 k1 z1 k2 z2 k3 z3 k4 z4
  obtain ⟨⟨k0, z0, k1, z1, k2, z2, k3, z3, k4, z4, _⟩, hB⟩ := id K4
  clear hB
  go_wp2_with fail
  refine (QS.out _).mono ?_; rintro e w5 ⟨rfl, hb5⟩
  have K5 : Keep w [(w2.heap.size, 0, .int .i64 a), (w2.heap.size, 1, .int .i64 b), (w.heap.size, 0, .int .i64 x), (w.heap.size, 1, .int .i64 y), (w.heap.size, 2, .bool raw)] w5 := Keep.below hb5 K4
  clear hb5
  clear k0 z0 k1 z1 k2 z2 k3 z3 k4 z4
  obtain ⟨⟨k0, z0, k1, z1, k2, z2, k3, z3, k4, z4, _⟩, hB⟩ := id K5
  clear hB
  go_wp2_with fail
  refine (QR.out _).mono ?_; rintro e w6 ⟨rfl, hb6⟩
  have K6 : Keep w [(w2.heap.size, 0, .int .i64 a), (w2.heap.size, 1, .int .i64 b), (w.heap.size, 0, .int .i64 x), (w.heap.size, 1, .int .i64 y), (w.heap.size, 2, .bool raw)] w6 := Keep.below hb6 K5
  clear hb6
  clear k0 z0 k1 z1 k2 z2 k3 z3 k4 z4
  obtain ⟨⟨k0, z0, k1, z1, k2, z2, k3, z3, k4, z4, _⟩, hB⟩ := id K6
  clear hB
  go_wp2_with fail
  refine (QG.out _ (HI.out.below (And.right (Keep.alloc2 (k := w6.heap.size) _ _ 32 (by simp) K6)))).mono ?_; rintro e w7 ⟨rfl, hb7⟩
  have K7 : Keep w [(w6.heap.size, 0, .int .i64 c), (w6.heap.size, 1, .int .i64 d), (w2.heap.size, 0, .int .i64 a), (w2.heap.size, 1, .int .i64 b), (w.heap.size, 0, .int .i64 x), (w.heap.size, 1, .int .i64 y), (w.heap.size, 2, .bool raw)] w7 := Keep.below hb7 (Keep.alloc2 (k := w6.heap.size) _ _ 32 (by simp) K6)
  clear hb7
  clear k0 z0 k1 z1 k2 z2 k3 z3 k4 z4
  obtain ⟨⟨k0, z0, k1, z1, k2, z2, k3, z3, k4, z4, k5, z5, k6, z6, _⟩, hB⟩ := id K7
  clear hB
  go_wp2_with fail
  refine (tolds_yes _ _ _ _).mono ?_; rintro e w8 ⟨rfl, hb8⟩
  have K8 : Keep w [(w6.heap.size, 0, .int .i64 c), (w6.heap.size, 1, .int .i64 d), (w2.heap.size, 0, .int .i64 a), (w2.heap.size, 1, .int .i64 b), (w.heap.size, 0, .int .i64 x), (w.heap.size, 1, .int .i64 y), (w.heap.size, 2, .bool raw)] w8 := Keep.below hb8 K7
  clear hb8
  clear k0 z0 k1 z1 k2 z2 k3 z3 k4 z4 k5 z5 k6 z6
  obtain ⟨⟨k0, z0, k1, z1, k2, z2, k3, z3, k4, z4, k5, z5, k6, z6, _⟩, hB⟩ := id K8
  clear hB
  go_wp2_with fail
  go_ret
  exact ⟨rfl, And.right K8⟩
theorem texts_any (x y : Int) (raw : Bool) (s : ByteArray) (hs : s.size ≤ 140737488351232) (w : World) (hI : Inv w) :
    Calls Tryd.prog 9 #[.agg #[.int .i64 x, .int .i64 y, .bool raw], .string s] w fun e w' => e = .returned (.bool true) ∧ Below w.heap.size w w' := by
  cases h1 : numC (zw raw x) (zw raw y) with
  | none =>
    cases h2 : refParse s.data.toList with
    | none => exact texts_00 x y raw s hs h1 h2 w hI
    | some p => obtain ⟨c, d⟩ := p; exact texts_01 x y raw s hs h1 c d h2 w hI
  | some q =>
    obtain ⟨a, b⟩ := q
    cases h2 : refParse s.data.toList with
    | none => exact texts_10 x y raw s hs a b h1 h2 w hI
    | some p => obtain ⟨c, d⟩ := p; exact texts_11 x y raw s hs a b h1 c d h2 w hI
end Go.Proofs.YtipcjffbjkpmbaaDoor
