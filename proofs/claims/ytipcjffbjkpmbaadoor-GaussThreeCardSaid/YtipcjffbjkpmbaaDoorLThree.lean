/- The walk of GaussThree: whatever the arguments, true. -/
import Derived.Test.YtipcjffbjkpmbaaDoorLSums
import Derived.Test.YtipcjffbjkpmbaaDoorGl
namespace Go.Proofs.YtipcjffbjkpmbaaDoor
open Go.RowKit Flo
set_option maxRecDepth 100000 in
set_option maxHeartbeats 8000000 in
theorem three_any (x y : Int) (raw : Bool) (u v : Int) (raw2 : Bool) (s t : Int) (raw3 : Bool) (w : World) :
    Calls Tryd.prog 4 #[.agg #[.int .i64 x, .int .i64 y, .bool raw], .agg #[.int .i64 u, .int .i64 v, .bool raw2], .agg #[.int .i64 s, .int .i64 t, .bool raw3]] w fun e w' => e = .returned (.bool true) ∧ Below w.heap.size w w' := by
  obtain ⟨na, hna⟩ : ∃ n, n = numC (zw raw x) (zw raw y) := ⟨_, rfl⟩
  obtain ⟨nb, hnb⟩ : ∃ n, n = numC (zw raw2 u) (zw raw2 v) := ⟨_, rfl⟩
  obtain ⟨nc, hnc⟩ : ∃ n, n = numC (zw raw3 s) (zw raw3 t) := ⟨_, rfl⟩
  have qab := fun w => add_any _ _ _ _ (zw_lt raw x) (zw_lt raw y) (zw_lt raw2 u) (zw_lt raw2 v) w
  have qbc := fun w => add_any _ _ _ _ (zw_lt raw2 u) (zw_lt raw2 v) (zw_lt raw3 s) (zw_lt raw3 t) w
  have mab := fun w => mul_any _ _ _ _ (zw_lt raw x) (zw_lt raw y) (zw_lt raw2 u) (zw_lt raw2 v) w
  have mbc := fun w => mul_any _ _ _ _ (zw_lt raw2 u) (zw_lt raw2 v) (zw_lt raw3 s) (zw_lt raw3 t) w
  have mac := fun w => mul_any _ _ _ _ (zw_lt raw x) (zw_lt raw y) (zw_lt raw3 s) (zw_lt raw3 t) w
  rw [← hna, ← hnb] at qab mab; rw [← hnb, ← hnc] at qbc mbc; rw [← hna, ← hnc] at mac
  have q3 := fun w => add_any _ _ _ _ (W_lt' (gAdd na nb).1.1) (W_lt' (gAdd na nb).1.2) (zw_lt raw3 s) (zw_lt raw3 t) w
  have q4 := fun w => add_any _ _ _ _ (zw_lt raw x) (zw_lt raw y) (W_lt' (gAdd nb nc).1.1) (W_lt' (gAdd nb nc).1.2) w
  have q8 := fun w => mul_any _ _ _ _ (W_lt' (gMul na nb).1.1) (W_lt' (gMul na nb).1.2) (zw_lt raw3 s) (zw_lt raw3 t) w
  have q9 := fun w => mul_any _ _ _ _ (zw_lt raw x) (zw_lt raw y) (W_lt' (gMul nb nc).1.1) (W_lt' (gMul nb nc).1.2) w
  have q10 := fun w => add_any _ _ _ _ (W_lt' (gMul na nb).1.1) (W_lt' (gMul na nb).1.2) (W_lt' (gMul na nc).1.1) (W_lt' (gMul na nc).1.2) w
  have q11 := fun w => mul_any _ _ _ _ (zw_lt raw x) (zw_lt raw y) (W_lt' (gAdd nb nc).1.1) (W_lt' (gAdd nb nc).1.2) w
  have rW : ∀ p : Int × Int, okR p.1 p.2 = true → numC (W p.1) (W p.2) = some p := fun p h => numC_W (okR_iff.1 h).1 (okR_iff.1 h).2
  rw [rW _ (gAdd_rng na nb), ← hnc] at q3
  rw [rW _ (gAdd_rng nb nc), ← hna] at q4 q11
  rw [rW _ (gMul_rng na nb), ← hnc] at q8
  rw [rW _ (gMul_rng nb nc), ← hna] at q9
  rw [rW _ (gMul_rng na nb), rW _ (gMul_rng na nc)] at q10
  have L1 := fun h1 h2 => add_assoc_law (p := na) (q := nb) (r := nc) h1 h2
  have L2 := fun h1 h2 => mul_assoc_law (p := na) (q := nb) (r := nc) h1 h2
  have L3 := fun h1 h2 h3 h4 => dist_law (p := na) (q := nb) (r := nc) h1 h2 h3 h4
  obtain ⟨r1, e1⟩ : ∃ r, r = gAdd na nb := ⟨_, rfl⟩
  obtain ⟨r2, e2⟩ : ∃ r, r = gAdd nb nc := ⟨_, rfl⟩
  obtain ⟨r5, e5⟩ : ∃ r, r = gMul na nb := ⟨_, rfl⟩
  obtain ⟨r6, e6⟩ : ∃ r, r = gMul nb nc := ⟨_, rfl⟩
  obtain ⟨r7, e7⟩ : ∃ r, r = gMul na nc := ⟨_, rfl⟩
  rw [← e1] at qab q3 L1; rw [← e2] at qbc q4 q11 L1 L3; rw [← e5] at mab q8 q10 L2 L3; rw [← e6] at mbc q9 L2; rw [← e7] at mac q10 L3
  obtain ⟨r3, e3⟩ : ∃ r, r = gAdd (some r1.1) nc := ⟨_, rfl⟩
  obtain ⟨r4, e4⟩ : ∃ r, r = gAdd na (some r2.1) := ⟨_, rfl⟩
  obtain ⟨r8, e8⟩ : ∃ r, r = gMul (some r5.1) nc := ⟨_, rfl⟩
  obtain ⟨r9, e9⟩ : ∃ r, r = gMul na (some r6.1) := ⟨_, rfl⟩
  obtain ⟨r10, e10⟩ : ∃ r, r = gAdd (some r5.1) (some r7.1) := ⟨_, rfl⟩
  obtain ⟨r11, e11⟩ : ∃ r, r = gMul na (some r2.1) := ⟨_, rfl⟩
  rw [← e3] at q3 L1; rw [← e4] at q4 L1; rw [← e8] at q8 L2; rw [← e9] at q9 L2; rw [← e10] at q10 L3; rw [← e11] at q11 L3
  clear e1 e2 e3 e4 e5 e6 e7 e8 e9 e10 e11 rW hna hnb hnc
  have Qab := Lib.hid qab; have Qbc := Lib.hid qbc; have Mab := Lib.hid mab; have Mbc := Lib.hid mbc; have Mac := Lib.hid mac
  have Q3 := Lib.hid q3; have Q4 := Lib.hid q4; have Q8 := Lib.hid q8; have Q9 := Lib.hid q9; have Q10 := Lib.hid q10; have Q11 := Lib.hid q11
  have H1 := Lib.hid L1; have H2 := Lib.hid L2; have H3 := Lib.hid L3
  clear qab qbc mab mbc mac q3 q4 q8 q9 q10 q11 L1 L2 L3 na nb nc
  cases z1 : (r1.2 == 0)
  · have y1 : (r1.2 != 0) = true := by show (!(r1.2 == 0)) = _; rw [z1]; rfl
    cases z2 : (r2.2 == 0)
    · have y2 : (r2.2 != 0) = true := by show (!(r2.2 == 0)) = _; rw [z2]; rfl
      cases z5 : (r5.2 == 0)
      · have y5 : (r5.2 != 0) = true := by show (!(r5.2 == 0)) = _; rw [z5]; rfl
        clear H1 H2 H3
        go_enter Tryd.func4, Tryd.ntmps4
        go_wp2_with fail
        refine (awake_any _).mono ?_; rintro e w' ⟨rfl, rfl⟩
        go_wp2_with fail
        refine (z_any _ _ _ _).mono ?_; rintro e w1 ⟨rfl, hb1⟩
        have K1 : Keep w [(w.heap.size + 1 + 1, 0, .int .i64 s), (w.heap.size + 1 + 1, 1, .int .i64 t), (w.heap.size + 1 + 1, 2, .bool raw3), (w.heap.size + 1, 0, .int .i64 u), (w.heap.size + 1, 1, .int .i64 v), (w.heap.size + 1, 2, .bool raw2), (w.heap.size, 0, .int .i64 x), (w.heap.size, 1, .int .i64 y), (w.heap.size, 2, .bool raw)] w1 := Keep.below hb1 (Keep.alloc3 (k := w.heap.size + 1 + 1) _ _ _ _ (by simp) (Keep.alloc3 (k := w.heap.size + 1) _ _ _ _ (by simp) (Keep.alloc3 (k := w.heap.size) _ _ _ _ (by simp) (Keep.start w))))
        clear hb1
        obtain ⟨⟨k0, z0, k1, z1, k2, z2, k3, z3, k4, z4, k5, z5, k6, z6, k7, z7, k8, z8, _⟩, hB⟩ := id K1
        clear hB
        go_wp2_with fail
        refine (z_any _ _ _ _).mono ?_; rintro e w2 ⟨rfl, hb2⟩
        have K2 : Keep w [(w.heap.size + 1 + 1, 0, .int .i64 s), (w.heap.size + 1 + 1, 1, .int .i64 t), (w.heap.size + 1 + 1, 2, .bool raw3), (w.heap.size + 1, 0, .int .i64 u), (w.heap.size + 1, 1, .int .i64 v), (w.heap.size + 1, 2, .bool raw2), (w.heap.size, 0, .int .i64 x), (w.heap.size, 1, .int .i64 y), (w.heap.size, 2, .bool raw)] w2 := Keep.below hb2 K1
        clear hb2
        clear k0 z0 k1 z1 k2 z2 k3 z3 k4 z4 k5 z5 k6 z6 k7 z7 k8 z8
        obtain ⟨⟨k0, z0, k1, z1, k2, z2, k3, z3, k4, z4, k5, z5, k6, z6, k7, z7, k8, z8, _⟩, hB⟩ := id K2
        clear hB
        go_wp2_with fail
        refine (z_any _ _ _ _).mono ?_; rintro e w3 ⟨rfl, hb3⟩
        have K3 : Keep w [(w.heap.size + 1 + 1, 0, .int .i64 s), (w.heap.size + 1 + 1, 1, .int .i64 t), (w.heap.size + 1 + 1, 2, .bool raw3), (w.heap.size + 1, 0, .int .i64 u), (w.heap.size + 1, 1, .int .i64 v), (w.heap.size + 1, 2, .bool raw2), (w.heap.size, 0, .int .i64 x), (w.heap.size, 1, .int .i64 y), (w.heap.size, 2, .bool raw)] w3 := Keep.below hb3 K2
        clear hb3
        clear k0 z0 k1 z1 k2 z2 k3 z3 k4 z4 k5 z5 k6 z6 k7 z7 k8 z8
        obtain ⟨⟨k0, z0, k1, z1, k2, z2, k3, z3, k4, z4, k5, z5, k6, z6, k7, z7, k8, z8, _⟩, hB⟩ := id K3
        clear hB
        go_wp2_with fail
        refine (Qab.out _).mono ?_; rintro e w' ⟨rfl, rfl⟩
        go_wp2_with fail
        refine (Qbc.out _).mono ?_; rintro e w' ⟨rfl, rfl⟩
        go_wp2_with fail
        refine (Mab.out _).mono ?_; rintro e w' ⟨rfl, rfl⟩
        go_wp2_with fail
        refine (Mbc.out _).mono ?_; rintro e w' ⟨rfl, rfl⟩
        go_wp2_with fail
        refine (Mac.out _).mono ?_; rintro e w' ⟨rfl, rfl⟩
        go_wp2_with fail
        go_ret
        exact ⟨rfl, And.right K3⟩
      · have y5 : (r5.2 != 0) = false := by show (!(r5.2 == 0)) = _; rw [z5]; rfl
        cases z6 : (r6.2 == 0)
        · have y6 : (r6.2 != 0) = true := by show (!(r6.2 == 0)) = _; rw [z6]; rfl
          cases z7 : (r7.2 == 0)
          · have y7 : (r7.2 != 0) = true := by show (!(r7.2 == 0)) = _; rw [z7]; rfl
            clear H1 H2 H3
            go_enter Tryd.func4, Tryd.ntmps4
            go_wp2_with fail
            refine (awake_any _).mono ?_; rintro e w' ⟨rfl, rfl⟩
            go_wp2_with fail
            refine (z_any _ _ _ _).mono ?_; rintro e w1 ⟨rfl, hb1⟩
            have K1 : Keep w [(w.heap.size + 1 + 1, 0, .int .i64 s), (w.heap.size + 1 + 1, 1, .int .i64 t), (w.heap.size + 1 + 1, 2, .bool raw3), (w.heap.size + 1, 0, .int .i64 u), (w.heap.size + 1, 1, .int .i64 v), (w.heap.size + 1, 2, .bool raw2), (w.heap.size, 0, .int .i64 x), (w.heap.size, 1, .int .i64 y), (w.heap.size, 2, .bool raw)] w1 := Keep.below hb1 (Keep.alloc3 (k := w.heap.size + 1 + 1) _ _ _ _ (by simp) (Keep.alloc3 (k := w.heap.size + 1) _ _ _ _ (by simp) (Keep.alloc3 (k := w.heap.size) _ _ _ _ (by simp) (Keep.start w))))
            clear hb1
            obtain ⟨⟨k0, z0, k1, z1, k2, z2, k3, z3, k4, z4, k5, z5, k6, z6, k7, z7, k8, z8, _⟩, hB⟩ := id K1
            clear hB
            go_wp2_with fail
            refine (z_any _ _ _ _).mono ?_; rintro e w2 ⟨rfl, hb2⟩
            have K2 : Keep w [(w.heap.size + 1 + 1, 0, .int .i64 s), (w.heap.size + 1 + 1, 1, .int .i64 t), (w.heap.size + 1 + 1, 2, .bool raw3), (w.heap.size + 1, 0, .int .i64 u), (w.heap.size + 1, 1, .int .i64 v), (w.heap.size + 1, 2, .bool raw2), (w.heap.size, 0, .int .i64 x), (w.heap.size, 1, .int .i64 y), (w.heap.size, 2, .bool raw)] w2 := Keep.below hb2 K1
            clear hb2
            clear k0 z0 k1 z1 k2 z2 k3 z3 k4 z4 k5 z5 k6 z6 k7 z7 k8 z8
            obtain ⟨⟨k0, z0, k1, z1, k2, z2, k3, z3, k4, z4, k5, z5, k6, z6, k7, z7, k8, z8, _⟩, hB⟩ := id K2
            clear hB
            go_wp2_with fail
            refine (z_any _ _ _ _).mono ?_; rintro e w3 ⟨rfl, hb3⟩
            have K3 : Keep w [(w.heap.size + 1 + 1, 0, .int .i64 s), (w.heap.size + 1 + 1, 1, .int .i64 t), (w.heap.size + 1 + 1, 2, .bool raw3), (w.heap.size + 1, 0, .int .i64 u), (w.heap.size + 1, 1, .int .i64 v), (w.heap.size + 1, 2, .bool raw2), (w.heap.size, 0, .int .i64 x), (w.heap.size, 1, .int .i64 y), (w.heap.size, 2, .bool raw)] w3 := Keep.below hb3 K2
            clear hb3
            clear k0 z0 k1 z1 k2 z2 k3 z3 k4 z4 k5 z5 k6 z6 k7 z7 k8 z8
            obtain ⟨⟨k0, z0, k1, z1, k2, z2, k3, z3, k4, z4, k5, z5, k6, z6, k7, z7, k8, z8, _⟩, hB⟩ := id K3
            clear hB
            go_wp2_with fail
            refine (Qab.out _).mono ?_; rintro e w' ⟨rfl, rfl⟩
            go_wp2_with fail
            refine (Qbc.out _).mono ?_; rintro e w' ⟨rfl, rfl⟩
            go_wp2_with fail
            refine (Mab.out _).mono ?_; rintro e w' ⟨rfl, rfl⟩
            go_wp2_with fail
            refine (Mbc.out _).mono ?_; rintro e w' ⟨rfl, rfl⟩
            go_wp2_with fail
            refine (Mac.out _).mono ?_; rintro e w' ⟨rfl, rfl⟩
            go_wp2_with fail
            go_ret
            exact ⟨rfl, And.right K3⟩
          · have y7 : (r7.2 != 0) = false := by show (!(r7.2 == 0)) = _; rw [z7]; rfl
            cases z10 : (r10.2 == 0)
            · have y10 : (r10.2 != 0) = true := by show (!(r10.2 == 0)) = _; rw [z10]; rfl
              clear H1 H2 H3
              go_enter Tryd.func4, Tryd.ntmps4
              go_wp2_with fail
              refine (awake_any _).mono ?_; rintro e w' ⟨rfl, rfl⟩
              go_wp2_with fail
              refine (z_any _ _ _ _).mono ?_; rintro e w1 ⟨rfl, hb1⟩
              have K1 : Keep w [(w.heap.size + 1 + 1, 0, .int .i64 s), (w.heap.size + 1 + 1, 1, .int .i64 t), (w.heap.size + 1 + 1, 2, .bool raw3), (w.heap.size + 1, 0, .int .i64 u), (w.heap.size + 1, 1, .int .i64 v), (w.heap.size + 1, 2, .bool raw2), (w.heap.size, 0, .int .i64 x), (w.heap.size, 1, .int .i64 y), (w.heap.size, 2, .bool raw)] w1 := Keep.below hb1 (Keep.alloc3 (k := w.heap.size + 1 + 1) _ _ _ _ (by simp) (Keep.alloc3 (k := w.heap.size + 1) _ _ _ _ (by simp) (Keep.alloc3 (k := w.heap.size) _ _ _ _ (by simp) (Keep.start w))))
              clear hb1
              obtain ⟨⟨k0, z0, k1, z1, k2, z2, k3, z3, k4, z4, k5, z5, k6, z6, k7, z7, k8, z8, _⟩, hB⟩ := id K1
              clear hB
              go_wp2_with fail
              refine (z_any _ _ _ _).mono ?_; rintro e w2 ⟨rfl, hb2⟩
              have K2 : Keep w [(w.heap.size + 1 + 1, 0, .int .i64 s), (w.heap.size + 1 + 1, 1, .int .i64 t), (w.heap.size + 1 + 1, 2, .bool raw3), (w.heap.size + 1, 0, .int .i64 u), (w.heap.size + 1, 1, .int .i64 v), (w.heap.size + 1, 2, .bool raw2), (w.heap.size, 0, .int .i64 x), (w.heap.size, 1, .int .i64 y), (w.heap.size, 2, .bool raw)] w2 := Keep.below hb2 K1
              clear hb2
              clear k0 z0 k1 z1 k2 z2 k3 z3 k4 z4 k5 z5 k6 z6 k7 z7 k8 z8
              obtain ⟨⟨k0, z0, k1, z1, k2, z2, k3, z3, k4, z4, k5, z5, k6, z6, k7, z7, k8, z8, _⟩, hB⟩ := id K2
              clear hB
              go_wp2_with fail
              refine (z_any _ _ _ _).mono ?_; rintro e w3 ⟨rfl, hb3⟩
              have K3 : Keep w [(w.heap.size + 1 + 1, 0, .int .i64 s), (w.heap.size + 1 + 1, 1, .int .i64 t), (w.heap.size + 1 + 1, 2, .bool raw3), (w.heap.size + 1, 0, .int .i64 u), (w.heap.size + 1, 1, .int .i64 v), (w.heap.size + 1, 2, .bool raw2), (w.heap.size, 0, .int .i64 x), (w.heap.size, 1, .int .i64 y), (w.heap.size, 2, .bool raw)] w3 := Keep.below hb3 K2
              clear hb3
              clear k0 z0 k1 z1 k2 z2 k3 z3 k4 z4 k5 z5 k6 z6 k7 z7 k8 z8
              obtain ⟨⟨k0, z0, k1, z1, k2, z2, k3, z3, k4, z4, k5, z5, k6, z6, k7, z7, k8, z8, _⟩, hB⟩ := id K3
              clear hB
              go_wp2_with fail
              refine (Qab.out _).mono ?_; rintro e w' ⟨rfl, rfl⟩
              go_wp2_with fail
              refine (Qbc.out _).mono ?_; rintro e w' ⟨rfl, rfl⟩
              go_wp2_with fail
              refine (Mab.out _).mono ?_; rintro e w' ⟨rfl, rfl⟩
              go_wp2_with fail
              refine (Mbc.out _).mono ?_; rintro e w' ⟨rfl, rfl⟩
              go_wp2_with fail
              refine (Mac.out _).mono ?_; rintro e w' ⟨rfl, rfl⟩
              go_wp2_with fail
              refine (Q10.out _).mono ?_; rintro e w' ⟨rfl, rfl⟩
              go_wp2_with fail
              refine (Qbc.out _).mono ?_; rintro e w' ⟨rfl, rfl⟩
              go_wp2_with fail
              go_ret
              exact ⟨rfl, And.right K3⟩
            · have y10 : (r10.2 != 0) = false := by show (!(r10.2 == 0)) = _; rw [z10]; rfl
              clear H1 H2 H3
              go_enter Tryd.func4, Tryd.ntmps4
              go_wp2_with fail
              refine (awake_any _).mono ?_; rintro e w' ⟨rfl, rfl⟩
              go_wp2_with fail
              refine (z_any _ _ _ _).mono ?_; rintro e w1 ⟨rfl, hb1⟩
              have K1 : Keep w [(w.heap.size + 1 + 1, 0, .int .i64 s), (w.heap.size + 1 + 1, 1, .int .i64 t), (w.heap.size + 1 + 1, 2, .bool raw3), (w.heap.size + 1, 0, .int .i64 u), (w.heap.size + 1, 1, .int .i64 v), (w.heap.size + 1, 2, .bool raw2), (w.heap.size, 0, .int .i64 x), (w.heap.size, 1, .int .i64 y), (w.heap.size, 2, .bool raw)] w1 := Keep.below hb1 (Keep.alloc3 (k := w.heap.size + 1 + 1) _ _ _ _ (by simp) (Keep.alloc3 (k := w.heap.size + 1) _ _ _ _ (by simp) (Keep.alloc3 (k := w.heap.size) _ _ _ _ (by simp) (Keep.start w))))
              clear hb1
              obtain ⟨⟨k0, z0, k1, z1, k2, z2, k3, z3, k4, z4, k5, z5, k6, z6, k7, z7, k8, z8, _⟩, hB⟩ := id K1
              clear hB
              go_wp2_with fail
              refine (z_any _ _ _ _).mono ?_; rintro e w2 ⟨rfl, hb2⟩
              have K2 : Keep w [(w.heap.size + 1 + 1, 0, .int .i64 s), (w.heap.size + 1 + 1, 1, .int .i64 t), (w.heap.size + 1 + 1, 2, .bool raw3), (w.heap.size + 1, 0, .int .i64 u), (w.heap.size + 1, 1, .int .i64 v), (w.heap.size + 1, 2, .bool raw2), (w.heap.size, 0, .int .i64 x), (w.heap.size, 1, .int .i64 y), (w.heap.size, 2, .bool raw)] w2 := Keep.below hb2 K1
              clear hb2
              clear k0 z0 k1 z1 k2 z2 k3 z3 k4 z4 k5 z5 k6 z6 k7 z7 k8 z8
              obtain ⟨⟨k0, z0, k1, z1, k2, z2, k3, z3, k4, z4, k5, z5, k6, z6, k7, z7, k8, z8, _⟩, hB⟩ := id K2
              clear hB
              go_wp2_with fail
              refine (z_any _ _ _ _).mono ?_; rintro e w3 ⟨rfl, hb3⟩
              have K3 : Keep w [(w.heap.size + 1 + 1, 0, .int .i64 s), (w.heap.size + 1 + 1, 1, .int .i64 t), (w.heap.size + 1 + 1, 2, .bool raw3), (w.heap.size + 1, 0, .int .i64 u), (w.heap.size + 1, 1, .int .i64 v), (w.heap.size + 1, 2, .bool raw2), (w.heap.size, 0, .int .i64 x), (w.heap.size, 1, .int .i64 y), (w.heap.size, 2, .bool raw)] w3 := Keep.below hb3 K2
              clear hb3
              clear k0 z0 k1 z1 k2 z2 k3 z3 k4 z4 k5 z5 k6 z6 k7 z7 k8 z8
              obtain ⟨⟨k0, z0, k1, z1, k2, z2, k3, z3, k4, z4, k5, z5, k6, z6, k7, z7, k8, z8, _⟩, hB⟩ := id K3
              clear hB
              go_wp2_with fail
              refine (Qab.out _).mono ?_; rintro e w' ⟨rfl, rfl⟩
              go_wp2_with fail
              refine (Qbc.out _).mono ?_; rintro e w' ⟨rfl, rfl⟩
              go_wp2_with fail
              refine (Mab.out _).mono ?_; rintro e w' ⟨rfl, rfl⟩
              go_wp2_with fail
              refine (Mbc.out _).mono ?_; rintro e w' ⟨rfl, rfl⟩
              go_wp2_with fail
              refine (Mac.out _).mono ?_; rintro e w' ⟨rfl, rfl⟩
              go_wp2_with fail
              refine (Q10.out _).mono ?_; rintro e w' ⟨rfl, rfl⟩
              go_wp2_with fail
              refine (Qbc.out _).mono ?_; rintro e w' ⟨rfl, rfl⟩
              go_wp2_with fail
              go_ret
              exact ⟨rfl, And.right K3⟩
        · have y6 : (r6.2 != 0) = false := by show (!(r6.2 == 0)) = _; rw [z6]; rfl
          cases z7 : (r7.2 == 0)
          · have y7 : (r7.2 != 0) = true := by show (!(r7.2 == 0)) = _; rw [z7]; rfl
            have c2 := H2.out (by simpa using z5) (by simpa using z6)
            subst c2
            clear H1 H2 H3
            go_enter Tryd.func4, Tryd.ntmps4
            go_wp2_with fail
            refine (awake_any _).mono ?_; rintro e w' ⟨rfl, rfl⟩
            go_wp2_with fail
            refine (z_any _ _ _ _).mono ?_; rintro e w1 ⟨rfl, hb1⟩
            have K1 : Keep w [(w.heap.size + 1 + 1, 0, .int .i64 s), (w.heap.size + 1 + 1, 1, .int .i64 t), (w.heap.size + 1 + 1, 2, .bool raw3), (w.heap.size + 1, 0, .int .i64 u), (w.heap.size + 1, 1, .int .i64 v), (w.heap.size + 1, 2, .bool raw2), (w.heap.size, 0, .int .i64 x), (w.heap.size, 1, .int .i64 y), (w.heap.size, 2, .bool raw)] w1 := Keep.below hb1 (Keep.alloc3 (k := w.heap.size + 1 + 1) _ _ _ _ (by simp) (Keep.alloc3 (k := w.heap.size + 1) _ _ _ _ (by simp) (Keep.alloc3 (k := w.heap.size) _ _ _ _ (by simp) (Keep.start w))))
            clear hb1
            obtain ⟨⟨k0, z0, k1, z1, k2, z2, k3, z3, k4, z4, k5, z5, k6, z6, k7, z7, k8, z8, _⟩, hB⟩ := id K1
            clear hB
            go_wp2_with fail
            refine (z_any _ _ _ _).mono ?_; rintro e w2 ⟨rfl, hb2⟩
            have K2 : Keep w [(w.heap.size + 1 + 1, 0, .int .i64 s), (w.heap.size + 1 + 1, 1, .int .i64 t), (w.heap.size + 1 + 1, 2, .bool raw3), (w.heap.size + 1, 0, .int .i64 u), (w.heap.size + 1, 1, .int .i64 v), (w.heap.size + 1, 2, .bool raw2), (w.heap.size, 0, .int .i64 x), (w.heap.size, 1, .int .i64 y), (w.heap.size, 2, .bool raw)] w2 := Keep.below hb2 K1
            clear hb2
            clear k0 z0 k1 z1 k2 z2 k3 z3 k4 z4 k5 z5 k6 z6 k7 z7 k8 z8
            obtain ⟨⟨k0, z0, k1, z1, k2, z2, k3, z3, k4, z4, k5, z5, k6, z6, k7, z7, k8, z8, _⟩, hB⟩ := id K2
            clear hB
            go_wp2_with fail
            refine (z_any _ _ _ _).mono ?_; rintro e w3 ⟨rfl, hb3⟩
            have K3 : Keep w [(w.heap.size + 1 + 1, 0, .int .i64 s), (w.heap.size + 1 + 1, 1, .int .i64 t), (w.heap.size + 1 + 1, 2, .bool raw3), (w.heap.size + 1, 0, .int .i64 u), (w.heap.size + 1, 1, .int .i64 v), (w.heap.size + 1, 2, .bool raw2), (w.heap.size, 0, .int .i64 x), (w.heap.size, 1, .int .i64 y), (w.heap.size, 2, .bool raw)] w3 := Keep.below hb3 K2
            clear hb3
            clear k0 z0 k1 z1 k2 z2 k3 z3 k4 z4 k5 z5 k6 z6 k7 z7 k8 z8
            obtain ⟨⟨k0, z0, k1, z1, k2, z2, k3, z3, k4, z4, k5, z5, k6, z6, k7, z7, k8, z8, _⟩, hB⟩ := id K3
            clear hB
            go_wp2_with fail
            refine (Qab.out _).mono ?_; rintro e w' ⟨rfl, rfl⟩
            go_wp2_with fail
            refine (Qbc.out _).mono ?_; rintro e w' ⟨rfl, rfl⟩
            go_wp2_with fail
            refine (Mab.out _).mono ?_; rintro e w' ⟨rfl, rfl⟩
            go_wp2_with fail
            refine (Mbc.out _).mono ?_; rintro e w' ⟨rfl, rfl⟩
            go_wp2_with fail
            refine (Mac.out _).mono ?_; rintro e w' ⟨rfl, rfl⟩
            go_wp2_with fail
            refine (Q8.out _).mono ?_; rintro e w' ⟨rfl, rfl⟩
            go_wp2_with fail
            refine (Q9.out _).mono ?_; rintro e w' ⟨rfl, rfl⟩
            go_wp2_with fail
            refine (bits_self _ _ _).mono ?_; rintro e w' ⟨rfl, rfl⟩
            go_wp2_with fail
            go_ret
            exact ⟨rfl, And.right K3⟩
          · have y7 : (r7.2 != 0) = false := by show (!(r7.2 == 0)) = _; rw [z7]; rfl
            cases z10 : (r10.2 == 0)
            · have y10 : (r10.2 != 0) = true := by show (!(r10.2 == 0)) = _; rw [z10]; rfl
              have c2 := H2.out (by simpa using z5) (by simpa using z6)
              subst c2
              clear H1 H2 H3
              go_enter Tryd.func4, Tryd.ntmps4
              go_wp2_with fail
              refine (awake_any _).mono ?_; rintro e w' ⟨rfl, rfl⟩
              go_wp2_with fail
              refine (z_any _ _ _ _).mono ?_; rintro e w1 ⟨rfl, hb1⟩
              have K1 : Keep w [(w.heap.size + 1 + 1, 0, .int .i64 s), (w.heap.size + 1 + 1, 1, .int .i64 t), (w.heap.size + 1 + 1, 2, .bool raw3), (w.heap.size + 1, 0, .int .i64 u), (w.heap.size + 1, 1, .int .i64 v), (w.heap.size + 1, 2, .bool raw2), (w.heap.size, 0, .int .i64 x), (w.heap.size, 1, .int .i64 y), (w.heap.size, 2, .bool raw)] w1 := Keep.below hb1 (Keep.alloc3 (k := w.heap.size + 1 + 1) _ _ _ _ (by simp) (Keep.alloc3 (k := w.heap.size + 1) _ _ _ _ (by simp) (Keep.alloc3 (k := w.heap.size) _ _ _ _ (by simp) (Keep.start w))))
              clear hb1
              obtain ⟨⟨k0, z0, k1, z1, k2, z2, k3, z3, k4, z4, k5, z5, k6, z6, k7, z7, k8, z8, _⟩, hB⟩ := id K1
              clear hB
              go_wp2_with fail
              refine (z_any _ _ _ _).mono ?_; rintro e w2 ⟨rfl, hb2⟩
              have K2 : Keep w [(w.heap.size + 1 + 1, 0, .int .i64 s), (w.heap.size + 1 + 1, 1, .int .i64 t), (w.heap.size + 1 + 1, 2, .bool raw3), (w.heap.size + 1, 0, .int .i64 u), (w.heap.size + 1, 1, .int .i64 v), (w.heap.size + 1, 2, .bool raw2), (w.heap.size, 0, .int .i64 x), (w.heap.size, 1, .int .i64 y), (w.heap.size, 2, .bool raw)] w2 := Keep.below hb2 K1
              clear hb2
              clear k0 z0 k1 z1 k2 z2 k3 z3 k4 z4 k5 z5 k6 z6 k7 z7 k8 z8
              obtain ⟨⟨k0, z0, k1, z1, k2, z2, k3, z3, k4, z4, k5, z5, k6, z6, k7, z7, k8, z8, _⟩, hB⟩ := id K2
              clear hB
              go_wp2_with fail
              refine (z_any _ _ _ _).mono ?_; rintro e w3 ⟨rfl, hb3⟩
              have K3 : Keep w [(w.heap.size + 1 + 1, 0, .int .i64 s), (w.heap.size + 1 + 1, 1, .int .i64 t), (w.heap.size + 1 + 1, 2, .bool raw3), (w.heap.size + 1, 0, .int .i64 u), (w.heap.size + 1, 1, .int .i64 v), (w.heap.size + 1, 2, .bool raw2), (w.heap.size, 0, .int .i64 x), (w.heap.size, 1, .int .i64 y), (w.heap.size, 2, .bool raw)] w3 := Keep.below hb3 K2
              clear hb3
              clear k0 z0 k1 z1 k2 z2 k3 z3 k4 z4 k5 z5 k6 z6 k7 z7 k8 z8
              obtain ⟨⟨k0, z0, k1, z1, k2, z2, k3, z3, k4, z4, k5, z5, k6, z6, k7, z7, k8, z8, _⟩, hB⟩ := id K3
              clear hB
              go_wp2_with fail
              refine (Qab.out _).mono ?_; rintro e w' ⟨rfl, rfl⟩
              go_wp2_with fail
              refine (Qbc.out _).mono ?_; rintro e w' ⟨rfl, rfl⟩
              go_wp2_with fail
              refine (Mab.out _).mono ?_; rintro e w' ⟨rfl, rfl⟩
              go_wp2_with fail
              refine (Mbc.out _).mono ?_; rintro e w' ⟨rfl, rfl⟩
              go_wp2_with fail
              refine (Mac.out _).mono ?_; rintro e w' ⟨rfl, rfl⟩
              go_wp2_with fail
              refine (Q8.out _).mono ?_; rintro e w' ⟨rfl, rfl⟩
              go_wp2_with fail
              refine (Q9.out _).mono ?_; rintro e w' ⟨rfl, rfl⟩
              go_wp2_with fail
              refine (bits_self _ _ _).mono ?_; rintro e w' ⟨rfl, rfl⟩
              go_wp2_with fail
              refine (Q10.out _).mono ?_; rintro e w' ⟨rfl, rfl⟩
              go_wp2_with fail
              refine (Qbc.out _).mono ?_; rintro e w' ⟨rfl, rfl⟩
              go_wp2_with fail
              go_ret
              exact ⟨rfl, And.right K3⟩
            · have y10 : (r10.2 != 0) = false := by show (!(r10.2 == 0)) = _; rw [z10]; rfl
              have c2 := H2.out (by simpa using z5) (by simpa using z6)
              subst c2
              clear H1 H2 H3
              go_enter Tryd.func4, Tryd.ntmps4
              go_wp2_with fail
              refine (awake_any _).mono ?_; rintro e w' ⟨rfl, rfl⟩
              go_wp2_with fail
              refine (z_any _ _ _ _).mono ?_; rintro e w1 ⟨rfl, hb1⟩
              have K1 : Keep w [(w.heap.size + 1 + 1, 0, .int .i64 s), (w.heap.size + 1 + 1, 1, .int .i64 t), (w.heap.size + 1 + 1, 2, .bool raw3), (w.heap.size + 1, 0, .int .i64 u), (w.heap.size + 1, 1, .int .i64 v), (w.heap.size + 1, 2, .bool raw2), (w.heap.size, 0, .int .i64 x), (w.heap.size, 1, .int .i64 y), (w.heap.size, 2, .bool raw)] w1 := Keep.below hb1 (Keep.alloc3 (k := w.heap.size + 1 + 1) _ _ _ _ (by simp) (Keep.alloc3 (k := w.heap.size + 1) _ _ _ _ (by simp) (Keep.alloc3 (k := w.heap.size) _ _ _ _ (by simp) (Keep.start w))))
              clear hb1
              obtain ⟨⟨k0, z0, k1, z1, k2, z2, k3, z3, k4, z4, k5, z5, k6, z6, k7, z7, k8, z8, _⟩, hB⟩ := id K1
              clear hB
              go_wp2_with fail
              refine (z_any _ _ _ _).mono ?_; rintro e w2 ⟨rfl, hb2⟩
              have K2 : Keep w [(w.heap.size + 1 + 1, 0, .int .i64 s), (w.heap.size + 1 + 1, 1, .int .i64 t), (w.heap.size + 1 + 1, 2, .bool raw3), (w.heap.size + 1, 0, .int .i64 u), (w.heap.size + 1, 1, .int .i64 v), (w.heap.size + 1, 2, .bool raw2), (w.heap.size, 0, .int .i64 x), (w.heap.size, 1, .int .i64 y), (w.heap.size, 2, .bool raw)] w2 := Keep.below hb2 K1
              clear hb2
              clear k0 z0 k1 z1 k2 z2 k3 z3 k4 z4 k5 z5 k6 z6 k7 z7 k8 z8
              obtain ⟨⟨k0, z0, k1, z1, k2, z2, k3, z3, k4, z4, k5, z5, k6, z6, k7, z7, k8, z8, _⟩, hB⟩ := id K2
              clear hB
              go_wp2_with fail
              refine (z_any _ _ _ _).mono ?_; rintro e w3 ⟨rfl, hb3⟩
              have K3 : Keep w [(w.heap.size + 1 + 1, 0, .int .i64 s), (w.heap.size + 1 + 1, 1, .int .i64 t), (w.heap.size + 1 + 1, 2, .bool raw3), (w.heap.size + 1, 0, .int .i64 u), (w.heap.size + 1, 1, .int .i64 v), (w.heap.size + 1, 2, .bool raw2), (w.heap.size, 0, .int .i64 x), (w.heap.size, 1, .int .i64 y), (w.heap.size, 2, .bool raw)] w3 := Keep.below hb3 K2
              clear hb3
              clear k0 z0 k1 z1 k2 z2 k3 z3 k4 z4 k5 z5 k6 z6 k7 z7 k8 z8
              obtain ⟨⟨k0, z0, k1, z1, k2, z2, k3, z3, k4, z4, k5, z5, k6, z6, k7, z7, k8, z8, _⟩, hB⟩ := id K3
              clear hB
              go_wp2_with fail
              refine (Qab.out _).mono ?_; rintro e w' ⟨rfl, rfl⟩
              go_wp2_with fail
              refine (Qbc.out _).mono ?_; rintro e w' ⟨rfl, rfl⟩
              go_wp2_with fail
              refine (Mab.out _).mono ?_; rintro e w' ⟨rfl, rfl⟩
              go_wp2_with fail
              refine (Mbc.out _).mono ?_; rintro e w' ⟨rfl, rfl⟩
              go_wp2_with fail
              refine (Mac.out _).mono ?_; rintro e w' ⟨rfl, rfl⟩
              go_wp2_with fail
              refine (Q8.out _).mono ?_; rintro e w' ⟨rfl, rfl⟩
              go_wp2_with fail
              refine (Q9.out _).mono ?_; rintro e w' ⟨rfl, rfl⟩
              go_wp2_with fail
              refine (bits_self _ _ _).mono ?_; rintro e w' ⟨rfl, rfl⟩
              go_wp2_with fail
              refine (Q10.out _).mono ?_; rintro e w' ⟨rfl, rfl⟩
              go_wp2_with fail
              refine (Qbc.out _).mono ?_; rintro e w' ⟨rfl, rfl⟩
              go_wp2_with fail
              go_ret
              exact ⟨rfl, And.right K3⟩
    · have y2 : (r2.2 != 0) = false := by show (!(r2.2 == 0)) = _; rw [z2]; rfl
      cases z5 : (r5.2 == 0)
      · have y5 : (r5.2 != 0) = true := by show (!(r5.2 == 0)) = _; rw [z5]; rfl
        clear H1 H2 H3
        go_enter Tryd.func4, Tryd.ntmps4
        go_wp2_with fail
        refine (awake_any _).mono ?_; rintro e w' ⟨rfl, rfl⟩
        go_wp2_with fail
        refine (z_any _ _ _ _).mono ?_; rintro e w1 ⟨rfl, hb1⟩
        have K1 : Keep w [(w.heap.size + 1 + 1, 0, .int .i64 s), (w.heap.size + 1 + 1, 1, .int .i64 t), (w.heap.size + 1 + 1, 2, .bool raw3), (w.heap.size + 1, 0, .int .i64 u), (w.heap.size + 1, 1, .int .i64 v), (w.heap.size + 1, 2, .bool raw2), (w.heap.size, 0, .int .i64 x), (w.heap.size, 1, .int .i64 y), (w.heap.size, 2, .bool raw)] w1 := Keep.below hb1 (Keep.alloc3 (k := w.heap.size + 1 + 1) _ _ _ _ (by simp) (Keep.alloc3 (k := w.heap.size + 1) _ _ _ _ (by simp) (Keep.alloc3 (k := w.heap.size) _ _ _ _ (by simp) (Keep.start w))))
        clear hb1
        obtain ⟨⟨k0, z0, k1, z1, k2, z2, k3, z3, k4, z4, k5, z5, k6, z6, k7, z7, k8, z8, _⟩, hB⟩ := id K1
        clear hB
        go_wp2_with fail
        refine (z_any _ _ _ _).mono ?_; rintro e w2 ⟨rfl, hb2⟩
        have K2 : Keep w [(w.heap.size + 1 + 1, 0, .int .i64 s), (w.heap.size + 1 + 1, 1, .int .i64 t), (w.heap.size + 1 + 1, 2, .bool raw3), (w.heap.size + 1, 0, .int .i64 u), (w.heap.size + 1, 1, .int .i64 v), (w.heap.size + 1, 2, .bool raw2), (w.heap.size, 0, .int .i64 x), (w.heap.size, 1, .int .i64 y), (w.heap.size, 2, .bool raw)] w2 := Keep.below hb2 K1
        clear hb2
        clear k0 z0 k1 z1 k2 z2 k3 z3 k4 z4 k5 z5 k6 z6 k7 z7 k8 z8
        obtain ⟨⟨k0, z0, k1, z1, k2, z2, k3, z3, k4, z4, k5, z5, k6, z6, k7, z7, k8, z8, _⟩, hB⟩ := id K2
        clear hB
        go_wp2_with fail
        refine (z_any _ _ _ _).mono ?_; rintro e w3 ⟨rfl, hb3⟩
        have K3 : Keep w [(w.heap.size + 1 + 1, 0, .int .i64 s), (w.heap.size + 1 + 1, 1, .int .i64 t), (w.heap.size + 1 + 1, 2, .bool raw3), (w.heap.size + 1, 0, .int .i64 u), (w.heap.size + 1, 1, .int .i64 v), (w.heap.size + 1, 2, .bool raw2), (w.heap.size, 0, .int .i64 x), (w.heap.size, 1, .int .i64 y), (w.heap.size, 2, .bool raw)] w3 := Keep.below hb3 K2
        clear hb3
        clear k0 z0 k1 z1 k2 z2 k3 z3 k4 z4 k5 z5 k6 z6 k7 z7 k8 z8
        obtain ⟨⟨k0, z0, k1, z1, k2, z2, k3, z3, k4, z4, k5, z5, k6, z6, k7, z7, k8, z8, _⟩, hB⟩ := id K3
        clear hB
        go_wp2_with fail
        refine (Qab.out _).mono ?_; rintro e w' ⟨rfl, rfl⟩
        go_wp2_with fail
        refine (Qbc.out _).mono ?_; rintro e w' ⟨rfl, rfl⟩
        go_wp2_with fail
        refine (Mab.out _).mono ?_; rintro e w' ⟨rfl, rfl⟩
        go_wp2_with fail
        refine (Mbc.out _).mono ?_; rintro e w' ⟨rfl, rfl⟩
        go_wp2_with fail
        refine (Mac.out _).mono ?_; rintro e w' ⟨rfl, rfl⟩
        go_wp2_with fail
        go_ret
        exact ⟨rfl, And.right K3⟩
      · have y5 : (r5.2 != 0) = false := by show (!(r5.2 == 0)) = _; rw [z5]; rfl
        cases z6 : (r6.2 == 0)
        · have y6 : (r6.2 != 0) = true := by show (!(r6.2 == 0)) = _; rw [z6]; rfl
          cases z7 : (r7.2 == 0)
          · have y7 : (r7.2 != 0) = true := by show (!(r7.2 == 0)) = _; rw [z7]; rfl
            clear H1 H2 H3
            go_enter Tryd.func4, Tryd.ntmps4
            go_wp2_with fail
            refine (awake_any _).mono ?_; rintro e w' ⟨rfl, rfl⟩
            go_wp2_with fail
            refine (z_any _ _ _ _).mono ?_; rintro e w1 ⟨rfl, hb1⟩
            have K1 : Keep w [(w.heap.size + 1 + 1, 0, .int .i64 s), (w.heap.size + 1 + 1, 1, .int .i64 t), (w.heap.size + 1 + 1, 2, .bool raw3), (w.heap.size + 1, 0, .int .i64 u), (w.heap.size + 1, 1, .int .i64 v), (w.heap.size + 1, 2, .bool raw2), (w.heap.size, 0, .int .i64 x), (w.heap.size, 1, .int .i64 y), (w.heap.size, 2, .bool raw)] w1 := Keep.below hb1 (Keep.alloc3 (k := w.heap.size + 1 + 1) _ _ _ _ (by simp) (Keep.alloc3 (k := w.heap.size + 1) _ _ _ _ (by simp) (Keep.alloc3 (k := w.heap.size) _ _ _ _ (by simp) (Keep.start w))))
            clear hb1
            obtain ⟨⟨k0, z0, k1, z1, k2, z2, k3, z3, k4, z4, k5, z5, k6, z6, k7, z7, k8, z8, _⟩, hB⟩ := id K1
            clear hB
            go_wp2_with fail
            refine (z_any _ _ _ _).mono ?_; rintro e w2 ⟨rfl, hb2⟩
            have K2 : Keep w [(w.heap.size + 1 + 1, 0, .int .i64 s), (w.heap.size + 1 + 1, 1, .int .i64 t), (w.heap.size + 1 + 1, 2, .bool raw3), (w.heap.size + 1, 0, .int .i64 u), (w.heap.size + 1, 1, .int .i64 v), (w.heap.size + 1, 2, .bool raw2), (w.heap.size, 0, .int .i64 x), (w.heap.size, 1, .int .i64 y), (w.heap.size, 2, .bool raw)] w2 := Keep.below hb2 K1
            clear hb2
            clear k0 z0 k1 z1 k2 z2 k3 z3 k4 z4 k5 z5 k6 z6 k7 z7 k8 z8
            obtain ⟨⟨k0, z0, k1, z1, k2, z2, k3, z3, k4, z4, k5, z5, k6, z6, k7, z7, k8, z8, _⟩, hB⟩ := id K2
            clear hB
            go_wp2_with fail
            refine (z_any _ _ _ _).mono ?_; rintro e w3 ⟨rfl, hb3⟩
            have K3 : Keep w [(w.heap.size + 1 + 1, 0, .int .i64 s), (w.heap.size + 1 + 1, 1, .int .i64 t), (w.heap.size + 1 + 1, 2, .bool raw3), (w.heap.size + 1, 0, .int .i64 u), (w.heap.size + 1, 1, .int .i64 v), (w.heap.size + 1, 2, .bool raw2), (w.heap.size, 0, .int .i64 x), (w.heap.size, 1, .int .i64 y), (w.heap.size, 2, .bool raw)] w3 := Keep.below hb3 K2
            clear hb3
            clear k0 z0 k1 z1 k2 z2 k3 z3 k4 z4 k5 z5 k6 z6 k7 z7 k8 z8
            obtain ⟨⟨k0, z0, k1, z1, k2, z2, k3, z3, k4, z4, k5, z5, k6, z6, k7, z7, k8, z8, _⟩, hB⟩ := id K3
            clear hB
            go_wp2_with fail
            refine (Qab.out _).mono ?_; rintro e w' ⟨rfl, rfl⟩
            go_wp2_with fail
            refine (Qbc.out _).mono ?_; rintro e w' ⟨rfl, rfl⟩
            go_wp2_with fail
            refine (Mab.out _).mono ?_; rintro e w' ⟨rfl, rfl⟩
            go_wp2_with fail
            refine (Mbc.out _).mono ?_; rintro e w' ⟨rfl, rfl⟩
            go_wp2_with fail
            refine (Mac.out _).mono ?_; rintro e w' ⟨rfl, rfl⟩
            go_wp2_with fail
            go_ret
            exact ⟨rfl, And.right K3⟩
          · have y7 : (r7.2 != 0) = false := by show (!(r7.2 == 0)) = _; rw [z7]; rfl
            cases z10 : (r10.2 == 0)
            · have y10 : (r10.2 != 0) = true := by show (!(r10.2 == 0)) = _; rw [z10]; rfl
              clear H1 H2 H3
              go_enter Tryd.func4, Tryd.ntmps4
              go_wp2_with fail
              refine (awake_any _).mono ?_; rintro e w' ⟨rfl, rfl⟩
              go_wp2_with fail
              refine (z_any _ _ _ _).mono ?_; rintro e w1 ⟨rfl, hb1⟩
              have K1 : Keep w [(w.heap.size + 1 + 1, 0, .int .i64 s), (w.heap.size + 1 + 1, 1, .int .i64 t), (w.heap.size + 1 + 1, 2, .bool raw3), (w.heap.size + 1, 0, .int .i64 u), (w.heap.size + 1, 1, .int .i64 v), (w.heap.size + 1, 2, .bool raw2), (w.heap.size, 0, .int .i64 x), (w.heap.size, 1, .int .i64 y), (w.heap.size, 2, .bool raw)] w1 := Keep.below hb1 (Keep.alloc3 (k := w.heap.size + 1 + 1) _ _ _ _ (by simp) (Keep.alloc3 (k := w.heap.size + 1) _ _ _ _ (by simp) (Keep.alloc3 (k := w.heap.size) _ _ _ _ (by simp) (Keep.start w))))
              clear hb1
              obtain ⟨⟨k0, z0, k1, z1, k2, z2, k3, z3, k4, z4, k5, z5, k6, z6, k7, z7, k8, z8, _⟩, hB⟩ := id K1
              clear hB
              go_wp2_with fail
              refine (z_any _ _ _ _).mono ?_; rintro e w2 ⟨rfl, hb2⟩
              have K2 : Keep w [(w.heap.size + 1 + 1, 0, .int .i64 s), (w.heap.size + 1 + 1, 1, .int .i64 t), (w.heap.size + 1 + 1, 2, .bool raw3), (w.heap.size + 1, 0, .int .i64 u), (w.heap.size + 1, 1, .int .i64 v), (w.heap.size + 1, 2, .bool raw2), (w.heap.size, 0, .int .i64 x), (w.heap.size, 1, .int .i64 y), (w.heap.size, 2, .bool raw)] w2 := Keep.below hb2 K1
              clear hb2
              clear k0 z0 k1 z1 k2 z2 k3 z3 k4 z4 k5 z5 k6 z6 k7 z7 k8 z8
              obtain ⟨⟨k0, z0, k1, z1, k2, z2, k3, z3, k4, z4, k5, z5, k6, z6, k7, z7, k8, z8, _⟩, hB⟩ := id K2
              clear hB
              go_wp2_with fail
              refine (z_any _ _ _ _).mono ?_; rintro e w3 ⟨rfl, hb3⟩
              have K3 : Keep w [(w.heap.size + 1 + 1, 0, .int .i64 s), (w.heap.size + 1 + 1, 1, .int .i64 t), (w.heap.size + 1 + 1, 2, .bool raw3), (w.heap.size + 1, 0, .int .i64 u), (w.heap.size + 1, 1, .int .i64 v), (w.heap.size + 1, 2, .bool raw2), (w.heap.size, 0, .int .i64 x), (w.heap.size, 1, .int .i64 y), (w.heap.size, 2, .bool raw)] w3 := Keep.below hb3 K2
              clear hb3
              clear k0 z0 k1 z1 k2 z2 k3 z3 k4 z4 k5 z5 k6 z6 k7 z7 k8 z8
              obtain ⟨⟨k0, z0, k1, z1, k2, z2, k3, z3, k4, z4, k5, z5, k6, z6, k7, z7, k8, z8, _⟩, hB⟩ := id K3
              clear hB
              go_wp2_with fail
              refine (Qab.out _).mono ?_; rintro e w' ⟨rfl, rfl⟩
              go_wp2_with fail
              refine (Qbc.out _).mono ?_; rintro e w' ⟨rfl, rfl⟩
              go_wp2_with fail
              refine (Mab.out _).mono ?_; rintro e w' ⟨rfl, rfl⟩
              go_wp2_with fail
              refine (Mbc.out _).mono ?_; rintro e w' ⟨rfl, rfl⟩
              go_wp2_with fail
              refine (Mac.out _).mono ?_; rintro e w' ⟨rfl, rfl⟩
              go_wp2_with fail
              refine (Q10.out _).mono ?_; rintro e w' ⟨rfl, rfl⟩
              go_wp2_with fail
              refine (Qbc.out _).mono ?_; rintro e w' ⟨rfl, rfl⟩
              go_wp2_with fail
              go_ret
              exact ⟨rfl, And.right K3⟩
            · have y10 : (r10.2 != 0) = false := by show (!(r10.2 == 0)) = _; rw [z10]; rfl
              have c3 := H3.out (by simpa using z5) (by simpa using z7) (by simpa using z10) (by simpa using z2)
              subst c3
              clear H1 H2 H3
              go_enter Tryd.func4, Tryd.ntmps4
              go_wp2_with fail
              refine (awake_any _).mono ?_; rintro e w' ⟨rfl, rfl⟩
              go_wp2_with fail
              refine (z_any _ _ _ _).mono ?_; rintro e w1 ⟨rfl, hb1⟩
              have K1 : Keep w [(w.heap.size + 1 + 1, 0, .int .i64 s), (w.heap.size + 1 + 1, 1, .int .i64 t), (w.heap.size + 1 + 1, 2, .bool raw3), (w.heap.size + 1, 0, .int .i64 u), (w.heap.size + 1, 1, .int .i64 v), (w.heap.size + 1, 2, .bool raw2), (w.heap.size, 0, .int .i64 x), (w.heap.size, 1, .int .i64 y), (w.heap.size, 2, .bool raw)] w1 := Keep.below hb1 (Keep.alloc3 (k := w.heap.size + 1 + 1) _ _ _ _ (by simp) (Keep.alloc3 (k := w.heap.size + 1) _ _ _ _ (by simp) (Keep.alloc3 (k := w.heap.size) _ _ _ _ (by simp) (Keep.start w))))
              clear hb1
              obtain ⟨⟨k0, z0, k1, z1, k2, z2, k3, z3, k4, z4, k5, z5, k6, z6, k7, z7, k8, z8, _⟩, hB⟩ := id K1
              clear hB
              go_wp2_with fail
              refine (z_any _ _ _ _).mono ?_; rintro e w2 ⟨rfl, hb2⟩
              have K2 : Keep w [(w.heap.size + 1 + 1, 0, .int .i64 s), (w.heap.size + 1 + 1, 1, .int .i64 t), (w.heap.size + 1 + 1, 2, .bool raw3), (w.heap.size + 1, 0, .int .i64 u), (w.heap.size + 1, 1, .int .i64 v), (w.heap.size + 1, 2, .bool raw2), (w.heap.size, 0, .int .i64 x), (w.heap.size, 1, .int .i64 y), (w.heap.size, 2, .bool raw)] w2 := Keep.below hb2 K1
              clear hb2
              clear k0 z0 k1 z1 k2 z2 k3 z3 k4 z4 k5 z5 k6 z6 k7 z7 k8 z8
              obtain ⟨⟨k0, z0, k1, z1, k2, z2, k3, z3, k4, z4, k5, z5, k6, z6, k7, z7, k8, z8, _⟩, hB⟩ := id K2
              clear hB
              go_wp2_with fail
              refine (z_any _ _ _ _).mono ?_; rintro e w3 ⟨rfl, hb3⟩
              have K3 : Keep w [(w.heap.size + 1 + 1, 0, .int .i64 s), (w.heap.size + 1 + 1, 1, .int .i64 t), (w.heap.size + 1 + 1, 2, .bool raw3), (w.heap.size + 1, 0, .int .i64 u), (w.heap.size + 1, 1, .int .i64 v), (w.heap.size + 1, 2, .bool raw2), (w.heap.size, 0, .int .i64 x), (w.heap.size, 1, .int .i64 y), (w.heap.size, 2, .bool raw)] w3 := Keep.below hb3 K2
              clear hb3
              clear k0 z0 k1 z1 k2 z2 k3 z3 k4 z4 k5 z5 k6 z6 k7 z7 k8 z8
              obtain ⟨⟨k0, z0, k1, z1, k2, z2, k3, z3, k4, z4, k5, z5, k6, z6, k7, z7, k8, z8, _⟩, hB⟩ := id K3
              clear hB
              go_wp2_with fail
              refine (Qab.out _).mono ?_; rintro e w' ⟨rfl, rfl⟩
              go_wp2_with fail
              refine (Qbc.out _).mono ?_; rintro e w' ⟨rfl, rfl⟩
              go_wp2_with fail
              refine (Mab.out _).mono ?_; rintro e w' ⟨rfl, rfl⟩
              go_wp2_with fail
              refine (Mbc.out _).mono ?_; rintro e w' ⟨rfl, rfl⟩
              go_wp2_with fail
              refine (Mac.out _).mono ?_; rintro e w' ⟨rfl, rfl⟩
              go_wp2_with fail
              refine (Q10.out _).mono ?_; rintro e w' ⟨rfl, rfl⟩
              go_wp2_with fail
              refine (Qbc.out _).mono ?_; rintro e w' ⟨rfl, rfl⟩
              go_wp2_with fail
              refine (Q11.out _).mono ?_; rintro e w' ⟨rfl, rfl⟩
              go_wp2_with fail
              refine (bits_self _ _ _).mono ?_; rintro e w' ⟨rfl, rfl⟩
              go_wp2_with fail
              go_ret
              exact ⟨rfl, And.right K3⟩
        · have y6 : (r6.2 != 0) = false := by show (!(r6.2 == 0)) = _; rw [z6]; rfl
          cases z7 : (r7.2 == 0)
          · have y7 : (r7.2 != 0) = true := by show (!(r7.2 == 0)) = _; rw [z7]; rfl
            have c2 := H2.out (by simpa using z5) (by simpa using z6)
            subst c2
            clear H1 H2 H3
            go_enter Tryd.func4, Tryd.ntmps4
            go_wp2_with fail
            refine (awake_any _).mono ?_; rintro e w' ⟨rfl, rfl⟩
            go_wp2_with fail
            refine (z_any _ _ _ _).mono ?_; rintro e w1 ⟨rfl, hb1⟩
            have K1 : Keep w [(w.heap.size + 1 + 1, 0, .int .i64 s), (w.heap.size + 1 + 1, 1, .int .i64 t), (w.heap.size + 1 + 1, 2, .bool raw3), (w.heap.size + 1, 0, .int .i64 u), (w.heap.size + 1, 1, .int .i64 v), (w.heap.size + 1, 2, .bool raw2), (w.heap.size, 0, .int .i64 x), (w.heap.size, 1, .int .i64 y), (w.heap.size, 2, .bool raw)] w1 := Keep.below hb1 (Keep.alloc3 (k := w.heap.size + 1 + 1) _ _ _ _ (by simp) (Keep.alloc3 (k := w.heap.size + 1) _ _ _ _ (by simp) (Keep.alloc3 (k := w.heap.size) _ _ _ _ (by simp) (Keep.start w))))
            clear hb1
            obtain ⟨⟨k0, z0, k1, z1, k2, z2, k3, z3, k4, z4, k5, z5, k6, z6, k7, z7, k8, z8, _⟩, hB⟩ := id K1
            clear hB
            go_wp2_with fail
            refine (z_any _ _ _ _).mono ?_; rintro e w2 ⟨rfl, hb2⟩
            have K2 : Keep w [(w.heap.size + 1 + 1, 0, .int .i64 s), (w.heap.size + 1 + 1, 1, .int .i64 t), (w.heap.size + 1 + 1, 2, .bool raw3), (w.heap.size + 1, 0, .int .i64 u), (w.heap.size + 1, 1, .int .i64 v), (w.heap.size + 1, 2, .bool raw2), (w.heap.size, 0, .int .i64 x), (w.heap.size, 1, .int .i64 y), (w.heap.size, 2, .bool raw)] w2 := Keep.below hb2 K1
            clear hb2
            clear k0 z0 k1 z1 k2 z2 k3 z3 k4 z4 k5 z5 k6 z6 k7 z7 k8 z8
            obtain ⟨⟨k0, z0, k1, z1, k2, z2, k3, z3, k4, z4, k5, z5, k6, z6, k7, z7, k8, z8, _⟩, hB⟩ := id K2
            clear hB
            go_wp2_with fail
            refine (z_any _ _ _ _).mono ?_; rintro e w3 ⟨rfl, hb3⟩
            have K3 : Keep w [(w.heap.size + 1 + 1, 0, .int .i64 s), (w.heap.size + 1 + 1, 1, .int .i64 t), (w.heap.size + 1 + 1, 2, .bool raw3), (w.heap.size + 1, 0, .int .i64 u), (w.heap.size + 1, 1, .int .i64 v), (w.heap.size + 1, 2, .bool raw2), (w.heap.size, 0, .int .i64 x), (w.heap.size, 1, .int .i64 y), (w.heap.size, 2, .bool raw)] w3 := Keep.below hb3 K2
            clear hb3
            clear k0 z0 k1 z1 k2 z2 k3 z3 k4 z4 k5 z5 k6 z6 k7 z7 k8 z8
            obtain ⟨⟨k0, z0, k1, z1, k2, z2, k3, z3, k4, z4, k5, z5, k6, z6, k7, z7, k8, z8, _⟩, hB⟩ := id K3
            clear hB
            go_wp2_with fail
            refine (Qab.out _).mono ?_; rintro e w' ⟨rfl, rfl⟩
            go_wp2_with fail
            refine (Qbc.out _).mono ?_; rintro e w' ⟨rfl, rfl⟩
            go_wp2_with fail
            refine (Mab.out _).mono ?_; rintro e w' ⟨rfl, rfl⟩
            go_wp2_with fail
            refine (Mbc.out _).mono ?_; rintro e w' ⟨rfl, rfl⟩
            go_wp2_with fail
            refine (Mac.out _).mono ?_; rintro e w' ⟨rfl, rfl⟩
            go_wp2_with fail
            refine (Q8.out _).mono ?_; rintro e w' ⟨rfl, rfl⟩
            go_wp2_with fail
            refine (Q9.out _).mono ?_; rintro e w' ⟨rfl, rfl⟩
            go_wp2_with fail
            refine (bits_self _ _ _).mono ?_; rintro e w' ⟨rfl, rfl⟩
            go_wp2_with fail
            go_ret
            exact ⟨rfl, And.right K3⟩
          · have y7 : (r7.2 != 0) = false := by show (!(r7.2 == 0)) = _; rw [z7]; rfl
            cases z10 : (r10.2 == 0)
            · have y10 : (r10.2 != 0) = true := by show (!(r10.2 == 0)) = _; rw [z10]; rfl
              have c2 := H2.out (by simpa using z5) (by simpa using z6)
              subst c2
              clear H1 H2 H3
              go_enter Tryd.func4, Tryd.ntmps4
              go_wp2_with fail
              refine (awake_any _).mono ?_; rintro e w' ⟨rfl, rfl⟩
              go_wp2_with fail
              refine (z_any _ _ _ _).mono ?_; rintro e w1 ⟨rfl, hb1⟩
              have K1 : Keep w [(w.heap.size + 1 + 1, 0, .int .i64 s), (w.heap.size + 1 + 1, 1, .int .i64 t), (w.heap.size + 1 + 1, 2, .bool raw3), (w.heap.size + 1, 0, .int .i64 u), (w.heap.size + 1, 1, .int .i64 v), (w.heap.size + 1, 2, .bool raw2), (w.heap.size, 0, .int .i64 x), (w.heap.size, 1, .int .i64 y), (w.heap.size, 2, .bool raw)] w1 := Keep.below hb1 (Keep.alloc3 (k := w.heap.size + 1 + 1) _ _ _ _ (by simp) (Keep.alloc3 (k := w.heap.size + 1) _ _ _ _ (by simp) (Keep.alloc3 (k := w.heap.size) _ _ _ _ (by simp) (Keep.start w))))
              clear hb1
              obtain ⟨⟨k0, z0, k1, z1, k2, z2, k3, z3, k4, z4, k5, z5, k6, z6, k7, z7, k8, z8, _⟩, hB⟩ := id K1
              clear hB
              go_wp2_with fail
              refine (z_any _ _ _ _).mono ?_; rintro e w2 ⟨rfl, hb2⟩
              have K2 : Keep w [(w.heap.size + 1 + 1, 0, .int .i64 s), (w.heap.size + 1 + 1, 1, .int .i64 t), (w.heap.size + 1 + 1, 2, .bool raw3), (w.heap.size + 1, 0, .int .i64 u), (w.heap.size + 1, 1, .int .i64 v), (w.heap.size + 1, 2, .bool raw2), (w.heap.size, 0, .int .i64 x), (w.heap.size, 1, .int .i64 y), (w.heap.size, 2, .bool raw)] w2 := Keep.below hb2 K1
              clear hb2
              clear k0 z0 k1 z1 k2 z2 k3 z3 k4 z4 k5 z5 k6 z6 k7 z7 k8 z8
              obtain ⟨⟨k0, z0, k1, z1, k2, z2, k3, z3, k4, z4, k5, z5, k6, z6, k7, z7, k8, z8, _⟩, hB⟩ := id K2
              clear hB
              go_wp2_with fail
              refine (z_any _ _ _ _).mono ?_; rintro e w3 ⟨rfl, hb3⟩
              have K3 : Keep w [(w.heap.size + 1 + 1, 0, .int .i64 s), (w.heap.size + 1 + 1, 1, .int .i64 t), (w.heap.size + 1 + 1, 2, .bool raw3), (w.heap.size + 1, 0, .int .i64 u), (w.heap.size + 1, 1, .int .i64 v), (w.heap.size + 1, 2, .bool raw2), (w.heap.size, 0, .int .i64 x), (w.heap.size, 1, .int .i64 y), (w.heap.size, 2, .bool raw)] w3 := Keep.below hb3 K2
              clear hb3
              clear k0 z0 k1 z1 k2 z2 k3 z3 k4 z4 k5 z5 k6 z6 k7 z7 k8 z8
              obtain ⟨⟨k0, z0, k1, z1, k2, z2, k3, z3, k4, z4, k5, z5, k6, z6, k7, z7, k8, z8, _⟩, hB⟩ := id K3
              clear hB
              go_wp2_with fail
              refine (Qab.out _).mono ?_; rintro e w' ⟨rfl, rfl⟩
              go_wp2_with fail
              refine (Qbc.out _).mono ?_; rintro e w' ⟨rfl, rfl⟩
              go_wp2_with fail
              refine (Mab.out _).mono ?_; rintro e w' ⟨rfl, rfl⟩
              go_wp2_with fail
              refine (Mbc.out _).mono ?_; rintro e w' ⟨rfl, rfl⟩
              go_wp2_with fail
              refine (Mac.out _).mono ?_; rintro e w' ⟨rfl, rfl⟩
              go_wp2_with fail
              refine (Q8.out _).mono ?_; rintro e w' ⟨rfl, rfl⟩
              go_wp2_with fail
              refine (Q9.out _).mono ?_; rintro e w' ⟨rfl, rfl⟩
              go_wp2_with fail
              refine (bits_self _ _ _).mono ?_; rintro e w' ⟨rfl, rfl⟩
              go_wp2_with fail
              refine (Q10.out _).mono ?_; rintro e w' ⟨rfl, rfl⟩
              go_wp2_with fail
              refine (Qbc.out _).mono ?_; rintro e w' ⟨rfl, rfl⟩
              go_wp2_with fail
              go_ret
              exact ⟨rfl, And.right K3⟩
            · have y10 : (r10.2 != 0) = false := by show (!(r10.2 == 0)) = _; rw [z10]; rfl
              have c2 := H2.out (by simpa using z5) (by simpa using z6)
              subst c2
              have c3 := H3.out (by simpa using z5) (by simpa using z7) (by simpa using z10) (by simpa using z2)
              subst c3
              clear H1 H2 H3
              go_enter Tryd.func4, Tryd.ntmps4
              go_wp2_with fail
              refine (awake_any _).mono ?_; rintro e w' ⟨rfl, rfl⟩
              go_wp2_with fail
              refine (z_any _ _ _ _).mono ?_; rintro e w1 ⟨rfl, hb1⟩
              have K1 : Keep w [(w.heap.size + 1 + 1, 0, .int .i64 s), (w.heap.size + 1 + 1, 1, .int .i64 t), (w.heap.size + 1 + 1, 2, .bool raw3), (w.heap.size + 1, 0, .int .i64 u), (w.heap.size + 1, 1, .int .i64 v), (w.heap.size + 1, 2, .bool raw2), (w.heap.size, 0, .int .i64 x), (w.heap.size, 1, .int .i64 y), (w.heap.size, 2, .bool raw)] w1 := Keep.below hb1 (Keep.alloc3 (k := w.heap.size + 1 + 1) _ _ _ _ (by simp) (Keep.alloc3 (k := w.heap.size + 1) _ _ _ _ (by simp) (Keep.alloc3 (k := w.heap.size) _ _ _ _ (by simp) (Keep.start w))))
              clear hb1
              obtain ⟨⟨k0, z0, k1, z1, k2, z2, k3, z3, k4, z4, k5, z5, k6, z6, k7, z7, k8, z8, _⟩, hB⟩ := id K1
              clear hB
              go_wp2_with fail
              refine (z_any _ _ _ _).mono ?_; rintro e w2 ⟨rfl, hb2⟩
              have K2 : Keep w [(w.heap.size + 1 + 1, 0, .int .i64 s), (w.heap.size + 1 + 1, 1, .int .i64 t), (w.heap.size + 1 + 1, 2, .bool raw3), (w.heap.size + 1, 0, .int .i64 u), (w.heap.size + 1, 1, .int .i64 v), (w.heap.size + 1, 2, .bool raw2), (w.heap.size, 0, .int .i64 x), (w.heap.size, 1, .int .i64 y), (w.heap.size, 2, .bool raw)] w2 := Keep.below hb2 K1
              clear hb2
              clear k0 z0 k1 z1 k2 z2 k3 z3 k4 z4 k5 z5 k6 z6 k7 z7 k8 z8
              obtain ⟨⟨k0, z0, k1, z1, k2, z2, k3, z3, k4, z4, k5, z5, k6, z6, k7, z7, k8, z8, _⟩, hB⟩ := id K2
              clear hB
              go_wp2_with fail
              refine (z_any _ _ _ _).mono ?_; rintro e w3 ⟨rfl, hb3⟩
              have K3 : Keep w [(w.heap.size + 1 + 1, 0, .int .i64 s), (w.heap.size + 1 + 1, 1, .int .i64 t), (w.heap.size + 1 + 1, 2, .bool raw3), (w.heap.size + 1, 0, .int .i64 u), (w.heap.size + 1, 1, .int .i64 v), (w.heap.size + 1, 2, .bool raw2), (w.heap.size, 0, .int .i64 x), (w.heap.size, 1, .int .i64 y), (w.heap.size, 2, .bool raw)] w3 := Keep.below hb3 K2
              clear hb3
              clear k0 z0 k1 z1 k2 z2 k3 z3 k4 z4 k5 z5 k6 z6 k7 z7 k8 z8
              obtain ⟨⟨k0, z0, k1, z1, k2, z2, k3, z3, k4, z4, k5, z5, k6, z6, k7, z7, k8, z8, _⟩, hB⟩ := id K3
              clear hB
              go_wp2_with fail
              refine (Qab.out _).mono ?_; rintro e w' ⟨rfl, rfl⟩
              go_wp2_with fail
              refine (Qbc.out _).mono ?_; rintro e w' ⟨rfl, rfl⟩
              go_wp2_with fail
              refine (Mab.out _).mono ?_; rintro e w' ⟨rfl, rfl⟩
              go_wp2_with fail
              refine (Mbc.out _).mono ?_; rintro e w' ⟨rfl, rfl⟩
              go_wp2_with fail
              refine (Mac.out _).mono ?_; rintro e w' ⟨rfl, rfl⟩
              go_wp2_with fail
              refine (Q8.out _).mono ?_; rintro e w' ⟨rfl, rfl⟩
              go_wp2_with fail
              refine (Q9.out _).mono ?_; rintro e w' ⟨rfl, rfl⟩
              go_wp2_with fail
              refine (bits_self _ _ _).mono ?_; rintro e w' ⟨rfl, rfl⟩
              go_wp2_with fail
              refine (Q10.out _).mono ?_; rintro e w' ⟨rfl, rfl⟩
              go_wp2_with fail
              refine (Qbc.out _).mono ?_; rintro e w' ⟨rfl, rfl⟩
              go_wp2_with fail
              refine (Q11.out _).mono ?_; rintro e w' ⟨rfl, rfl⟩
              go_wp2_with fail
              refine (bits_self _ _ _).mono ?_; rintro e w' ⟨rfl, rfl⟩
              go_wp2_with fail
              go_ret
              exact ⟨rfl, And.right K3⟩
  · have y1 : (r1.2 != 0) = false := by show (!(r1.2 == 0)) = _; rw [z1]; rfl
    cases z2 : (r2.2 == 0)
    · have y2 : (r2.2 != 0) = true := by show (!(r2.2 == 0)) = _; rw [z2]; rfl
      cases z5 : (r5.2 == 0)
      · have y5 : (r5.2 != 0) = true := by show (!(r5.2 == 0)) = _; rw [z5]; rfl
        clear H1 H2 H3
        go_enter Tryd.func4, Tryd.ntmps4
        go_wp2_with fail
        refine (awake_any _).mono ?_; rintro e w' ⟨rfl, rfl⟩
        go_wp2_with fail
        refine (z_any _ _ _ _).mono ?_; rintro e w1 ⟨rfl, hb1⟩
        have K1 : Keep w [(w.heap.size + 1 + 1, 0, .int .i64 s), (w.heap.size + 1 + 1, 1, .int .i64 t), (w.heap.size + 1 + 1, 2, .bool raw3), (w.heap.size + 1, 0, .int .i64 u), (w.heap.size + 1, 1, .int .i64 v), (w.heap.size + 1, 2, .bool raw2), (w.heap.size, 0, .int .i64 x), (w.heap.size, 1, .int .i64 y), (w.heap.size, 2, .bool raw)] w1 := Keep.below hb1 (Keep.alloc3 (k := w.heap.size + 1 + 1) _ _ _ _ (by simp) (Keep.alloc3 (k := w.heap.size + 1) _ _ _ _ (by simp) (Keep.alloc3 (k := w.heap.size) _ _ _ _ (by simp) (Keep.start w))))
        clear hb1
        obtain ⟨⟨k0, z0, k1, z1, k2, z2, k3, z3, k4, z4, k5, z5, k6, z6, k7, z7, k8, z8, _⟩, hB⟩ := id K1
        clear hB
        go_wp2_with fail
        refine (z_any _ _ _ _).mono ?_; rintro e w2 ⟨rfl, hb2⟩
        have K2 : Keep w [(w.heap.size + 1 + 1, 0, .int .i64 s), (w.heap.size + 1 + 1, 1, .int .i64 t), (w.heap.size + 1 + 1, 2, .bool raw3), (w.heap.size + 1, 0, .int .i64 u), (w.heap.size + 1, 1, .int .i64 v), (w.heap.size + 1, 2, .bool raw2), (w.heap.size, 0, .int .i64 x), (w.heap.size, 1, .int .i64 y), (w.heap.size, 2, .bool raw)] w2 := Keep.below hb2 K1
        clear hb2
        clear k0 z0 k1 z1 k2 z2 k3 z3 k4 z4 k5 z5 k6 z6 k7 z7 k8 z8
        obtain ⟨⟨k0, z0, k1, z1, k2, z2, k3, z3, k4, z4, k5, z5, k6, z6, k7, z7, k8, z8, _⟩, hB⟩ := id K2
        clear hB
        go_wp2_with fail
        refine (z_any _ _ _ _).mono ?_; rintro e w3 ⟨rfl, hb3⟩
        have K3 : Keep w [(w.heap.size + 1 + 1, 0, .int .i64 s), (w.heap.size + 1 + 1, 1, .int .i64 t), (w.heap.size + 1 + 1, 2, .bool raw3), (w.heap.size + 1, 0, .int .i64 u), (w.heap.size + 1, 1, .int .i64 v), (w.heap.size + 1, 2, .bool raw2), (w.heap.size, 0, .int .i64 x), (w.heap.size, 1, .int .i64 y), (w.heap.size, 2, .bool raw)] w3 := Keep.below hb3 K2
        clear hb3
        clear k0 z0 k1 z1 k2 z2 k3 z3 k4 z4 k5 z5 k6 z6 k7 z7 k8 z8
        obtain ⟨⟨k0, z0, k1, z1, k2, z2, k3, z3, k4, z4, k5, z5, k6, z6, k7, z7, k8, z8, _⟩, hB⟩ := id K3
        clear hB
        go_wp2_with fail
        refine (Qab.out _).mono ?_; rintro e w' ⟨rfl, rfl⟩
        go_wp2_with fail
        refine (Qbc.out _).mono ?_; rintro e w' ⟨rfl, rfl⟩
        go_wp2_with fail
        refine (Mab.out _).mono ?_; rintro e w' ⟨rfl, rfl⟩
        go_wp2_with fail
        refine (Mbc.out _).mono ?_; rintro e w' ⟨rfl, rfl⟩
        go_wp2_with fail
        refine (Mac.out _).mono ?_; rintro e w' ⟨rfl, rfl⟩
        go_wp2_with fail
        go_ret
        exact ⟨rfl, And.right K3⟩
      · have y5 : (r5.2 != 0) = false := by show (!(r5.2 == 0)) = _; rw [z5]; rfl
        cases z6 : (r6.2 == 0)
        · have y6 : (r6.2 != 0) = true := by show (!(r6.2 == 0)) = _; rw [z6]; rfl
          cases z7 : (r7.2 == 0)
          · have y7 : (r7.2 != 0) = true := by show (!(r7.2 == 0)) = _; rw [z7]; rfl
            clear H1 H2 H3
            go_enter Tryd.func4, Tryd.ntmps4
            go_wp2_with fail
            refine (awake_any _).mono ?_; rintro e w' ⟨rfl, rfl⟩
            go_wp2_with fail
            refine (z_any _ _ _ _).mono ?_; rintro e w1 ⟨rfl, hb1⟩
            have K1 : Keep w [(w.heap.size + 1 + 1, 0, .int .i64 s), (w.heap.size + 1 + 1, 1, .int .i64 t), (w.heap.size + 1 + 1, 2, .bool raw3), (w.heap.size + 1, 0, .int .i64 u), (w.heap.size + 1, 1, .int .i64 v), (w.heap.size + 1, 2, .bool raw2), (w.heap.size, 0, .int .i64 x), (w.heap.size, 1, .int .i64 y), (w.heap.size, 2, .bool raw)] w1 := Keep.below hb1 (Keep.alloc3 (k := w.heap.size + 1 + 1) _ _ _ _ (by simp) (Keep.alloc3 (k := w.heap.size + 1) _ _ _ _ (by simp) (Keep.alloc3 (k := w.heap.size) _ _ _ _ (by simp) (Keep.start w))))
            clear hb1
            obtain ⟨⟨k0, z0, k1, z1, k2, z2, k3, z3, k4, z4, k5, z5, k6, z6, k7, z7, k8, z8, _⟩, hB⟩ := id K1
            clear hB
            go_wp2_with fail
            refine (z_any _ _ _ _).mono ?_; rintro e w2 ⟨rfl, hb2⟩
            have K2 : Keep w [(w.heap.size + 1 + 1, 0, .int .i64 s), (w.heap.size + 1 + 1, 1, .int .i64 t), (w.heap.size + 1 + 1, 2, .bool raw3), (w.heap.size + 1, 0, .int .i64 u), (w.heap.size + 1, 1, .int .i64 v), (w.heap.size + 1, 2, .bool raw2), (w.heap.size, 0, .int .i64 x), (w.heap.size, 1, .int .i64 y), (w.heap.size, 2, .bool raw)] w2 := Keep.below hb2 K1
            clear hb2
            clear k0 z0 k1 z1 k2 z2 k3 z3 k4 z4 k5 z5 k6 z6 k7 z7 k8 z8
            obtain ⟨⟨k0, z0, k1, z1, k2, z2, k3, z3, k4, z4, k5, z5, k6, z6, k7, z7, k8, z8, _⟩, hB⟩ := id K2
            clear hB
            go_wp2_with fail
            refine (z_any _ _ _ _).mono ?_; rintro e w3 ⟨rfl, hb3⟩
            have K3 : Keep w [(w.heap.size + 1 + 1, 0, .int .i64 s), (w.heap.size + 1 + 1, 1, .int .i64 t), (w.heap.size + 1 + 1, 2, .bool raw3), (w.heap.size + 1, 0, .int .i64 u), (w.heap.size + 1, 1, .int .i64 v), (w.heap.size + 1, 2, .bool raw2), (w.heap.size, 0, .int .i64 x), (w.heap.size, 1, .int .i64 y), (w.heap.size, 2, .bool raw)] w3 := Keep.below hb3 K2
            clear hb3
            clear k0 z0 k1 z1 k2 z2 k3 z3 k4 z4 k5 z5 k6 z6 k7 z7 k8 z8
            obtain ⟨⟨k0, z0, k1, z1, k2, z2, k3, z3, k4, z4, k5, z5, k6, z6, k7, z7, k8, z8, _⟩, hB⟩ := id K3
            clear hB
            go_wp2_with fail
            refine (Qab.out _).mono ?_; rintro e w' ⟨rfl, rfl⟩
            go_wp2_with fail
            refine (Qbc.out _).mono ?_; rintro e w' ⟨rfl, rfl⟩
            go_wp2_with fail
            refine (Mab.out _).mono ?_; rintro e w' ⟨rfl, rfl⟩
            go_wp2_with fail
            refine (Mbc.out _).mono ?_; rintro e w' ⟨rfl, rfl⟩
            go_wp2_with fail
            refine (Mac.out _).mono ?_; rintro e w' ⟨rfl, rfl⟩
            go_wp2_with fail
            go_ret
            exact ⟨rfl, And.right K3⟩
          · have y7 : (r7.2 != 0) = false := by show (!(r7.2 == 0)) = _; rw [z7]; rfl
            cases z10 : (r10.2 == 0)
            · have y10 : (r10.2 != 0) = true := by show (!(r10.2 == 0)) = _; rw [z10]; rfl
              clear H1 H2 H3
              go_enter Tryd.func4, Tryd.ntmps4
              go_wp2_with fail
              refine (awake_any _).mono ?_; rintro e w' ⟨rfl, rfl⟩
              go_wp2_with fail
              refine (z_any _ _ _ _).mono ?_; rintro e w1 ⟨rfl, hb1⟩
              have K1 : Keep w [(w.heap.size + 1 + 1, 0, .int .i64 s), (w.heap.size + 1 + 1, 1, .int .i64 t), (w.heap.size + 1 + 1, 2, .bool raw3), (w.heap.size + 1, 0, .int .i64 u), (w.heap.size + 1, 1, .int .i64 v), (w.heap.size + 1, 2, .bool raw2), (w.heap.size, 0, .int .i64 x), (w.heap.size, 1, .int .i64 y), (w.heap.size, 2, .bool raw)] w1 := Keep.below hb1 (Keep.alloc3 (k := w.heap.size + 1 + 1) _ _ _ _ (by simp) (Keep.alloc3 (k := w.heap.size + 1) _ _ _ _ (by simp) (Keep.alloc3 (k := w.heap.size) _ _ _ _ (by simp) (Keep.start w))))
              clear hb1
              obtain ⟨⟨k0, z0, k1, z1, k2, z2, k3, z3, k4, z4, k5, z5, k6, z6, k7, z7, k8, z8, _⟩, hB⟩ := id K1
              clear hB
              go_wp2_with fail
              refine (z_any _ _ _ _).mono ?_; rintro e w2 ⟨rfl, hb2⟩
              have K2 : Keep w [(w.heap.size + 1 + 1, 0, .int .i64 s), (w.heap.size + 1 + 1, 1, .int .i64 t), (w.heap.size + 1 + 1, 2, .bool raw3), (w.heap.size + 1, 0, .int .i64 u), (w.heap.size + 1, 1, .int .i64 v), (w.heap.size + 1, 2, .bool raw2), (w.heap.size, 0, .int .i64 x), (w.heap.size, 1, .int .i64 y), (w.heap.size, 2, .bool raw)] w2 := Keep.below hb2 K1
              clear hb2
              clear k0 z0 k1 z1 k2 z2 k3 z3 k4 z4 k5 z5 k6 z6 k7 z7 k8 z8
              obtain ⟨⟨k0, z0, k1, z1, k2, z2, k3, z3, k4, z4, k5, z5, k6, z6, k7, z7, k8, z8, _⟩, hB⟩ := id K2
              clear hB
              go_wp2_with fail
              refine (z_any _ _ _ _).mono ?_; rintro e w3 ⟨rfl, hb3⟩
              have K3 : Keep w [(w.heap.size + 1 + 1, 0, .int .i64 s), (w.heap.size + 1 + 1, 1, .int .i64 t), (w.heap.size + 1 + 1, 2, .bool raw3), (w.heap.size + 1, 0, .int .i64 u), (w.heap.size + 1, 1, .int .i64 v), (w.heap.size + 1, 2, .bool raw2), (w.heap.size, 0, .int .i64 x), (w.heap.size, 1, .int .i64 y), (w.heap.size, 2, .bool raw)] w3 := Keep.below hb3 K2
              clear hb3
              clear k0 z0 k1 z1 k2 z2 k3 z3 k4 z4 k5 z5 k6 z6 k7 z7 k8 z8
              obtain ⟨⟨k0, z0, k1, z1, k2, z2, k3, z3, k4, z4, k5, z5, k6, z6, k7, z7, k8, z8, _⟩, hB⟩ := id K3
              clear hB
              go_wp2_with fail
              refine (Qab.out _).mono ?_; rintro e w' ⟨rfl, rfl⟩
              go_wp2_with fail
              refine (Qbc.out _).mono ?_; rintro e w' ⟨rfl, rfl⟩
              go_wp2_with fail
              refine (Mab.out _).mono ?_; rintro e w' ⟨rfl, rfl⟩
              go_wp2_with fail
              refine (Mbc.out _).mono ?_; rintro e w' ⟨rfl, rfl⟩
              go_wp2_with fail
              refine (Mac.out _).mono ?_; rintro e w' ⟨rfl, rfl⟩
              go_wp2_with fail
              refine (Q10.out _).mono ?_; rintro e w' ⟨rfl, rfl⟩
              go_wp2_with fail
              refine (Qbc.out _).mono ?_; rintro e w' ⟨rfl, rfl⟩
              go_wp2_with fail
              go_ret
              exact ⟨rfl, And.right K3⟩
            · have y10 : (r10.2 != 0) = false := by show (!(r10.2 == 0)) = _; rw [z10]; rfl
              clear H1 H2 H3
              go_enter Tryd.func4, Tryd.ntmps4
              go_wp2_with fail
              refine (awake_any _).mono ?_; rintro e w' ⟨rfl, rfl⟩
              go_wp2_with fail
              refine (z_any _ _ _ _).mono ?_; rintro e w1 ⟨rfl, hb1⟩
              have K1 : Keep w [(w.heap.size + 1 + 1, 0, .int .i64 s), (w.heap.size + 1 + 1, 1, .int .i64 t), (w.heap.size + 1 + 1, 2, .bool raw3), (w.heap.size + 1, 0, .int .i64 u), (w.heap.size + 1, 1, .int .i64 v), (w.heap.size + 1, 2, .bool raw2), (w.heap.size, 0, .int .i64 x), (w.heap.size, 1, .int .i64 y), (w.heap.size, 2, .bool raw)] w1 := Keep.below hb1 (Keep.alloc3 (k := w.heap.size + 1 + 1) _ _ _ _ (by simp) (Keep.alloc3 (k := w.heap.size + 1) _ _ _ _ (by simp) (Keep.alloc3 (k := w.heap.size) _ _ _ _ (by simp) (Keep.start w))))
              clear hb1
              obtain ⟨⟨k0, z0, k1, z1, k2, z2, k3, z3, k4, z4, k5, z5, k6, z6, k7, z7, k8, z8, _⟩, hB⟩ := id K1
              clear hB
              go_wp2_with fail
              refine (z_any _ _ _ _).mono ?_; rintro e w2 ⟨rfl, hb2⟩
              have K2 : Keep w [(w.heap.size + 1 + 1, 0, .int .i64 s), (w.heap.size + 1 + 1, 1, .int .i64 t), (w.heap.size + 1 + 1, 2, .bool raw3), (w.heap.size + 1, 0, .int .i64 u), (w.heap.size + 1, 1, .int .i64 v), (w.heap.size + 1, 2, .bool raw2), (w.heap.size, 0, .int .i64 x), (w.heap.size, 1, .int .i64 y), (w.heap.size, 2, .bool raw)] w2 := Keep.below hb2 K1
              clear hb2
              clear k0 z0 k1 z1 k2 z2 k3 z3 k4 z4 k5 z5 k6 z6 k7 z7 k8 z8
              obtain ⟨⟨k0, z0, k1, z1, k2, z2, k3, z3, k4, z4, k5, z5, k6, z6, k7, z7, k8, z8, _⟩, hB⟩ := id K2
              clear hB
              go_wp2_with fail
              refine (z_any _ _ _ _).mono ?_; rintro e w3 ⟨rfl, hb3⟩
              have K3 : Keep w [(w.heap.size + 1 + 1, 0, .int .i64 s), (w.heap.size + 1 + 1, 1, .int .i64 t), (w.heap.size + 1 + 1, 2, .bool raw3), (w.heap.size + 1, 0, .int .i64 u), (w.heap.size + 1, 1, .int .i64 v), (w.heap.size + 1, 2, .bool raw2), (w.heap.size, 0, .int .i64 x), (w.heap.size, 1, .int .i64 y), (w.heap.size, 2, .bool raw)] w3 := Keep.below hb3 K2
              clear hb3
              clear k0 z0 k1 z1 k2 z2 k3 z3 k4 z4 k5 z5 k6 z6 k7 z7 k8 z8
              obtain ⟨⟨k0, z0, k1, z1, k2, z2, k3, z3, k4, z4, k5, z5, k6, z6, k7, z7, k8, z8, _⟩, hB⟩ := id K3
              clear hB
              go_wp2_with fail
              refine (Qab.out _).mono ?_; rintro e w' ⟨rfl, rfl⟩
              go_wp2_with fail
              refine (Qbc.out _).mono ?_; rintro e w' ⟨rfl, rfl⟩
              go_wp2_with fail
              refine (Mab.out _).mono ?_; rintro e w' ⟨rfl, rfl⟩
              go_wp2_with fail
              refine (Mbc.out _).mono ?_; rintro e w' ⟨rfl, rfl⟩
              go_wp2_with fail
              refine (Mac.out _).mono ?_; rintro e w' ⟨rfl, rfl⟩
              go_wp2_with fail
              refine (Q10.out _).mono ?_; rintro e w' ⟨rfl, rfl⟩
              go_wp2_with fail
              refine (Qbc.out _).mono ?_; rintro e w' ⟨rfl, rfl⟩
              go_wp2_with fail
              go_ret
              exact ⟨rfl, And.right K3⟩
        · have y6 : (r6.2 != 0) = false := by show (!(r6.2 == 0)) = _; rw [z6]; rfl
          cases z7 : (r7.2 == 0)
          · have y7 : (r7.2 != 0) = true := by show (!(r7.2 == 0)) = _; rw [z7]; rfl
            have c2 := H2.out (by simpa using z5) (by simpa using z6)
            subst c2
            clear H1 H2 H3
            go_enter Tryd.func4, Tryd.ntmps4
            go_wp2_with fail
            refine (awake_any _).mono ?_; rintro e w' ⟨rfl, rfl⟩
            go_wp2_with fail
            refine (z_any _ _ _ _).mono ?_; rintro e w1 ⟨rfl, hb1⟩
            have K1 : Keep w [(w.heap.size + 1 + 1, 0, .int .i64 s), (w.heap.size + 1 + 1, 1, .int .i64 t), (w.heap.size + 1 + 1, 2, .bool raw3), (w.heap.size + 1, 0, .int .i64 u), (w.heap.size + 1, 1, .int .i64 v), (w.heap.size + 1, 2, .bool raw2), (w.heap.size, 0, .int .i64 x), (w.heap.size, 1, .int .i64 y), (w.heap.size, 2, .bool raw)] w1 := Keep.below hb1 (Keep.alloc3 (k := w.heap.size + 1 + 1) _ _ _ _ (by simp) (Keep.alloc3 (k := w.heap.size + 1) _ _ _ _ (by simp) (Keep.alloc3 (k := w.heap.size) _ _ _ _ (by simp) (Keep.start w))))
            clear hb1
            obtain ⟨⟨k0, z0, k1, z1, k2, z2, k3, z3, k4, z4, k5, z5, k6, z6, k7, z7, k8, z8, _⟩, hB⟩ := id K1
            clear hB
            go_wp2_with fail
            refine (z_any _ _ _ _).mono ?_; rintro e w2 ⟨rfl, hb2⟩
            have K2 : Keep w [(w.heap.size + 1 + 1, 0, .int .i64 s), (w.heap.size + 1 + 1, 1, .int .i64 t), (w.heap.size + 1 + 1, 2, .bool raw3), (w.heap.size + 1, 0, .int .i64 u), (w.heap.size + 1, 1, .int .i64 v), (w.heap.size + 1, 2, .bool raw2), (w.heap.size, 0, .int .i64 x), (w.heap.size, 1, .int .i64 y), (w.heap.size, 2, .bool raw)] w2 := Keep.below hb2 K1
            clear hb2
            clear k0 z0 k1 z1 k2 z2 k3 z3 k4 z4 k5 z5 k6 z6 k7 z7 k8 z8
            obtain ⟨⟨k0, z0, k1, z1, k2, z2, k3, z3, k4, z4, k5, z5, k6, z6, k7, z7, k8, z8, _⟩, hB⟩ := id K2
            clear hB
            go_wp2_with fail
            refine (z_any _ _ _ _).mono ?_; rintro e w3 ⟨rfl, hb3⟩
            have K3 : Keep w [(w.heap.size + 1 + 1, 0, .int .i64 s), (w.heap.size + 1 + 1, 1, .int .i64 t), (w.heap.size + 1 + 1, 2, .bool raw3), (w.heap.size + 1, 0, .int .i64 u), (w.heap.size + 1, 1, .int .i64 v), (w.heap.size + 1, 2, .bool raw2), (w.heap.size, 0, .int .i64 x), (w.heap.size, 1, .int .i64 y), (w.heap.size, 2, .bool raw)] w3 := Keep.below hb3 K2
            clear hb3
            clear k0 z0 k1 z1 k2 z2 k3 z3 k4 z4 k5 z5 k6 z6 k7 z7 k8 z8
            obtain ⟨⟨k0, z0, k1, z1, k2, z2, k3, z3, k4, z4, k5, z5, k6, z6, k7, z7, k8, z8, _⟩, hB⟩ := id K3
            clear hB
            go_wp2_with fail
            refine (Qab.out _).mono ?_; rintro e w' ⟨rfl, rfl⟩
            go_wp2_with fail
            refine (Qbc.out _).mono ?_; rintro e w' ⟨rfl, rfl⟩
            go_wp2_with fail
            refine (Mab.out _).mono ?_; rintro e w' ⟨rfl, rfl⟩
            go_wp2_with fail
            refine (Mbc.out _).mono ?_; rintro e w' ⟨rfl, rfl⟩
            go_wp2_with fail
            refine (Mac.out _).mono ?_; rintro e w' ⟨rfl, rfl⟩
            go_wp2_with fail
            refine (Q8.out _).mono ?_; rintro e w' ⟨rfl, rfl⟩
            go_wp2_with fail
            refine (Q9.out _).mono ?_; rintro e w' ⟨rfl, rfl⟩
            go_wp2_with fail
            refine (bits_self _ _ _).mono ?_; rintro e w' ⟨rfl, rfl⟩
            go_wp2_with fail
            go_ret
            exact ⟨rfl, And.right K3⟩
          · have y7 : (r7.2 != 0) = false := by show (!(r7.2 == 0)) = _; rw [z7]; rfl
            cases z10 : (r10.2 == 0)
            · have y10 : (r10.2 != 0) = true := by show (!(r10.2 == 0)) = _; rw [z10]; rfl
              have c2 := H2.out (by simpa using z5) (by simpa using z6)
              subst c2
              clear H1 H2 H3
              go_enter Tryd.func4, Tryd.ntmps4
              go_wp2_with fail
              refine (awake_any _).mono ?_; rintro e w' ⟨rfl, rfl⟩
              go_wp2_with fail
              refine (z_any _ _ _ _).mono ?_; rintro e w1 ⟨rfl, hb1⟩
              have K1 : Keep w [(w.heap.size + 1 + 1, 0, .int .i64 s), (w.heap.size + 1 + 1, 1, .int .i64 t), (w.heap.size + 1 + 1, 2, .bool raw3), (w.heap.size + 1, 0, .int .i64 u), (w.heap.size + 1, 1, .int .i64 v), (w.heap.size + 1, 2, .bool raw2), (w.heap.size, 0, .int .i64 x), (w.heap.size, 1, .int .i64 y), (w.heap.size, 2, .bool raw)] w1 := Keep.below hb1 (Keep.alloc3 (k := w.heap.size + 1 + 1) _ _ _ _ (by simp) (Keep.alloc3 (k := w.heap.size + 1) _ _ _ _ (by simp) (Keep.alloc3 (k := w.heap.size) _ _ _ _ (by simp) (Keep.start w))))
              clear hb1
              obtain ⟨⟨k0, z0, k1, z1, k2, z2, k3, z3, k4, z4, k5, z5, k6, z6, k7, z7, k8, z8, _⟩, hB⟩ := id K1
              clear hB
              go_wp2_with fail
              refine (z_any _ _ _ _).mono ?_; rintro e w2 ⟨rfl, hb2⟩
              have K2 : Keep w [(w.heap.size + 1 + 1, 0, .int .i64 s), (w.heap.size + 1 + 1, 1, .int .i64 t), (w.heap.size + 1 + 1, 2, .bool raw3), (w.heap.size + 1, 0, .int .i64 u), (w.heap.size + 1, 1, .int .i64 v), (w.heap.size + 1, 2, .bool raw2), (w.heap.size, 0, .int .i64 x), (w.heap.size, 1, .int .i64 y), (w.heap.size, 2, .bool raw)] w2 := Keep.below hb2 K1
              clear hb2
              clear k0 z0 k1 z1 k2 z2 k3 z3 k4 z4 k5 z5 k6 z6 k7 z7 k8 z8
              obtain ⟨⟨k0, z0, k1, z1, k2, z2, k3, z3, k4, z4, k5, z5, k6, z6, k7, z7, k8, z8, _⟩, hB⟩ := id K2
              clear hB
              go_wp2_with fail
              refine (z_any _ _ _ _).mono ?_; rintro e w3 ⟨rfl, hb3⟩
              have K3 : Keep w [(w.heap.size + 1 + 1, 0, .int .i64 s), (w.heap.size + 1 + 1, 1, .int .i64 t), (w.heap.size + 1 + 1, 2, .bool raw3), (w.heap.size + 1, 0, .int .i64 u), (w.heap.size + 1, 1, .int .i64 v), (w.heap.size + 1, 2, .bool raw2), (w.heap.size, 0, .int .i64 x), (w.heap.size, 1, .int .i64 y), (w.heap.size, 2, .bool raw)] w3 := Keep.below hb3 K2
              clear hb3
              clear k0 z0 k1 z1 k2 z2 k3 z3 k4 z4 k5 z5 k6 z6 k7 z7 k8 z8
              obtain ⟨⟨k0, z0, k1, z1, k2, z2, k3, z3, k4, z4, k5, z5, k6, z6, k7, z7, k8, z8, _⟩, hB⟩ := id K3
              clear hB
              go_wp2_with fail
              refine (Qab.out _).mono ?_; rintro e w' ⟨rfl, rfl⟩
              go_wp2_with fail
              refine (Qbc.out _).mono ?_; rintro e w' ⟨rfl, rfl⟩
              go_wp2_with fail
              refine (Mab.out _).mono ?_; rintro e w' ⟨rfl, rfl⟩
              go_wp2_with fail
              refine (Mbc.out _).mono ?_; rintro e w' ⟨rfl, rfl⟩
              go_wp2_with fail
              refine (Mac.out _).mono ?_; rintro e w' ⟨rfl, rfl⟩
              go_wp2_with fail
              refine (Q8.out _).mono ?_; rintro e w' ⟨rfl, rfl⟩
              go_wp2_with fail
              refine (Q9.out _).mono ?_; rintro e w' ⟨rfl, rfl⟩
              go_wp2_with fail
              refine (bits_self _ _ _).mono ?_; rintro e w' ⟨rfl, rfl⟩
              go_wp2_with fail
              refine (Q10.out _).mono ?_; rintro e w' ⟨rfl, rfl⟩
              go_wp2_with fail
              refine (Qbc.out _).mono ?_; rintro e w' ⟨rfl, rfl⟩
              go_wp2_with fail
              go_ret
              exact ⟨rfl, And.right K3⟩
            · have y10 : (r10.2 != 0) = false := by show (!(r10.2 == 0)) = _; rw [z10]; rfl
              have c2 := H2.out (by simpa using z5) (by simpa using z6)
              subst c2
              clear H1 H2 H3
              go_enter Tryd.func4, Tryd.ntmps4
              go_wp2_with fail
              refine (awake_any _).mono ?_; rintro e w' ⟨rfl, rfl⟩
              go_wp2_with fail
              refine (z_any _ _ _ _).mono ?_; rintro e w1 ⟨rfl, hb1⟩
              have K1 : Keep w [(w.heap.size + 1 + 1, 0, .int .i64 s), (w.heap.size + 1 + 1, 1, .int .i64 t), (w.heap.size + 1 + 1, 2, .bool raw3), (w.heap.size + 1, 0, .int .i64 u), (w.heap.size + 1, 1, .int .i64 v), (w.heap.size + 1, 2, .bool raw2), (w.heap.size, 0, .int .i64 x), (w.heap.size, 1, .int .i64 y), (w.heap.size, 2, .bool raw)] w1 := Keep.below hb1 (Keep.alloc3 (k := w.heap.size + 1 + 1) _ _ _ _ (by simp) (Keep.alloc3 (k := w.heap.size + 1) _ _ _ _ (by simp) (Keep.alloc3 (k := w.heap.size) _ _ _ _ (by simp) (Keep.start w))))
              clear hb1
              obtain ⟨⟨k0, z0, k1, z1, k2, z2, k3, z3, k4, z4, k5, z5, k6, z6, k7, z7, k8, z8, _⟩, hB⟩ := id K1
              clear hB
              go_wp2_with fail
              refine (z_any _ _ _ _).mono ?_; rintro e w2 ⟨rfl, hb2⟩
              have K2 : Keep w [(w.heap.size + 1 + 1, 0, .int .i64 s), (w.heap.size + 1 + 1, 1, .int .i64 t), (w.heap.size + 1 + 1, 2, .bool raw3), (w.heap.size + 1, 0, .int .i64 u), (w.heap.size + 1, 1, .int .i64 v), (w.heap.size + 1, 2, .bool raw2), (w.heap.size, 0, .int .i64 x), (w.heap.size, 1, .int .i64 y), (w.heap.size, 2, .bool raw)] w2 := Keep.below hb2 K1
              clear hb2
              clear k0 z0 k1 z1 k2 z2 k3 z3 k4 z4 k5 z5 k6 z6 k7 z7 k8 z8
              obtain ⟨⟨k0, z0, k1, z1, k2, z2, k3, z3, k4, z4, k5, z5, k6, z6, k7, z7, k8, z8, _⟩, hB⟩ := id K2
              clear hB
              go_wp2_with fail
              refine (z_any _ _ _ _).mono ?_; rintro e w3 ⟨rfl, hb3⟩
              have K3 : Keep w [(w.heap.size + 1 + 1, 0, .int .i64 s), (w.heap.size + 1 + 1, 1, .int .i64 t), (w.heap.size + 1 + 1, 2, .bool raw3), (w.heap.size + 1, 0, .int .i64 u), (w.heap.size + 1, 1, .int .i64 v), (w.heap.size + 1, 2, .bool raw2), (w.heap.size, 0, .int .i64 x), (w.heap.size, 1, .int .i64 y), (w.heap.size, 2, .bool raw)] w3 := Keep.below hb3 K2
              clear hb3
              clear k0 z0 k1 z1 k2 z2 k3 z3 k4 z4 k5 z5 k6 z6 k7 z7 k8 z8
              obtain ⟨⟨k0, z0, k1, z1, k2, z2, k3, z3, k4, z4, k5, z5, k6, z6, k7, z7, k8, z8, _⟩, hB⟩ := id K3
              clear hB
              go_wp2_with fail
              refine (Qab.out _).mono ?_; rintro e w' ⟨rfl, rfl⟩
              go_wp2_with fail
              refine (Qbc.out _).mono ?_; rintro e w' ⟨rfl, rfl⟩
              go_wp2_with fail
              refine (Mab.out _).mono ?_; rintro e w' ⟨rfl, rfl⟩
              go_wp2_with fail
              refine (Mbc.out _).mono ?_; rintro e w' ⟨rfl, rfl⟩
              go_wp2_with fail
              refine (Mac.out _).mono ?_; rintro e w' ⟨rfl, rfl⟩
              go_wp2_with fail
              refine (Q8.out _).mono ?_; rintro e w' ⟨rfl, rfl⟩
              go_wp2_with fail
              refine (Q9.out _).mono ?_; rintro e w' ⟨rfl, rfl⟩
              go_wp2_with fail
              refine (bits_self _ _ _).mono ?_; rintro e w' ⟨rfl, rfl⟩
              go_wp2_with fail
              refine (Q10.out _).mono ?_; rintro e w' ⟨rfl, rfl⟩
              go_wp2_with fail
              refine (Qbc.out _).mono ?_; rintro e w' ⟨rfl, rfl⟩
              go_wp2_with fail
              go_ret
              exact ⟨rfl, And.right K3⟩
    · have y2 : (r2.2 != 0) = false := by show (!(r2.2 == 0)) = _; rw [z2]; rfl
      cases z5 : (r5.2 == 0)
      · have y5 : (r5.2 != 0) = true := by show (!(r5.2 == 0)) = _; rw [z5]; rfl
        have c1 := H1.out (by simpa using z1) (by simpa using z2)
        subst c1
        clear H1 H2 H3
        go_enter Tryd.func4, Tryd.ntmps4
        go_wp2_with fail
        refine (awake_any _).mono ?_; rintro e w' ⟨rfl, rfl⟩
        go_wp2_with fail
        refine (z_any _ _ _ _).mono ?_; rintro e w1 ⟨rfl, hb1⟩
        have K1 : Keep w [(w.heap.size + 1 + 1, 0, .int .i64 s), (w.heap.size + 1 + 1, 1, .int .i64 t), (w.heap.size + 1 + 1, 2, .bool raw3), (w.heap.size + 1, 0, .int .i64 u), (w.heap.size + 1, 1, .int .i64 v), (w.heap.size + 1, 2, .bool raw2), (w.heap.size, 0, .int .i64 x), (w.heap.size, 1, .int .i64 y), (w.heap.size, 2, .bool raw)] w1 := Keep.below hb1 (Keep.alloc3 (k := w.heap.size + 1 + 1) _ _ _ _ (by simp) (Keep.alloc3 (k := w.heap.size + 1) _ _ _ _ (by simp) (Keep.alloc3 (k := w.heap.size) _ _ _ _ (by simp) (Keep.start w))))
        clear hb1
        obtain ⟨⟨k0, z0, k1, z1, k2, z2, k3, z3, k4, z4, k5, z5, k6, z6, k7, z7, k8, z8, _⟩, hB⟩ := id K1
        clear hB
        go_wp2_with fail
        refine (z_any _ _ _ _).mono ?_; rintro e w2 ⟨rfl, hb2⟩
        have K2 : Keep w [(w.heap.size + 1 + 1, 0, .int .i64 s), (w.heap.size + 1 + 1, 1, .int .i64 t), (w.heap.size + 1 + 1, 2, .bool raw3), (w.heap.size + 1, 0, .int .i64 u), (w.heap.size + 1, 1, .int .i64 v), (w.heap.size + 1, 2, .bool raw2), (w.heap.size, 0, .int .i64 x), (w.heap.size, 1, .int .i64 y), (w.heap.size, 2, .bool raw)] w2 := Keep.below hb2 K1
        clear hb2
        clear k0 z0 k1 z1 k2 z2 k3 z3 k4 z4 k5 z5 k6 z6 k7 z7 k8 z8
        obtain ⟨⟨k0, z0, k1, z1, k2, z2, k3, z3, k4, z4, k5, z5, k6, z6, k7, z7, k8, z8, _⟩, hB⟩ := id K2
        clear hB
        go_wp2_with fail
        refine (z_any _ _ _ _).mono ?_; rintro e w3 ⟨rfl, hb3⟩
        have K3 : Keep w [(w.heap.size + 1 + 1, 0, .int .i64 s), (w.heap.size + 1 + 1, 1, .int .i64 t), (w.heap.size + 1 + 1, 2, .bool raw3), (w.heap.size + 1, 0, .int .i64 u), (w.heap.size + 1, 1, .int .i64 v), (w.heap.size + 1, 2, .bool raw2), (w.heap.size, 0, .int .i64 x), (w.heap.size, 1, .int .i64 y), (w.heap.size, 2, .bool raw)] w3 := Keep.below hb3 K2
        clear hb3
        clear k0 z0 k1 z1 k2 z2 k3 z3 k4 z4 k5 z5 k6 z6 k7 z7 k8 z8
        obtain ⟨⟨k0, z0, k1, z1, k2, z2, k3, z3, k4, z4, k5, z5, k6, z6, k7, z7, k8, z8, _⟩, hB⟩ := id K3
        clear hB
        go_wp2_with fail
        refine (Qab.out _).mono ?_; rintro e w' ⟨rfl, rfl⟩
        go_wp2_with fail
        refine (Qbc.out _).mono ?_; rintro e w' ⟨rfl, rfl⟩
        go_wp2_with fail
        refine (Q3.out _).mono ?_; rintro e w' ⟨rfl, rfl⟩
        go_wp2_with fail
        refine (Q4.out _).mono ?_; rintro e w' ⟨rfl, rfl⟩
        go_wp2_with fail
        refine (bits_self _ _ _).mono ?_; rintro e w' ⟨rfl, rfl⟩
        go_wp2_with fail
        refine (Mab.out _).mono ?_; rintro e w' ⟨rfl, rfl⟩
        go_wp2_with fail
        refine (Mbc.out _).mono ?_; rintro e w' ⟨rfl, rfl⟩
        go_wp2_with fail
        refine (Mac.out _).mono ?_; rintro e w' ⟨rfl, rfl⟩
        go_wp2_with fail
        go_ret
        exact ⟨rfl, And.right K3⟩
      · have y5 : (r5.2 != 0) = false := by show (!(r5.2 == 0)) = _; rw [z5]; rfl
        cases z6 : (r6.2 == 0)
        · have y6 : (r6.2 != 0) = true := by show (!(r6.2 == 0)) = _; rw [z6]; rfl
          cases z7 : (r7.2 == 0)
          · have y7 : (r7.2 != 0) = true := by show (!(r7.2 == 0)) = _; rw [z7]; rfl
            have c1 := H1.out (by simpa using z1) (by simpa using z2)
            subst c1
            clear H1 H2 H3
            go_enter Tryd.func4, Tryd.ntmps4
            go_wp2_with fail
            refine (awake_any _).mono ?_; rintro e w' ⟨rfl, rfl⟩
            go_wp2_with fail
            refine (z_any _ _ _ _).mono ?_; rintro e w1 ⟨rfl, hb1⟩
            have K1 : Keep w [(w.heap.size + 1 + 1, 0, .int .i64 s), (w.heap.size + 1 + 1, 1, .int .i64 t), (w.heap.size + 1 + 1, 2, .bool raw3), (w.heap.size + 1, 0, .int .i64 u), (w.heap.size + 1, 1, .int .i64 v), (w.heap.size + 1, 2, .bool raw2), (w.heap.size, 0, .int .i64 x), (w.heap.size, 1, .int .i64 y), (w.heap.size, 2, .bool raw)] w1 := Keep.below hb1 (Keep.alloc3 (k := w.heap.size + 1 + 1) _ _ _ _ (by simp) (Keep.alloc3 (k := w.heap.size + 1) _ _ _ _ (by simp) (Keep.alloc3 (k := w.heap.size) _ _ _ _ (by simp) (Keep.start w))))
            clear hb1
            obtain ⟨⟨k0, z0, k1, z1, k2, z2, k3, z3, k4, z4, k5, z5, k6, z6, k7, z7, k8, z8, _⟩, hB⟩ := id K1
            clear hB
            go_wp2_with fail
            refine (z_any _ _ _ _).mono ?_; rintro e w2 ⟨rfl, hb2⟩
            have K2 : Keep w [(w.heap.size + 1 + 1, 0, .int .i64 s), (w.heap.size + 1 + 1, 1, .int .i64 t), (w.heap.size + 1 + 1, 2, .bool raw3), (w.heap.size + 1, 0, .int .i64 u), (w.heap.size + 1, 1, .int .i64 v), (w.heap.size + 1, 2, .bool raw2), (w.heap.size, 0, .int .i64 x), (w.heap.size, 1, .int .i64 y), (w.heap.size, 2, .bool raw)] w2 := Keep.below hb2 K1
            clear hb2
            clear k0 z0 k1 z1 k2 z2 k3 z3 k4 z4 k5 z5 k6 z6 k7 z7 k8 z8
            obtain ⟨⟨k0, z0, k1, z1, k2, z2, k3, z3, k4, z4, k5, z5, k6, z6, k7, z7, k8, z8, _⟩, hB⟩ := id K2
            clear hB
            go_wp2_with fail
            refine (z_any _ _ _ _).mono ?_; rintro e w3 ⟨rfl, hb3⟩
            have K3 : Keep w [(w.heap.size + 1 + 1, 0, .int .i64 s), (w.heap.size + 1 + 1, 1, .int .i64 t), (w.heap.size + 1 + 1, 2, .bool raw3), (w.heap.size + 1, 0, .int .i64 u), (w.heap.size + 1, 1, .int .i64 v), (w.heap.size + 1, 2, .bool raw2), (w.heap.size, 0, .int .i64 x), (w.heap.size, 1, .int .i64 y), (w.heap.size, 2, .bool raw)] w3 := Keep.below hb3 K2
            clear hb3
            clear k0 z0 k1 z1 k2 z2 k3 z3 k4 z4 k5 z5 k6 z6 k7 z7 k8 z8
            obtain ⟨⟨k0, z0, k1, z1, k2, z2, k3, z3, k4, z4, k5, z5, k6, z6, k7, z7, k8, z8, _⟩, hB⟩ := id K3
            clear hB
            go_wp2_with fail
            refine (Qab.out _).mono ?_; rintro e w' ⟨rfl, rfl⟩
            go_wp2_with fail
            refine (Qbc.out _).mono ?_; rintro e w' ⟨rfl, rfl⟩
            go_wp2_with fail
            refine (Q3.out _).mono ?_; rintro e w' ⟨rfl, rfl⟩
            go_wp2_with fail
            refine (Q4.out _).mono ?_; rintro e w' ⟨rfl, rfl⟩
            go_wp2_with fail
            refine (bits_self _ _ _).mono ?_; rintro e w' ⟨rfl, rfl⟩
            go_wp2_with fail
            refine (Mab.out _).mono ?_; rintro e w' ⟨rfl, rfl⟩
            go_wp2_with fail
            refine (Mbc.out _).mono ?_; rintro e w' ⟨rfl, rfl⟩
            go_wp2_with fail
            refine (Mac.out _).mono ?_; rintro e w' ⟨rfl, rfl⟩
            go_wp2_with fail
            go_ret
            exact ⟨rfl, And.right K3⟩
          · have y7 : (r7.2 != 0) = false := by show (!(r7.2 == 0)) = _; rw [z7]; rfl
            cases z10 : (r10.2 == 0)
            · have y10 : (r10.2 != 0) = true := by show (!(r10.2 == 0)) = _; rw [z10]; rfl
              have c1 := H1.out (by simpa using z1) (by simpa using z2)
              subst c1
              clear H1 H2 H3
              go_enter Tryd.func4, Tryd.ntmps4
              go_wp2_with fail
              refine (awake_any _).mono ?_; rintro e w' ⟨rfl, rfl⟩
              go_wp2_with fail
              refine (z_any _ _ _ _).mono ?_; rintro e w1 ⟨rfl, hb1⟩
              have K1 : Keep w [(w.heap.size + 1 + 1, 0, .int .i64 s), (w.heap.size + 1 + 1, 1, .int .i64 t), (w.heap.size + 1 + 1, 2, .bool raw3), (w.heap.size + 1, 0, .int .i64 u), (w.heap.size + 1, 1, .int .i64 v), (w.heap.size + 1, 2, .bool raw2), (w.heap.size, 0, .int .i64 x), (w.heap.size, 1, .int .i64 y), (w.heap.size, 2, .bool raw)] w1 := Keep.below hb1 (Keep.alloc3 (k := w.heap.size + 1 + 1) _ _ _ _ (by simp) (Keep.alloc3 (k := w.heap.size + 1) _ _ _ _ (by simp) (Keep.alloc3 (k := w.heap.size) _ _ _ _ (by simp) (Keep.start w))))
              clear hb1
              obtain ⟨⟨k0, z0, k1, z1, k2, z2, k3, z3, k4, z4, k5, z5, k6, z6, k7, z7, k8, z8, _⟩, hB⟩ := id K1
              clear hB
              go_wp2_with fail
              refine (z_any _ _ _ _).mono ?_; rintro e w2 ⟨rfl, hb2⟩
              have K2 : Keep w [(w.heap.size + 1 + 1, 0, .int .i64 s), (w.heap.size + 1 + 1, 1, .int .i64 t), (w.heap.size + 1 + 1, 2, .bool raw3), (w.heap.size + 1, 0, .int .i64 u), (w.heap.size + 1, 1, .int .i64 v), (w.heap.size + 1, 2, .bool raw2), (w.heap.size, 0, .int .i64 x), (w.heap.size, 1, .int .i64 y), (w.heap.size, 2, .bool raw)] w2 := Keep.below hb2 K1
              clear hb2
              clear k0 z0 k1 z1 k2 z2 k3 z3 k4 z4 k5 z5 k6 z6 k7 z7 k8 z8
              obtain ⟨⟨k0, z0, k1, z1, k2, z2, k3, z3, k4, z4, k5, z5, k6, z6, k7, z7, k8, z8, _⟩, hB⟩ := id K2
              clear hB
              go_wp2_with fail
              refine (z_any _ _ _ _).mono ?_; rintro e w3 ⟨rfl, hb3⟩
              have K3 : Keep w [(w.heap.size + 1 + 1, 0, .int .i64 s), (w.heap.size + 1 + 1, 1, .int .i64 t), (w.heap.size + 1 + 1, 2, .bool raw3), (w.heap.size + 1, 0, .int .i64 u), (w.heap.size + 1, 1, .int .i64 v), (w.heap.size + 1, 2, .bool raw2), (w.heap.size, 0, .int .i64 x), (w.heap.size, 1, .int .i64 y), (w.heap.size, 2, .bool raw)] w3 := Keep.below hb3 K2
              clear hb3
              clear k0 z0 k1 z1 k2 z2 k3 z3 k4 z4 k5 z5 k6 z6 k7 z7 k8 z8
              obtain ⟨⟨k0, z0, k1, z1, k2, z2, k3, z3, k4, z4, k5, z5, k6, z6, k7, z7, k8, z8, _⟩, hB⟩ := id K3
              clear hB
              go_wp2_with fail
              refine (Qab.out _).mono ?_; rintro e w' ⟨rfl, rfl⟩
              go_wp2_with fail
              refine (Qbc.out _).mono ?_; rintro e w' ⟨rfl, rfl⟩
              go_wp2_with fail
              refine (Q3.out _).mono ?_; rintro e w' ⟨rfl, rfl⟩
              go_wp2_with fail
              refine (Q4.out _).mono ?_; rintro e w' ⟨rfl, rfl⟩
              go_wp2_with fail
              refine (bits_self _ _ _).mono ?_; rintro e w' ⟨rfl, rfl⟩
              go_wp2_with fail
              refine (Mab.out _).mono ?_; rintro e w' ⟨rfl, rfl⟩
              go_wp2_with fail
              refine (Mbc.out _).mono ?_; rintro e w' ⟨rfl, rfl⟩
              go_wp2_with fail
              refine (Mac.out _).mono ?_; rintro e w' ⟨rfl, rfl⟩
              go_wp2_with fail
              refine (Q10.out _).mono ?_; rintro e w' ⟨rfl, rfl⟩
              go_wp2_with fail
              refine (Qbc.out _).mono ?_; rintro e w' ⟨rfl, rfl⟩
              go_wp2_with fail
              go_ret
              exact ⟨rfl, And.right K3⟩
            · have y10 : (r10.2 != 0) = false := by show (!(r10.2 == 0)) = _; rw [z10]; rfl
              have c1 := H1.out (by simpa using z1) (by simpa using z2)
              subst c1
              have c3 := H3.out (by simpa using z5) (by simpa using z7) (by simpa using z10) (by simpa using z2)
              subst c3
              clear H1 H2 H3
              go_enter Tryd.func4, Tryd.ntmps4
              go_wp2_with fail
              refine (awake_any _).mono ?_; rintro e w' ⟨rfl, rfl⟩
              go_wp2_with fail
              refine (z_any _ _ _ _).mono ?_; rintro e w1 ⟨rfl, hb1⟩
              have K1 : Keep w [(w.heap.size + 1 + 1, 0, .int .i64 s), (w.heap.size + 1 + 1, 1, .int .i64 t), (w.heap.size + 1 + 1, 2, .bool raw3), (w.heap.size + 1, 0, .int .i64 u), (w.heap.size + 1, 1, .int .i64 v), (w.heap.size + 1, 2, .bool raw2), (w.heap.size, 0, .int .i64 x), (w.heap.size, 1, .int .i64 y), (w.heap.size, 2, .bool raw)] w1 := Keep.below hb1 (Keep.alloc3 (k := w.heap.size + 1 + 1) _ _ _ _ (by simp) (Keep.alloc3 (k := w.heap.size + 1) _ _ _ _ (by simp) (Keep.alloc3 (k := w.heap.size) _ _ _ _ (by simp) (Keep.start w))))
              clear hb1
              obtain ⟨⟨k0, z0, k1, z1, k2, z2, k3, z3, k4, z4, k5, z5, k6, z6, k7, z7, k8, z8, _⟩, hB⟩ := id K1
              clear hB
              go_wp2_with fail
              refine (z_any _ _ _ _).mono ?_; rintro e w2 ⟨rfl, hb2⟩
              have K2 : Keep w [(w.heap.size + 1 + 1, 0, .int .i64 s), (w.heap.size + 1 + 1, 1, .int .i64 t), (w.heap.size + 1 + 1, 2, .bool raw3), (w.heap.size + 1, 0, .int .i64 u), (w.heap.size + 1, 1, .int .i64 v), (w.heap.size + 1, 2, .bool raw2), (w.heap.size, 0, .int .i64 x), (w.heap.size, 1, .int .i64 y), (w.heap.size, 2, .bool raw)] w2 := Keep.below hb2 K1
              clear hb2
              clear k0 z0 k1 z1 k2 z2 k3 z3 k4 z4 k5 z5 k6 z6 k7 z7 k8 z8
              obtain ⟨⟨k0, z0, k1, z1, k2, z2, k3, z3, k4, z4, k5, z5, k6, z6, k7, z7, k8, z8, _⟩, hB⟩ := id K2
              clear hB
              go_wp2_with fail
              refine (z_any _ _ _ _).mono ?_; rintro e w3 ⟨rfl, hb3⟩
              have K3 : Keep w [(w.heap.size + 1 + 1, 0, .int .i64 s), (w.heap.size + 1 + 1, 1, .int .i64 t), (w.heap.size + 1 + 1, 2, .bool raw3), (w.heap.size + 1, 0, .int .i64 u), (w.heap.size + 1, 1, .int .i64 v), (w.heap.size + 1, 2, .bool raw2), (w.heap.size, 0, .int .i64 x), (w.heap.size, 1, .int .i64 y), (w.heap.size, 2, .bool raw)] w3 := Keep.below hb3 K2
              clear hb3
              clear k0 z0 k1 z1 k2 z2 k3 z3 k4 z4 k5 z5 k6 z6 k7 z7 k8 z8
              obtain ⟨⟨k0, z0, k1, z1, k2, z2, k3, z3, k4, z4, k5, z5, k6, z6, k7, z7, k8, z8, _⟩, hB⟩ := id K3
              clear hB
              go_wp2_with fail
              refine (Qab.out _).mono ?_; rintro e w' ⟨rfl, rfl⟩
              go_wp2_with fail
              refine (Qbc.out _).mono ?_; rintro e w' ⟨rfl, rfl⟩
              go_wp2_with fail
              refine (Q3.out _).mono ?_; rintro e w' ⟨rfl, rfl⟩
              go_wp2_with fail
              refine (Q4.out _).mono ?_; rintro e w' ⟨rfl, rfl⟩
              go_wp2_with fail
              refine (bits_self _ _ _).mono ?_; rintro e w' ⟨rfl, rfl⟩
              go_wp2_with fail
              refine (Mab.out _).mono ?_; rintro e w' ⟨rfl, rfl⟩
              go_wp2_with fail
              refine (Mbc.out _).mono ?_; rintro e w' ⟨rfl, rfl⟩
              go_wp2_with fail
              refine (Mac.out _).mono ?_; rintro e w' ⟨rfl, rfl⟩
              go_wp2_with fail
              refine (Q10.out _).mono ?_; rintro e w' ⟨rfl, rfl⟩
              go_wp2_with fail
              refine (Qbc.out _).mono ?_; rintro e w' ⟨rfl, rfl⟩
              go_wp2_with fail
              refine (Q11.out _).mono ?_; rintro e w' ⟨rfl, rfl⟩
              go_wp2_with fail
              refine (bits_self _ _ _).mono ?_; rintro e w' ⟨rfl, rfl⟩
              go_wp2_with fail
              go_ret
              exact ⟨rfl, And.right K3⟩
        · have y6 : (r6.2 != 0) = false := by show (!(r6.2 == 0)) = _; rw [z6]; rfl
          cases z7 : (r7.2 == 0)
          · have y7 : (r7.2 != 0) = true := by show (!(r7.2 == 0)) = _; rw [z7]; rfl
            have c1 := H1.out (by simpa using z1) (by simpa using z2)
            subst c1
            have c2 := H2.out (by simpa using z5) (by simpa using z6)
            subst c2
            clear H1 H2 H3
            go_enter Tryd.func4, Tryd.ntmps4
            go_wp2_with fail
            refine (awake_any _).mono ?_; rintro e w' ⟨rfl, rfl⟩
            go_wp2_with fail
            refine (z_any _ _ _ _).mono ?_; rintro e w1 ⟨rfl, hb1⟩
            have K1 : Keep w [(w.heap.size + 1 + 1, 0, .int .i64 s), (w.heap.size + 1 + 1, 1, .int .i64 t), (w.heap.size + 1 + 1, 2, .bool raw3), (w.heap.size + 1, 0, .int .i64 u), (w.heap.size + 1, 1, .int .i64 v), (w.heap.size + 1, 2, .bool raw2), (w.heap.size, 0, .int .i64 x), (w.heap.size, 1, .int .i64 y), (w.heap.size, 2, .bool raw)] w1 := Keep.below hb1 (Keep.alloc3 (k := w.heap.size + 1 + 1) _ _ _ _ (by simp) (Keep.alloc3 (k := w.heap.size + 1) _ _ _ _ (by simp) (Keep.alloc3 (k := w.heap.size) _ _ _ _ (by simp) (Keep.start w))))
            clear hb1
            obtain ⟨⟨k0, z0, k1, z1, k2, z2, k3, z3, k4, z4, k5, z5, k6, z6, k7, z7, k8, z8, _⟩, hB⟩ := id K1
            clear hB
            go_wp2_with fail
            refine (z_any _ _ _ _).mono ?_; rintro e w2 ⟨rfl, hb2⟩
            have K2 : Keep w [(w.heap.size + 1 + 1, 0, .int .i64 s), (w.heap.size + 1 + 1, 1, .int .i64 t), (w.heap.size + 1 + 1, 2, .bool raw3), (w.heap.size + 1, 0, .int .i64 u), (w.heap.size + 1, 1, .int .i64 v), (w.heap.size + 1, 2, .bool raw2), (w.heap.size, 0, .int .i64 x), (w.heap.size, 1, .int .i64 y), (w.heap.size, 2, .bool raw)] w2 := Keep.below hb2 K1
            clear hb2
            clear k0 z0 k1 z1 k2 z2 k3 z3 k4 z4 k5 z5 k6 z6 k7 z7 k8 z8
            obtain ⟨⟨k0, z0, k1, z1, k2, z2, k3, z3, k4, z4, k5, z5, k6, z6, k7, z7, k8, z8, _⟩, hB⟩ := id K2
            clear hB
            go_wp2_with fail
            refine (z_any _ _ _ _).mono ?_; rintro e w3 ⟨rfl, hb3⟩
            have K3 : Keep w [(w.heap.size + 1 + 1, 0, .int .i64 s), (w.heap.size + 1 + 1, 1, .int .i64 t), (w.heap.size + 1 + 1, 2, .bool raw3), (w.heap.size + 1, 0, .int .i64 u), (w.heap.size + 1, 1, .int .i64 v), (w.heap.size + 1, 2, .bool raw2), (w.heap.size, 0, .int .i64 x), (w.heap.size, 1, .int .i64 y), (w.heap.size, 2, .bool raw)] w3 := Keep.below hb3 K2
            clear hb3
            clear k0 z0 k1 z1 k2 z2 k3 z3 k4 z4 k5 z5 k6 z6 k7 z7 k8 z8
            obtain ⟨⟨k0, z0, k1, z1, k2, z2, k3, z3, k4, z4, k5, z5, k6, z6, k7, z7, k8, z8, _⟩, hB⟩ := id K3
            clear hB
            go_wp2_with fail
            refine (Qab.out _).mono ?_; rintro e w' ⟨rfl, rfl⟩
            go_wp2_with fail
            refine (Qbc.out _).mono ?_; rintro e w' ⟨rfl, rfl⟩
            go_wp2_with fail
            refine (Q3.out _).mono ?_; rintro e w' ⟨rfl, rfl⟩
            go_wp2_with fail
            refine (Q4.out _).mono ?_; rintro e w' ⟨rfl, rfl⟩
            go_wp2_with fail
            refine (bits_self _ _ _).mono ?_; rintro e w' ⟨rfl, rfl⟩
            go_wp2_with fail
            refine (Mab.out _).mono ?_; rintro e w' ⟨rfl, rfl⟩
            go_wp2_with fail
            refine (Mbc.out _).mono ?_; rintro e w' ⟨rfl, rfl⟩
            go_wp2_with fail
            refine (Mac.out _).mono ?_; rintro e w' ⟨rfl, rfl⟩
            go_wp2_with fail
            refine (Q8.out _).mono ?_; rintro e w' ⟨rfl, rfl⟩
            go_wp2_with fail
            refine (Q9.out _).mono ?_; rintro e w' ⟨rfl, rfl⟩
            go_wp2_with fail
            refine (bits_self _ _ _).mono ?_; rintro e w' ⟨rfl, rfl⟩
            go_wp2_with fail
            go_ret
            exact ⟨rfl, And.right K3⟩
          · have y7 : (r7.2 != 0) = false := by show (!(r7.2 == 0)) = _; rw [z7]; rfl
            cases z10 : (r10.2 == 0)
            · have y10 : (r10.2 != 0) = true := by show (!(r10.2 == 0)) = _; rw [z10]; rfl
              have c1 := H1.out (by simpa using z1) (by simpa using z2)
              subst c1
              have c2 := H2.out (by simpa using z5) (by simpa using z6)
              subst c2
              clear H1 H2 H3
              go_enter Tryd.func4, Tryd.ntmps4
              go_wp2_with fail
              refine (awake_any _).mono ?_; rintro e w' ⟨rfl, rfl⟩
              go_wp2_with fail
              refine (z_any _ _ _ _).mono ?_; rintro e w1 ⟨rfl, hb1⟩
              have K1 : Keep w [(w.heap.size + 1 + 1, 0, .int .i64 s), (w.heap.size + 1 + 1, 1, .int .i64 t), (w.heap.size + 1 + 1, 2, .bool raw3), (w.heap.size + 1, 0, .int .i64 u), (w.heap.size + 1, 1, .int .i64 v), (w.heap.size + 1, 2, .bool raw2), (w.heap.size, 0, .int .i64 x), (w.heap.size, 1, .int .i64 y), (w.heap.size, 2, .bool raw)] w1 := Keep.below hb1 (Keep.alloc3 (k := w.heap.size + 1 + 1) _ _ _ _ (by simp) (Keep.alloc3 (k := w.heap.size + 1) _ _ _ _ (by simp) (Keep.alloc3 (k := w.heap.size) _ _ _ _ (by simp) (Keep.start w))))
              clear hb1
              obtain ⟨⟨k0, z0, k1, z1, k2, z2, k3, z3, k4, z4, k5, z5, k6, z6, k7, z7, k8, z8, _⟩, hB⟩ := id K1
              clear hB
              go_wp2_with fail
              refine (z_any _ _ _ _).mono ?_; rintro e w2 ⟨rfl, hb2⟩
              have K2 : Keep w [(w.heap.size + 1 + 1, 0, .int .i64 s), (w.heap.size + 1 + 1, 1, .int .i64 t), (w.heap.size + 1 + 1, 2, .bool raw3), (w.heap.size + 1, 0, .int .i64 u), (w.heap.size + 1, 1, .int .i64 v), (w.heap.size + 1, 2, .bool raw2), (w.heap.size, 0, .int .i64 x), (w.heap.size, 1, .int .i64 y), (w.heap.size, 2, .bool raw)] w2 := Keep.below hb2 K1
              clear hb2
              clear k0 z0 k1 z1 k2 z2 k3 z3 k4 z4 k5 z5 k6 z6 k7 z7 k8 z8
              obtain ⟨⟨k0, z0, k1, z1, k2, z2, k3, z3, k4, z4, k5, z5, k6, z6, k7, z7, k8, z8, _⟩, hB⟩ := id K2
              clear hB
              go_wp2_with fail
              refine (z_any _ _ _ _).mono ?_; rintro e w3 ⟨rfl, hb3⟩
              have K3 : Keep w [(w.heap.size + 1 + 1, 0, .int .i64 s), (w.heap.size + 1 + 1, 1, .int .i64 t), (w.heap.size + 1 + 1, 2, .bool raw3), (w.heap.size + 1, 0, .int .i64 u), (w.heap.size + 1, 1, .int .i64 v), (w.heap.size + 1, 2, .bool raw2), (w.heap.size, 0, .int .i64 x), (w.heap.size, 1, .int .i64 y), (w.heap.size, 2, .bool raw)] w3 := Keep.below hb3 K2
              clear hb3
              clear k0 z0 k1 z1 k2 z2 k3 z3 k4 z4 k5 z5 k6 z6 k7 z7 k8 z8
              obtain ⟨⟨k0, z0, k1, z1, k2, z2, k3, z3, k4, z4, k5, z5, k6, z6, k7, z7, k8, z8, _⟩, hB⟩ := id K3
              clear hB
              go_wp2_with fail
              refine (Qab.out _).mono ?_; rintro e w' ⟨rfl, rfl⟩
              go_wp2_with fail
              refine (Qbc.out _).mono ?_; rintro e w' ⟨rfl, rfl⟩
              go_wp2_with fail
              refine (Q3.out _).mono ?_; rintro e w' ⟨rfl, rfl⟩
              go_wp2_with fail
              refine (Q4.out _).mono ?_; rintro e w' ⟨rfl, rfl⟩
              go_wp2_with fail
              refine (bits_self _ _ _).mono ?_; rintro e w' ⟨rfl, rfl⟩
              go_wp2_with fail
              refine (Mab.out _).mono ?_; rintro e w' ⟨rfl, rfl⟩
              go_wp2_with fail
              refine (Mbc.out _).mono ?_; rintro e w' ⟨rfl, rfl⟩
              go_wp2_with fail
              refine (Mac.out _).mono ?_; rintro e w' ⟨rfl, rfl⟩
              go_wp2_with fail
              refine (Q8.out _).mono ?_; rintro e w' ⟨rfl, rfl⟩
              go_wp2_with fail
              refine (Q9.out _).mono ?_; rintro e w' ⟨rfl, rfl⟩
              go_wp2_with fail
              refine (bits_self _ _ _).mono ?_; rintro e w' ⟨rfl, rfl⟩
              go_wp2_with fail
              refine (Q10.out _).mono ?_; rintro e w' ⟨rfl, rfl⟩
              go_wp2_with fail
              refine (Qbc.out _).mono ?_; rintro e w' ⟨rfl, rfl⟩
              go_wp2_with fail
              go_ret
              exact ⟨rfl, And.right K3⟩
            · have y10 : (r10.2 != 0) = false := by show (!(r10.2 == 0)) = _; rw [z10]; rfl
              have c1 := H1.out (by simpa using z1) (by simpa using z2)
              subst c1
              have c2 := H2.out (by simpa using z5) (by simpa using z6)
              subst c2
              have c3 := H3.out (by simpa using z5) (by simpa using z7) (by simpa using z10) (by simpa using z2)
              subst c3
              clear H1 H2 H3
              go_enter Tryd.func4, Tryd.ntmps4
              go_wp2_with fail
              refine (awake_any _).mono ?_; rintro e w' ⟨rfl, rfl⟩
              go_wp2_with fail
              refine (z_any _ _ _ _).mono ?_; rintro e w1 ⟨rfl, hb1⟩
              have K1 : Keep w [(w.heap.size + 1 + 1, 0, .int .i64 s), (w.heap.size + 1 + 1, 1, .int .i64 t), (w.heap.size + 1 + 1, 2, .bool raw3), (w.heap.size + 1, 0, .int .i64 u), (w.heap.size + 1, 1, .int .i64 v), (w.heap.size + 1, 2, .bool raw2), (w.heap.size, 0, .int .i64 x), (w.heap.size, 1, .int .i64 y), (w.heap.size, 2, .bool raw)] w1 := Keep.below hb1 (Keep.alloc3 (k := w.heap.size + 1 + 1) _ _ _ _ (by simp) (Keep.alloc3 (k := w.heap.size + 1) _ _ _ _ (by simp) (Keep.alloc3 (k := w.heap.size) _ _ _ _ (by simp) (Keep.start w))))
              clear hb1
              obtain ⟨⟨k0, z0, k1, z1, k2, z2, k3, z3, k4, z4, k5, z5, k6, z6, k7, z7, k8, z8, _⟩, hB⟩ := id K1
              clear hB
              go_wp2_with fail
              refine (z_any _ _ _ _).mono ?_; rintro e w2 ⟨rfl, hb2⟩
              have K2 : Keep w [(w.heap.size + 1 + 1, 0, .int .i64 s), (w.heap.size + 1 + 1, 1, .int .i64 t), (w.heap.size + 1 + 1, 2, .bool raw3), (w.heap.size + 1, 0, .int .i64 u), (w.heap.size + 1, 1, .int .i64 v), (w.heap.size + 1, 2, .bool raw2), (w.heap.size, 0, .int .i64 x), (w.heap.size, 1, .int .i64 y), (w.heap.size, 2, .bool raw)] w2 := Keep.below hb2 K1
              clear hb2
              clear k0 z0 k1 z1 k2 z2 k3 z3 k4 z4 k5 z5 k6 z6 k7 z7 k8 z8
              obtain ⟨⟨k0, z0, k1, z1, k2, z2, k3, z3, k4, z4, k5, z5, k6, z6, k7, z7, k8, z8, _⟩, hB⟩ := id K2
              clear hB
              go_wp2_with fail
              refine (z_any _ _ _ _).mono ?_; rintro e w3 ⟨rfl, hb3⟩
              have K3 : Keep w [(w.heap.size + 1 + 1, 0, .int .i64 s), (w.heap.size + 1 + 1, 1, .int .i64 t), (w.heap.size + 1 + 1, 2, .bool raw3), (w.heap.size + 1, 0, .int .i64 u), (w.heap.size + 1, 1, .int .i64 v), (w.heap.size + 1, 2, .bool raw2), (w.heap.size, 0, .int .i64 x), (w.heap.size, 1, .int .i64 y), (w.heap.size, 2, .bool raw)] w3 := Keep.below hb3 K2
              clear hb3
              clear k0 z0 k1 z1 k2 z2 k3 z3 k4 z4 k5 z5 k6 z6 k7 z7 k8 z8
              obtain ⟨⟨k0, z0, k1, z1, k2, z2, k3, z3, k4, z4, k5, z5, k6, z6, k7, z7, k8, z8, _⟩, hB⟩ := id K3
              clear hB
              go_wp2_with fail
              refine (Qab.out _).mono ?_; rintro e w' ⟨rfl, rfl⟩
              go_wp2_with fail
              refine (Qbc.out _).mono ?_; rintro e w' ⟨rfl, rfl⟩
              go_wp2_with fail
              refine (Q3.out _).mono ?_; rintro e w' ⟨rfl, rfl⟩
              go_wp2_with fail
              refine (Q4.out _).mono ?_; rintro e w' ⟨rfl, rfl⟩
              go_wp2_with fail
              refine (bits_self _ _ _).mono ?_; rintro e w' ⟨rfl, rfl⟩
              go_wp2_with fail
              refine (Mab.out _).mono ?_; rintro e w' ⟨rfl, rfl⟩
              go_wp2_with fail
              refine (Mbc.out _).mono ?_; rintro e w' ⟨rfl, rfl⟩
              go_wp2_with fail
              refine (Mac.out _).mono ?_; rintro e w' ⟨rfl, rfl⟩
              go_wp2_with fail
              refine (Q8.out _).mono ?_; rintro e w' ⟨rfl, rfl⟩
              go_wp2_with fail
              refine (Q9.out _).mono ?_; rintro e w' ⟨rfl, rfl⟩
              go_wp2_with fail
              refine (bits_self _ _ _).mono ?_; rintro e w' ⟨rfl, rfl⟩
              go_wp2_with fail
              refine (Q10.out _).mono ?_; rintro e w' ⟨rfl, rfl⟩
              go_wp2_with fail
              refine (Qbc.out _).mono ?_; rintro e w' ⟨rfl, rfl⟩
              go_wp2_with fail
              refine (Q11.out _).mono ?_; rintro e w' ⟨rfl, rfl⟩
              go_wp2_with fail
              refine (bits_self _ _ _).mono ?_; rintro e w' ⟨rfl, rfl⟩
              go_wp2_with fail
              go_ret
              exact ⟨rfl, And.right K3⟩
end Go.Proofs.YtipcjffbjkpmbaaDoor

