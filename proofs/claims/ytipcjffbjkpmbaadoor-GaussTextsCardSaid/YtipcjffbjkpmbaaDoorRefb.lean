/- What the functions of the reference of layer 1 and the helpers of its statements answer (2). -/
import Derived.Test.YtipcjffbjkpmbaaDoorRef
import Derived.Deep.RegionWith
import Derived.IntWalk
namespace Go.Proofs.YtipcjffbjkpmbaaDoor
open Go.RowKit Flo
set_option maxHeartbeats 400000 in
theorem part_any (b : Nat) (hb : b < 18446744073709551616) (w : World) :
    Calls Tryd.prog 36 #[.float .f64 b] w fun e w' => ∃ n, e = .returned (.tuple #[.int .i64 n, .bool (numOf b).isSome]) ∧ (∀ m, numOf b = some m → n = m) ∧ w = w' := by
  have HP := Lib.hid (plain_cases b hb)
  cases h1 : geB b
  · rw [h1] at HP
    have HS := Lib.hid (show (numOf b).isSome = false by rw [HP.out]; rfl)
    unfold geB NM at h1; clear HP
    go_enter Tryd.func36, Tryd.ntmps36
    go_wp2_with fail
    go_ret2
    exact ⟨0, ret2 (by rw [HS.out]; rfl), (fun m hm => by rw [hm] at HS; cases HS.out), rfl⟩
  cases h2 : leB b
  · rw [h1, h2] at HP
    have HS := Lib.hid (show (numOf b).isSome = false by rw [HP.out]; rfl)
    unfold geB NM at h1; unfold leB PM at h2; clear HP
    go_enter Tryd.func36, Tryd.ntmps36
    go_wp2_with fail
    go_ret2
    exact ⟨0, ret2 (by rw [HS.out]; rfl), (fun m hm => by rw [hm] at HS; cases HS.out), rfl⟩
  cases h3 : zeroB b
  · obtain ⟨n, c1, _, _, c2, c3⟩ := part_eq hb h1 h2 (fun h => by rw [h3] at h; cases h)
    have r1 := fun w => run_convert_float_int (P := Tryd.prog) w 30 3 .f64 .i64 b n (by kernel_rfl) Tryd.underlying3 c1
    have C2 := Lib.hid c2; have C3 := Lib.hid c3
    unfold geB NM at h1; unfold leB PM at h2; unfold zeroB at h3; clear HP c1 c2 c3
    go_enter Tryd.func36, Tryd.ntmps36
    go_wp2_with fail
    go_ret2
    exact ⟨n, ret2 (by rw [← C2.out]; rfl), (fun m hm => by rcases C3.out with h | h <;> rw [h] at hm <;> cases hm; rfl), rfl⟩
  · rcases zero_cases hb h3 with rfl | rfl
    · obtain ⟨n, c1, _, _, c2, c3⟩ := part_eq hb h1 h2 (fun _ => rfl)
      have r1 := fun w => run_convert_float_int (P := Tryd.prog) w 30 3 .f64 .i64 0 n (by kernel_rfl) Tryd.underlying3 c1
      have C2 := Lib.hid c2; have C3 := Lib.hid c3
      unfold geB NM at h1; unfold leB PM at h2; unfold zeroB at h3; clear HP c1 c2 c3
      go_enter Tryd.func36, Tryd.ntmps36
      go_wp2_with fail
      go_ret2
      exact ⟨n, ret2 (by rw [← C2.out]; rfl), (fun m hm => by rcases C3.out with h | h <;> rw [h] at hm <;> cases hm; rfl), rfl⟩
    · have HS := Lib.hid (show (numOf NZ).isSome = false by decide +kernel)
      unfold geB NM at h1; unfold leB PM at h2; unfold zeroB at h3; clear HP
      unfold NZ at h1 h2 h3 HS ⊢
      go_enter Tryd.func36, Tryd.ntmps36
      go_wp2_with fail
      go_ret2
      exact ⟨0, ret2 (by rw [HS.out]; rfl), (fun m hm => by rw [hm] at HS; cases HS.out), rfl⟩
/-- a number of the reference, with whether it is one -/
def ofV (p : Option (Int × Int)) : Value := match p with
  | some (x, y) => .tuple #[.agg #[.int .i64 x, .int .i64 y], .bool true]
  | none => .tuple #[.agg #[.int .i64 0, .int .i64 0], .bool false]
set_option maxHeartbeats 400000 in
theorem of_any (a b : Nat) (ha : a < 18446744073709551616) (hb : b < 18446744073709551616) (w : World) :
    Calls Tryd.prog 14 #[.complex .f64 a b] w fun e w' => e = .returned (ofV (numC a b)) ∧ Below w.heap.size w w' := by
  have Q1 := Lib.hid (fun w => part_any a ha w); have Q2 := Lib.hid (fun w => part_any b hb w); clear ha hb
  cases h1 : numOf a with
  | none =>
    have HN := Lib.hid (show numC a b = none by unfold numC; rw [h1])
    rw [h1] at Q1; clear h1
    go_enter Tryd.func14, Tryd.ntmps14
    go_wp2_with fail
    refine (Q1.out _).mono ?_; rintro e w' ⟨n, rfl, _, rfl⟩
    go_wp2_with fail
    refine (Q2.out _).mono ?_; rintro e w' ⟨m, rfl, _, rfl⟩
    go_wp2_with fail
    rw [HN.out]
    exact bodyPost_ret (v := .tuple #[.agg #[.int .i64 0, .int .i64 0], .bool false]) (by simp [results, Tryd.results14, go_sem]) rfl ⟨rfl, (Below.refl _ _).alloc (Nat.le_refl _) _⟩
  | some x =>
    rw [h1] at Q1
    cases h2 : numOf b with
    | none =>
      have HN := Lib.hid (show numC a b = none by unfold numC; rw [h1, h2])
      rw [h2] at Q2; clear h1 h2
      go_enter Tryd.func14, Tryd.ntmps14
      go_wp2_with fail
      refine (Q1.out _).mono ?_; rintro e w' ⟨n, rfl, _, rfl⟩
      go_wp2_with fail
      refine (Q2.out _).mono ?_; rintro e w' ⟨m, rfl, _, rfl⟩
      go_wp2_with fail
      rw [HN.out]
      exact bodyPost_ret (v := .tuple #[.agg #[.int .i64 0, .int .i64 0], .bool false]) (by simp [results, Tryd.results14, go_sem]) rfl ⟨rfl, (Below.refl _ _).alloc (Nat.le_refl _) _⟩
    | some y =>
      have HN := Lib.hid (show numC a b = some (x, y) by unfold numC; rw [h1, h2])
      rw [h2] at Q2; clear h1 h2
      go_enter Tryd.func14, Tryd.ntmps14
      go_wp2_with fail
      refine (Q1.out _).mono ?_; rintro e w' ⟨n, rfl, hn, rfl⟩
      obtain rfl := hn _ rfl; clear hn
      go_wp2_with fail
      refine (Q2.out _).mono ?_; rintro e w' ⟨m, rfl, hm, rfl⟩
      obtain rfl := hm _ rfl; clear hm
      go_wp2_with fail
      rw [HN.out]
      exact bodyPost_ret (v := .tuple #[.agg #[.int .i64 _, .int .i64 _], .bool true]) (by simp [results, Tryd.results14, go_sem]) rfl ⟨rfl, (Below.refl _ _).alloc (Nat.le_refl _) _⟩

theorem quo_zero {x y u v : Int} (h : u = 0 ∧ v = 0) : quo x y u v = ((0, 0), 51) := if_pos h
theorem quo_no {x y u v : Int} (h : ¬ ((x * u + y * v).tmod (u * u + v * v) = 0 ∧ (y * u - x * v).tmod (u * u + v * v) = 0)) : quo x y u v = ((0, 0), 51) := by
  unfold quo; rw [if_neg h]; split <;> rfl
theorem quo_yes {x y u v : Int} (h0 : ¬ (u = 0 ∧ v = 0)) (h : (x * u + y * v).tmod (u * u + v * v) = 0 ∧ (y * u - x * v).tmod (u * u + v * v) = 0) : quo x y u v = bnd ((x * u + y * v).tdiv (u * u + v * v)) ((y * u - x * v).tdiv (u * u + v * v)) := by
  unfold quo; rw [if_neg h0, if_pos h]
set_option maxRecDepth 100000 in
set_option maxHeartbeats 1000000 in
theorem refQuo_any (x y u v : Int) (hx : -16777216 ≤ x ∧ x ≤ 16777216) (hy : -16777216 ≤ y ∧ y ≤ 16777216) (hu : -16777216 ≤ u ∧ u ≤ 16777216) (hv : -16777216 ≤ v ∧ v ≤ 16777216) (w : World) :
    Calls Tryd.prog 29 #[.agg #[.int .i64 x, .int .i64 y], .agg #[.int .i64 u, .int .i64 v]] w fun e w' => e = .returned (.tuple #[.agg #[.int .i64 (quo x y u v).1.1, .int .i64 (quo x y u v).1.2], .int .i64 (quo x y u v).2]) ∧ Below w.heap.size w w' := by
  have b1 := mul_i64 x u hx.1 hx.2 hu.1 hu.2; have b2 := mul_i64 y v hy.1 hy.2 hv.1 hv.2; have b3 := mul_i64 x v hx.1 hx.2 hv.1 hv.2; have b4 := mul_i64 y u hy.1 hy.2 hu.1 hu.2
  have b5 := mul_i64 u u hu.1 hu.2 hu.1 hu.2; have b6 := mul_i64 v v hv.1 hv.2 hv.1 hv.2
  obtain ⟨b1, b1'⟩ := b1; obtain ⟨b2, b2'⟩ := b2; obtain ⟨b3, b3'⟩ := b3; obtain ⟨b4, b4'⟩ := b4; obtain ⟨b5, b5'⟩ := b5; obtain ⟨b6, b6'⟩ := b6
  clear hx hy
  by_cases h0 : u = 0 ∧ v = 0
  · rw [quo_zero h0]
    obtain ⟨rfl, rfl⟩ := h0
    clear hu hv b1 b1' b2 b2' b3 b3' b4 b4' b5 b5' b6 b6'
    go_enter Tryd.func29, Tryd.ntmps29
    go_wp2_with fail
    exact bodyPost_ret (v := .tuple #[.agg #[.int .i64 0, .int .i64 0], .int .i64 51]) (by simp [results, Tryd.results29, go_sem]) rfl ⟨rfl, (((Below.refl _ _).alloc (Nat.le_refl _) _).alloc (by simp <;> omega) _).alloc (by simp <;> omega) _⟩
  · have hn := sq_pos h0
    have hnz : (u * u + v * v == 0) = false := by simp; omega
    by_cases hX : (x * u + y * v).tmod (u * u + v * v) = 0
    · by_cases hY : (y * u - x * v).tmod (u * u + v * v) = 0
      · rw [quo_yes h0 ⟨hX, hY⟩]
        have hX' : ((x * u + y * v).tmod (u * u + v * v) != 0) = false := by simp [hX]
        have hY' : ((y * u - x * v).tmod (u * u + v * v) != 0) = false := by simp [hY]
        have tX := tdiv_bd (X := x * u + y * v) (n := u * u + v * v) (by omega)
        have tY := tdiv_bd (X := y * u - x * v) (n := u * u + v * v) (by omega)
        have wX : IntKind.i64.wrap ((x * u + y * v).tdiv (u * u + v * v)) = (x * u + y * v).tdiv (u * u + v * v) := IntWalk.i64_in _ (by omega)
        have wY : IntKind.i64.wrap ((y * u - x * v).tdiv (u * u + v * v)) = (y * u - x * v).tdiv (u * u + v * v) := IntWalk.i64_in _ (by omega)
        clear h0 hu hv hX hY tX tY
        go_enter Tryd.func29, Tryd.ntmps29
        go_wp2_with fail
        go_region_with (go_at_call 40; refine (in_any _ _ _).mono ?_; rintro e w1 ⟨rfl, hb⟩; obtain ⟨hc, hf⟩ := bcell hb; have hz : w.heap.size + 2 < w1.heap.size := by (have := hb.size; simp at this; omega))
        all_goals go_wp2_with fail
        all_goals exact bodyPost_ret (v := .tuple #[.agg #[.int .i64 (bnd ((x * u + y * v).tdiv (u * u + v * v)) ((y * u - x * v).tdiv (u * u + v * v))).1.1, .int .i64 (bnd ((x * u + y * v).tdiv (u * u + v * v)) ((y * u - x * v).tdiv (u * u + v * v))).1.2], .int .i64 (bnd ((x * u + y * v).tdiv (u * u + v * v)) ((y * u - x * v).tdiv (u * u + v * v))).2]) (by simp [results, Tryd.results29, go_sem, hc]) rfl ⟨rfl, (((((Below.refl _ _).alloc (Nat.le_refl _) _).alloc (by simp <;> omega) _).alloc (by simp <;> omega) _).drew.trans (hb.mono (by simp <;> omega))).setCell (by simp <;> omega) _ |>.setCell (by simp <;> omega) _⟩
      · rw [quo_no (fun h => hY h.2)]
        have hX' : ((x * u + y * v).tmod (u * u + v * v) != 0) = false := by simp [hX]
        have hY' : ((y * u - x * v).tmod (u * u + v * v) != 0) = true := by simp [hY]
        clear h0 hu hv hX hY
        go_enter Tryd.func29, Tryd.ntmps29
        go_wp2_with fail
        exact bodyPost_ret (v := .tuple #[.agg #[.int .i64 0, .int .i64 0], .int .i64 51]) (by simp [results, Tryd.results29, go_sem]) rfl ⟨rfl, (((Below.refl _ _).alloc (Nat.le_refl _) _).alloc (by simp <;> omega) _).alloc (by simp <;> omega) _⟩
    · rw [quo_no (fun h => hX h.1)]
      have hX' : ((x * u + y * v).tmod (u * u + v * v) != 0) = true := by simp [hX]
      clear h0 hu hv hX
      go_enter Tryd.func29, Tryd.ntmps29
      go_wp2_with fail
      exact bodyPost_ret (v := .tuple #[.agg #[.int .i64 0, .int .i64 0], .int .i64 51]) (by simp [results, Tryd.results29, go_sem]) rfl ⟨rfl, (((Below.refl _ _).alloc (Nat.le_refl _) _).alloc (by simp <;> omega) _).alloc (by simp <;> omega) _⟩
end Go.Proofs.YtipcjffbjkpmbaaDoor
