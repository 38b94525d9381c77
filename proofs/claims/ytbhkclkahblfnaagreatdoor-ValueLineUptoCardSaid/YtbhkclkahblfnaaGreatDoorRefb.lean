/- What the functions of the reference of layer 1 and the helpers of its statements answer (2). -/
import Derived.Test.YtbhkclkahblfnaaGreatDoorRef
import Derived.Deep.RegionWith
import Derived.IntWalk
namespace Go.Proofs.YtbhkclkahblfnaaGreatDoor
open Go.RowKit Flo
set_option maxHeartbeats 400000 in
theorem part_any (b : Nat) (hb : b < 18446744073709551616) (w : World) :
    Calls Tryz.prog 71 #[.float .f64 b] w fun e w' => ∃ n, e = .returned (.tuple #[.int .i64 n, .bool (numOf b).isSome]) ∧ (∀ m, numOf b = some m → n = m) ∧ w = w' := by
  have HP := Lib.hid (plain_cases b hb)
  cases h1 : geB b
  · rw [h1] at HP
    have HS := Lib.hid (show (numOf b).isSome = false by rw [HP.out]; rfl)
    unfold geB NM at h1; clear HP
    go_enter Tryz.func71, Tryz.ntmps71
    go_wp2_with fail
    go_ret2
    exact ⟨0, ret2 (by rw [HS.out]; rfl), (fun m hm => by rw [hm] at HS; cases HS.out), rfl⟩
  cases h2 : leB b
  · rw [h1, h2] at HP
    have HS := Lib.hid (show (numOf b).isSome = false by rw [HP.out]; rfl)
    unfold geB NM at h1; unfold leB PM at h2; clear HP
    go_enter Tryz.func71, Tryz.ntmps71
    go_wp2_with fail
    go_ret2
    exact ⟨0, ret2 (by rw [HS.out]; rfl), (fun m hm => by rw [hm] at HS; cases HS.out), rfl⟩
  cases h3 : zeroB b
  · obtain ⟨n, c1, _, _, c2, c3⟩ := part_eq hb h1 h2 (fun h => by rw [h3] at h; cases h)
    have r1 := fun w => run_convert_float_int (P := Tryz.prog) w 114 3 .f64 .i64 b n (by kernel_rfl) Tryz.underlying3 c1
    have C2 := Lib.hid c2; have C3 := Lib.hid c3
    unfold geB NM at h1; unfold leB PM at h2; unfold zeroB at h3; clear HP c1 c2 c3
    go_enter Tryz.func71, Tryz.ntmps71
    go_wp2_with fail
    go_ret2
    exact ⟨n, ret2 (by rw [← C2.out]; rfl), (fun m hm => by rcases C3.out with h | h <;> rw [h] at hm <;> cases hm; rfl), rfl⟩
  · rcases zero_cases hb h3 with rfl | rfl
    · obtain ⟨n, c1, _, _, c2, c3⟩ := part_eq hb h1 h2 (fun _ => rfl)
      have r1 := fun w => run_convert_float_int (P := Tryz.prog) w 114 3 .f64 .i64 0 n (by kernel_rfl) Tryz.underlying3 c1
      have C2 := Lib.hid c2; have C3 := Lib.hid c3
      unfold geB NM at h1; unfold leB PM at h2; unfold zeroB at h3; clear HP c1 c2 c3
      go_enter Tryz.func71, Tryz.ntmps71
      go_wp2_with fail
      go_ret2
      exact ⟨n, ret2 (by rw [← C2.out]; rfl), (fun m hm => by rcases C3.out with h | h <;> rw [h] at hm <;> cases hm; rfl), rfl⟩
    · have HS := Lib.hid (show (numOf NZ).isSome = false by decide +kernel)
      unfold geB NM at h1; unfold leB PM at h2; unfold zeroB at h3; clear HP
      unfold NZ at h1 h2 h3 HS ⊢
      go_enter Tryz.func71, Tryz.ntmps71
      go_wp2_with fail
      go_ret2
      exact ⟨0, ret2 (by rw [HS.out]; rfl), (fun m hm => by rw [hm] at HS; cases HS.out), rfl⟩
/-- a number of the reference, with whether it is one -/
def ofV (p : Option (Int × Int)) : Value := match p with
  | some (x, y) => .tuple #[.agg #[.int .i64 x, .int .i64 y], .bool true]
  | none => .tuple #[.agg #[.int .i64 0, .int .i64 0], .bool false]
set_option maxHeartbeats 400000 in
theorem of_any (a b : Nat) (ha : a < 18446744073709551616) (hb : b < 18446744073709551616) (w : World) :
    Calls Tryz.prog 42 #[.complex .f64 a b] w fun e w' => e = .returned (ofV (numC a b)) ∧ Below w.heap.size w w' := by
  have Q1 := Lib.hid (fun w => part_any a ha w); have Q2 := Lib.hid (fun w => part_any b hb w); clear ha hb
  cases h1 : numOf a with
  | none =>
    have HN := Lib.hid (show numC a b = none by unfold numC; rw [h1])
    rw [h1] at Q1; clear h1
    go_enter Tryz.func42, Tryz.ntmps42
    go_wp2_with fail
    refine (Q1.out _).mono ?_; rintro e w' ⟨n, rfl, _, rfl⟩
    go_wp2_with fail
    refine (Q2.out _).mono ?_; rintro e w' ⟨m, rfl, _, rfl⟩
    go_wp2_with fail
    rw [HN.out]
    exact bodyPost_ret (v := .tuple #[.agg #[.int .i64 0, .int .i64 0], .bool false]) (by simp [results, Tryz.results42, go_sem]) rfl ⟨rfl, (Below.refl _ _).alloc (Nat.le_refl _) _⟩
  | some x =>
    rw [h1] at Q1
    cases h2 : numOf b with
    | none =>
      have HN := Lib.hid (show numC a b = none by unfold numC; rw [h1, h2])
      rw [h2] at Q2; clear h1 h2
      go_enter Tryz.func42, Tryz.ntmps42
      go_wp2_with fail
      refine (Q1.out _).mono ?_; rintro e w' ⟨n, rfl, _, rfl⟩
      go_wp2_with fail
      refine (Q2.out _).mono ?_; rintro e w' ⟨m, rfl, _, rfl⟩
      go_wp2_with fail
      rw [HN.out]
      exact bodyPost_ret (v := .tuple #[.agg #[.int .i64 0, .int .i64 0], .bool false]) (by simp [results, Tryz.results42, go_sem]) rfl ⟨rfl, (Below.refl _ _).alloc (Nat.le_refl _) _⟩
    | some y =>
      have HN := Lib.hid (show numC a b = some (x, y) by unfold numC; rw [h1, h2])
      rw [h2] at Q2; clear h1 h2
      go_enter Tryz.func42, Tryz.ntmps42
      go_wp2_with fail
      refine (Q1.out _).mono ?_; rintro e w' ⟨n, rfl, hn, rfl⟩
      obtain rfl := hn _ rfl; clear hn
      go_wp2_with fail
      refine (Q2.out _).mono ?_; rintro e w' ⟨m, rfl, hm, rfl⟩
      obtain rfl := hm _ rfl; clear hm
      go_wp2_with fail
      rw [HN.out]
      exact bodyPost_ret (v := .tuple #[.agg #[.int .i64 _, .int .i64 _], .bool true]) (by simp [results, Tryz.results42, go_sem]) rfl ⟨rfl, (Below.refl _ _).alloc (Nat.le_refl _) _⟩

theorem quo_zero {x y u v : Int} (h : u = 0 ∧ v = 0) : quo x y u v = ((0, 0), 51) := if_pos h
theorem quo_no {x y u v : Int} (h : ¬ ((x * u + y * v).tmod (u * u + v * v) = 0 ∧ (y * u - x * v).tmod (u * u + v * v) = 0)) : quo x y u v = ((0, 0), 51) := by
  unfold quo; rw [if_neg h]; split <;> rfl
theorem quo_yes {x y u v : Int} (h0 : ¬ (u = 0 ∧ v = 0)) (h : (x * u + y * v).tmod (u * u + v * v) = 0 ∧ (y * u - x * v).tmod (u * u + v * v) = 0) : quo x y u v = bnd ((x * u + y * v).tdiv (u * u + v * v)) ((y * u - x * v).tdiv (u * u + v * v)) := by
  unfold quo; rw [if_neg h0, if_pos h]
end Go.Proofs.YtbhkclkahblfnaaGreatDoor
