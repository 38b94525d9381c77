/- What run and sign of the reference of layer 3 answer. -/
import Derived.Test.YtedgcllgifiajaaGreatDoorRma
import Derived.Deep.LoopGhost
namespace Go.Proofs.YtedgcllgifiajaaGreatDoor
open Go.RowKit Flo Mk
theorem runB_let (x : UInt8) : runB x = (letB x || digB x || x == 95) := rfl
set_option maxHeartbeats 8000000 in
set_option maxRecDepth 100000 in
theorem refrun_any (b o n c a : Nat) (t : List UInt8) (hn : t.length = n) (hb : n ≤ 16777216) (ha : a ≤ n) (w : World) (hT : ∀ j x, t[j]? = some x → w.cell? ⟨b, o + j, none⟩ = some (.int .u8 (x.toNat : Int))) :
    Calls Tryz.prog 20 #[.slice (some ⟨b, o, none⟩) n c, .int .i64 (a : Int)] w fun e w' => e = .returned (.int .i64 (((t.drop a).takeWhile runB).length : Int)) ∧ w = w' := by
  have HT := Lib.hid hT
  have HN := Lib.hid hn
  clear hT hn
  go_enter Tryz.func20, Tryz.ntmps20
  go_wp2_with fail
  go_loopg [5] (n - a) (fun g s5 wx => ∃ k : Nat, a + k + g = n ∧ s5 = .int .i64 (k : Int) ∧ wx = w ∧ Hid ((t.drop a).takeWhile runB = (t.drop a).take k ++ (t.drop (a + k)).takeWhile runB))
  case atStart => exact ⟨0, by omega, rfl, rfl, Lib.hid (by simp)⟩
  case round =>
    obtain ⟨k, hk, rfl, rfl, HR⟩ := hrel
    cases gk with
    | zero =>
      obtain rfl : k = n - a := by omega
      have HE : Hid (((t.drop a).takeWhile runB).length = n - a) := Lib.hid (by
        rw [HR.out, List.drop_of_length_le (show t.length ≤ a + (n - a) by rw [HN.out]; omega)]
        simp only [List.takeWhile_nil, List.append_nil, List.length_take, List.length_drop, HN.out]; omega)
      have hz : ((a : Int) + ((n - a : Nat) : Int)) = (n : Int) := by omega
      go_wp2_with fail
      go_ret
      exact ⟨ret2 (congrArg (Value.int .i64) (by rw [HE.out])), rfl⟩
    | succ g =>
      have hlt : a + k < n := by omega
      obtain ⟨x, hx⟩ : ∃ x, t[a + k]? = some x := ⟨_, List.getElem?_eq_getElem (by rw [HN.out]; exact hlt)⟩
      have hcx := HT.out _ x hx
      have hltz : (a : Int) + (k : Int) < (n : Int) := by omega
      have hdr := drop_cons hx
      have h95 : ((x.toNat : Int) == 95) = (x == 95) := eqb x 95
      have HRB := Lib.hid (runB_let x)
      obtain ⟨k1, e1⟩ : ∃ k, letB x = k := ⟨_, rfl⟩
      obtain ⟨k2, e2⟩ : ∃ k, digB x = k := ⟨_, rfl⟩
      obtain ⟨k3, e3⟩ : ∃ k, (x == 95) = k := ⟨_, rfl⟩
      have HQ1 := Lib.hid (fun w => letter_any x w)
      have HQ2 := Lib.hid (fun w => refdigit_any x w)
      rw [e1] at HRB HQ1; rw [e2] at HRB HQ2; rw [e3] at HRB h95
      have HDR := Lib.hid hdr
      have HX := Lib.hid hx
      clear e1 e2 e3 hdr hx
      have HYES : Hid (runB x = true → (t.drop a).takeWhile runB = (t.drop a).take (k + 1) ++ (t.drop (a + (k + 1))).takeWhile runB) := Lib.hid (fun h => by
        rw [HR.out, HDR.out, List.takeWhile_cons, if_pos h, List.take_add_one, List.getElem?_drop, HX.out, List.append_assoc]; rfl)
      have HNO : Hid (runB x = false → ((t.drop a).takeWhile runB).length = k) := Lib.hid (fun h => by
        rw [HR.out, HDR.out, List.takeWhile_cons, h]
        simp only [Bool.false_eq_true, if_false, List.append_nil, List.length_take, List.length_drop, HN.out]; omega)
      cases k1 <;> cases k2 <;> cases k3
      all_goals
        go_wp2_with (first | (go_at_call 36; refine (HQ1.out _).mono ?_; rintro e w' ⟨rfl, rfl⟩) | (go_at_call 21; refine (HQ2.out _).mono ?_; rintro e w' ⟨rfl, rfl⟩))
      · go_ret
        exact ⟨ret2 (congrArg (Value.int .i64) (by rw [HNO.out (by rw [HRB.out]; rfl)])), rfl⟩
      all_goals
        go_roundg g
        case measure => omega
        case rel => exact ⟨k + 1, by omega, by go_num, rfl, Lib.hid (HYES.out (by rw [HRB.out]; rfl))⟩
theorem sign_cases (x : UInt8) : x = 40 ∨ x = 41 ∨ x = 44 ∨ x = 58 ∨ x = 59 ∨ x = 61 ∨ x = 43 ∨ x = 45 ∨ x = 42 ∨ x = 47 ∨ x = 60 ∨ x = 124 ∨ (sign1 x = false ∧ ((x.toNat : Int) == 40) = false ∧ ((x.toNat : Int) == 41) = false ∧ ((x.toNat : Int) == 44) = false ∧ ((x.toNat : Int) == 58) = false ∧ ((x.toNat : Int) == 59) = false ∧ ((x.toNat : Int) == 61) = false ∧ ((x.toNat : Int) == 43) = false ∧ ((x.toNat : Int) == 45) = false ∧ ((x.toNat : Int) == 42) = false ∧ ((x.toNat : Int) == 47) = false ∧ ((x.toNat : Int) == 60) = false ∧ ((x.toNat : Int) == 124) = false) := by
  refine u8_all (p := fun x => x = 40 ∨ x = 41 ∨ x = 44 ∨ x = 58 ∨ x = 59 ∨ x = 61 ∨ x = 43 ∨ x = 45 ∨ x = 42 ∨ x = 47 ∨ x = 60 ∨ x = 124 ∨ (sign1 x = false ∧ ((x.toNat : Int) == 40) = false ∧ ((x.toNat : Int) == 41) = false ∧ ((x.toNat : Int) == 44) = false ∧ ((x.toNat : Int) == 58) = false ∧ ((x.toNat : Int) == 59) = false ∧ ((x.toNat : Int) == 61) = false ∧ ((x.toNat : Int) == 43) = false ∧ ((x.toNat : Int) == 45) = false ∧ ((x.toNat : Int) == 42) = false ∧ ((x.toNat : Int) == 47) = false ∧ ((x.toNat : Int) == 60) = false ∧ ((x.toNat : Int) == 124) = false)) ?_ x
  decide +kernel
theorem sign_val (x : UInt8) (r : List UInt8) (k62 k61 : Bool) (h1 : (r.head? == some 62) = k62) (h2 : (r.head? == some 61) = k61) : signL (x :: r) = if (x == 45 && k62) || (x == 61 && k61) then 2 else if sign1 x then 1 else 0 := by
  subst h1 h2; rfl
theorem sign_no (x : UInt8) (k62 k61 : Bool) (hs : sign1 x = false) : (if (x == 45 && k62) || (x == 61 && k61) then 2 else if sign1 x then 1 else 0 : Nat) = 0 := by
  rw [hs]
  have h1 : (x == 45) = false := by
    cases h : (x == 45) with
    | false => rfl
    | true => rw [beq_iff_eq.1 h] at hs; cases hs
  have h2 : (x == 61) = false := by
    cases h : (x == 61) with
    | false => rfl
    | true => rw [beq_iff_eq.1 h] at hs; cases hs
  rw [h1, h2]; rfl
set_option maxHeartbeats 16000000 in
set_option maxRecDepth 100000 in
theorem refsign_any (b o n c a : Nat) (t : List UInt8) (hn : t.length = n) (hb : n ≤ 16777216) (ha : a < n) (w : World) (hT : ∀ j x, t[j]? = some x → w.cell? ⟨b, o + j, none⟩ = some (.int .u8 (x.toNat : Int))) :
    Calls Tryz.prog 25 #[.slice (some ⟨b, o, none⟩) n c, .int .i64 (a : Int)] w fun e w' => e = .returned (.int .i64 (signL (t.drop a) : Int)) ∧ w = w' := by
  obtain ⟨x, hx⟩ : ∃ x, t[a]? = some x := ⟨_, List.getElem?_eq_getElem (by rw [hn]; exact ha)⟩
  have hcx := hT _ x hx
  have haz : (a : Int) < (n : Int) := by omega
  by_cases h1 : a + 1 = n
  · have hz : ¬ ((a : Int) + 1 < (n : Int)) := by omega
    have HV : Hid (signL (t.drop a) = if (x == 45 && false) || (x == 61 && false) then 2 else if sign1 x then 1 else 0) := Lib.hid (by
      rw [drop_cons hx]
      have hd : t.drop (a + 1) = [] := List.drop_of_length_le (by omega)
      exact sign_val x _ _ _ (by rw [hd]; rfl) (by rw [hd]; rfl))
    clear hT hx h1 hn
    rcases sign_cases x with rfl | rfl | rfl | rfl | rfl | rfl | rfl | rfl | rfl | rfl | rfl | rfl | ⟨hs, e40, e41, e44, e58, e59, e61, e43, e45, e42, e47, e60, e124⟩
    rotate_right
    · rw [sign_no x false false hs] at HV
      clear hs
      go_enter Tryz.func25, Tryz.ntmps25
      go_wp2_with fail
      go_ret
      exact ⟨ret2 (congrArg (Value.int .i64) (by rw [HV.out]; rfl)), rfl⟩
    all_goals
      go_enter Tryz.func25, Tryz.ntmps25
      go_wp2_with fail
      go_ret
      exact ⟨ret2 (congrArg (Value.int .i64) (by rw [HV.out]; decide)), rfl⟩
  · have h2 : a + 1 < n := by omega
    have hz : (a : Int) + 1 < (n : Int) := by omega
    obtain ⟨y, hy⟩ : ∃ y, t[a + 1]? = some y := ⟨_, List.getElem?_eq_getElem (by rw [hn]; exact h2)⟩
    have hcy := hT _ y hy
    have e62 : ((y.toNat : Int) == 62) = (y == 62) := eqb y 62
    have e61' : ((y.toNat : Int) == 61) = (y == 61) := eqb y 61
    obtain ⟨k62, q62⟩ : ∃ k, (y == 62) = k := ⟨_, rfl⟩
    obtain ⟨k61, q61⟩ : ∃ k, (y == 61) = k := ⟨_, rfl⟩
    rw [q62] at e62; rw [q61] at e61'
    have HV : Hid (signL (t.drop a) = if (x == 45 && k62) || (x == 61 && k61) then 2 else if sign1 x then 1 else 0) := Lib.hid (by
      rw [drop_cons hx, drop_cons hy]
      exact sign_val x _ _ _ (by rw [← q62]; rfl) (by rw [← q61]; rfl))
    clear hT hx hy h1 h2 hn q62 q61
    cases k62 <;> cases k61
    all_goals
      rcases sign_cases x with rfl | rfl | rfl | rfl | rfl | rfl | rfl | rfl | rfl | rfl | rfl | rfl | ⟨hs, e40, e41, e44, e58, e59, e61, e43, e45, e42, e47, e60, e124⟩
      rotate_right
      · rw [sign_no x _ _ hs] at HV
        clear hs
        go_enter Tryz.func25, Tryz.ntmps25
        go_wp2_with fail
        go_ret
        exact ⟨ret2 (congrArg (Value.int .i64) (by rw [HV.out]; rfl)), rfl⟩
      all_goals
        go_enter Tryz.func25, Tryz.ntmps25
        go_wp2_with fail
        go_ret
        exact ⟨ret2 (congrArg (Value.int .i64) (by rw [HV.out]; decide)), rfl⟩
end Go.Proofs.YtedgcllgifiajaaGreatDoor
