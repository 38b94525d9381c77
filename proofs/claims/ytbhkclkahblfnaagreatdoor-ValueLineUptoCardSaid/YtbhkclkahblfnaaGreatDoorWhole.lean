/- The walk of the reference's whole. -/
import Derived.Test.YtbhkclkahblfnaaGreatDoorRp
import Derived.Test.YtbhkclkahblfnaaGreatDoorDig
import Derived.Deep.LoopGhost
namespace Go.Proofs.YtbhkclkahblfnaaGreatDoor
open Go.RowKit Flo
namespace Flo
theorem capV_take {D : List UInt8} {j : Nat} {b : UInt8} (h : D[j]? = some b) : capV (D.take (j + 1)) = capStep (capV (D.take j)) b := by
  rw [List.take_add_one, h]; exact capV_snoc _ b
theorem dat_get (s : ByteArray) (i : Nat) (h : i < s.size) : s.data.toList[i]? = some (s[i]'h) := by
  rw [Array.getElem?_toList, Array.getElem?_eq_getElem (by simpa using h)]; rfl
end Flo
set_option maxHeartbeats 4000000 in
set_option maxRecDepth 4000 in
theorem whole_at1 (s : ByteArray) (hs : s.size ≤ 140737488351232) (x : UInt8) (hpos : 0 < s.size) (hx : s[0]'hpos = x) (h45 : x = 45) (w : World) :
    Calls Tryz.prog 82 #[.string s] w fun e w' => e = .returned (.tuple #[.int .i64 (wholeL s.data.toList).1, .int .i64 (wholeL s.data.toList).2]) ∧ Below w.heap.size w w' := by
  have hxl : s.data.toList[0]? = some x := by rw [← hx]; exact dat_get s 0 hpos
  have ho : offD s.data.toList = 1 := by
    unfold offD
    rw [List.head?_eq_getElem?, hxl]
    rw [h45]; rfl
  obtain ⟨D, hD⟩ : ∃ D, runD s.data.toList = D := ⟨_, rfl⟩
  have hDd : D = (s.data.toList.drop 1).takeWhile digB := by rw [← hD]; unfold runD; rw [ho]
  have hlen : 1 + D.length ≤ s.size := by
    have h1 := tw_len digB (s.data.toList.drop 1)
    rw [← hDd, List.length_drop, ← Lib.size_eq] at h1
    omega
  have HSome : Hid (∀ j, j < D.length → ∃ b, ∃ h : 1 + j < s.size, s[1 + j]'h = b ∧ 48 ≤ b.toNat ∧ b.toNat ≤ 57 ∧ D[j]? = some b) := Lib.hid (fun j hj => by
    obtain ⟨b, h1, h2, h3⟩ := tw_some digB (s.data.toList.drop 1) j (by rw [← hDd]; exact hj)
    rw [← hDd] at h3
    rw [List.getElem?_drop] at h1
    have hk : 1 + j < s.size := by omega
    rw [dat_get s (1 + j) hk] at h1
    unfold digB at h2; simp at h2
    exact ⟨b, hk, Option.some.inj h1, h2.1, h2.2, h3⟩)
  have HStop : Hid (∀ h : 1 + D.length < s.size, (s[1 + D.length]'h).toNat < 48 ∨ 57 < (s[1 + D.length]'h).toNat) := Lib.hid (fun h => by
    have h1 := tw_stop digB (s.data.toList.drop 1) (s[1 + D.length]'h) (by rw [← hDd, List.getElem?_drop]; exact dat_get s _ h)
    unfold digB at h1; simp at h1; omega)
  have HW : Hid (wholeL s.data.toList = if D = [] then (0, 0) else (-(capV D : Int), 1 + D.length)) := Lib.hid (by unfold wholeL; rw [hD, ho]; rfl)
  have HL := Lib.hid hlen
  have HC := Lib.hid capV_le
  subst h45
  clear hxl ho hD hDd hlen
  go_enter Tryz.func82, Tryz.ntmps82
  go_wp2_with fail
  go_loopg [5, 6] D.length (fun g s5 s6 wx => ∃ j : Nat, j + g = D.length ∧ s5 = .int .i64 (capV (D.take j) : Int) ∧ s6 = .int .i64 ((1 + j : Nat) : Int) ∧ wx = w)
  case atStart => exact ⟨0, by omega, rfl, rfl, rfl⟩
  case round =>
    obtain ⟨j, hjg, rfl, rfl, rfl⟩ := hrel
    have hcap := HC.out (D.take j)
    have hL := HL.out
    cases gk with
    | zero =>
      obtain rfl : j = D.length := by omega
      have hDb : D.length ≤ 140737488351232 := by omega
      rw [List.take_length] at hcap ⊢
      have HW2 := Lib.hid HW.out
      rcases Nat.eq_zero_or_pos D.length with h0 | h0
      · obtain rfl : D = [] := List.eq_nil_of_length_eq_zero h0
        have HF := Lib.hid (show wholeL s.data.toList = (0, 0) by rw [HW.out]; rfl)
        clear HW HW2
        by_cases hend : 1 < s.size
        · obtain ⟨b, hb⟩ : ∃ b : UInt8, s[1]'hend = b := ⟨_, rfl⟩
          have hst := HStop.out hend
          have hb' : s[1 + ([] : List UInt8).length]'hend = b := hb
          rw [hb'] at hst
          have hbl := b.toNat_lt
          rcases hst with hst | hst
          · go_wp2_with fail
            all_goals go_ret2
            all_goals exact ⟨ret2 (by rw [HF.out]; first | rfl | simp), Below.refl _ _⟩
          · go_wp2_with fail
            all_goals go_ret2
            all_goals exact ⟨ret2 (by rw [HF.out]; first | rfl | simp), Below.refl _ _⟩
        · go_wp2_with fail
          all_goals go_ret2
          all_goals exact ⟨ret2 (by rw [HF.out]; first | rfl | simp), Below.refl _ _⟩
      · have HF := Lib.hid (show wholeL s.data.toList = (-(capV D : Int), 1 + D.length) by rw [HW.out, if_neg (fun h => by rw [h] at h0; simp at h0)])
        clear HW HW2
        by_cases hend : 1 + D.length < s.size
        · obtain ⟨b, hb⟩ : ∃ b : UInt8, s[1 + D.length]'hend = b := ⟨_, rfl⟩
          have hst := HStop.out hend
          rw [hb] at hst
          have hbl := b.toNat_lt
          rcases hst with hst | hst
          · go_wp2_with fail
            all_goals go_ret2
            all_goals exact ⟨ret2 (by rw [HF.out]; simp), Below.refl _ _⟩
          · go_wp2_with fail
            all_goals go_ret2
            all_goals exact ⟨ret2 (by rw [HF.out]; simp), Below.refl _ _⟩
        · go_wp2_with fail
          all_goals go_ret2
          all_goals exact ⟨ret2 (by rw [HF.out]; simp), Below.refl _ _⟩
    | succ g =>
      obtain ⟨b, hk, hb, hb1, hb2, hDj⟩ := HSome.out j (by omega)
      have hjb : j < 140737488351232 := by omega
      have hcj : capStep (capV (D.take j)) b = capV (D.take (j + 1)) := (capV_take hDj).symm
      go_wp2_with fail
      all_goals go_roundg g
      case measure => omega
      case rel => exact ⟨j + 1, by omega, congrArg (Value.int .i64) (by rw [← hcj]; unfold capStep; omega), congrArg (Value.int .i64) (by omega), rfl⟩
      all_goals first | omega | exact ⟨j + 1, by omega, congrArg (Value.int .i64) (by rw [← hcj]; unfold capStep; omega), congrArg (Value.int .i64) (by omega), rfl⟩
set_option maxHeartbeats 4000000 in
set_option maxRecDepth 4000 in
theorem whole_at0 (s : ByteArray) (hs : s.size ≤ 140737488351232) (x : UInt8) (hpos : 0 < s.size) (hx : s[0]'hpos = x) (h45 : x ≠ 45) (w : World) :
    Calls Tryz.prog 82 #[.string s] w fun e w' => e = .returned (.tuple #[.int .i64 (wholeL s.data.toList).1, .int .i64 (wholeL s.data.toList).2]) ∧ Below w.heap.size w w' := by
  have hxl : s.data.toList[0]? = some x := by rw [← hx]; exact dat_get s 0 hpos
  have ho : offD s.data.toList = 0 := by
    unfold offD
    rw [List.head?_eq_getElem?, hxl]
    exact if_neg (fun h => h45 (Option.some.inj h))
  obtain ⟨D, hD⟩ : ∃ D, runD s.data.toList = D := ⟨_, rfl⟩
  have hDd : D = (s.data.toList.drop 0).takeWhile digB := by rw [← hD]; unfold runD; rw [ho]
  have hlen : 0 + D.length ≤ s.size := by
    have h1 := tw_len digB (s.data.toList.drop 0)
    rw [← hDd, List.length_drop, ← Lib.size_eq] at h1
    omega
  have HSome : Hid (∀ j, j < D.length → ∃ b, ∃ h : j < s.size, s[j]'h = b ∧ 48 ≤ b.toNat ∧ b.toNat ≤ 57 ∧ D[j]? = some b) := Lib.hid (fun j hj => by
    obtain ⟨b, h1, h2, h3⟩ := tw_some digB (s.data.toList.drop 0) j (by rw [← hDd]; exact hj)
    rw [← hDd] at h3
    rw [List.getElem?_drop, Nat.zero_add] at h1
    have hk : j < s.size := by omega
    rw [dat_get s (j) hk] at h1
    unfold digB at h2; simp at h2
    exact ⟨b, hk, Option.some.inj h1, h2.1, h2.2, h3⟩)
  have HStop : Hid (∀ h : D.length < s.size, (s[D.length]'h).toNat < 48 ∨ 57 < (s[D.length]'h).toNat) := Lib.hid (fun h => by
    have h1 := tw_stop digB (s.data.toList.drop 0) (s[D.length]'h) (by rw [← hDd, List.getElem?_drop, Nat.zero_add]; exact dat_get s _ h)
    unfold digB at h1; simp at h1; omega)
  have HW : Hid (wholeL s.data.toList = if D = [] then (0, 0) else ((capV D : Int), 0 + D.length)) := Lib.hid (by unfold wholeL; rw [hD, ho]; rfl)
  have HL := Lib.hid hlen
  have HC := Lib.hid capV_le
  have hne : ((x.toNat : Int) == 45) = false := beq_eq_false_iff_ne.2 (fun h => h45 (by apply UInt8.toNat_inj.1; have h2 : (x.toNat : Int) = 45 := h; show x.toNat = 45; omega))
  clear hxl ho hD hDd hlen
  go_enter Tryz.func82, Tryz.ntmps82
  go_wp2_with fail
  go_loopg [5, 6] D.length (fun g s5 s6 wx => ∃ j : Nat, j + g = D.length ∧ s5 = .int .i64 (capV (D.take j) : Int) ∧ s6 = .int .i64 (j : Int) ∧ wx = w)
  case atStart => exact ⟨0, by omega, rfl, rfl, rfl⟩
  case round =>
    obtain ⟨j, hjg, rfl, rfl, rfl⟩ := hrel
    have hcap := HC.out (D.take j)
    have hL := HL.out
    cases gk with
    | zero =>
      obtain rfl : j = D.length := by omega
      have hDb : D.length ≤ 140737488351232 := by omega
      rw [List.take_length] at hcap ⊢
      have HW2 := Lib.hid HW.out
      rcases Nat.eq_zero_or_pos D.length with h0 | h0
      · obtain rfl : D = [] := List.eq_nil_of_length_eq_zero h0
        have HF := Lib.hid (show wholeL s.data.toList = (0, 0) by rw [HW.out]; rfl)
        clear HW HW2
        by_cases hend : 0 < s.size
        · obtain ⟨b, hb⟩ : ∃ b : UInt8, s[0]'hend = b := ⟨_, rfl⟩
          have hst := HStop.out hend
          have hb' : s[([] : List UInt8).length]'hend = b := hb
          rw [hb'] at hst
          have hbx : x = b := hx.symm.trans hb
          rw [← hbx] at hst
          have hbl2 := x.toNat_lt
          clear hb hb' hbx
          have hbl := b.toNat_lt
          rcases hst with hst | hst
          · go_wp2_with fail
            all_goals go_ret2
            all_goals exact ⟨ret2 (by rw [HF.out]; first | rfl | simp), Below.refl _ _⟩
          · go_wp2_with fail
            all_goals go_ret2
            all_goals exact ⟨ret2 (by rw [HF.out]; first | rfl | simp), Below.refl _ _⟩
        · go_wp2_with fail
          all_goals go_ret2
          all_goals exact ⟨ret2 (by rw [HF.out]; first | rfl | simp), Below.refl _ _⟩
      · have HF := Lib.hid (show wholeL s.data.toList = ((capV D : Int), 0 + D.length) by rw [HW.out, if_neg (fun h => by rw [h] at h0; simp at h0)])
        clear HW HW2
        by_cases hend : D.length < s.size
        · obtain ⟨b, hb⟩ : ∃ b : UInt8, s[D.length]'hend = b := ⟨_, rfl⟩
          have hst := HStop.out hend
          rw [hb] at hst
          have hbl := b.toNat_lt
          rcases hst with hst | hst
          · go_wp2_with fail
            all_goals go_ret2
            all_goals exact ⟨ret2 (by rw [HF.out]; simp), Below.refl _ _⟩
          · go_wp2_with fail
            all_goals go_ret2
            all_goals exact ⟨ret2 (by rw [HF.out]; simp), Below.refl _ _⟩
        · go_wp2_with fail
          all_goals go_ret2
          all_goals exact ⟨ret2 (by rw [HF.out]; simp), Below.refl _ _⟩
    | succ g =>
      obtain ⟨b, hk, hb, hb1, hb2, hDj⟩ := HSome.out j (by omega)
      have hjb : j < 140737488351232 := by omega
      have hcj : capStep (capV (D.take j)) b = capV (D.take (j + 1)) := (capV_take hDj).symm
      go_wp2_with fail
      all_goals go_roundg g
      case measure => omega
      case rel => exact ⟨j + 1, by omega, congrArg (Value.int .i64) (by rw [← hcj]; unfold capStep; omega), congrArg (Value.int .i64) (by omega), rfl⟩
      all_goals first | omega | exact ⟨j + 1, by omega, congrArg (Value.int .i64) (by rw [← hcj]; unfold capStep; omega), congrArg (Value.int .i64) (by omega), rfl⟩
theorem whole_none (s : ByteArray) (h0 : s.size = 0) (w : World) :
    Calls Tryz.prog 82 #[.string s] w fun e w' => e = .returned (.tuple #[.int .i64 (wholeL s.data.toList).1, .int .i64 (wholeL s.data.toList).2]) ∧ Below w.heap.size w w' := by
  obtain rfl : s = ⟨#[]⟩ := by
    apply ByteArray.ext; apply Array.toList_inj.1; exact List.eq_nil_of_length_eq_zero (by rw [← Lib.size_eq]; exact h0)
  have HF := Lib.hid (show wholeL (⟨#[]⟩ : ByteArray).data.toList = (0, 0) from rfl)
  clear h0
  go_enter Tryz.func82, Tryz.ntmps82
  go_wp2_with fail
  go_loopg [5, 6] 0 (fun g s5 s6 wx => s5 = .int .i64 0 ∧ s6 = .int .i64 0 ∧ wx = w)
  case atStart => exact ⟨rfl, rfl, rfl⟩
  case round =>
    obtain ⟨rfl, rfl, rfl⟩ := hrel
    go_wp2_with fail
    go_ret2
    exact ⟨ret2 (by rw [HF.out]; rfl), Below.refl _ _⟩
/-- whole, at every text -/
theorem whole_any (s : ByteArray) (hs : s.size ≤ 140737488351232) (w : World) :
    Calls Tryz.prog 82 #[.string s] w fun e w' => e = .returned (.tuple #[.int .i64 (wholeL s.data.toList).1, .int .i64 (wholeL s.data.toList).2]) ∧ Below w.heap.size w w' := by
  by_cases h0 : s.size = 0
  · exact whole_none s h0 w
  · by_cases h45 : s[0]'(by omega) = 45
    · exact whole_at1 s hs _ (by omega) rfl h45 w
    · exact whole_at0 s hs _ (by omega) rfl h45 w
end Go.Proofs.YtbhkclkahblfnaaGreatDoor
