/- The reference's Words and Reserved. -/
import Derived.Test.YtedgcllgifiajaaGreatDoorMkf
import Derived.Deep.LoopGhost
namespace Go.Proofs.YtedgcllgifiajaaGreatDoor
open Go.RowKit Flo Mk
theorem refwords_any (w : World) :
    Calls Tryz.prog 40 #[] w fun e w' => e = .returned (.slice (some ⟨w.heap.size, 0, none⟩) 19 19) ∧ w' = w.alloc (.cells (resvS.map Value.string).toArray 9) := by
  go_enter Tryz.func40, Tryz.ntmps40
  go_wp2_with fail
  go_ret
  exact ⟨rfl, rfl⟩
def rw' (j : Nat) : ByteArray := resvS.getD j ⟨#[]⟩
theorem resv_row (X : World) (j : Nat) (hj : j < 19) : (X.alloc (.cells (resvS.map Value.string).toArray 9)).cell? ⟨X.heap.size, j, none⟩ = some (.string (rw' j)) := by
  rw [World.cell?_alloc_at _ _ _ _ rfl]
  have : j < resvS.length := hj
  simp [rw', List.getD, this]
theorem resv_mem (s : ByteArray) : (s.data.toList ∈ resv) ↔ ∃ j, j < 19 ∧ rw' j = s := by
  have h0 := contains_resv s
  rw [Bool.eq_iff_iff, Lib.containsS_iff, decide_eq_true_eq] at h0
  rw [← h0]
  show s ∈ resvS ↔ _
  constructor
  · intro h
    obtain ⟨j, hj, rfl⟩ := List.mem_iff_getElem.1 h
    exact ⟨j, hj, by simp [rw', List.getD, hj]⟩
  · rintro ⟨j, hj, rfl⟩
    have : j < resvS.length := hj
    simp [rw', List.getD, this]
set_option maxHeartbeats 4000000 in
theorem refreserved_any (s : ByteArray) (w : World) :
    Calls Tryz.prog 24 #[.string s] w fun e w' => e = .returned (.bool (decide (s.data.toList ∈ resv))) ∧ Below w.heap.size w w' := by
  have HB := Lib.hid (below_alloc w (.cells (resvS.map Value.string).toArray 9))
  have HC := Lib.hid (resv_row w)
  have HR := Lib.hid (resv_mem s)
  obtain ⟨X, hX⟩ : ∃ X, w.alloc (.cells (resvS.map Value.string).toArray 9) = X := ⟨_, rfl⟩
  have HQ := Lib.hid (refwords_any w)
  rw [hX] at HB HC HQ
  obtain ⟨B, hB⟩ : ∃ B, w.heap.size = B := ⟨_, rfl⟩
  have HB' := Lib.hid (hB ▸ HB.out)
  rw [hB] at HC HQ ⊢
  clear hX hB HB
  go_enter Tryz.func24, Tryz.ntmps24
  go_wp2_with fail
  refine HQ.out.mono ?_; rintro e w' ⟨rfl, rfl⟩
  go_wp2_with fail
  go_loopg [4] 19 (fun g s4 wx => ∃ k : Nat, k + g = 19 ∧ s4 = .int .i64 (k : Int) ∧ wx = w' ∧ Hid (∀ j, j < k → rw' j ≠ s))
  case atStart => exact ⟨0, rfl, rfl, rfl, fun j hj => absurd hj (Nat.not_lt_zero j)⟩
  case round =>
    obtain ⟨k, hk, rfl, rfl, hne⟩ := hrel
    cases gk with
    | zero =>
      obtain rfl : k = 19 := by omega
      have HF : Hid (decide (s.data.toList ∈ resv) = false) := Lib.hid (decide_eq_false fun h => by
        obtain ⟨j, hj, e⟩ := HR.out.1 h
        exact hne.out j hj e)
      go_wp2_with fail
      go_ret
      exact ⟨ret2 (congrArg Value.bool HF.out.symm), HB'.out⟩
    | succ g =>
      have hkl : k < 19 := by omega
      have hkz : (k : Int) < 19 := by omega
      have hc := HC.out k hkl
      obtain ⟨x, hx⟩ : ∃ x, rw' k = x := ⟨_, rfl⟩
      rw [hx] at hc
      have HX := Lib.hid hx
      clear hx
      by_cases he : x = s
      · subst he
        have HF : Hid (decide (x.data.toList ∈ resv) = true) := Lib.hid (decide_eq_true (HR.out.2 ⟨k, hkl, HX.out⟩))
        go_wp2_with fail
        go_ret
        exact ⟨ret2 (congrArg Value.bool HF.out.symm), HB'.out⟩
      · have hb : (x.toList == s.toList) = false := beq_eq_false_iff_ne.2 fun h => he (by
          rw [Lib.toList_data, Lib.toList_data] at h
          apply ByteArray.ext; exact Array.toList_inj.1 h)
        have HNE : Hid (∀ j, j < k + 1 → rw' j ≠ s) := Lib.hid fun j hj => by
          rcases Nat.lt_or_eq_of_le (Nat.le_of_lt_succ hj) with h | rfl
          · exact hne.out j h
          · rw [HX.out]; exact he
        clear hne he
        go_wp2_with fail
        go_roundg g
        case measure => omega
        case rel => exact ⟨k + 1, by omega, by go_num, rfl, HNE⟩
end Go.Proofs.YtedgcllgifiajaaGreatDoor
