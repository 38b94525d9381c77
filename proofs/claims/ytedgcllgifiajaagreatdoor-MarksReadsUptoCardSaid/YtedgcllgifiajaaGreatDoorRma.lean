/- What the small functions of the reference of layer 3 answer. -/
import Derived.Test.YtedgcllgifiajaaGreatDoorChain
namespace Go.Proofs.YtedgcllgifiajaaGreatDoor
open Go.RowKit Flo Mk
def letB (c : UInt8) : Bool := decide (65 ≤ c.toNat ∧ c.toNat ≤ 90) || decide (97 ≤ c.toNat ∧ c.toNat ≤ 122)
theorem letB_t {c : UInt8} (h : (65 ≤ c.toNat ∧ c.toNat ≤ 90) ∨ (97 ≤ c.toNat ∧ c.toNat ≤ 122)) : letB c = true := by
  unfold letB
  rcases h with h | h
  · rw [decide_eq_true h]; rfl
  · rw [decide_eq_true (p := 97 ≤ c.toNat ∧ c.toNat ≤ 122) h, Bool.or_true]
theorem letB_f {c : UInt8} (h : ¬ (65 ≤ c.toNat ∧ c.toNat ≤ 90) ∧ ¬ (97 ≤ c.toNat ∧ c.toNat ≤ 122)) : letB c = false := by
  unfold letB; rw [decide_eq_false h.1, decide_eq_false h.2]; rfl
theorem eqb (c d : UInt8) : ((c.toNat : Int) == (d.toNat : Int)) = (c == d) := by
  rw [Bool.eq_iff_iff, beq_iff_eq, beq_iff_eq]
  constructor
  · intro h; exact UInt8.toNat_inj.1 (by omega)
  · intro h; rw [h]
set_option maxHeartbeats 4000000 in
theorem refdigit_any (c : UInt8) (w : World) :
    Calls Tryz.prog 21 #[.int .u8 (c.toNat : Int)] w fun e w' => e = .returned (.bool (digB c)) ∧ w = w' := by
  have hc := c.toNat_lt
  have HD : Hid (digB c = (decide (48 ≤ c.toNat) && decide (c.toNat ≤ 57))) := rfl
  go_enter Tryz.func21, Tryz.ntmps21
  go_wp2_with fail
  all_goals go_ret
  all_goals refine ⟨ret2 (congrArg Value.bool ?_), rfl⟩
  · rw [HD.out, decide_eq_true (p := 48 ≤ c.toNat) (by omega), Bool.true_and]; exact decide_eq_decide.2 (by omega)
  · rw [HD.out, decide_eq_false (by omega), Bool.false_and]
set_option maxHeartbeats 4000000 in
theorem letter_any (c : UInt8) (w : World) :
    Calls Tryz.prog 36 #[.int .u8 (c.toNat : Int)] w fun e w' => e = .returned (.bool (letB c)) ∧ w = w' := by
  have hc := c.toNat_lt
  rcases (show (c.toNat < 65) ∨ (65 ≤ c.toNat ∧ c.toNat ≤ 90) ∨ (90 < c.toNat ∧ c.toNat < 97) ∨ (97 ≤ c.toNat ∧ c.toNat ≤ 122) ∨ 122 < c.toNat by omega) with h | h | h | h | h
  all_goals
    go_enter Tryz.func36, Tryz.ntmps36
    go_wp2_with fail
    all_goals go_ret
    all_goals refine ⟨ret2 (congrArg Value.bool ?_), rfl⟩
    all_goals first
      | exact (letB_t (by omega)).symm
      | exact (letB_f (by omega)).symm
      | (have hL : letB c = true := letB_t (by omega)
         rw [hL]
         first | rfl | exact (decide_eq_true (by omega)) | exact (decide_eq_true (by omega)).symm | (rw [decide_eq_true (by omega)]; done) | (rw [Bool.or_eq_true_iff]; simp only [decide_eq_true_eq]; omega))
      | (have hL : letB c = false := letB_f (by omega)
         rw [hL]
         first | rfl | exact (decide_eq_false (by omega)) | exact (decide_eq_false (by omega)).symm | (rw [Bool.or_eq_false_iff]; simp only [decide_eq_false_iff_not]; omega))
set_option maxHeartbeats 4000000 in
theorem blank_any (c : UInt8) (w : World) :
    Calls Tryz.prog 13 #[.int .u8 (c.toNat : Int)] w fun e w' => e = .returned (.bool (blankB c)) ∧ w = w' := by
  have h1 : ((c.toNat : Int) == 9) = (c == 9) := eqb c 9
  have h2 : ((c.toNat : Int) == 10) = (c == 10) := eqb c 10
  have h3 : ((c.toNat : Int) == 13) = (c == 13) := eqb c 13
  have h4 : ((c.toNat : Int) == 32) = (c == 32) := eqb c 32
  have HD : Hid (blankB c = ((c == 32) || (c == 9) || (c == 10) || (c == 13))) := rfl
  obtain ⟨k1, e1⟩ : ∃ k, (c == 9) = k := ⟨_, rfl⟩
  obtain ⟨k2, e2⟩ : ∃ k, (c == 10) = k := ⟨_, rfl⟩
  obtain ⟨k3, e3⟩ : ∃ k, (c == 13) = k := ⟨_, rfl⟩
  obtain ⟨k4, e4⟩ : ∃ k, (c == 32) = k := ⟨_, rfl⟩
  rw [e1] at h1 HD; rw [e2] at h2 HD; rw [e3] at h3 HD; rw [e4] at h4 HD
  clear e1 e2 e3 e4
  cases k1 <;> cases k2 <;> cases k3 <;> cases k4
  all_goals
    go_enter Tryz.func13, Tryz.ntmps13
    go_wp2_with fail
    go_ret
    exact ⟨ret2 (congrArg Value.bool (by rw [HD.out]; rfl)), rfl⟩
end Go.Proofs.YtedgcllgifiajaaGreatDoor
