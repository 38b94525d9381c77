/- What math.Abs, IsInf, IsNaN, Frexp, Ldexp, Mod, Trunc and Signbit answer at words of whole numbers. -/
import Derived.Test.YtbhkclkahblfnaaGreatDoorRows
import Derived.Test.YtbhkclkahblfnaaGreatDoorFloc
import Derived.WalkKit
import Derived.ProofKit
import Derived.WalkLawsBesides
import Derived.Laws.Externs
import Derived.Lib.Hide
namespace Go.Proofs.YtbhkclkahblfnaaGreatDoor
open Go.RowKit Flo
@[go_sem] theorem run_bits (b : Nat) (w : World) : (callFunc 102 #[.float .f64 b]).run Tryz.prog w = .ok (.value (.int .u64 b)) w := by
  rw [run_callFunc_extern Tryz.func102 (e := Extern.MathFloatBits.float64bits) (by kernel_rfl) (by kernel_rfl) (by kernel_rfl) (by kernel_rfl)]; rfl
@[go_sem] theorem run_frombits (n : Int) (w : World) : (callFunc 54 #[.int .u64 n]).run Tryz.prog w = .ok (.value (.float .f64 n.toNat)) w := by
  rw [run_callFunc_extern Tryz.func54 (e := Extern.MathFloatBits.float64frombits) (by kernel_rfl) (by kernel_rfl) (by kernel_rfl) (by kernel_rfl)]; rfl
def truncRun (b : Nat) (d : Ieee.Datum) : Sem Value := match d with
    | .nan s t =>
      if FloatKind.f64.format.quiet t = t then pure (.float .f64 b) else do
      let kept ← choose (.extern "math.Floor,Ceil,Trunc,RoundToEven.signallingNaN kept" 2)
      pure (.float .f64 (if kept == 1 then b else FloatKind.f64.encode (.nan s (FloatKind.f64.format.quiet t))))
    | d => pure (.float .f64 (FloatKind.f64.encode (d.integral .zero)))
theorem run_trunc (b : Nat) (h : (Ieee.double.read b).isNaN = false) (w : World) : (callFunc 140 #[.float .f64 b]).run Tryz.prog w = .ok (.value (.float .f64 (truncB b))) w := by
  rw [run_callFunc_extern Tryz.func140 (e := Extern.MathFloor.toIntegral "math.archTrunc" .zero) (by kernel_rfl) (by kernel_rfl) (by kernel_rfl) (by kernel_rfl)]
  have e : (Extern.MathFloor.toIntegral "math.archTrunc" .zero #[.float .f64 b]).run Tryz.prog w = .ok (.float .f64 (truncB b)) w := by
    change Sem.run Tryz.prog (truncRun b (Ieee.double.read b)) w = _
    unfold truncB
    cases hd : Ieee.double.read b with
    | nan s t => rw [hd] at h; cases h
    | infinity s => rfl
    | number s m p => rfl
  rw [e]; rfl
@[go_sem] theorem unary_neg_float (k : FloatKind) (b : Nat) : Op.unary .neg (.float k b) = pure (.float k (Op.negFloat k b)) := rfl
theorem ret_float {a b : Nat} (h : a = b) : Ending.returned (.float .f64 a) = .returned (.float .f64 b) := by rw [h]
theorem ret_bool {a b : Bool} (h : a = b) : Ending.returned (.bool a) = .returned (.bool b) := by rw [h]
set_option maxHeartbeats 400000 in
theorem sig_any (b : Nat) (hb : b < 18446744073709551616) (w : World) :
    Calls Tryz.prog 104 #[.float .f64 b] w fun e w' => e = .returned (.bool (decide (9223372036854775808 ≤ b))) ∧ w = w' := by
  go_enter Tryz.func104, Tryz.ntmps104
  go_wp2
  go_ret
  exact ⟨ret_bool (by rw [decide_eq_decide]; unfold wrap64; omega), rfl⟩
set_option maxHeartbeats 400000 in
theorem trunc_any (b : Nat) (w : World) (h : (Ieee.double.read b).isNaN = false) :
    Calls Tryz.prog 103 #[.float .f64 b] w fun e w' => e = .returned (.float .f64 (truncB b)) ∧ w = w' := by
  have hr := run_trunc b h
  go_enter Tryz.func103, Tryz.ntmps103
  go_wp2
  go_ret
  exact ⟨rfl, rfl⟩
set_option maxHeartbeats 400000 in
theorem abs_w {x : Nat} {a : Int} (ha : a.natAbs < 9007199254740992) (hx : IsW x a) (w : World) :
    Calls Tryz.prog 176 #[.float .f64 x] w fun e w' => e = .returned (.float .f64 (W (a.natAbs : Int))) ∧ w = w' := by
  have hb := abs_bits ha hx
  go_enter Tryz.func176, Tryz.ntmps176
  go_wp2
  go_ret
  exact ⟨rfl, rfl⟩
/-- what Frexp makes of a whole number's word -/
def frW (k : Nat) : Nat := 1022 * 4503599627370496 + fr k
theorem mul1 {a : Int} (h0 : a ≠ 0) (ha : a.natAbs < 9007199254740992) : floatBits .mul .f64 4607182418800017408 (W a) = some (W a) := by
  obtain ⟨r, hr, hw⟩ := mul_w (a := 1) (b := a) (by decide) ha (x := 4607182418800017408) (.inl (by decide +kernel)) (W_isW a) (by simpa using ha)
  rw [hr]; rw [Int.one_mul] at hw
  rcases hw with rfl | ⟨h, _⟩
  · rfl
  · exact absurd h h0
theorem ord_frW (a b : Nat) (ha : a < 9007199254740992) (hb : b < 9007199254740992) : (FloatKind.f64.format.order (frW a) (frW b) == some .lt) = decide (fr a < fr b) := by
  have hr : ∀ k, k < 9007199254740992 → Ieee.double.read (frW k) = .number false (4503599627370496 + fr k) (-53) := by
    intro k hk
    have hf := fr_lt k hk
    have e1 : frW k % 9223372036854775808 = frW k := by unfold frW; omega
    have e2 : frW k / 9223372036854775808 = 0 := by unfold frW; omega
    have e3 : ¬ frW k < 4503599627370496 := by unfold frW; omega
    have e4 : frW k < 2047 * 4503599627370496 := by unfold frW; omega
    have e5 : frW k % 4503599627370496 = fr k := by unfold frW; omega
    have e6 : frW k / 4503599627370496 = 1022 := by unfold frW; omega
    unfold Ieee.Format.read
    rw [sw_eq, binade_eq, inf_eq, lp_eq]
    dsimp only
    rw [e1, e2, if_neg e3, if_pos e4, e5, e6]
    rfl
  show ((Ieee.double.read (frW a)).order (Ieee.double.read (frW b)) == some .lt) = _
  rw [hr a ha, hr b hb]
  simp only [Ieee.Datum.order, Int.min_self, Int.sub_self, Int.toNat_zero, signed0, sg, Bool.false_eq_true, if_false]
  rw [cmp_lt, decide_eq_decide]; omega
theorem kept_eq (k : Nat) (h0 : k ≠ 0) (h : k < 9007199254740992) : k * 2 ^ (52 - k.log2) = 4503599627370496 + fr k := by
  have := full_lo k h0 h; unfold fr; omega
theorem log2_mono {a b : Nat} (h0 : a ≠ 0) (h : a ≤ b) : a.log2 ≤ b.log2 := by
  rw [Nat.le_log2 (by omega)]; exact Nat.le_trans (Nat.log2_self_le h0) h
theorem mod_step (n r : Nat) (hn : n ≠ 0) (h : n ≤ r) (hr : r < 9007199254740992) :
    (¬ fr r < fr n → n.log2 ≤ r.log2 ∧ n * 2 ^ (r.log2 - n.log2) ≤ r) ∧ (fr r < fr n → n.log2 + 1 ≤ r.log2 ∧ n * 2 ^ (r.log2 - n.log2 - 1) ≤ r) := by
  have hl := log2_mono hn h
  have k1 := kept_eq n hn (by omega)
  have k2 := kept_eq r (by omega) hr
  have hl2 := log2_le52 r hr
  constructor
  · intro hc
    refine ⟨hl, ?_⟩
    have e : n * 2 ^ (52 - n.log2) = n * 2 ^ (r.log2 - n.log2) * 2 ^ (52 - r.log2) := by
      rw [Nat.mul_assoc, ← Nat.pow_add]; congr 2; omega
    have hp : 0 < 2 ^ (52 - r.log2) := Nat.two_pow_pos _
    have : n * 2 ^ (r.log2 - n.log2) * 2 ^ (52 - r.log2) ≤ r * 2 ^ (52 - r.log2) := by omega
    exact Nat.le_of_mul_le_mul_right this hp
  · intro hc
    have hlt : n.log2 + 1 ≤ r.log2 := by
      rcases Nat.lt_or_ge n.log2 r.log2 with h' | h'
      · omega
      · exfalso
        have e : n.log2 = r.log2 := by omega
        rw [e] at k1
        have hp : 0 < 2 ^ (52 - r.log2) := Nat.two_pow_pos _
        have := Nat.mul_le_mul_right (2 ^ (52 - r.log2)) h
        omega
    refine ⟨hlt, ?_⟩
    have h1 := @Nat.lt_log2_self n
    have h2 := Nat.log2_self_le (show r ≠ 0 by omega)
    have e : 2 ^ (n.log2 + 1) * 2 ^ (r.log2 - n.log2 - 1) = 2 ^ r.log2 := by rw [← Nat.pow_add]; congr 1; omega
    have := Nat.mul_le_mul_right (2 ^ (r.log2 - n.log2 - 1)) (Nat.le_of_lt h1)
    omega
/-- the whole number in a float's slot -/
def wNat : Value → Nat
  | .float _ b => (((Ieee.double.read b).toInt .zero).getD 0).toNat
  | _ => 0
theorem wNat_eq {x : Nat} {a : Int} (ha : a.natAbs < 9007199254740992) (hx : IsW x a) : wNat (.float .f64 x) = a.toNat := by
  show (((Ieee.double.read x).toInt .zero).getD 0).toNat = _
  rw [toInt_is (isW_read ha hx)]; rfl

theorem tmod_eq (a : Int) (n : Nat) : a.tmod n = if a < 0 then -((a.natAbs % n : Nat) : Int) else ((a.natAbs % n : Nat) : Int) := by
  by_cases h : a < 0
  · rw [if_pos h]
    obtain ⟨k, rfl⟩ : ∃ k : Nat, a = -(k : Int) := ⟨a.natAbs, by omega⟩
    rw [Int.neg_tmod, Int.natAbs_neg, Int.natAbs_natCast]; rfl
  · rw [if_neg h]
    obtain ⟨k, rfl⟩ : ∃ k : Nat, a = (k : Int) := ⟨a.natAbs, by omega⟩
    rw [Int.natAbs_natCast]; rfl
theorem jarg1 {lp ln j : Nat} (h : ln + 1 ≤ lp) (hl : lp ≤ 52) (hj : j = lp - ln - 1) : wrap64 (wrap64 (lp : Int) - ((ln : Int) + 1)) = (j : Int) := by unfold wrap64; omega
theorem jarg2 {lp ln j : Nat} (h : ln ≤ lp) (hl : lp ≤ 52) (hj : j = lp - ln) : wrap64 ((lp : Int) + 1 - ((ln : Int) + 1)) = (j : Int) := by unfold wrap64; omega
end Go.Proofs.YtbhkclkahblfnaaGreatDoor
