/- What math.Abs, IsInf, IsNaN, Frexp, Ldexp, Mod, Trunc and Signbit answer at words of whole numbers. -/
import Derived.Test.YtipcjffbjkpmbaaDoorRows
import Derived.Test.YtipcjffbjkpmbaaDoorFloc
import Derived.WalkKit
import Derived.ProofKit
import Derived.WalkLawsBesides
import Derived.Laws.Externs
import Derived.Lib.Hide
namespace Go.Proofs.YtipcjffbjkpmbaaDoor
open Go.RowKit Flo
@[go_sem] theorem run_bits (b : Nat) (w : World) : (callFunc 35 #[.float .f64 b]).run Tryd.prog w = .ok (.value (.int .u64 b)) w := by
  rw [run_callFunc_extern Tryd.func35 (e := Extern.MathFloatBits.float64bits) (by kernel_rfl) (by kernel_rfl) (by kernel_rfl) (by kernel_rfl)]; rfl
@[go_sem] theorem run_frombits (n : Int) (w : World) : (callFunc 37 #[.int .u64 n]).run Tryd.prog w = .ok (.value (.float .f64 n.toNat)) w := by
  rw [run_callFunc_extern Tryd.func37 (e := Extern.MathFloatBits.float64frombits) (by kernel_rfl) (by kernel_rfl) (by kernel_rfl) (by kernel_rfl)]; rfl
def truncRun (b : Nat) (d : Ieee.Datum) : Sem Value := match d with
    | .nan s t =>
      if FloatKind.f64.format.quiet t = t then pure (.float .f64 b) else do
      let kept ← choose (.extern "math.Floor,Ceil,Trunc,RoundToEven.signallingNaN kept" 2)
      pure (.float .f64 (if kept == 1 then b else FloatKind.f64.encode (.nan s (FloatKind.f64.format.quiet t))))
    | d => pure (.float .f64 (FloatKind.f64.encode (d.integral .zero)))
theorem run_trunc (b : Nat) (h : (Ieee.double.read b).isNaN = false) (w : World) : (callFunc 65 #[.float .f64 b]).run Tryd.prog w = .ok (.value (.float .f64 (truncB b))) w := by
  rw [run_callFunc_extern Tryd.func65 (e := Extern.MathFloor.toIntegral "math.archTrunc" .zero) (by kernel_rfl) (by kernel_rfl) (by kernel_rfl) (by kernel_rfl)]
  have e : (Extern.MathFloor.toIntegral "math.archTrunc" .zero #[.float .f64 b]).run Tryd.prog w = .ok (.float .f64 (truncB b)) w := by
    change Sem.run Tryd.prog (truncRun b (Ieee.double.read b)) w = _
    unfold truncB
    cases hd : Ieee.double.read b with
    | nan s t => rw [hd] at h; cases h
    | infinity s => rfl
    | number s m p => rfl
  rw [e]; rfl
@[go_sem] theorem unary_neg_float (k : FloatKind) (b : Nat) : Op.unary .neg (.float k b) = pure (.float k (Op.negFloat k b)) := rfl
theorem ret_float {a b : Nat} (h : a = b) : Ending.returned (.float .f64 a) = .returned (.float .f64 b) := by rw [h]
theorem ret_bool {a b : Bool} (h : a = b) : Ending.returned (.bool a) = .returned (.bool b) := by rw [h]
set_option maxHeartbeats 400000 in
theorem sig_any (b : Nat) (hb : b < 18446744073709551616) (w : World) :
    Calls Tryd.prog 52 #[.float .f64 b] w fun e w' => e = .returned (.bool (decide (9223372036854775808 ≤ b))) ∧ w = w' := by
  go_enter Tryd.func52, Tryd.ntmps52
  go_wp2
  go_ret
  exact ⟨ret_bool (by rw [decide_eq_decide]; unfold wrap64; omega), rfl⟩
set_option maxHeartbeats 400000 in
theorem trunc_any (b : Nat) (w : World) (h : (Ieee.double.read b).isNaN = false) :
    Calls Tryd.prog 51 #[.float .f64 b] w fun e w' => e = .returned (.float .f64 (truncB b)) ∧ w = w' := by
  have hr := run_trunc b h
  go_enter Tryd.func51, Tryd.ntmps51
  go_wp2
  go_ret
  exact ⟨rfl, rfl⟩
set_option maxHeartbeats 400000 in
theorem abs_w {x : Nat} {a : Int} (ha : a.natAbs < 9007199254740992) (hx : IsW x a) (w : World) :
    Calls Tryd.prog 70 #[.float .f64 x] w fun e w' => e = .returned (.float .f64 (W (a.natAbs : Int))) ∧ w = w' := by
  have hb := abs_bits ha hx
  go_enter Tryd.func70, Tryd.ntmps70
  go_wp2
  go_ret
  exact ⟨rfl, rfl⟩
set_option maxHeartbeats 400000 in
theorem isInf_w {x : Nat} {a : Int} (ha : a.natAbs ≤ 4503599627370496) (hx : IsW x a) (w : World) :
    Calls Tryd.prog 67 #[.float .f64 x, .int .i64 0] w fun e w' => e = .returned (.bool false) ∧ w = w' := by
  have hm : FloatKind.f64.format.order (W (a.natAbs : Int)) 9218868437227405311 = some .lt := ord_max (by simpa using ha)
  go_enter Tryd.func67, Tryd.ntmps67
  go_wp2_with (go_at_call 70; refine (abs_w (a := a) (by omega) hx _).mono ?_; rintro e w' ⟨rfl, rfl⟩)
  go_ret
  exact ⟨rfl, rfl⟩
set_option maxHeartbeats 400000 in
theorem isNaN_w {x : Nat} {a : Int} (ha : a.natAbs ≤ 4503599627370496) (hx : IsW x a) (w : World) :
    Calls Tryd.prog 68 #[.float .f64 x] w fun e w' => e = .returned (.bool false) ∧ w = w' := by
  have hm : FloatKind.f64.format.order x x = some .eq := ord_self (by omega) hx
  go_enter Tryd.func68, Tryd.ntmps68
  go_wp2
  go_ret
  exact ⟨rfl, rfl⟩
set_option maxHeartbeats 400000 in
theorem normalize_w {a : Int} (h0 : 0 < a) (ha : a.natAbs ≤ 4503599627370496) (w : World) :
    Calls Tryd.prog 99 #[.float .f64 (W a)] w fun e w' => e = .returned (.tuple #[.float .f64 (W a), .int .i64 0]) ∧ w = w' := by
  have hm : FloatKind.f64.format.order (W a) 4503599627370496 = some .gt := ord_min h0 ha
  go_enter Tryd.func99, Tryd.ntmps99
  go_wp2_with (go_at_call 70; refine (abs_w (a := a) (by omega) (W_isW a) _).mono ?_; rw [show ((a.natAbs : Nat) : Int) = a from by omega]; rintro e w' ⟨rfl, rfl⟩)
  go_ret2
  exact ⟨rfl, rfl⟩
/-- what Frexp makes of a whole number's word -/
def frW (k : Nat) : Nat := 1022 * 4503599627370496 + fr k
set_option maxHeartbeats 400000 in
theorem frexp_w {k : Nat} (h0 : k ≠ 0) (hk : k ≤ 4503599627370496) (w : World) :
    Calls Tryd.prog 85 #[.float .f64 (W (k : Int))] w fun e w' => e = .returned (.tuple #[.float .f64 (frW k), .int .i64 ((k.log2 : Int) + 1)]) ∧ w = w' := by
  have hl := log2_le52 k (by omega)
  have hM := fr_lt k (by omega)
  have hne : FloatKind.f64.format.order (W (k : Int)) 0 = some .gt := by
    rw [show (0 : Nat) = W 0 from by decide +kernel]
    exact (ord_W (by omega) (by decide)).trans (by rw [Option.some.injEq, Int.compare_eq_gt]; omega)
  have e1 : bits BinOp.and IntKind.u64 ((W (k : Int) : Int) / 4503599627370496) 2047 = (k.log2 : Int) + 1023 := by
    rw [W_nat _ (by omega), R_bits k h0 (by omega)]; exact shr_and _ _ (by omega) hM
  have e2 : bits BinOp.andNot IntKind.u64 (W (k : Int) : Int) 9218868437227405312 = (fr k : Int) := by
    rw [W_nat _ (by omega), R_bits k h0 (by omega)]; exact andNot_exp _ _ (by omega) hM
  have e3 : bits BinOp.or IntKind.u64 (fr k : Int) 4602678819172646912 = (frW k : Int) := by
    exact or_exp 1022 _ (by decide) hM
  have q1 := fun w => isInf_w (x := W (k : Int)) (a := (k : Int)) (by omega) (W_isW _) w
  have q2 := fun w => isNaN_w (x := W (k : Int)) (a := (k : Int)) (by omega) (W_isW _) w
  have q3 := fun w => normalize_w (a := (k : Int)) (by omega) (by omega) w
  have Q1 := Lib.hid q1; have Q2 := Lib.hid q2; have Q3 := Lib.hid q3; clear q1 q2 q3
  go_enter Tryd.func85, Tryd.ntmps85
  go_wp2_with (first | (go_at_call 67; refine (Q1.out _).mono ?_; rintro e w' ⟨rfl, rfl⟩) | (go_at_call 68; refine (Q2.out _).mono ?_; rintro e w' ⟨rfl, rfl⟩) | (go_at_call 99; refine (Q3.out _).mono ?_; rintro e w' ⟨rfl, rfl⟩))
  go_ret2
  exact ⟨rfl, rfl⟩
set_option maxHeartbeats 400000 in
theorem Frexp_w {k : Nat} (h0 : k ≠ 0) (hk : k ≤ 4503599627370496) (w : World) :
    Calls Tryd.prog 71 #[.float .f64 (W (k : Int))] w fun e w' => e = .returned (.tuple #[.float .f64 (frW k), .int .i64 ((k.log2 : Int) + 1)]) ∧ w = w' := by
  go_enter Tryd.func71, Tryd.ntmps71
  go_wp2_with (go_at_call 85; refine (frexp_w h0 hk _).mono ?_; rintro e w' ⟨rfl, rfl⟩)
  go_ret2
  exact ⟨rfl, rfl⟩
theorem mul1 {a : Int} (h0 : a ≠ 0) (ha : a.natAbs < 9007199254740992) : floatBits .mul .f64 4607182418800017408 (W a) = some (W a) := by
  obtain ⟨r, hr, hw⟩ := mul_w (a := 1) (b := a) (by decide) ha (x := 4607182418800017408) (.inl (by decide +kernel)) (W_isW a) (by simpa using ha)
  rw [hr]; rw [Int.one_mul] at hw
  rcases hw with rfl | ⟨h, _⟩
  · rfl
  · exact absurd h h0
set_option maxRecDepth 100000 in
set_option maxHeartbeats 400000 in
theorem ldexp_w {k j : Nat} (h0 : k ≠ 0) (hk : k * 2 ^ j ≤ 4503599627370496) (w : World) :
    Calls Tryd.prog 87 #[.float .f64 (W (k : Int)), .int .i64 (j : Int)] w fun e w' => e = .returned (.float .f64 (W ((k * 2 ^ j : Nat) : Int))) ∧ w = w' := by
  have hp : 0 < 2 ^ j := Nat.two_pow_pos j
  have hk' : k ≤ k * 2 ^ j := Nat.le_mul_of_pos_right _ hp
  have hkj0 : k * 2 ^ j ≠ 0 := Nat.mul_ne_zero h0 (by omega)
  have hl := log2_le52 _ (show k * 2 ^ j < 9007199254740992 by omega)
  rw [log2_mul _ _ h0] at hl
  have hM := fr_lt k (by omega)
  have hne : FloatKind.f64.format.order (W (k : Int)) 0 = some .gt := by
    rw [show (0 : Nat) = W 0 from by decide +kernel]
    exact (ord_W (by omega) (by decide)).trans (by rw [Option.some.injEq, Int.compare_eq_gt]; omega)
  have e1 : bits BinOp.and IntKind.i64 (wrap64 ((W (k : Int) : Int) / 4503599627370496)) 2047 = (k.log2 : Int) + 1023 := by
    rw [W_nat _ (by omega), R_bits k h0 (by omega), show wrap64 ((((k.log2 + 1023) * 4503599627370496 + fr k : Nat) : Int) / 4503599627370496) = ((k.log2 + 1023 : Nat) : Int) from by unfold wrap64; omega]
    exact and_i64 _ (by omega)
  have e2 : bits BinOp.andNot IntKind.u64 (W (k : Int) : Int) 9218868437227405312 = (fr k : Int) := by
    rw [W_nat _ (by omega), R_bits k h0 (by omega)]; exact andNot_exp _ _ (by omega) hM
  have e3 : bits BinOp.or IntKind.u64 (fr k : Int) (((j : Int) + k.log2 + 1023) * 4503599627370496) = (W ((k * 2 ^ j : Nat) : Int) : Int) := by
    rw [W_nat _ (by omega), R_bits _ hkj0 (by omega), fr_mul _ _ h0 (by omega), log2_mul _ _ h0]
    have := or_exp (k.log2 + j + 1023) _ (by omega) hM
    rw [show ((k.log2 + j + 1023 : Nat) : Int) = (j : Int) + k.log2 + 1023 from by omega] at this
    exact this
  have hmul := mul1 (a := ((k * 2 ^ j : Nat) : Int)) (by omega) (by omega)
  have hW : ((W ((k * 2 ^ j : Nat) : Int) : Int)).toNat = W ((k * 2 ^ j : Nat) : Int) := by simp
  generalize W ((k * 2 ^ j : Nat) : Int) = Y at *
  have q1 := fun w => isInf_w (x := W (k : Int)) (a := (k : Int)) (by omega) (W_isW _) w
  have q2 := fun w => isNaN_w (x := W (k : Int)) (a := (k : Int)) (by omega) (W_isW _) w
  have q3 := fun w => normalize_w (a := (k : Int)) (by omega) (by omega) w
  have Q1 := Lib.hid q1; have Q2 := Lib.hid q2; have Q3 := Lib.hid q3; clear q1 q2 q3
  have hr := fun w => run_float_arith (P := Tryd.prog) w .mul 30 .f64 _ _ _ hmul
  clear hmul hW hkj0 hp hk hk' hM
  go_enter Tryd.func87, Tryd.ntmps87
  go_wp2_with (first | (go_at_call 67; refine (Q1.out _).mono ?_; rintro e w' ⟨rfl, rfl⟩) | (go_at_call 68; refine (Q2.out _).mono ?_; rintro e w' ⟨rfl, rfl⟩) | (go_at_call 99; refine (Q3.out _).mono ?_; rintro e w' ⟨rfl, rfl⟩))
  go_ret
  exact ⟨rfl, rfl⟩
set_option maxHeartbeats 400000 in
theorem Ldexp_w {k j : Nat} (h0 : k ≠ 0) (hk : k * 2 ^ j ≤ 4503599627370496) (w : World) :
    Calls Tryd.prog 72 #[.float .f64 (W (k : Int)), .int .i64 (j : Int)] w fun e w' => e = .returned (.float .f64 (W ((k * 2 ^ j : Nat) : Int))) ∧ w = w' := by
  go_enter Tryd.func72, Tryd.ntmps72
  go_wp2_with (go_at_call 87; refine (ldexp_w h0 hk _).mono ?_; rintro e w' ⟨rfl, rfl⟩)
  go_ret
  exact ⟨rfl, rfl⟩

theorem ord_frW (a b : Nat) (ha : a < 9007199254740992) (hb : b < 9007199254740992) : (FloatKind.f64.format.order (frW a) (frW b) == some .lt) = decide (fr a < fr b) := by
  have hr : ∀ k, k < 9007199254740992 → Ieee.double.read (frW k) = .number false (4503599627370496 + fr k) (-53) := by
    intro k hk
    have hf := fr_lt k hk
    have e1 : frW k % 9223372036854775808 = frW k := by unfold frW; omega
    have e2 : frW k / 9223372036854775808 = 0 := by unfold frW; omega
    have e3 : ¬ frW k < 4503599627370496 := by unfold frW; omega
    have e4 : frW k < 2047 * 4503599627370496 := by unfold frW; omega
    have e5 : frW k % 4503599627370496 = fr k := by unfold frW; omega
    have e6 : frW k / 4503599627370496 = 1022 := by unfold frW; omega
    unfold Ieee.Format.read
    rw [sw_eq, binade_eq, inf_eq, lp_eq]
    dsimp only
    rw [e1, e2, if_neg e3, if_pos e4, e5, e6]
    rfl
  show ((Ieee.double.read (frW a)).order (Ieee.double.read (frW b)) == some .lt) = _
  rw [hr a ha, hr b hb]
  simp only [Ieee.Datum.order, Int.min_self, Int.sub_self, Int.toNat_zero, signed0, sg, Bool.false_eq_true, if_false]
  rw [cmp_lt, decide_eq_decide]; omega
theorem kept_eq (k : Nat) (h0 : k ≠ 0) (h : k < 9007199254740992) : k * 2 ^ (52 - k.log2) = 4503599627370496 + fr k := by
  have := full_lo k h0 h; unfold fr; omega
theorem log2_mono {a b : Nat} (h0 : a ≠ 0) (h : a ≤ b) : a.log2 ≤ b.log2 := by
  rw [Nat.le_log2 (by omega)]; exact Nat.le_trans (Nat.log2_self_le h0) h
theorem mod_step (n r : Nat) (hn : n ≠ 0) (h : n ≤ r) (hr : r < 9007199254740992) :
    (¬ fr r < fr n → n.log2 ≤ r.log2 ∧ n * 2 ^ (r.log2 - n.log2) ≤ r) ∧ (fr r < fr n → n.log2 + 1 ≤ r.log2 ∧ n * 2 ^ (r.log2 - n.log2 - 1) ≤ r) := by
  have hl := log2_mono hn h
  have k1 := kept_eq n hn (by omega)
  have k2 := kept_eq r (by omega) hr
  have hl2 := log2_le52 r hr
  constructor
  · intro hc
    refine ⟨hl, ?_⟩
    have e : n * 2 ^ (52 - n.log2) = n * 2 ^ (r.log2 - n.log2) * 2 ^ (52 - r.log2) := by
      rw [Nat.mul_assoc, ← Nat.pow_add]; congr 2; omega
    have hp : 0 < 2 ^ (52 - r.log2) := Nat.two_pow_pos _
    have : n * 2 ^ (r.log2 - n.log2) * 2 ^ (52 - r.log2) ≤ r * 2 ^ (52 - r.log2) := by omega
    exact Nat.le_of_mul_le_mul_right this hp
  · intro hc
    have hlt : n.log2 + 1 ≤ r.log2 := by
      rcases Nat.lt_or_ge n.log2 r.log2 with h' | h'
      · omega
      · exfalso
        have e : n.log2 = r.log2 := by omega
        rw [e] at k1
        have hp : 0 < 2 ^ (52 - r.log2) := Nat.two_pow_pos _
        have := Nat.mul_le_mul_right (2 ^ (52 - r.log2)) h
        omega
    refine ⟨hlt, ?_⟩
    have h1 := @Nat.lt_log2_self n
    have h2 := Nat.log2_self_le (show r ≠ 0 by omega)
    have e : 2 ^ (n.log2 + 1) * 2 ^ (r.log2 - n.log2 - 1) = 2 ^ r.log2 := by rw [← Nat.pow_add]; congr 1; omega
    have := Nat.mul_le_mul_right (2 ^ (r.log2 - n.log2 - 1)) (Nat.le_of_lt h1)
    omega
/-- the whole number in a float's slot -/
def wNat : Value → Nat
  | .float _ b => (((Ieee.double.read b).toInt .zero).getD 0).toNat
  | _ => 0
theorem wNat_eq {x : Nat} {a : Int} (ha : a.natAbs < 9007199254740992) (hx : IsW x a) : wNat (.float .f64 x) = a.toNat := by
  show (((Ieee.double.read x).toInt .zero).getD 0).toNat = _
  rw [toInt_is (isW_read ha hx)]; rfl

theorem tmod_eq (a : Int) (n : Nat) : a.tmod n = if a < 0 then -((a.natAbs % n : Nat) : Int) else ((a.natAbs % n : Nat) : Int) := by
  by_cases h : a < 0
  · rw [if_pos h]
    obtain ⟨k, rfl⟩ : ∃ k : Nat, a = -(k : Int) := ⟨a.natAbs, by omega⟩
    rw [Int.neg_tmod, Int.natAbs_neg, Int.natAbs_natCast]; rfl
  · rw [if_neg h]
    obtain ⟨k, rfl⟩ : ∃ k : Nat, a = (k : Int) := ⟨a.natAbs, by omega⟩
    rw [Int.natAbs_natCast]; rfl
theorem jarg1 {lp ln j : Nat} (h : ln + 1 ≤ lp) (hl : lp ≤ 52) (hj : j = lp - ln - 1) : wrap64 (wrap64 (lp : Int) - ((ln : Int) + 1)) = (j : Int) := by unfold wrap64; omega
theorem jarg2 {lp ln j : Nat} (h : ln ≤ lp) (hl : lp ≤ 52) (hj : j = lp - ln) : wrap64 ((lp : Int) + 1 - ((ln : Int) + 1)) = (j : Int) := by unfold wrap64; omega
set_option maxRecDepth 100000 in
set_option maxHeartbeats 1000000 in
theorem mod_w {x n : Nat} {a : Int} (hn : n ≠ 0) (hn2 : n ≤ 4503599627370496) (ha : a.natAbs ≤ 4503599627370496) (hx : IsW x a) (w : World) :
    Calls Tryd.prog 54 #[.float .f64 x, .float .f64 (W (n : Int))] w fun e w' => ∃ r, e = .returned (.float .f64 r) ∧ IsW r (a.tmod n) ∧ w = w' := by
  have hy0 : FloatKind.f64.format.order (W (n : Int)) 0 = some .gt := by
    rw [show (0 : Nat) = W 0 from by decide +kernel]
    exact (ord_W (by omega) (by decide)).trans (by rw [Option.some.injEq, Int.compare_eq_gt]; omega)
  have hx0 : (FloatKind.f64.format.order x 0 == some .lt) = decide (a < 0) := by
    rw [show (0 : Nat) = W 0 from by decide +kernel, order_w (by omega) (by decide) hx (W_isW 0), cmp_lt]
  have q1 := fun w => isInf_w (x := x) ha hx w
  have q2 := fun w => isNaN_w (x := x) ha hx w
  have q3 := fun w => isNaN_w (x := W (n : Int)) (a := (n : Int)) (by omega) (W_isW _) w
  have q4 := fun w => abs_w (x := W (n : Int)) (a := (n : Int)) (by omega) (W_isW _) w
  rw [show (((n : Int).natAbs : Nat) : Int) = (n : Int) from by omega] at q4
  have q5 := fun w => Frexp_w hn hn2 w
  have Q1 := Lib.hid q1; have Q2 := Lib.hid q2; have Q3 := Lib.hid q3; have Q4 := Lib.hid q4; have Q5 := Lib.hid q5; clear q1 q2 q3 q4 q5
  have Hx := Lib.hid hx; have Ha := Lib.hid ha; have Hn2 := Lib.hid hn2; clear hx ha hn2
  have HL := Lib.hid (log2_le52 n (by have := Hn2.out; omega))
  go_enter Tryd.func54, Tryd.ntmps54
  go_wp2_with fail
  refine (Q1.out _).mono ?_; rintro e w' ⟨rfl, rfl⟩
  go_wp2_with fail
  refine (Q2.out _).mono ?_; rintro e w' ⟨rfl, rfl⟩
  go_wp2_with fail
  refine (Q3.out _).mono ?_; rintro e w' ⟨rfl, rfl⟩
  go_wp2_with fail
  refine (Q4.out _).mono ?_; rintro e w' ⟨rfl, rfl⟩
  go_wp2_with fail
  refine (Q5.out _).mono ?_; rintro e w' ⟨rfl, rfl⟩
  by_cases hneg : a < 0
  all_goals
    have HN := Lib.hid (neg_w (a := a) (by have := Ha.out; omega) Hx.out)
    go_wp2_with fail
    go_loop [7, 8, 9] (fun r _ _ => ∃ rb p : Nat, r = .float .f64 rb ∧ Hid (IsW rb (p : Int)) ∧ p ≤ 4503599627370496 ∧ Hid (p % n = a.natAbs % n)) (fun r _ _ => wNat r)
    case atStart => first | exact ⟨_, a.natAbs, rfl, Lib.hid (by have := HN.out; rwa [show -a = (a.natAbs : Int) from by omega] at this), Ha.out, Lib.hid rfl⟩ | exact ⟨_, a.natAbs, rfl, Lib.hid (by have := Hx.out; rwa [show a = (a.natAbs : Int) from by omega] at this), Ha.out, Lib.hid rfl⟩
    case round =>
      obtain ⟨rb, p, rfl, HR, hp, HM⟩ := hrel
      have hcmp : (FloatKind.f64.format.order rb (W (n : Int)) == some .gt || FloatKind.f64.format.order rb (W (n : Int)) == some .eq) = decide (n ≤ p) := by
        rw [order_w (a := (p : Int)) (by omega) (by have := Hn2.out; omega) HR.out (W_isW _), cmp_ge, decide_eq_decide]; omega
      have HW := Lib.hid (wNat_eq (a := (p : Int)) (by omega) HR.out)
      by_cases hlt : n ≤ p
      · have hst := mod_step n p hn hlt (by omega)
        have HL2 := Lib.hid (log2_le52 p (by omega))
        obtain rfl : rb = W (p : Int) := by rcases HR.out with h | ⟨h, _⟩; exact h; omega
        have q6 := fun w => Frexp_w (k := p) (by omega) hp w
        have Q6 := Lib.hid q6; clear q6
        have hord := ord_frW p n (by omega) (by have := Hn2.out; omega)
        by_cases hc : fr p < fr n
        · have HS := Lib.hid (hst.2 hc); clear hst
          obtain ⟨j, hj⟩ : ∃ j, j = p.log2 - n.log2 - 1 := ⟨_, rfl⟩
          have hle : n * 2 ^ j ≤ p := by have := HS.out.2; rwa [← hj] at this
          have hpos : 0 < n * 2 ^ j := Nat.mul_pos (by omega) (Nat.two_pow_pos j)
          obtain ⟨q, hq⟩ : ∃ q, q = n * 2 ^ j := ⟨_, rfl⟩
          have q7 := fun w => Ldexp_w (k := n) (j := j) hn (by omega) w
          have hmod : (p - n * 2 ^ j) % n = p % n := by
            conv => rhs; rw [show p = p - n * 2 ^ j + n * 2 ^ j from by omega]
            rw [Nat.add_mul_mod_self_left]
          rw [← hq] at hle hpos q7 hmod; clear hq
          obtain ⟨r, hr, hw⟩ := sub_w (a := (p : Int)) (b := (q : Int)) (by omega) (by omega) (W_isW _) (W_isW _) (by omega)
          have hs := fun w => run_float_arith (P := Tryd.prog) w .sub 30 .f64 _ _ _ hr
          have HW2 := Lib.hid (wNat_eq (by omega) hw)
          have HM2 := Lib.hid (hmod.trans HM.out)
          have HWW := Lib.hid (show IsW r ((p - q : Nat) : Int) by rwa [show ((p - q : Nat) : Int) = (p : Int) - (q : Int) from by omega])
          have hless : (p : Int) - (q : Int) < p := by omega
          have Q7 := Lib.hid q7; clear q7 hr hw hmod
          have HL3 := Lib.hid hle; have HJ := Lib.hid hj; have HLS := Lib.hid hless; clear hle hpos hj hless
          go_wp2_with fail
          refine (Q6.out _).mono ?_; rintro e w' ⟨rfl, rfl⟩
          go_wp2_with fail
          rw [show (wrap64 (wrap64 (p.log2 : Int) - ((n.log2 : Int) + 1))) = (j : Int) from jarg1 HS.out.1 HL2.out HJ.out]
          refine (Q7.out _).mono ?_; rintro e w' ⟨rfl, rfl⟩
          go_wp2_with fail
          go_round
          case rel => exact ⟨r, p - q, rfl, HWW, by omega, HM2⟩
          case measure => rw [HW.out, HW2.out]; have := HLS.out; have := HL3.out; omega
        · have HS := Lib.hid (hst.1 hc); clear hst
          obtain ⟨j, hj⟩ : ∃ j, j = p.log2 - n.log2 := ⟨_, rfl⟩
          have hle : n * 2 ^ j ≤ p := by have := HS.out.2; rwa [← hj] at this
          have hpos : 0 < n * 2 ^ j := Nat.mul_pos (by omega) (Nat.two_pow_pos j)
          obtain ⟨q, hq⟩ : ∃ q, q = n * 2 ^ j := ⟨_, rfl⟩
          have q7 := fun w => Ldexp_w (k := n) (j := j) hn (by omega) w
          have hmod : (p - n * 2 ^ j) % n = p % n := by
            conv => rhs; rw [show p = p - n * 2 ^ j + n * 2 ^ j from by omega]
            rw [Nat.add_mul_mod_self_left]
          rw [← hq] at hle hpos q7 hmod; clear hq
          obtain ⟨r, hr, hw⟩ := sub_w (a := (p : Int)) (b := (q : Int)) (by omega) (by omega) (W_isW _) (W_isW _) (by omega)
          have hs := fun w => run_float_arith (P := Tryd.prog) w .sub 30 .f64 _ _ _ hr
          have HW2 := Lib.hid (wNat_eq (by omega) hw)
          have HM2 := Lib.hid (hmod.trans HM.out)
          have HWW := Lib.hid (show IsW r ((p - q : Nat) : Int) by rwa [show ((p - q : Nat) : Int) = (p : Int) - (q : Int) from by omega])
          have hless : (p : Int) - (q : Int) < p := by omega
          have Q7 := Lib.hid q7; clear q7 hr hw hmod
          have HL3 := Lib.hid hle; have HJ := Lib.hid hj; have HLS := Lib.hid hless; clear hle hpos hj hless
          go_wp2_with fail
          refine (Q6.out _).mono ?_; rintro e w' ⟨rfl, rfl⟩
          go_wp2_with fail
          rw [show (wrap64 ((p.log2 : Int) + 1 - ((n.log2 : Int) + 1))) = (j : Int) from jarg2 HS.out.1 HL2.out HJ.out]
          refine (Q7.out _).mono ?_; rintro e w' ⟨rfl, rfl⟩
          go_wp2_with fail
          go_round
          case rel => exact ⟨r, p - q, rfl, HWW, by omega, HM2⟩
          case measure => rw [HW.out, HW2.out]; have := HLS.out; have := HL3.out; omega
      · have HE := Lib.hid (show p % n = p from Nat.mod_eq_of_lt (by omega))
        have HN2 := Lib.hid (neg_w (a := (p : Int)) (by omega) HR.out)
        have HT := Lib.hid (tmod_eq a n)
        go_wp2_with fail
        go_ret
        refine ⟨_, rfl, ?_, rfl⟩
        rw [HT.out, ← HM.out, HE.out]
        first | (rw [if_pos hneg]; exact HN2.out) | (rw [if_neg (by omega)]; exact HR.out)
set_option maxHeartbeats 400000 in
theorem Mod_w {x n : Nat} {a : Int} (hn : n ≠ 0) (hn2 : n ≤ 4503599627370496) (ha : a.natAbs ≤ 4503599627370496) (hx : IsW x a) (w : World) :
    Calls Tryd.prog 42 #[.float .f64 x, .float .f64 (W (n : Int))] w fun e w' => ∃ r, e = .returned (.float .f64 r) ∧ IsW r (a.tmod n) ∧ w = w' := by
  have q := fun w => mod_w hn hn2 ha hx w
  have Q := Lib.hid q; clear q hn hn2 ha hx
  go_enter Tryd.func42, Tryd.ntmps42
  go_wp2_with (go_at_call 54; refine (Q.out _).mono ?_; rintro e w' ⟨r, rfl, hr, rfl⟩)
  go_ret
  exact ⟨_, rfl, hr, rfl⟩
end Go.Proofs.YtipcjffbjkpmbaaDoor
