/- Texts joined: Rp Math Gau Gauq Ref Refb Refc Keep Dig. -/
import Derived.Test.YtgddkgbidhhheaaDoorKoad
import Derived.Test.YtgddkgbidhhheaaDoorRows
import Derived.WalkKit
import Derived.ProofKit
import Derived.WalkLawsBesides
import Derived.Laws.Externs
import Derived.Lib.Hide
import Derived.Deep.QuietTactic
import Derived.BigQuiet
import Derived.Laws.ResultCell
import Derived.Lib.SmallJoins
import Derived.ChangeAlike
import Derived.Deep.RegionWith
import Derived.IntWalk
import Derived.Deep.RegionHeld3
import Derived.Laws.BytesString
import Derived.Lib.ItoaLen
/- What the reference reads as a number, on lists of bytes. No program in sight. -/
namespace Go.Proofs.YtgddkgbidhhheaaDoor
namespace Flo
open Go.Lib
def digB (b : UInt8) : Bool := decide (48 ≤ b.toNat) && decide (b.toNat ≤ 57)
def capStep (n : Nat) (b : UInt8) : Nat := min (10 * n + (b.toNat - 48)) 16777217
def capV (ds : List UInt8) : Nat := ds.foldl capStep 0
def offD (l : List UInt8) : Nat := if l.head? = some 45 then 1 else 0
def runD (l : List UInt8) : List UInt8 := (l.drop (offD l)).takeWhile digB
/-- a whole number at the front of a text, and how many bytes it has -/
def wholeL (l : List UInt8) : Int × Nat :=
  if runD l = [] then (0, 0) else (if offD l = 1 then -(capV (runD l) : Int) else (capV (runD l) : Int), offD l + (runD l).length)
theorem capV_snoc (ds : List UInt8) (b : UInt8) : capV (ds ++ [b]) = capStep (capV ds) b := by
  unfold capV; rw [List.foldl_append]; rfl
theorem capV_le (ds : List UInt8) : capV ds ≤ 16777217 := by
  unfold capV
  suffices h : ∀ (ds : List UInt8) (n : Nat), n ≤ 16777217 → ds.foldl capStep n ≤ 16777217 from h ds 0 (by omega)
  intro ds
  induction ds with
  | nil => intro n h; exact h
  | cons b r ih => intro n h; exact ih _ (Nat.min_le_right _ _)
theorem tw_some (p : UInt8 → Bool) : ∀ (m : List UInt8) (j : Nat), j < (m.takeWhile p).length → ∃ b, m[j]? = some b ∧ p b = true ∧ (m.takeWhile p)[j]? = some b
  | [], j, h => by simp at h
  | c :: r, j, h => by
    rw [List.takeWhile_cons] at h ⊢
    cases hc : p c with
    | false => rw [hc] at h; simp at h
    | true =>
      rw [hc] at h
      simp only [if_true] at h ⊢
      cases j with
      | zero => exact ⟨c, rfl, hc, rfl⟩
      | succ j => simpa using tw_some p r j (by simpa using h)
theorem tw_stop (p : UInt8 → Bool) : ∀ (m : List UInt8) (b : UInt8), m[(m.takeWhile p).length]? = some b → p b = false
  | [], b, h => by simp at h
  | c :: r, b, h => by
    rw [List.takeWhile_cons] at h
    cases hc : p c with
    | false => rw [hc] at h; simp at h; rw [← h]; exact hc
    | true => rw [hc] at h; simp at h; exact tw_stop p r b h
theorem tw_len (p : UInt8 → Bool) (m : List UInt8) : (m.takeWhile p).length ≤ m.length := by
  induction m with
  | nil => simp
  | cons c r ih => rw [List.takeWhile_cons]; split <;> simp; omega
theorem tw_app (p : UInt8 → Bool) (t : List UInt8) (ht : ∀ b, t.head? = some b → p b = false) : ∀ (m : List UInt8), (∀ b ∈ m, p b = true) → (m ++ t).takeWhile p = m
  | [], _ => by
    cases t with
    | nil => rfl
    | cons b r => rw [List.nil_append, List.takeWhile_cons, ht b rfl]; rfl
  | c :: r, h => by
    rw [List.cons_append, List.takeWhile_cons, h c (by simp)]
    simp only [if_true]
    rw [tw_app p t ht r (fun b hb => h b (by simp [hb]))]
theorem dec_dig (u : Nat) : ∀ b ∈ decDigits u, digB b = true := fun b hb => by
  have := dec_mem u b hb
  unfold digB; simp; exact this
theorem capV_dec : ∀ (u : Nat), u ≤ 16777216 → capV (decDigits u) = u := by
  intro u
  induction u using Nat.strongRecOn with
  | _ u ih =>
    intro hu
    rw [decDigits]
    split
    · have : (UInt8.ofNat (48 + u)).toNat = 48 + u := by simp [UInt8.toNat_ofNat']; omega
      show min (10 * 0 + ((UInt8.ofNat (48 + u)).toNat - 48)) 16777217 = u
      rw [this]; omega
    · have : (UInt8.ofNat (48 + u % 10)).toNat = 48 + u % 10 := by simp [UInt8.toNat_ofNat']; omega
      rw [capV_snoc, ih (u / 10) (by omega) (by omega)]
      unfold capStep
      rw [this]; omega
/-- the number at the front of a text that begins with a number's text -/
theorem whole_itoa {x : Int} (hx : -16777216 ≤ x ∧ x ≤ 16777216) (t : List UInt8) (ht : ∀ b, t.head? = some b → digB b = false) :
    wholeL (itoa x ++ t) = (x, (itoa x).length) := by
  unfold itoa
  by_cases hn : x < 0
  · rw [if_pos hn]
    have ho : offD (45 :: decDigits x.natAbs ++ t) = 1 := rfl
    have hr : runD (45 :: decDigits x.natAbs ++ t) = decDigits x.natAbs := by
      unfold runD; rw [ho]; exact tw_app _ _ ht _ (dec_dig _)
    unfold wholeL
    rw [hr, ho, if_neg (dec_ne _), if_pos rfl, capV_dec _ (by omega)]
    simp only [List.length_cons]
    refine Prod.ext ?_ ?_
    · show -(x.natAbs : Int) = x; omega
    · show 1 + (decDigits x.natAbs).length = (decDigits x.natAbs).length + 1; omega
  · rw [if_neg hn]
    obtain ⟨c, r, hcr⟩ : ∃ c r, decDigits x.toNat = c :: r := by
      cases hd : decDigits x.toNat with
      | nil => exact absurd hd (dec_ne _)
      | cons c r => exact ⟨c, r, rfl⟩
    have ho : offD (decDigits x.toNat ++ t) = 0 := by
      have := dec_mem x.toNat c (by rw [hcr]; simp)
      unfold offD
      rw [hcr]
      refine if_neg fun h => ?_
      have e : c = 45 := Option.some.inj h
      rw [e] at this; exact absurd this (by decide)
    have hr : runD (decDigits x.toNat ++ t) = decDigits x.toNat := by
      unfold runD; rw [ho]; exact tw_app _ _ ht _ (dec_dig _)
    unfold wholeL
    rw [hr, ho, if_neg (dec_ne _), if_neg (by decide), capV_dec _ (by omega)]
    refine Prod.ext ?_ ?_
    · show (x.toNat : Int) = x; omega
    · show 0 + (decDigits x.toNat).length = (decDigits x.toNat).length; omega
/-- the two parts that the reference takes a text for -/
def refHalves (l : List UInt8) : Int × Int :=
  if l.drop (wholeL l).2 = [105] then (0, (wholeL l).1)
  else if l.drop (wholeL l).2 = [] then ((wholeL l).1, 0)
  else ((wholeL l).1, (wholeL (if (l.drop (wholeL l).2).head? = some 43 then (l.drop (wholeL l).2).drop 1 else l.drop (wholeL l).2)).1)
/-- what the reference reads -/
def refParse (l : List UInt8) : Option (Int × Int) :=
  if (wholeL l).2 = 0 then none
  else if okR (refHalves l).1 (refHalves l).2 = true ∧ textL (refHalves l).1 (refHalves l).2 = l then some (refHalves l) else none
theorem refHalves_text {x y : Int} (h : okR x y = true) : (wholeL (textL x y)).2 ≠ 0 ∧ refHalves (textL x y) = (x, y) := by
  have hr := okR_iff.1 h
  have hnl : ∀ b, ([] : List UInt8).head? = some b → digB b = false := fun b hb => by cases hb
  have hi : ∀ b, ([105] : List UInt8).head? = some b → digB b = false := fun b hb => by cases hb; rfl
  have lx : (itoa x).length ≠ 0 := fun e => itoa_ne x (List.eq_nil_of_length_eq_zero e)
  have ly : (itoa y).length ≠ 0 := fun e => itoa_ne y (List.eq_nil_of_length_eq_zero e)
  by_cases hy : y = 0
  · have e : textL x y = itoa x ++ [] := by unfold textL; rw [if_pos hy, List.append_nil]
    have w := whole_itoa hr.1 [] hnl
    rw [e]
    refine ⟨by rw [w]; exact lx, ?_⟩
    unfold refHalves
    rw [w]
    have d : (itoa x ++ []).drop (itoa x).length = [] := by simp
    simp only [d]
    rw [if_neg (by decide), if_pos trivial, hy]
  · by_cases hx : x = 0
    · have e : textL x y = itoa y ++ [105] := by unfold textL; rw [if_neg hy, if_pos hx]
      have w := whole_itoa hr.2 [105] hi
      rw [e]
      refine ⟨by rw [w]; exact ly, ?_⟩
      unfold refHalves
      rw [w]
      have d : (itoa y ++ [105]).drop (itoa y).length = [105] := by simp
      simp only [d]
      rw [if_pos trivial, hx]
    · by_cases hp : 0 < y
      · have e : textL x y = itoa x ++ (43 :: (itoa y ++ [105])) := by unfold textL; rw [if_neg hy, if_neg hx, if_pos hp]; simp
        have w := whole_itoa hr.1 (43 :: (itoa y ++ [105])) (fun b hb => by cases hb; rfl)
        have w2 := whole_itoa hr.2 [105] hi
        rw [e]
        refine ⟨by rw [w]; exact lx, ?_⟩
        unfold refHalves
        rw [w]
        have d : (itoa x ++ (43 :: (itoa y ++ [105]))).drop (itoa x).length = 43 :: (itoa y ++ [105]) := by simp
        simp only [d]
        rw [if_neg (by simp), if_neg (by simp)]
        show (x, (wholeL (if (43 :: (itoa y ++ [105])).head? = some 43 then itoa y ++ [105] else _)).1) = (x, y)
        rw [if_pos List.head?_cons, w2]
      · obtain ⟨r, hrr, hd⟩ := itoa_neg_head (x := y) (by omega)
        have e : textL x y = itoa x ++ (itoa y ++ [105]) := by unfold textL; rw [if_neg hy, if_neg hx, if_neg hp]; simp
        have w := whole_itoa hr.1 (itoa y ++ [105]) (fun b hb => by rw [hrr] at hb; cases hb; rfl)
        have w2 := whole_itoa hr.2 [105] hi
        rw [e]
        refine ⟨by rw [w]; exact lx, ?_⟩
        unfold refHalves
        rw [w]
        have d : (itoa x ++ (itoa y ++ [105])).drop (itoa x).length = itoa y ++ [105] := by simp
        simp only [d]
        rw [if_neg (by rw [hrr]; simp), if_neg (by simp), if_neg (by rw [hrr]; simp)]
        rw [w2]
theorem refParse_text {x y : Int} (h : okR x y = true) : refParse (textL x y) = some (x, y) := by
  obtain ⟨h1, h2⟩ := refHalves_text h
  unfold refParse
  rw [if_neg h1, h2]
  exact if_pos ⟨h, rfl⟩
theorem refParse_some {l : List UInt8} {x y : Int} (h : refParse l = some (x, y)) : okR x y = true ∧ textL x y = l := by
  unfold refParse at h
  split at h
  · cases h
  · split at h
    · rename_i hc; have := Option.some.inj h; rw [this] at hc; exact hc
    · cases h
end Flo
end Go.Proofs.YtgddkgbidhhheaaDoor
/- What math.Abs, IsInf, IsNaN, Frexp, Ldexp, Mod, Trunc and Signbit answer at words of whole numbers. -/
namespace Go.Proofs.YtgddkgbidhhheaaDoor
open Go.RowKit Flo
@[go_sem] theorem run_bits (b : Nat) (w : World) : (callFunc 42 #[.float .f64 b]).run Tryd.prog w = .ok (.value (.int .u64 b)) w := by
  rw [run_callFunc_extern Tryd.func42 (e := Extern.MathFloatBits.float64bits) (by kernel_rfl) (by kernel_rfl) (by kernel_rfl) (by kernel_rfl)]; rfl
@[go_sem] theorem run_frombits (n : Int) (w : World) : (callFunc 91 #[.int .u64 n]).run Tryd.prog w = .ok (.value (.float .f64 n.toNat)) w := by
  rw [run_callFunc_extern Tryd.func91 (e := Extern.MathFloatBits.float64frombits) (by kernel_rfl) (by kernel_rfl) (by kernel_rfl) (by kernel_rfl)]; rfl
def truncRun (b : Nat) (d : Ieee.Datum) : Sem Value := match d with
    | .nan s t =>
      if FloatKind.f64.format.quiet t = t then pure (.float .f64 b) else do
      let kept ← choose (.extern "math.Floor,Ceil,Trunc,RoundToEven.signallingNaN kept" 2)
      pure (.float .f64 (if kept == 1 then b else FloatKind.f64.encode (.nan s (FloatKind.f64.format.quiet t))))
    | d => pure (.float .f64 (FloatKind.f64.encode (d.integral .zero)))
theorem run_trunc (b : Nat) (h : (Ieee.double.read b).isNaN = false) (w : World) : (callFunc 81 #[.float .f64 b]).run Tryd.prog w = .ok (.value (.float .f64 (truncB b))) w := by
  rw [run_callFunc_extern Tryd.func81 (e := Extern.MathFloor.toIntegral "math.archTrunc" .zero) (by kernel_rfl) (by kernel_rfl) (by kernel_rfl) (by kernel_rfl)]
  have e : (Extern.MathFloor.toIntegral "math.archTrunc" .zero #[.float .f64 b]).run Tryd.prog w = .ok (.float .f64 (truncB b)) w := by
    change Sem.run Tryd.prog (truncRun b (Ieee.double.read b)) w = _
    unfold truncB
    cases hd : Ieee.double.read b with
    | nan s t => rw [hd] at h; cases h
    | infinity s => rfl
    | number s m p => rfl
  rw [e]; rfl
@[go_sem] theorem unary_neg_float (k : FloatKind) (b : Nat) : Op.unary .neg (.float k b) = pure (.float k (Op.negFloat k b)) := rfl
theorem ret_bool {a b : Bool} (h : a = b) : Ending.returned (.bool a) = .returned (.bool b) := by rw [h]
set_option maxHeartbeats 400000 in
theorem sig_any (b : Nat) (hb : b < 18446744073709551616) (w : World) :
    Calls Tryd.prog 75 #[.float .f64 b] w fun e w' => e = .returned (.bool (decide (9223372036854775808 ≤ b))) ∧ w = w' := by
  go_enter Tryd.func75, Tryd.ntmps75
  go_wp2
  go_ret
  exact ⟨ret_bool (by rw [decide_eq_decide]; unfold wrap64; omega), rfl⟩
set_option maxHeartbeats 400000 in
theorem trunc_any (b : Nat) (w : World) (h : (Ieee.double.read b).isNaN = false) :
    Calls Tryd.prog 74 #[.float .f64 b] w fun e w' => e = .returned (.float .f64 (truncB b)) ∧ w = w' := by
  have hr := run_trunc b h
  go_enter Tryd.func74, Tryd.ntmps74
  go_wp2
  go_ret
  exact ⟨rfl, rfl⟩
end Go.Proofs.YtgddkgbidhhheaaDoor
/- What the functions of the package gauss answer. -/
namespace Go.Proofs.YtgddkgbidhhheaaDoor
open Go.RowKit Flo
set_option maxHeartbeats 400000 in
theorem plain_any (b : Nat) (hb : b < 18446744073709551616) (w : World) :
    Calls Tryd.prog 71 #[.float .f64 b] w fun e w' => e = .returned (.bool (numOf b).isSome) ∧ w = w' := by
  have HP := Lib.hid (plain_cases b hb)
  by_cases h1 : geB b = true
  · have ht := trunc_ok h1
    have q1 := fun w => trunc_any b w ht
    have q2 := fun w => sig_any b hb w
    have Q1 := Lib.hid q1; have Q2 := Lib.hid q2; clear q1 q2 ht
    by_cases h2 : leB b = true
    · cases h3 : wholeB b
      · rw [h1, h2, h3] at HP
        unfold geB NM at h1; unfold leB PM at h2; unfold wholeB at h3
        go_enter Tryd.func71, Tryd.ntmps71
        go_wp2_with (first | (go_at_call 74; refine (Q1.out _).mono ?_; rintro e w' ⟨rfl, rfl⟩) | (go_at_call 75; refine (Q2.out _).mono ?_; rintro e w' ⟨rfl, rfl⟩))
        go_ret
        exact ⟨ret_bool (by rw [HP.out]; rfl), rfl⟩
      · cases h4 : zeroB b
        · rw [h1, h2, h3, h4] at HP
          unfold geB NM at h1; unfold leB PM at h2; unfold wholeB at h3; unfold zeroB at h4
          have h4 : (FloatKind.f64.format.order b 0 != some Ordering.eq) = true := by show (!(FloatKind.f64.format.order b 0 == some Ordering.eq)) = _; rw [h4]; rfl
          go_enter Tryd.func71, Tryd.ntmps71
          go_wp2_with (first | (go_at_call 74; refine (Q1.out _).mono ?_; rintro e w' ⟨rfl, rfl⟩) | (go_at_call 75; refine (Q2.out _).mono ?_; rintro e w' ⟨rfl, rfl⟩))
          go_ret
          exact ⟨ret_bool (by rw [HP.out]; rfl), rfl⟩
        · rw [h1, h2, h3, h4] at HP
          unfold geB NM at h1; unfold leB PM at h2; unfold wholeB at h3; unfold zeroB at h4
          have h4 : (FloatKind.f64.format.order b 0 != some Ordering.eq) = false := by show (!(FloatKind.f64.format.order b 0 == some Ordering.eq)) = _; rw [h4]; rfl
          go_enter Tryd.func71, Tryd.ntmps71
          go_wp2_with (first | (go_at_call 74; refine (Q1.out _).mono ?_; rintro e w' ⟨rfl, rfl⟩) | (go_at_call 75; refine (Q2.out _).mono ?_; rintro e w' ⟨rfl, rfl⟩))
          all_goals go_ret
          all_goals exact ⟨ret_bool (by rw [HP.out]; simp), rfl⟩
    · have h2 : leB b = false := by simpa using h2
      rw [h1, h2] at HP
      unfold geB NM at h1; unfold leB PM at h2
      go_enter Tryd.func71, Tryd.ntmps71
      go_wp2_with fail
      go_ret
      exact ⟨ret_bool (by rw [HP.out]; rfl), rfl⟩
  · have h1 : geB b = false := by simpa using h1
    rw [h1] at HP
    unfold geB NM at h1
    go_enter Tryd.func71, Tryd.ntmps71
    go_wp2_with fail
    go_ret
    exact ⟨ret_bool (by rw [HP.out]; rfl), rfl⟩
set_option maxHeartbeats 400000 in
theorem valid_any (a b : Nat) (ha : a < 18446744073709551616) (hb : b < 18446744073709551616) (w : World) :
    Calls Tryd.prog 67 #[.complex .f64 a b] w fun e w' => e = .returned (.bool (numC a b).isSome) ∧ w = w' := by
  have q1 := fun w => plain_any a ha w
  have q2 := fun w => plain_any b hb w
  have Q1 := Lib.hid q1; have Q2 := Lib.hid q2; clear q1 q2 ha hb
  have HC := Lib.hid (show (numC a b).isSome = ((numOf a).isSome && (numOf b).isSome) by unfold numC; cases numOf a <;> cases numOf b <;> rfl)
  cases h1 : (numOf a).isSome
  · rw [h1] at HC Q1
    go_enter Tryd.func67, Tryd.ntmps67
    go_wp2_with fail
    refine (Q1.out _).mono ?_; rintro e w' ⟨rfl, rfl⟩
    go_wp2_with fail
    go_ret
    exact ⟨ret_bool (by rw [HC.out]; rfl), rfl⟩
  · rw [h1] at HC Q1
    go_enter Tryd.func67, Tryd.ntmps67
    go_wp2_with fail
    refine (Q1.out _).mono ?_; rintro e w' ⟨rfl, rfl⟩
    go_wp2_with fail
    refine (Q2.out _).mono ?_; rintro e w' ⟨rfl, rfl⟩
    go_wp2_with fail
    go_ret
    exact ⟨ret_bool (by rw [HC.out]; rfl), rfl⟩
theorem ret2 {a b : Value} (h : a = b) : Ending.returned a = .returned b := by rw [h]
/-- Parts -/
def prt (p : Option (Int × Int)) : Value := match p with
  | some (x, y) => .tuple #[.int .i64 x, .int .i64 y, .int .i64 0]
  | none => .tuple #[.int .i64 0, .int .i64 0, .int .i64 3]
theorem floatToInt_W {x : Int} (h : -16777216 ≤ x ∧ x ≤ 16777216) : floatToIntVal .f64 (W x) .i64 = some x := by
  unfold floatToIntVal
  rw [show FloatKind.f64.decode (W x) = Ieee.double.read (W x) from rfl, toInt_is (isW_read (by omega) (W_isW x))]
  have hlo : IntKind.i64.min = -9223372036854775808 := by decide
  have hhi : IntKind.i64.max = 9223372036854775807 := by decide
  simp only [hlo, hhi]
  rw [if_pos (by omega)]
set_option maxHeartbeats 400000 in
theorem parts_any (a b : Nat) (ha : a < 18446744073709551616) (hb : b < 18446744073709551616) (w : World) :
    Calls Tryd.prog 56 #[.complex .f64 a b] w fun e w' => e = .returned (prt (numC a b)) ∧ w = w' := by
  have q := fun w => valid_any a b ha hb w
  have Q := Lib.hid q; clear q ha hb
  cases h : numC a b with
  | none =>
    rw [h] at Q
    go_enter Tryd.func56, Tryd.ntmps56
    go_wp2_with fail
    refine (Q.out _).mono ?_; rintro e w' ⟨rfl, rfl⟩
    go_wp2_with fail
    go_ret3
    exact ⟨rfl, rfl⟩
  | some p =>
    rw [h] at Q
    obtain ⟨x, y⟩ := p
    obtain ⟨h1, h2⟩ := numC_some h
    have g1 := numOf_rng h1; have g2 := numOf_rng h2
    obtain rfl := numOf_eq h1; obtain rfl := numOf_eq h2
    have r1 := fun w => run_convert_float_int (P := Tryd.prog) w 86 3 .f64 .i64 (W x) x (by kernel_rfl) Tryd.underlying3 (floatToInt_W g1)
    have r2 := fun w => run_convert_float_int (P := Tryd.prog) w 86 3 .f64 .i64 (W y) y (by kernel_rfl) Tryd.underlying3 (floatToInt_W g2)
    clear h h1 h2
    go_enter Tryd.func56, Tryd.ntmps56
    go_wp2_with fail
    refine (Q.out _).mono ?_; rintro e w' ⟨rfl, rfl⟩
    go_wp2_with fail
    go_ret3
    exact ⟨rfl, rfl⟩
end Go.Proofs.YtgddkgbidhhheaaDoor
/- What Quo, Conj and Less of the package gauss answer. -/
namespace Go.Proofs.YtgddkgbidhhheaaDoor
open Go.RowKit Flo
theorem ord_W_eq {a b : Int} (ha : -16777216 ≤ a ∧ a ≤ 16777216) (hb : -16777216 ≤ b ∧ b ≤ 16777216) : (FloatKind.f64.format.order (W a) (W b) == some Ordering.eq) = decide (a = b) := by
  rw [show FloatKind.f64.format.order (W a) (W b) = _ from ord_W (by omega) (by omega), cmp_eq]
end Go.Proofs.YtgddkgbidhhheaaDoor
/- What the functions of the reference of layer 1 and the helpers of its statements answer. -/
namespace Go.Proofs.YtgddkgbidhhheaaDoor
open Go.RowKit Flo
theorem W_lt' (n : Int) : W n < 18446744073709551616 := by
  have := floatOfInt_wf .f64 n
  simp [Lit.wf] at this
  exact this
set_option maxHeartbeats 400000 in
theorem refZ_any (x y : Int) (w : World) :
    Calls Tryd.prog 47 #[.agg #[.int .i64 x, .int .i64 y]] w fun e w' => e = .returned (.complex .f64 (W x) (W y)) ∧ Below w.heap.size w w' := by
  go_enter Tryd.func47, Tryd.ntmps47
  go_wp2_with fail
  go_ret
  exact ⟨rfl, (Below.refl _ _).alloc (Nat.le_refl _) _⟩
set_option maxHeartbeats 400000 in
theorem in_any (x y : Int) (w : World) :
    Calls Tryd.prog 61 #[.agg #[.int .i64 x, .int .i64 y]] w fun e w' => e = .returned (.tuple #[.agg #[.int .i64 (bnd x y).1.1, .int .i64 (bnd x y).1.2], .int .i64 (bnd x y).2]) ∧ Below w.heap.size w w' := by
  cases h : okR x y
  · rw [bnd_neg h]
    have hr : ¬ ((-16777216 ≤ x ∧ x ≤ 16777216) ∧ (-16777216 ≤ y ∧ y ≤ 16777216)) := fun h' => by have := okR_iff.2 h'; rw [h] at this; cases this
    have hc : x < -16777216 ∨ 16777216 < x ∨ y < -16777216 ∨ 16777216 < y := by
      by_cases h1 : -16777216 ≤ x <;> by_cases h2 : x ≤ 16777216 <;> by_cases h3 : -16777216 ≤ y <;> by_cases h4 : y ≤ 16777216 <;> first | omega | exact (hr ⟨⟨h1, h2⟩, h3, h4⟩).elim
    clear hr h
    by_cases h1 : x < -16777216
    · go_enter Tryd.func61, Tryd.ntmps61
      go_wp2_with fail
      exact bodyPost_ret (v := .tuple #[.agg #[.int .i64 0, .int .i64 0], .int .i64 50]) (by simp [results, Tryd.results61, go_sem]) rfl ⟨rfl, ((Below.refl _ _).alloc (Nat.le_refl _) _).alloc (by simp) _⟩
    by_cases h2 : 16777216 < x
    · go_enter Tryd.func61, Tryd.ntmps61
      go_wp2_with fail
      exact bodyPost_ret (v := .tuple #[.agg #[.int .i64 0, .int .i64 0], .int .i64 50]) (by simp [results, Tryd.results61, go_sem]) rfl ⟨rfl, ((Below.refl _ _).alloc (Nat.le_refl _) _).alloc (by simp) _⟩
    by_cases h3 : y < -16777216
    · go_enter Tryd.func61, Tryd.ntmps61
      go_wp2_with fail
      exact bodyPost_ret (v := .tuple #[.agg #[.int .i64 0, .int .i64 0], .int .i64 50]) (by simp [results, Tryd.results61, go_sem]) rfl ⟨rfl, ((Below.refl _ _).alloc (Nat.le_refl _) _).alloc (by simp) _⟩
    · have h4 : 16777216 < y := by omega
      clear hc
      go_enter Tryd.func61, Tryd.ntmps61
      go_wp2_with fail
      exact bodyPost_ret (v := .tuple #[.agg #[.int .i64 0, .int .i64 0], .int .i64 50]) (by simp [results, Tryd.results61, go_sem]) rfl ⟨rfl, ((Below.refl _ _).alloc (Nat.le_refl _) _).alloc (by simp) _⟩
  · rw [bnd_pos h]
    obtain ⟨⟨h1, h2⟩, h3, h4⟩ := okR_iff.1 h
    clear h
    go_enter Tryd.func61, Tryd.ntmps61
    go_wp2_with fail
    exact bodyPost_ret (v := .tuple #[.agg #[.int .i64 x, .int .i64 y], .int .i64 0]) (by simp [results, Tryd.results61, go_sem]) rfl ⟨rfl, ((Below.refl _ _).alloc (Nat.le_refl _) _).alloc (by simp) _⟩
end Go.Proofs.YtgddkgbidhhheaaDoor
/- What the functions of the reference of layer 1 and the helpers of its statements answer (2). -/
namespace Go.Proofs.YtgddkgbidhhheaaDoor
open Go.RowKit Flo
end Go.Proofs.YtgddkgbidhhheaaDoor
/- What the helpers of the statements of layer 1 answer. -/
namespace Go.Proofs.YtgddkgbidhhheaaDoor
open Go.RowKit Flo
end Go.Proofs.YtgddkgbidhhheaaDoor
/- Cells that stand while calls lay new memory: what a law's walk carries from world to world. -/
namespace Go.Proofs.YtgddkgbidhhheaaDoor
open Go.RowKit
/-- the listed cells hold the listed values -/
def Cells (X : World) : List (Nat × Nat × Value) → Prop
  | [] => True
  | (b, o, v) :: l => X.cell? ⟨b, o, none⟩ = some v ∧ b < X.heap.size ∧ Cells X l
/-- .. and nothing that lay before W has changed -/
def Keep (W : World) (l : List (Nat × Nat × Value)) (X : World) : Prop := Cells X l ∧ Below W.heap.size W X
theorem cells_below {X Y : World} (hb : Below X.heap.size X Y) : ∀ {l : List (Nat × Nat × Value)}, Cells X l → Cells Y l
  | [], _ => trivial
  | (b, o, _) :: _, ⟨h1, h2, h3⟩ => ⟨(hb.cell (p := ⟨b, o, none⟩) h2).trans h1, Nat.lt_of_lt_of_le h2 hb.size, cells_below hb h3⟩
theorem Keep.below {W X Y : World} {l : List (Nat × Nat × Value)} (hb : Below X.heap.size X Y) (h : Keep W l X) : Keep W l Y :=
  ⟨cells_below hb h.1, h.2.trans (hb.mono h.2.size)⟩
theorem Keep.start (W : World) : Keep W [] W := ⟨trivial, Below.refl _ _⟩
theorem below_alloc (X : World) (o : Obj) : Below X.heap.size X (X.alloc o) := (Below.refl _ _).alloc (Nat.le_refl _) o
theorem below_drew (X : World) : Below X.heap.size X X.drew := (Below.refl _ _).drew
theorem Keep.alloc {W X : World} {l : List (Nat × Nat × Value)} (o : Obj) (h : Keep W l X) : Keep W l (X.alloc o) := h.below (below_alloc X o)
theorem Keep.drew {W X : World} {l : List (Nat × Nat × Value)} (h : Keep W l X) : Keep W l X.drew := h.below (below_drew X)
theorem Keep.drewN {W X : World} {l : List (Nat × Nat × Value)} (n : Nat) (h : Keep W l X) : Keep W l (X.drewN n) := h.below (Go.below_drewN (Below.refl _ _) n)
theorem Keep.alloc2 {W X : World} {l : List (Nat × Nat × Value)} {k : Nat} (a b : Value) (T : TypeId) (hk : X.heap.size = k) (h : Keep W l X) : Keep W ((k, 0, a) :: (k, 1, b) :: l) (X.alloc (.cells #[a, b] T)) := by
  subst hk
  exact ⟨⟨by simp [go_sem], by simp, by simp [go_sem], by simp, (h.alloc _).1⟩, (h.alloc _).2⟩
end Go.Proofs.YtgddkgbidhhheaaDoor
/- The texts of the reference's answer: digits, Text. -/
namespace Go.Proofs.YtgddkgbidhhheaaDoor
open Go.RowKit Flo
theorem one_byte (w : World) (z : Int) :
    (convert 22 9 (.slice (some ⟨w.heap.size, 0, none⟩) 1 1)).run Tryd.prog (w.alloc (.cells #[.int .u8 z] 5)) = .ok (.string ⟨#[UInt8.ofNat z.toNat]⟩) (w.alloc (.cells #[.int .u8 z] 5)) := by
  rw [run_convert_bytes_string _ _ _ 5 _ _ _ Tryd.underlying22 Tryd.underlying5 Tryd.underlying9]
  rw [run_bytesToString _ _ _ _ [z] (by simp [go_sem])]
  rfl
set_option maxHeartbeats 4000000 in
set_option maxRecDepth 1000000 in
theorem digits_nat : ∀ (u : Nat), u ≤ 16777216 → ∀ w : World,
    Calls Tryd.prog 33 #[.int .i64 u] w fun e w' => e = .returned (.string ⟨(Lib.decDigits u).toArray⟩) ∧ Below w.heap.size w w' := by
  intro u
  induction u using Nat.strongRecOn with
  | _ u ih =>
    intro hu w
    have HU := Lib.hid hu
    have IH := Lib.hid ih
    clear ih hu
    by_cases h10 : u < 10
    · go_enter Tryd.func33, Tryd.ntmps33
      have hcv := one_byte w (48 + (u : Int) % 10)
      go_wp2_with fail
      go_ret
      refine ⟨ret2 (congrArg Value.string ?_), below_alloc _ _⟩
      rw [Lib.decDigits_one h10, Nat.mod_eq_of_lt h10]
    · have hcv := one_byte w (48 + (u : Int) % 10)
      obtain ⟨v, hv⟩ : ∃ v, u / 10 = v := ⟨_, rfl⟩
      have hdiv : (u : Int) / 10 = (v : Int) := by omega
      have hvb : v ≤ 1677721 := by have := HU.out; omega
      have hge : (10 : Int) ≤ (u : Int) := by omega
      have hl : (Lib.decDigits v).length ≤ 20 := by rw [Lib.decDigits_length]; exact Lib.nDigits_le20 _ (by omega)
      have HV := Lib.hid hv
      have HT := Lib.hid h10
      clear hv h10
      go_enter Tryd.func33, Tryd.ntmps33
      go_wp2_with fail
      refine (IH.out v (by have := HV.out; have := HT.out; omega) (by omega) _).mono ?_
      rintro e w1 ⟨rfl, hb⟩
      have HB := Lib.hid ((below_alloc w _).trans (hb.mono (below_alloc w _).size)); clear hb
      go_wp2_with fail
      go_ret
      refine ⟨ret2 (congrArg Value.string ?_), HB.out⟩
      rw [show Lib.decDigits u = Lib.decDigits (u / 10) ++ [UInt8.ofNat (48 + u % 10)] by rw [Lib.decDigits, dif_neg HT.out], HV.out]
      rw [show (48 : UInt8) + UInt8.ofNat (u % 10) = UInt8.ofNat (48 + u % 10) by rw [UInt8.ofNat_add]; rfl]
      rw [show (⟨#[UInt8.ofNat (48 + u % 10)]⟩ : ByteArray) = ⟨([UInt8.ofNat (48 + u % 10)] : List UInt8).toArray⟩ from rfl, ba_app]
set_option maxHeartbeats 4000000 in
set_option maxRecDepth 1000000 in
theorem digits_any (n : Int) (h : -16777216 ≤ n ∧ n ≤ 16777216) (w : World) :
    Calls Tryd.prog 33 #[.int .i64 n] w fun e w' => e = .returned (.string ⟨(Lib.itoa n).toArray⟩) ∧ Below w.heap.size w w' := by
  by_cases hn : n < 0
  · obtain ⟨u, rfl⟩ : ∃ u : Nat, n = -(u : Int) := ⟨n.natAbs, by omega⟩
    have hu : u ≤ 16777216 := by omega
    have hu1 : 1 ≤ u := by omega
    have Q := Lib.hid (fun w => digits_nat u hu w)
    have hl : (Lib.decDigits u).length ≤ 20 := by rw [Lib.decDigits_length]; exact Lib.nDigits_le20 _ (by omega)
    have HU := Lib.hid hu1
    clear h
    go_enter Tryd.func33, Tryd.ntmps33
    go_wp2_with fail
    refine (Q.out _).mono ?_
    rintro e w1 ⟨rfl, hb⟩
    have HB := Lib.hid hb; clear hb
    go_wp2_with fail
    go_ret
    refine ⟨ret2 (congrArg Value.string ?_), HB.out⟩
    rw [show Lib.itoa (-(u : Int)) = 45 :: Lib.decDigits u by unfold Lib.itoa; rw [if_pos (by have := HU.out; omega)]; simp]
    rw [show (⟨#[45]⟩ : ByteArray) = ⟨([45] : List UInt8).toArray⟩ from rfl, ba_app]; rfl
  · obtain ⟨u, rfl⟩ : ∃ u : Nat, n = (u : Int) := ⟨n.toNat, by omega⟩
    have q := digits_nat u (by omega) w
    rwa [show Lib.decDigits u = Lib.itoa (u : Int) by unfold Lib.itoa; rw [if_neg (by omega)]; simp] at q
/-- the digits of a number, as a string -/
def digS (n : Int) : ByteArray := ⟨(Lib.itoa n).toArray⟩
theorem digits_S (n : Int) (h : -16777216 ≤ n ∧ n ≤ 16777216) (w : World) :
    Calls Tryd.prog 33 #[.int .i64 n] w fun e w' => e = .returned (.string (digS n)) ∧ Below w.heap.size w w' := digits_any n h w
theorem add_str (a b : ByteArray) (h : a.size + b.size ≤ 100) (w : World) :
    (Op.stringOp .add a b).run Tryd.prog w = .ok (.string (a ++ b)) w := run_string_add_sum (P := Tryd.prog) w a b (by omega)
set_option maxHeartbeats 4000000 in
theorem refText_any {x y : Int} (h : okR x y = true) (w : World) :
    Calls Tryd.prog 20 #[.agg #[.int .i64 x, .int .i64 y]] w fun e w' => e = .returned (.string ⟨(textL x y).toArray⟩) ∧ Below w.heap.size w w' := by
  have hr := okR_iff.1 h
  have l1 := itoa_len hr.1; have l2 := itoa_len hr.2
  have QI := Lib.hid (fun w => digits_any x hr.1 w); have QJ := Lib.hid (fun w => digits_any y hr.2 w)
  have HD := Lib.hid digits_S
  have RX := Lib.hid hr.1; have RY := Lib.hid hr.2
  clear h hr
  by_cases hy : y = 0
  · have hy0 : (y == 0) = true := beq_iff_eq.2 hy
    have HY := Lib.hid hy; clear hy
    go_enter Tryd.func20, Tryd.ntmps20
    go_wp2_with fail
    refine (QI.out _).mono ?_; rintro e w1 ⟨rfl, hb1⟩
    have K1 : Keep w [(w.heap.size, 0, .int .i64 x), (w.heap.size, 1, .int .i64 y)] w1 := Keep.below hb1 (Keep.alloc2 (k := w.heap.size) _ _ 63 (by simp) (Keep.start w))
    clear hb1
    obtain ⟨⟨k0, z0, k1, z1, _⟩, hB⟩ := id K1
    clear hB
    go_wp2_with fail
    go_ret
    refine ⟨ret2 (congrArg Value.string ?_), And.right K1⟩
    unfold textL; rw [if_pos HY.out]
  have hy0 : (y == 0) = false := beq_eq_false_iff_ne.2 hy
  by_cases hx : x = 0
  · have hx0 : (x == 0) = true := beq_iff_eq.2 hx
    have HY := Lib.hid hy; have HX := Lib.hid hx; clear hy hx
    go_enter Tryd.func20, Tryd.ntmps20
    go_wp2_with fail
    refine (QJ.out _).mono ?_; rintro e w1 ⟨rfl, hb1⟩
    have K1 : Keep w [(w.heap.size, 0, .int .i64 x), (w.heap.size, 1, .int .i64 y)] w1 := Keep.below hb1 (Keep.alloc2 (k := w.heap.size) _ _ 63 (by simp) (Keep.start w))
    clear hb1
    obtain ⟨⟨k0, z0, k1, z1, _⟩, hB⟩ := id K1
    clear hB
    go_wp2_with fail
    go_ret
    refine ⟨ret2 (congrArg Value.string ?_), And.right K1⟩
    unfold textL; rw [if_neg HY.out, if_pos HX.out]
    rw [show (⟨#[105]⟩ : ByteArray) = ⟨([105] : List UInt8).toArray⟩ from rfl, ba_app]
  have hx0 : (x == 0) = false := beq_eq_false_iff_ne.2 hx
  by_cases hp : 0 < y
  · have HY := Lib.hid hy; have HX := Lib.hid hx; have HP := Lib.hid hp; clear hy hx
    have m1 : (digS x).size ≤ 21 := l1
    have m2 : (digS y).size ≤ 21 := l2
    have n43 : (⟨#[43]⟩ : ByteArray).size = 1 := rfl
    have n105 : (⟨#[105]⟩ : ByteArray).size = 1 := rfl
    have a1 := fun w => add_str (digS x) ⟨#[43]⟩ (by omega) w
    have a2 := fun w => add_str (digS x ++ ⟨#[43]⟩) (digS y) (by rw [ByteArray.size_append]; omega) w
    have a3 := fun w => add_str (digS x ++ ⟨#[43]⟩ ++ digS y) ⟨#[105]⟩ (by rw [ByteArray.size_append, ByteArray.size_append]; omega) w
    have a4 := fun w => add_str (digS x) (digS y) (by omega) w
    have a5 := fun w => add_str (digS x ++ digS y) ⟨#[105]⟩ (by rw [ByteArray.size_append]; omega) w
    clear l1 l2 m1 m2 n43 n105
    go_enter Tryd.func20, Tryd.ntmps20
    go_wp2_with fail
    have J1 : Keep w [(w.heap.size, 0, .int .i64 x), (w.heap.size, 1, .int .i64 y)] _ := Keep.drew (Keep.alloc2 (k := w.heap.size) _ _ 63 (by simp) (Keep.start w))
    have sx : ∀ X, Keep w [(w.heap.size, 0, .int .i64 x), (w.heap.size, 1, .int .i64 y)] X → (fun w' => w'.cell? ⟨w.heap.size, 0, none⟩ = some (.int .i64 x) ∧ w'.cell? ⟨w.heap.size, 1, none⟩ = some (.int .i64 y) ∧ Keep w [(w.heap.size, 0, .int .i64 x), (w.heap.size, 1, .int .i64 y)] w') X := by
      intro X hX
      obtain ⟨⟨q0, y0, q1, y1, _⟩, hB⟩ := id hX
      exact ⟨q0, q1, hX⟩
    go_region_held3 (fun w' => w'.cell? ⟨w.heap.size, 0, none⟩ = some (.int .i64 x) ∧ w'.cell? ⟨w.heap.size, 1, none⟩ = some (.int .i64 y) ∧ Keep w [(w.heap.size, 0, .int .i64 x), (w.heap.size, 1, .int .i64 y)] w') (first | exact sx _ K1 | exact sx _ J1)
      (first | (go_at_call 33; refine (HD.out _ (by first | exact RX.out | exact RY.out) _).mono ?_; rintro e w1 ⟨rfl, hb1⟩; have K1 : Keep w [(w.heap.size, 0, .int .i64 x), (w.heap.size, 1, .int .i64 y)] w1 := Keep.below hb1 (And.right (And.right (by assumption)))))
    clear J1 sx
    obtain ⟨⟨k0, z0, k1, z1, _⟩, hB⟩ := id K1
    clear hB
    go_wp2_with fail
    go_ret
    refine ⟨ret2 (congrArg Value.string ?_), And.right K1⟩
    unfold textL; rw [if_neg HY.out, if_neg HX.out, if_pos HP.out]; unfold digS
    rw [show (⟨#[43]⟩ : ByteArray) = ⟨([43] : List UInt8).toArray⟩ from rfl, show (⟨#[105]⟩ : ByteArray) = ⟨([105] : List UInt8).toArray⟩ from rfl, ba_app, ba_app, ba_app]
  · have HY := Lib.hid hy; have HX := Lib.hid hx; have HP := Lib.hid hp; clear hy hx
    have m1 : (digS x).size ≤ 21 := l1
    have m2 : (digS y).size ≤ 21 := l2
    have n43 : (⟨#[43]⟩ : ByteArray).size = 1 := rfl
    have n105 : (⟨#[105]⟩ : ByteArray).size = 1 := rfl
    have a1 := fun w => add_str (digS x) ⟨#[43]⟩ (by omega) w
    have a2 := fun w => add_str (digS x ++ ⟨#[43]⟩) (digS y) (by rw [ByteArray.size_append]; omega) w
    have a3 := fun w => add_str (digS x ++ ⟨#[43]⟩ ++ digS y) ⟨#[105]⟩ (by rw [ByteArray.size_append, ByteArray.size_append]; omega) w
    have a4 := fun w => add_str (digS x) (digS y) (by omega) w
    have a5 := fun w => add_str (digS x ++ digS y) ⟨#[105]⟩ (by rw [ByteArray.size_append]; omega) w
    clear l1 l2 m1 m2 n43 n105
    go_enter Tryd.func20, Tryd.ntmps20
    go_wp2_with fail
    have J1 : Keep w [(w.heap.size, 0, .int .i64 x), (w.heap.size, 1, .int .i64 y)] _ := Keep.drew (Keep.alloc2 (k := w.heap.size) _ _ 63 (by simp) (Keep.start w))
    have sx : ∀ X, Keep w [(w.heap.size, 0, .int .i64 x), (w.heap.size, 1, .int .i64 y)] X → (fun w' => w'.cell? ⟨w.heap.size, 0, none⟩ = some (.int .i64 x) ∧ w'.cell? ⟨w.heap.size, 1, none⟩ = some (.int .i64 y) ∧ Keep w [(w.heap.size, 0, .int .i64 x), (w.heap.size, 1, .int .i64 y)] w') X := by
      intro X hX
      obtain ⟨⟨q0, y0, q1, y1, _⟩, hB⟩ := id hX
      exact ⟨q0, q1, hX⟩
    go_region_held3 (fun w' => w'.cell? ⟨w.heap.size, 0, none⟩ = some (.int .i64 x) ∧ w'.cell? ⟨w.heap.size, 1, none⟩ = some (.int .i64 y) ∧ Keep w [(w.heap.size, 0, .int .i64 x), (w.heap.size, 1, .int .i64 y)] w') (first | exact sx _ K1 | exact sx _ J1)
      (first | (go_at_call 33; refine (HD.out _ (by first | exact RX.out | exact RY.out) _).mono ?_; rintro e w1 ⟨rfl, hb1⟩; have K1 : Keep w [(w.heap.size, 0, .int .i64 x), (w.heap.size, 1, .int .i64 y)] w1 := Keep.below hb1 (And.right (And.right (by assumption)))))
    clear J1 sx
    obtain ⟨⟨k0, z0, k1, z1, _⟩, hB⟩ := id K1
    clear hB
    go_wp2_with fail
    go_ret
    refine ⟨ret2 (congrArg Value.string ?_), And.right K1⟩
    unfold textL; rw [if_neg HY.out, if_neg HX.out, if_neg (by have := HP.out; omega)]; unfold digS
    rw [show (⟨#[105]⟩ : ByteArray) = ⟨([105] : List UInt8).toArray⟩ from rfl, ba_app, ba_app]
end Go.Proofs.YtgddkgbidhhheaaDoor
