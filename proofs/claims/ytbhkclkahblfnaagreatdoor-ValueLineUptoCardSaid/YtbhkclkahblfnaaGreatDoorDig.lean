/- The texts of the reference's answer: digits, Text. -/
import Derived.Test.YtbhkclkahblfnaaGreatDoorTx
import Derived.Test.YtbhkclkahblfnaaGreatDoorKeep
import Derived.Laws.BytesString
import Derived.Lib.ItoaLen
namespace Go.Proofs.YtbhkclkahblfnaaGreatDoor
open Go.RowKit Flo
theorem one_byte (w : World) (z : Int) :
    (convert 55 9 (.slice (some ⟨w.heap.size, 0, none⟩) 1 1)).run Tryz.prog (w.alloc (.cells #[.int .u8 z] 5)) = .ok (.string ⟨#[UInt8.ofNat z.toNat]⟩) (w.alloc (.cells #[.int .u8 z] 5)) := by
  rw [run_convert_bytes_string _ _ _ 5 _ _ _ Tryz.underlying55 Tryz.underlying5 Tryz.underlying9]
  rw [run_bytesToString _ _ _ _ [z] (by simp [go_sem])]
  rfl
set_option maxHeartbeats 4000000 in
set_option maxRecDepth 1000000 in
theorem digits_nat : ∀ (u : Nat), u ≤ 16777216 → ∀ w : World,
    Calls Tryz.prog 101 #[.int .i64 u] w fun e w' => e = .returned (.string ⟨(Lib.decDigits u).toArray⟩) ∧ Below w.heap.size w w' := by
  intro u
  induction u using Nat.strongRecOn with
  | _ u ih =>
    intro hu w
    have HU := Lib.hid hu
    have IH := Lib.hid ih
    clear ih hu
    by_cases h10 : u < 10
    · go_enter Tryz.func101, Tryz.ntmps101
      have hcv := one_byte w (48 + (u : Int) % 10)
      go_wp2_with fail
      go_ret
      refine ⟨ret2 (congrArg Value.string ?_), below_alloc _ _⟩
      rw [Lib.decDigits_one h10, Nat.mod_eq_of_lt h10]
    · have hcv := one_byte w (48 + (u : Int) % 10)
      obtain ⟨v, hv⟩ : ∃ v, u / 10 = v := ⟨_, rfl⟩
      have hdiv : (u : Int) / 10 = (v : Int) := by omega
      have hvb : v ≤ 1677721 := by have := HU.out; omega
      have hge : (10 : Int) ≤ (u : Int) := by omega
      have hl : (Lib.decDigits v).length ≤ 20 := by rw [Lib.decDigits_length]; exact Lib.nDigits_le20 _ (by omega)
      have HV := Lib.hid hv
      have HT := Lib.hid h10
      clear hv h10
      go_enter Tryz.func101, Tryz.ntmps101
      go_wp2_with fail
      refine (IH.out v (by have := HV.out; have := HT.out; omega) (by omega) _).mono ?_
      rintro e w1 ⟨rfl, hb⟩
      have HB := Lib.hid ((below_alloc w _).trans (hb.mono (below_alloc w _).size)); clear hb
      go_wp2_with fail
      go_ret
      refine ⟨ret2 (congrArg Value.string ?_), HB.out⟩
      rw [show Lib.decDigits u = Lib.decDigits (u / 10) ++ [UInt8.ofNat (48 + u % 10)] by rw [Lib.decDigits, dif_neg HT.out], HV.out]
      rw [show (48 : UInt8) + UInt8.ofNat (u % 10) = UInt8.ofNat (48 + u % 10) by rw [UInt8.ofNat_add]; rfl]
      rw [show (⟨#[UInt8.ofNat (48 + u % 10)]⟩ : ByteArray) = ⟨([UInt8.ofNat (48 + u % 10)] : List UInt8).toArray⟩ from rfl, ba_app]
set_option maxHeartbeats 4000000 in
set_option maxRecDepth 1000000 in
theorem digits_any (n : Int) (h : -16777216 ≤ n ∧ n ≤ 16777216) (w : World) :
    Calls Tryz.prog 101 #[.int .i64 n] w fun e w' => e = .returned (.string ⟨(Lib.itoa n).toArray⟩) ∧ Below w.heap.size w w' := by
  by_cases hn : n < 0
  · obtain ⟨u, rfl⟩ : ∃ u : Nat, n = -(u : Int) := ⟨n.natAbs, by omega⟩
    have hu : u ≤ 16777216 := by omega
    have hu1 : 1 ≤ u := by omega
    have Q := Lib.hid (fun w => digits_nat u hu w)
    have hl : (Lib.decDigits u).length ≤ 20 := by rw [Lib.decDigits_length]; exact Lib.nDigits_le20 _ (by omega)
    have HU := Lib.hid hu1
    clear h
    go_enter Tryz.func101, Tryz.ntmps101
    go_wp2_with fail
    refine (Q.out _).mono ?_
    rintro e w1 ⟨rfl, hb⟩
    have HB := Lib.hid hb; clear hb
    go_wp2_with fail
    go_ret
    refine ⟨ret2 (congrArg Value.string ?_), HB.out⟩
    rw [show Lib.itoa (-(u : Int)) = 45 :: Lib.decDigits u by unfold Lib.itoa; rw [if_pos (by have := HU.out; omega)]; simp]
    rw [show (⟨#[45]⟩ : ByteArray) = ⟨([45] : List UInt8).toArray⟩ from rfl, ba_app]; rfl
  · obtain ⟨u, rfl⟩ : ∃ u : Nat, n = (u : Int) := ⟨n.toNat, by omega⟩
    have q := digits_nat u (by omega) w
    rwa [show Lib.decDigits u = Lib.itoa (u : Int) by unfold Lib.itoa; rw [if_neg (by omega)]; simp] at q
/-- the digits of a number, as a string -/
def digS (n : Int) : ByteArray := ⟨(Lib.itoa n).toArray⟩
theorem digits_S (n : Int) (h : -16777216 ≤ n ∧ n ≤ 16777216) (w : World) :
    Calls Tryz.prog 101 #[.int .i64 n] w fun e w' => e = .returned (.string (digS n)) ∧ Below w.heap.size w w' := digits_any n h w
theorem add_str (a b : ByteArray) (h : a.size + b.size ≤ 100) (w : World) :
    (Op.stringOp .add a b).run Tryz.prog w = .ok (.string (a ++ b)) w := run_string_add_sum (P := Tryz.prog) w a b (by omega)
set_option maxHeartbeats 4000000 in
theorem refText_any {x y : Int} (h : okR x y = true) (w : World) :
    Calls Tryz.prog 70 #[.agg #[.int .i64 x, .int .i64 y]] w fun e w' => e = .returned (.string ⟨(textL x y).toArray⟩) ∧ Below w.heap.size w w' := by
  have hr := okR_iff.1 h
  have l1 := itoa_len hr.1; have l2 := itoa_len hr.2
  have QI := Lib.hid (fun w => digits_any x hr.1 w); have QJ := Lib.hid (fun w => digits_any y hr.2 w)
  have HD := Lib.hid digits_S
  have RX := Lib.hid hr.1; have RY := Lib.hid hr.2
  clear h hr
  by_cases hy : y = 0
  · have hy0 : (y == 0) = true := beq_iff_eq.2 hy
    have HY := Lib.hid hy; clear hy
    go_enter Tryz.func70, Tryz.ntmps70
    go_wp2_with fail
    refine (QI.out _).mono ?_; rintro e w1 ⟨rfl, hb1⟩
    have K1 : Keep w [(w.heap.size, 0, .int .i64 x), (w.heap.size, 1, .int .i64 y)] w1 := Keep.below hb1 (Keep.alloc2 (k := w.heap.size) _ _ 99 (by simp) (Keep.start w))
    clear hb1
    obtain ⟨⟨k0, z0, k1, z1, _⟩, hB⟩ := id K1
    clear hB
    go_wp2_with fail
    go_ret
    refine ⟨ret2 (congrArg Value.string ?_), And.right K1⟩
    unfold textL; rw [if_pos HY.out]
  have hy0 : (y == 0) = false := beq_eq_false_iff_ne.2 hy
  by_cases hx : x = 0
  · have hx0 : (x == 0) = true := beq_iff_eq.2 hx
    have HY := Lib.hid hy; have HX := Lib.hid hx; clear hy hx
    go_enter Tryz.func70, Tryz.ntmps70
    go_wp2_with fail
    refine (QJ.out _).mono ?_; rintro e w1 ⟨rfl, hb1⟩
    have K1 : Keep w [(w.heap.size, 0, .int .i64 x), (w.heap.size, 1, .int .i64 y)] w1 := Keep.below hb1 (Keep.alloc2 (k := w.heap.size) _ _ 99 (by simp) (Keep.start w))
    clear hb1
    obtain ⟨⟨k0, z0, k1, z1, _⟩, hB⟩ := id K1
    clear hB
    go_wp2_with fail
    go_ret
    refine ⟨ret2 (congrArg Value.string ?_), And.right K1⟩
    unfold textL; rw [if_neg HY.out, if_pos HX.out]
    rw [show (⟨#[105]⟩ : ByteArray) = ⟨([105] : List UInt8).toArray⟩ from rfl, ba_app]
  have hx0 : (x == 0) = false := beq_eq_false_iff_ne.2 hx
  by_cases hp : 0 < y
  · have HY := Lib.hid hy; have HX := Lib.hid hx; have HP := Lib.hid hp; clear hy hx
    have m1 : (digS x).size ≤ 21 := l1
    have m2 : (digS y).size ≤ 21 := l2
    have n43 : (⟨#[43]⟩ : ByteArray).size = 1 := rfl
    have n105 : (⟨#[105]⟩ : ByteArray).size = 1 := rfl
    have a1 := fun w => add_str (digS x) ⟨#[43]⟩ (by omega) w
    have a2 := fun w => add_str (digS x ++ ⟨#[43]⟩) (digS y) (by rw [ByteArray.size_append]; omega) w
    have a3 := fun w => add_str (digS x ++ ⟨#[43]⟩ ++ digS y) ⟨#[105]⟩ (by rw [ByteArray.size_append, ByteArray.size_append]; omega) w
    have a4 := fun w => add_str (digS x) (digS y) (by omega) w
    have a5 := fun w => add_str (digS x ++ digS y) ⟨#[105]⟩ (by rw [ByteArray.size_append]; omega) w
    clear l1 l2 m1 m2 n43 n105
    go_enter Tryz.func70, Tryz.ntmps70
    go_wp2_with fail
    have J1 : Keep w [(w.heap.size, 0, .int .i64 x), (w.heap.size, 1, .int .i64 y)] _ := Keep.drew (Keep.alloc2 (k := w.heap.size) _ _ 99 (by simp) (Keep.start w))
    have sx : ∀ X, Keep w [(w.heap.size, 0, .int .i64 x), (w.heap.size, 1, .int .i64 y)] X → (fun w' => w'.cell? ⟨w.heap.size, 0, none⟩ = some (.int .i64 x) ∧ w'.cell? ⟨w.heap.size, 1, none⟩ = some (.int .i64 y) ∧ Keep w [(w.heap.size, 0, .int .i64 x), (w.heap.size, 1, .int .i64 y)] w') X := by
      intro X hX
      obtain ⟨⟨q0, y0, q1, y1, _⟩, hB⟩ := id hX
      exact ⟨q0, q1, hX⟩
    go_region_held3 (fun w' => w'.cell? ⟨w.heap.size, 0, none⟩ = some (.int .i64 x) ∧ w'.cell? ⟨w.heap.size, 1, none⟩ = some (.int .i64 y) ∧ Keep w [(w.heap.size, 0, .int .i64 x), (w.heap.size, 1, .int .i64 y)] w') (first | exact sx _ K1 | exact sx _ J1)
      (first | (go_at_call 101; refine (HD.out _ (by first | exact RX.out | exact RY.out) _).mono ?_; rintro e w1 ⟨rfl, hb1⟩; have K1 : Keep w [(w.heap.size, 0, .int .i64 x), (w.heap.size, 1, .int .i64 y)] w1 := Keep.below hb1 (And.right (And.right (by assumption)))))
    clear J1 sx
    obtain ⟨⟨k0, z0, k1, z1, _⟩, hB⟩ := id K1
    clear hB
    go_wp2_with fail
    go_ret
    refine ⟨ret2 (congrArg Value.string ?_), And.right K1⟩
    unfold textL; rw [if_neg HY.out, if_neg HX.out, if_pos HP.out]; unfold digS
    rw [show (⟨#[43]⟩ : ByteArray) = ⟨([43] : List UInt8).toArray⟩ from rfl, show (⟨#[105]⟩ : ByteArray) = ⟨([105] : List UInt8).toArray⟩ from rfl, ba_app, ba_app, ba_app]
  · have HY := Lib.hid hy; have HX := Lib.hid hx; have HP := Lib.hid hp; clear hy hx
    have m1 : (digS x).size ≤ 21 := l1
    have m2 : (digS y).size ≤ 21 := l2
    have n43 : (⟨#[43]⟩ : ByteArray).size = 1 := rfl
    have n105 : (⟨#[105]⟩ : ByteArray).size = 1 := rfl
    have a1 := fun w => add_str (digS x) ⟨#[43]⟩ (by omega) w
    have a2 := fun w => add_str (digS x ++ ⟨#[43]⟩) (digS y) (by rw [ByteArray.size_append]; omega) w
    have a3 := fun w => add_str (digS x ++ ⟨#[43]⟩ ++ digS y) ⟨#[105]⟩ (by rw [ByteArray.size_append, ByteArray.size_append]; omega) w
    have a4 := fun w => add_str (digS x) (digS y) (by omega) w
    have a5 := fun w => add_str (digS x ++ digS y) ⟨#[105]⟩ (by rw [ByteArray.size_append]; omega) w
    clear l1 l2 m1 m2 n43 n105
    go_enter Tryz.func70, Tryz.ntmps70
    go_wp2_with fail
    have J1 : Keep w [(w.heap.size, 0, .int .i64 x), (w.heap.size, 1, .int .i64 y)] _ := Keep.drew (Keep.alloc2 (k := w.heap.size) _ _ 99 (by simp) (Keep.start w))
    have sx : ∀ X, Keep w [(w.heap.size, 0, .int .i64 x), (w.heap.size, 1, .int .i64 y)] X → (fun w' => w'.cell? ⟨w.heap.size, 0, none⟩ = some (.int .i64 x) ∧ w'.cell? ⟨w.heap.size, 1, none⟩ = some (.int .i64 y) ∧ Keep w [(w.heap.size, 0, .int .i64 x), (w.heap.size, 1, .int .i64 y)] w') X := by
      intro X hX
      obtain ⟨⟨q0, y0, q1, y1, _⟩, hB⟩ := id hX
      exact ⟨q0, q1, hX⟩
    go_region_held3 (fun w' => w'.cell? ⟨w.heap.size, 0, none⟩ = some (.int .i64 x) ∧ w'.cell? ⟨w.heap.size, 1, none⟩ = some (.int .i64 y) ∧ Keep w [(w.heap.size, 0, .int .i64 x), (w.heap.size, 1, .int .i64 y)] w') (first | exact sx _ K1 | exact sx _ J1)
      (first | (go_at_call 101; refine (HD.out _ (by first | exact RX.out | exact RY.out) _).mono ?_; rintro e w1 ⟨rfl, hb1⟩; have K1 : Keep w [(w.heap.size, 0, .int .i64 x), (w.heap.size, 1, .int .i64 y)] w1 := Keep.below hb1 (And.right (And.right (by assumption)))))
    clear J1 sx
    obtain ⟨⟨k0, z0, k1, z1, _⟩, hB⟩ := id K1
    clear hB
    go_wp2_with fail
    go_ret
    refine ⟨ret2 (congrArg Value.string ?_), And.right K1⟩
    unfold textL; rw [if_neg HY.out, if_neg HX.out, if_neg (by have := HP.out; omega)]; unfold digS
    rw [show (⟨#[105]⟩ : ByteArray) = ⟨([105] : List UInt8).toArray⟩ from rfl, ba_app, ba_app]
end Go.Proofs.YtbhkclkahblfnaaGreatDoor
