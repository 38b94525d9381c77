/- Texts joined: Dig Whole. -/
import Derived.Test.YtgddkgbidhhheaaGreatDoorKtaa
import Derived.Test.YtgddkgbidhhheaaGreatDoorKtae
import Derived.Laws.BytesString
import Derived.Lib.ItoaLen
import Derived.Test.YtgddkgbidhhheaaGreatDoorKtab
import Derived.Deep.LoopGhost
namespace Go.Proofs.YtgddkgbidhhheaaGreatDoor
open Go.RowKit Flo
theorem one_byte (w:World) (z:Int) :
  (convert 22 9 (.slice (some ⟨w.heap.size,0,none⟩) 1 1)).run Tryz.prog (w.alloc (.cells #[.int .u8 z] 5))=.ok (.string ⟨#[UInt8.ofNat z.toNat]⟩) (w.alloc (.cells #[.int .u8 z] 5)):=by
 rw [run_convert_bytes_string _ _ _ 5 _ _ _ Tryz.underlying22 Tryz.underlying5 Tryz.underlying9]
 rw [run_bytesToString _ _ _ _ [z] (by simp [go_sem])]
 rfl
set_option maxHeartbeats 4000000 in
set_option maxRecDepth 1000000 in
theorem digits_nat:∀ (u:Nat),u≤16777216→∀ w:World,
  Calls Tryz.prog 131 #[.int .i64 u] w fun e w'=>e=.returned (.string ⟨(Lib.decDigits u).toArray⟩)∧Below w.heap.size w w':=by
 intro u
 induction u using Nat.strongRecOn with
 | _ u ih=>
  intro hu w
  have HU:=Lib.hid hu
  have IH:=Lib.hid ih
  clear ih hu
  by_cases h10:u < 10
  ·go_enter Tryz.func131,Tryz.ntmps131
   have hcv:=one_byte w (48 + (u:Int) % 10)
   go_wp2_with fail
   go_ret
   refine ⟨ret2 (congrArg Value.string ?_),below_alloc _ _⟩
   rw [Lib.decDigits_one h10,Nat.mod_eq_of_lt h10]
  ·have hcv:=one_byte w (48 + (u:Int) % 10)
   obtain ⟨v,hv⟩:∃ v,u / 10=v:=⟨_,rfl⟩
   have hdiv:(u:Int) / 10=(v:Int):=by omega
   have hvb:v≤1677721:=by have:=HU.out; omega
   have hge:(10:Int)≤(u:Int):=by omega
   have hl:(Lib.decDigits v).length≤20:=by rw [Lib.decDigits_length]; exact Lib.nDigits_le20 _ (by omega)
   have HV:=Lib.hid hv
   have HT:=Lib.hid h10
   clear hv h10
   go_enter Tryz.func131,Tryz.ntmps131
   go_wp2_with fail
   refine (IH.out v (by have:=HV.out; have:=HT.out; omega) (by omega) _).mono ?_
   rintro e w1 ⟨rfl,hb⟩
   have HB:=Lib.hid ((below_alloc w _).trans (hb.mono (below_alloc w _).size)); clear hb
   go_wp2_with fail
   go_ret
   refine ⟨ret2 (congrArg Value.string ?_),HB.out⟩
   rw [show Lib.decDigits u=Lib.decDigits (u / 10)++[UInt8.ofNat (48 + u % 10)] by rw [Lib.decDigits,dif_neg HT.out],HV.out]
   rw [show (48:UInt8) + UInt8.ofNat (u % 10)=UInt8.ofNat (48 + u % 10) by rw [UInt8.ofNat_add]; rfl]
   rw [show (⟨#[UInt8.ofNat (48 + u % 10)]⟩:ByteArray)=⟨([UInt8.ofNat (48 + u % 10)]:List UInt8).toArray⟩ from rfl,ba_app]
set_option maxHeartbeats 4000000 in
set_option maxRecDepth 1000000 in
theorem digits_any (n:Int) (h:-16777216≤n∧n≤16777216) (w:World) :
  Calls Tryz.prog 131 #[.int .i64 n] w fun e w'=>e=.returned (.string ⟨(Lib.itoa n).toArray⟩)∧Below w.heap.size w w':=by
 by_cases hn:n < 0
 ·obtain ⟨u,rfl⟩:∃ u:Nat,n=-(u:Int):=⟨n.natAbs,by omega⟩
  have hu:u≤16777216:=by omega
  have hu1:1≤u:=by omega
  have Q:=Lib.hid (fun w=>digits_nat u hu w)
  have hl:(Lib.decDigits u).length≤20:=by rw [Lib.decDigits_length]; exact Lib.nDigits_le20 _ (by omega)
  have HU:=Lib.hid hu1
  clear h
  go_enter Tryz.func131,Tryz.ntmps131
  go_wp2_with fail
  refine (Q.out _).mono ?_
  rintro e w1 ⟨rfl,hb⟩
  have HB:=Lib.hid hb; clear hb
  go_wp2_with fail
  go_ret
  refine ⟨ret2 (congrArg Value.string ?_),HB.out⟩
  rw [show Lib.itoa (-(u:Int))=45 :: Lib.decDigits u by unfold Lib.itoa; rw [if_pos (by have:=HU.out; omega)]; simp]
  rw [show (⟨#[45]⟩:ByteArray)=⟨([45]:List UInt8).toArray⟩ from rfl,ba_app]; rfl
 ·obtain ⟨u,rfl⟩:∃ u:Nat,n=(u:Int):=⟨n.toNat,by omega⟩
  have q:=digits_nat u (by omega) w
  rwa [show Lib.decDigits u=Lib.itoa (u:Int) by unfold Lib.itoa; rw [if_neg (by omega)]; simp] at q
def digS (n:Int):ByteArray:=⟨(Lib.itoa n).toArray⟩
theorem digits_S (n:Int) (h:-16777216≤n∧n≤16777216) (w:World) :
  Calls Tryz.prog 131 #[.int .i64 n] w fun e w'=>e=.returned (.string (digS n))∧Below w.heap.size w w':=digits_any n h w
theorem add_str (a b:ByteArray) (h:a.size + b.size≤100) (w:World) :
  (Op.stringOp .add a b).run Tryz.prog w=.ok (.string (a++b)) w:=run_string_add_sum (P:=Tryz.prog) w a b (by omega)
set_option maxHeartbeats 4000000 in
theorem refText_any {x y : Int} (h : okR x y = true) (w : World) :
    Calls Tryz.prog 108 #[.agg #[.int .i64 x, .int .i64 y]] w fun e w' => e = .returned (.string ⟨(textL x y).toArray⟩) ∧ Below w.heap.size w w' := by
  have hr := okR_iff.1 h
  have l1 := itoa_len hr.1; have l2 := itoa_len hr.2
  have QI := Lib.hid (fun w => digits_any x hr.1 w); have QJ := Lib.hid (fun w => digits_any y hr.2 w)
  have HD := Lib.hid digits_S
  have RX := Lib.hid hr.1; have RY := Lib.hid hr.2
  clear h hr
  by_cases hy : y = 0
  · have hy0 : (y == 0) = true := beq_iff_eq.2 hy
    have HY := Lib.hid hy; clear hy
    go_enter Tryz.func108, Tryz.ntmps108
    go_wp2_with fail
    refine (QI.out _).mono ?_; rintro e w1 ⟨rfl, hb1⟩
    have K1 : Keep w [(w.heap.size, 0, .int .i64 x), (w.heap.size, 1, .int .i64 y)] w1 := Keep.below hb1 (Keep.alloc2 (k := w.heap.size) _ _ 127 (by simp) (Keep.start w))
    clear hb1
    obtain ⟨⟨k0, z0, k1, z1, _⟩, hB⟩ := id K1
    clear hB
    go_wp2_with fail
    go_ret
    refine ⟨ret2 (congrArg Value.string ?_), And.right K1⟩
    unfold textL; rw [if_pos HY.out]
  have hy0 : (y == 0) = false := beq_eq_false_iff_ne.2 hy
  by_cases hx : x = 0
  · have hx0 : (x == 0) = true := beq_iff_eq.2 hx
    have HY := Lib.hid hy; have HX := Lib.hid hx; clear hy hx
    go_enter Tryz.func108, Tryz.ntmps108
    go_wp2_with fail
    refine (QJ.out _).mono ?_; rintro e w1 ⟨rfl, hb1⟩
    have K1 : Keep w [(w.heap.size, 0, .int .i64 x), (w.heap.size, 1, .int .i64 y)] w1 := Keep.below hb1 (Keep.alloc2 (k := w.heap.size) _ _ 127 (by simp) (Keep.start w))
    clear hb1
    obtain ⟨⟨k0, z0, k1, z1, _⟩, hB⟩ := id K1
    clear hB
    go_wp2_with fail
    go_ret
    refine ⟨ret2 (congrArg Value.string ?_), And.right K1⟩
    unfold textL; rw [if_neg HY.out, if_pos HX.out]
    rw [show (⟨#[105]⟩ : ByteArray) = ⟨([105] : List UInt8).toArray⟩ from rfl, ba_app]
  have hx0 : (x == 0) = false := beq_eq_false_iff_ne.2 hx
  by_cases hp : 0 < y
  · have HY := Lib.hid hy; have HX := Lib.hid hx; have HP := Lib.hid hp; clear hy hx
    have m1 : (digS x).size ≤ 21 := l1
    have m2 : (digS y).size ≤ 21 := l2
    have n43 : (⟨#[43]⟩ : ByteArray).size = 1 := rfl
    have n105 : (⟨#[105]⟩ : ByteArray).size = 1 := rfl
    have a1 := fun w => add_str (digS x) ⟨#[43]⟩ (by omega) w
    have a2 := fun w => add_str (digS x ++ ⟨#[43]⟩) (digS y) (by rw [ByteArray.size_append]; omega) w
    have a3 := fun w => add_str (digS x ++ ⟨#[43]⟩ ++ digS y) ⟨#[105]⟩ (by rw [ByteArray.size_append, ByteArray.size_append]; omega) w
    have a4 := fun w => add_str (digS x) (digS y) (by omega) w
    have a5 := fun w => add_str (digS x ++ digS y) ⟨#[105]⟩ (by rw [ByteArray.size_append]; omega) w
    clear l1 l2 m1 m2 n43 n105
    go_enter Tryz.func108, Tryz.ntmps108
    go_wp2_with fail
    have J1 : Keep w [(w.heap.size, 0, .int .i64 x), (w.heap.size, 1, .int .i64 y)] _ := Keep.drew (Keep.alloc2 (k := w.heap.size) _ _ 127 (by simp) (Keep.start w))
    have sx : ∀ X, Keep w [(w.heap.size, 0, .int .i64 x), (w.heap.size, 1, .int .i64 y)] X → (fun w' => w'.cell? ⟨w.heap.size, 0, none⟩ = some (.int .i64 x) ∧ w'.cell? ⟨w.heap.size, 1, none⟩ = some (.int .i64 y) ∧ Keep w [(w.heap.size, 0, .int .i64 x), (w.heap.size, 1, .int .i64 y)] w') X := by
      intro X hX
      obtain ⟨⟨q0, y0, q1, y1, _⟩, hB⟩ := id hX
      exact ⟨q0, q1, hX⟩
    go_region_held3 (fun w' => w'.cell? ⟨w.heap.size, 0, none⟩ = some (.int .i64 x) ∧ w'.cell? ⟨w.heap.size, 1, none⟩ = some (.int .i64 y) ∧ Keep w [(w.heap.size, 0, .int .i64 x), (w.heap.size, 1, .int .i64 y)] w') (first | exact sx _ K1 | exact sx _ J1)
      (first | (go_at_call 131; refine (HD.out _ (by first | exact RX.out | exact RY.out) _).mono ?_; rintro e w1 ⟨rfl, hb1⟩; have K1 : Keep w [(w.heap.size, 0, .int .i64 x), (w.heap.size, 1, .int .i64 y)] w1 := Keep.below hb1 (And.right (And.right (by assumption)))))
    clear J1 sx
    obtain ⟨⟨k0, z0, k1, z1, _⟩, hB⟩ := id K1
    clear hB
    go_wp2_with fail
    go_ret
    refine ⟨ret2 (congrArg Value.string ?_), And.right K1⟩
    unfold textL; rw [if_neg HY.out, if_neg HX.out, if_pos HP.out]; unfold digS
    rw [show (⟨#[43]⟩ : ByteArray) = ⟨([43] : List UInt8).toArray⟩ from rfl, show (⟨#[105]⟩ : ByteArray) = ⟨([105] : List UInt8).toArray⟩ from rfl, ba_app, ba_app, ba_app]
  · have HY := Lib.hid hy; have HX := Lib.hid hx; have HP := Lib.hid hp; clear hy hx
    have m1 : (digS x).size ≤ 21 := l1
    have m2 : (digS y).size ≤ 21 := l2
    have n43 : (⟨#[43]⟩ : ByteArray).size = 1 := rfl
    have n105 : (⟨#[105]⟩ : ByteArray).size = 1 := rfl
    have a1 := fun w => add_str (digS x) ⟨#[43]⟩ (by omega) w
    have a2 := fun w => add_str (digS x ++ ⟨#[43]⟩) (digS y) (by rw [ByteArray.size_append]; omega) w
    have a3 := fun w => add_str (digS x ++ ⟨#[43]⟩ ++ digS y) ⟨#[105]⟩ (by rw [ByteArray.size_append, ByteArray.size_append]; omega) w
    have a4 := fun w => add_str (digS x) (digS y) (by omega) w
    have a5 := fun w => add_str (digS x ++ digS y) ⟨#[105]⟩ (by rw [ByteArray.size_append]; omega) w
    clear l1 l2 m1 m2 n43 n105
    go_enter Tryz.func108, Tryz.ntmps108
    go_wp2_with fail
    have J1 : Keep w [(w.heap.size, 0, .int .i64 x), (w.heap.size, 1, .int .i64 y)] _ := Keep.drew (Keep.alloc2 (k := w.heap.size) _ _ 127 (by simp) (Keep.start w))
    have sx : ∀ X, Keep w [(w.heap.size, 0, .int .i64 x), (w.heap.size, 1, .int .i64 y)] X → (fun w' => w'.cell? ⟨w.heap.size, 0, none⟩ = some (.int .i64 x) ∧ w'.cell? ⟨w.heap.size, 1, none⟩ = some (.int .i64 y) ∧ Keep w [(w.heap.size, 0, .int .i64 x), (w.heap.size, 1, .int .i64 y)] w') X := by
      intro X hX
      obtain ⟨⟨q0, y0, q1, y1, _⟩, hB⟩ := id hX
      exact ⟨q0, q1, hX⟩
    go_region_held3 (fun w' => w'.cell? ⟨w.heap.size, 0, none⟩ = some (.int .i64 x) ∧ w'.cell? ⟨w.heap.size, 1, none⟩ = some (.int .i64 y) ∧ Keep w [(w.heap.size, 0, .int .i64 x), (w.heap.size, 1, .int .i64 y)] w') (first | exact sx _ K1 | exact sx _ J1)
      (first | (go_at_call 131; refine (HD.out _ (by first | exact RX.out | exact RY.out) _).mono ?_; rintro e w1 ⟨rfl, hb1⟩; have K1 : Keep w [(w.heap.size, 0, .int .i64 x), (w.heap.size, 1, .int .i64 y)] w1 := Keep.below hb1 (And.right (And.right (by assumption)))))
    clear J1 sx
    obtain ⟨⟨k0, z0, k1, z1, _⟩, hB⟩ := id K1
    clear hB
    go_wp2_with fail
    go_ret
    refine ⟨ret2 (congrArg Value.string ?_), And.right K1⟩
    unfold textL; rw [if_neg HY.out, if_neg HX.out, if_neg (by have := HP.out; omega)]; unfold digS
    rw [show (⟨#[105]⟩ : ByteArray) = ⟨([105] : List UInt8).toArray⟩ from rfl, ba_app, ba_app]
end Go.Proofs.YtgddkgbidhhheaaGreatDoor
namespace Go.Proofs.YtgddkgbidhhheaaGreatDoor
open Go.RowKit Flo
namespace Flo
theorem capV_take {D:List UInt8} {j:Nat} {b:UInt8} (h:D[j]? = some b):capV (D.take (j + 1))=capStep (capV (D.take j)) b:=by
 rw [List.take_add_one,h]; exact capV_snoc _ b
theorem dat_get (s:ByteArray) (i:Nat) (h:i < s.size):s.data.toList[i]? = some (s[i]'h):=by
 rw [Array.getElem?_toList,Array.getElem?_eq_getElem (by simpa using h)]; rfl
end Flo
set_option maxHeartbeats 4000000 in
set_option maxRecDepth 4000 in
theorem whole_at1 (s : ByteArray) (hs : s.size ≤ 140737488351232) (x : UInt8) (hpos : 0 < s.size) (hx : s[0]'hpos = x) (h45 : x = 45) (w : World) :
    Calls Tryz.prog 106 #[.string s] w fun e w' => e = .returned (.tuple #[.int .i64 (wholeL s.data.toList).1, .int .i64 (wholeL s.data.toList).2]) ∧ Below w.heap.size w w' := by
  have hxl : s.data.toList[0]? = some x := by rw [← hx]; exact dat_get s 0 hpos
  have ho : offD s.data.toList = 1 := by
    unfold offD
    rw [List.head?_eq_getElem?, hxl]
    rw [h45]; rfl
  obtain ⟨D, hD⟩ : ∃ D, runD s.data.toList = D := ⟨_, rfl⟩
  have hDd : D = (s.data.toList.drop 1).takeWhile digB := by rw [← hD]; unfold runD; rw [ho]
  have hlen : 1 + D.length ≤ s.size := by
    have h1 := tw_len digB (s.data.toList.drop 1)
    rw [← hDd, List.length_drop, ← Lib.size_eq] at h1
    omega
  have HSome : Hid (∀ j, j < D.length → ∃ b, ∃ h : 1 + j < s.size, s[1 + j]'h = b ∧ 48 ≤ b.toNat ∧ b.toNat ≤ 57 ∧ D[j]? = some b) := Lib.hid (fun j hj => by
    obtain ⟨b, h1, h2, h3⟩ := tw_some digB (s.data.toList.drop 1) j (by rw [← hDd]; exact hj)
    rw [← hDd] at h3
    rw [List.getElem?_drop] at h1
    have hk : 1 + j < s.size := by omega
    rw [dat_get s (1 + j) hk] at h1
    unfold digB at h2; simp at h2
    exact ⟨b, hk, Option.some.inj h1, h2.1, h2.2, h3⟩)
  have HStop : Hid (∀ h : 1 + D.length < s.size, (s[1 + D.length]'h).toNat < 48 ∨ 57 < (s[1 + D.length]'h).toNat) := Lib.hid (fun h => by
    have h1 := tw_stop digB (s.data.toList.drop 1) (s[1 + D.length]'h) (by rw [← hDd, List.getElem?_drop]; exact dat_get s _ h)
    unfold digB at h1; simp at h1; omega)
  have HW : Hid (wholeL s.data.toList = if D = [] then (0, 0) else (-(capV D : Int), 1 + D.length)) := Lib.hid (by unfold wholeL; rw [hD, ho]; rfl)
  have HL := Lib.hid hlen
  have HC := Lib.hid capV_le
  subst h45
  clear hxl ho hD hDd hlen
  go_enter Tryz.func106, Tryz.ntmps106
  go_wp2_with fail
  go_loopg [5, 6] D.length (fun g s5 s6 wx => ∃ j : Nat, j + g = D.length ∧ s5 = .int .i64 (capV (D.take j) : Int) ∧ s6 = .int .i64 ((1 + j : Nat) : Int) ∧ wx = w)
  case atStart => exact ⟨0, by omega, rfl, rfl, rfl⟩
  case round =>
    obtain ⟨j, hjg, rfl, rfl, rfl⟩ := hrel
    have hcap := HC.out (D.take j)
    have hL := HL.out
    cases gk with
    | zero =>
      obtain rfl : j = D.length := by omega
      have hDb : D.length ≤ 140737488351232 := by omega
      rw [List.take_length] at hcap ⊢
      have HW2 := Lib.hid HW.out
      rcases Nat.eq_zero_or_pos D.length with h0 | h0
      · obtain rfl : D = [] := List.eq_nil_of_length_eq_zero h0
        have HF := Lib.hid (show wholeL s.data.toList = (0, 0) by rw [HW.out]; rfl)
        clear HW HW2
        by_cases hend : 1 < s.size
        · obtain ⟨b, hb⟩ : ∃ b : UInt8, s[1]'hend = b := ⟨_, rfl⟩
          have hst := HStop.out hend
          have hb' : s[1 + ([] : List UInt8).length]'hend = b := hb
          rw [hb'] at hst
          have hbl := b.toNat_lt
          rcases hst with hst | hst
          · go_wp2_with fail
            all_goals go_ret2
            all_goals exact ⟨ret2 (by rw [HF.out]; first | rfl | simp), Below.refl _ _⟩
          · go_wp2_with fail
            all_goals go_ret2
            all_goals exact ⟨ret2 (by rw [HF.out]; first | rfl | simp), Below.refl _ _⟩
        · go_wp2_with fail
          all_goals go_ret2
          all_goals exact ⟨ret2 (by rw [HF.out]; first | rfl | simp), Below.refl _ _⟩
      · have HF := Lib.hid (show wholeL s.data.toList = (-(capV D : Int), 1 + D.length) by rw [HW.out, if_neg (fun h => by rw [h] at h0; simp at h0)])
        clear HW HW2
        by_cases hend : 1 + D.length < s.size
        · obtain ⟨b, hb⟩ : ∃ b : UInt8, s[1 + D.length]'hend = b := ⟨_, rfl⟩
          have hst := HStop.out hend
          rw [hb] at hst
          have hbl := b.toNat_lt
          rcases hst with hst | hst
          · go_wp2_with fail
            all_goals go_ret2
            all_goals exact ⟨ret2 (by rw [HF.out]; simp), Below.refl _ _⟩
          · go_wp2_with fail
            all_goals go_ret2
            all_goals exact ⟨ret2 (by rw [HF.out]; simp), Below.refl _ _⟩
        · go_wp2_with fail
          all_goals go_ret2
          all_goals exact ⟨ret2 (by rw [HF.out]; simp), Below.refl _ _⟩
    | succ g =>
      obtain ⟨b, hk, hb, hb1, hb2, hDj⟩ := HSome.out j (by omega)
      have hjb : j < 140737488351232 := by omega
      have hcj : capStep (capV (D.take j)) b = capV (D.take (j + 1)) := (capV_take hDj).symm
      go_wp2_with fail
      all_goals go_roundg g
      case measure => omega
      case rel => exact ⟨j + 1, by omega, congrArg (Value.int .i64) (by rw [← hcj]; unfold capStep; omega), congrArg (Value.int .i64) (by omega), rfl⟩
      all_goals first | omega | exact ⟨j + 1, by omega, congrArg (Value.int .i64) (by rw [← hcj]; unfold capStep; omega), congrArg (Value.int .i64) (by omega), rfl⟩
set_option maxHeartbeats 4000000 in
set_option maxRecDepth 4000 in
theorem whole_at0 (s : ByteArray) (hs : s.size ≤ 140737488351232) (x : UInt8) (hpos : 0 < s.size) (hx : s[0]'hpos = x) (h45 : x ≠ 45) (w : World) :
    Calls Tryz.prog 106 #[.string s] w fun e w' => e = .returned (.tuple #[.int .i64 (wholeL s.data.toList).1, .int .i64 (wholeL s.data.toList).2]) ∧ Below w.heap.size w w' := by
  have hxl : s.data.toList[0]? = some x := by rw [← hx]; exact dat_get s 0 hpos
  have ho : offD s.data.toList = 0 := by
    unfold offD
    rw [List.head?_eq_getElem?, hxl]
    exact if_neg (fun h => h45 (Option.some.inj h))
  obtain ⟨D, hD⟩ : ∃ D, runD s.data.toList = D := ⟨_, rfl⟩
  have hDd : D = (s.data.toList.drop 0).takeWhile digB := by rw [← hD]; unfold runD; rw [ho]
  have hlen : 0 + D.length ≤ s.size := by
    have h1 := tw_len digB (s.data.toList.drop 0)
    rw [← hDd, List.length_drop, ← Lib.size_eq] at h1
    omega
  have HSome : Hid (∀ j, j < D.length → ∃ b, ∃ h : j < s.size, s[j]'h = b ∧ 48 ≤ b.toNat ∧ b.toNat ≤ 57 ∧ D[j]? = some b) := Lib.hid (fun j hj => by
    obtain ⟨b, h1, h2, h3⟩ := tw_some digB (s.data.toList.drop 0) j (by rw [← hDd]; exact hj)
    rw [← hDd] at h3
    rw [List.getElem?_drop, Nat.zero_add] at h1
    have hk : j < s.size := by omega
    rw [dat_get s (j) hk] at h1
    unfold digB at h2; simp at h2
    exact ⟨b, hk, Option.some.inj h1, h2.1, h2.2, h3⟩)
  have HStop : Hid (∀ h : D.length < s.size, (s[D.length]'h).toNat < 48 ∨ 57 < (s[D.length]'h).toNat) := Lib.hid (fun h => by
    have h1 := tw_stop digB (s.data.toList.drop 0) (s[D.length]'h) (by rw [← hDd, List.getElem?_drop, Nat.zero_add]; exact dat_get s _ h)
    unfold digB at h1; simp at h1; omega)
  have HW : Hid (wholeL s.data.toList = if D = [] then (0, 0) else ((capV D : Int), 0 + D.length)) := Lib.hid (by unfold wholeL; rw [hD, ho]; rfl)
  have HL := Lib.hid hlen
  have HC := Lib.hid capV_le
  have hne : ((x.toNat : Int) == 45) = false := beq_eq_false_iff_ne.2 (fun h => h45 (by apply UInt8.toNat_inj.1; have h2 : (x.toNat : Int) = 45 := h; show x.toNat = 45; omega))
  clear hxl ho hD hDd hlen
  go_enter Tryz.func106, Tryz.ntmps106
  go_wp2_with fail
  go_loopg [5, 6] D.length (fun g s5 s6 wx => ∃ j : Nat, j + g = D.length ∧ s5 = .int .i64 (capV (D.take j) : Int) ∧ s6 = .int .i64 (j : Int) ∧ wx = w)
  case atStart => exact ⟨0, by omega, rfl, rfl, rfl⟩
  case round =>
    obtain ⟨j, hjg, rfl, rfl, rfl⟩ := hrel
    have hcap := HC.out (D.take j)
    have hL := HL.out
    cases gk with
    | zero =>
      obtain rfl : j = D.length := by omega
      have hDb : D.length ≤ 140737488351232 := by omega
      rw [List.take_length] at hcap ⊢
      have HW2 := Lib.hid HW.out
      rcases Nat.eq_zero_or_pos D.length with h0 | h0
      · obtain rfl : D = [] := List.eq_nil_of_length_eq_zero h0
        have HF := Lib.hid (show wholeL s.data.toList = (0, 0) by rw [HW.out]; rfl)
        clear HW HW2
        by_cases hend : 0 < s.size
        · obtain ⟨b, hb⟩ : ∃ b : UInt8, s[0]'hend = b := ⟨_, rfl⟩
          have hst := HStop.out hend
          have hb' : s[([] : List UInt8).length]'hend = b := hb
          rw [hb'] at hst
          have hbx : x = b := hx.symm.trans hb
          rw [← hbx] at hst
          have hbl2 := x.toNat_lt
          clear hb hb' hbx
          have hbl := b.toNat_lt
          rcases hst with hst | hst
          · go_wp2_with fail
            all_goals go_ret2
            all_goals exact ⟨ret2 (by rw [HF.out]; first | rfl | simp), Below.refl _ _⟩
          · go_wp2_with fail
            all_goals go_ret2
            all_goals exact ⟨ret2 (by rw [HF.out]; first | rfl | simp), Below.refl _ _⟩
        · go_wp2_with fail
          all_goals go_ret2
          all_goals exact ⟨ret2 (by rw [HF.out]; first | rfl | simp), Below.refl _ _⟩
      · have HF := Lib.hid (show wholeL s.data.toList = ((capV D : Int), 0 + D.length) by rw [HW.out, if_neg (fun h => by rw [h] at h0; simp at h0)])
        clear HW HW2
        by_cases hend : D.length < s.size
        · obtain ⟨b, hb⟩ : ∃ b : UInt8, s[D.length]'hend = b := ⟨_, rfl⟩
          have hst := HStop.out hend
          rw [hb] at hst
          have hbl := b.toNat_lt
          rcases hst with hst | hst
          · go_wp2_with fail
            all_goals go_ret2
            all_goals exact ⟨ret2 (by rw [HF.out]; simp), Below.refl _ _⟩
          · go_wp2_with fail
            all_goals go_ret2
            all_goals exact ⟨ret2 (by rw [HF.out]; simp), Below.refl _ _⟩
        · go_wp2_with fail
          all_goals go_ret2
          all_goals exact ⟨ret2 (by rw [HF.out]; simp), Below.refl _ _⟩
    | succ g =>
      obtain ⟨b, hk, hb, hb1, hb2, hDj⟩ := HSome.out j (by omega)
      have hjb : j < 140737488351232 := by omega
      have hcj : capStep (capV (D.take j)) b = capV (D.take (j + 1)) := (capV_take hDj).symm
      go_wp2_with fail
      all_goals go_roundg g
      case measure => omega
      case rel => exact ⟨j + 1, by omega, congrArg (Value.int .i64) (by rw [← hcj]; unfold capStep; omega), congrArg (Value.int .i64) (by omega), rfl⟩
      all_goals first | omega | exact ⟨j + 1, by omega, congrArg (Value.int .i64) (by rw [← hcj]; unfold capStep; omega), congrArg (Value.int .i64) (by omega), rfl⟩
theorem whole_none (s:ByteArray) (h0:s.size=0) (w:World) :
  Calls Tryz.prog 106 #[.string s] w fun e w'=>e=.returned (.tuple #[.int .i64 (wholeL s.data.toList).1,.int .i64 (wholeL s.data.toList).2])∧Below w.heap.size w w':=by
 obtain rfl:s=⟨#[]⟩:=by
  apply ByteArray.ext; apply Array.toList_inj.1; exact List.eq_nil_of_length_eq_zero (by rw [← Lib.size_eq]; exact h0)
 have HF:=Lib.hid (show wholeL (⟨#[]⟩:ByteArray).data.toList=(0,0) from rfl)
 clear h0
 go_enter Tryz.func106,Tryz.ntmps106
 go_wp2_with fail
 go_loopg [5,6] 0 (fun g s5 s6 wx=>s5=.int .i64 0∧s6=.int .i64 0∧wx=w)
 case atStart=>exact ⟨rfl,rfl,rfl⟩
 case round=>
  obtain ⟨rfl,rfl,rfl⟩:=hrel
  go_wp2_with fail
  go_ret2
  exact ⟨ret2 (by rw [HF.out]; rfl),Below.refl _ _⟩
theorem whole_any (s:ByteArray) (hs:s.size≤140737488351232) (w:World) :
  Calls Tryz.prog 106 #[.string s] w fun e w'=>e=.returned (.tuple #[.int .i64 (wholeL s.data.toList).1,.int .i64 (wholeL s.data.toList).2])∧Below w.heap.size w w':=by
 by_cases h0:s.size=0
 ·exact whole_none s h0 w
 ·by_cases h45:s[0]'(by omega)=45
  ·exact whole_at1 s hs _ (by omega) rfl h45 w
  ·exact whole_at0 s hs _ (by omega) rfl h45 w
end Go.Proofs.YtgddkgbidhhheaaGreatDoor
