/- Texts joined: Whole LMakes Shelf Text Last Part LSums LQuos Gl LOrder Parse. -/
import Derived.Test.YtgddkgbidhhheaaDoorKoae
import Derived.Deep.LoopGhost
import Derived.Shelf.Strings.Builder1
import Derived.Shelf.Strings.BuilderF
import Derived.Shelf.Strings.BuilderK
import Derived.Shelf.Strconv.Itoa0
import Derived.Shelf.Strconv.Itoa1
import Derived.Shelf.LaysM
import Derived.Shelf.Strconv.Itoa2
import Derived.Shelf.Strconv.Itoa3
import Derived.Shelf.Strings.BuilderCap
import Derived.Test.YtgddkgbidhhheaaDoorProg
import Derived.Test.YtgddkgbidhhheaaDoorKoad
import Derived.Lib.SmallJoins
import Derived.Outline
import Derived.Shelf.Strings.AsciiSet
import Derived.Lib.IndexAny
import Derived.WideLaws
import Derived.Lib.Strings
import Derived.Lib.SlicesS
/- The walk of the reference's whole. -/
namespace Go.Proofs.YtgddkgbidhhheaaDoor
open Go.RowKit Flo
namespace Flo
theorem capV_take {D : List UInt8} {j : Nat} {b : UInt8} (h : D[j]? = some b) : capV (D.take (j + 1)) = capStep (capV (D.take j)) b := by
  rw [List.take_add_one, h]; exact capV_snoc _ b
theorem dat_get (s : ByteArray) (i : Nat) (h : i < s.size) : s.data.toList[i]? = some (s[i]'h) := by
  rw [Array.getElem?_toList, Array.getElem?_eq_getElem (by simpa using h)]; rfl
end Flo
set_option maxHeartbeats 4000000 in
set_option maxRecDepth 4000 in
theorem whole_at1 (s : ByteArray) (hs : s.size ≤ 140737488351232) (x : UInt8) (hpos : 0 < s.size) (hx : s[0]'hpos = x) (h45 : x = 45) (w : World) :
    Calls Tryd.prog 60 #[.string s] w fun e w' => e = .returned (.tuple #[.int .i64 (wholeL s.data.toList).1, .int .i64 (wholeL s.data.toList).2]) ∧ Below w.heap.size w w' := by
  have hxl : s.data.toList[0]? = some x := by rw [← hx]; exact dat_get s 0 hpos
  have ho : offD s.data.toList = 1 := by
    unfold offD
    rw [List.head?_eq_getElem?, hxl]
    rw [h45]; rfl
  obtain ⟨D, hD⟩ : ∃ D, runD s.data.toList = D := ⟨_, rfl⟩
  have hDd : D = (s.data.toList.drop 1).takeWhile digB := by rw [← hD]; unfold runD; rw [ho]
  have hlen : 1 + D.length ≤ s.size := by
    have h1 := tw_len digB (s.data.toList.drop 1)
    rw [← hDd, List.length_drop, ← Lib.size_eq] at h1
    omega
  have HSome : Hid (∀ j, j < D.length → ∃ b, ∃ h : 1 + j < s.size, s[1 + j]'h = b ∧ 48 ≤ b.toNat ∧ b.toNat ≤ 57 ∧ D[j]? = some b) := Lib.hid (fun j hj => by
    obtain ⟨b, h1, h2, h3⟩ := tw_some digB (s.data.toList.drop 1) j (by rw [← hDd]; exact hj)
    rw [← hDd] at h3
    rw [List.getElem?_drop] at h1
    have hk : 1 + j < s.size := by omega
    rw [dat_get s (1 + j) hk] at h1
    unfold digB at h2; simp at h2
    exact ⟨b, hk, Option.some.inj h1, h2.1, h2.2, h3⟩)
  have HStop : Hid (∀ h : 1 + D.length < s.size, (s[1 + D.length]'h).toNat < 48 ∨ 57 < (s[1 + D.length]'h).toNat) := Lib.hid (fun h => by
    have h1 := tw_stop digB (s.data.toList.drop 1) (s[1 + D.length]'h) (by rw [← hDd, List.getElem?_drop]; exact dat_get s _ h)
    unfold digB at h1; simp at h1; omega)
  have HW : Hid (wholeL s.data.toList = if D = [] then (0, 0) else (-(capV D : Int), 1 + D.length)) := Lib.hid (by unfold wholeL; rw [hD, ho]; rfl)
  have HL := Lib.hid hlen
  have HC := Lib.hid capV_le
  subst h45
  clear hxl ho hD hDd hlen
  go_enter Tryd.func60, Tryd.ntmps60
  go_wp2_with fail
  go_loopg [5, 6] D.length (fun g s5 s6 wx => ∃ j : Nat, j + g = D.length ∧ s5 = .int .i64 (capV (D.take j) : Int) ∧ s6 = .int .i64 ((1 + j : Nat) : Int) ∧ wx = w)
  case atStart => exact ⟨0, by omega, rfl, rfl, rfl⟩
  case round =>
    obtain ⟨j, hjg, rfl, rfl, rfl⟩ := hrel
    have hcap := HC.out (D.take j)
    have hL := HL.out
    cases gk with
    | zero =>
      obtain rfl : j = D.length := by omega
      have hDb : D.length ≤ 140737488351232 := by omega
      rw [List.take_length] at hcap ⊢
      have HW2 := Lib.hid HW.out
      rcases Nat.eq_zero_or_pos D.length with h0 | h0
      · obtain rfl : D = [] := List.eq_nil_of_length_eq_zero h0
        have HF := Lib.hid (show wholeL s.data.toList = (0, 0) by rw [HW.out]; rfl)
        clear HW HW2
        by_cases hend : 1 < s.size
        · obtain ⟨b, hb⟩ : ∃ b : UInt8, s[1]'hend = b := ⟨_, rfl⟩
          have hst := HStop.out hend
          have hb' : s[1 + ([] : List UInt8).length]'hend = b := hb
          rw [hb'] at hst
          have hbl := b.toNat_lt
          rcases hst with hst | hst
          · go_wp2_with fail
            all_goals go_ret2
            all_goals exact ⟨ret2 (by rw [HF.out]; first | rfl | simp), Below.refl _ _⟩
          · go_wp2_with fail
            all_goals go_ret2
            all_goals exact ⟨ret2 (by rw [HF.out]; first | rfl | simp), Below.refl _ _⟩
        · go_wp2_with fail
          all_goals go_ret2
          all_goals exact ⟨ret2 (by rw [HF.out]; first | rfl | simp), Below.refl _ _⟩
      · have HF := Lib.hid (show wholeL s.data.toList = (-(capV D : Int), 1 + D.length) by rw [HW.out, if_neg (fun h => by rw [h] at h0; simp at h0)])
        clear HW HW2
        by_cases hend : 1 + D.length < s.size
        · obtain ⟨b, hb⟩ : ∃ b : UInt8, s[1 + D.length]'hend = b := ⟨_, rfl⟩
          have hst := HStop.out hend
          rw [hb] at hst
          have hbl := b.toNat_lt
          rcases hst with hst | hst
          · go_wp2_with fail
            all_goals go_ret2
            all_goals exact ⟨ret2 (by rw [HF.out]; simp), Below.refl _ _⟩
          · go_wp2_with fail
            all_goals go_ret2
            all_goals exact ⟨ret2 (by rw [HF.out]; simp), Below.refl _ _⟩
        · go_wp2_with fail
          all_goals go_ret2
          all_goals exact ⟨ret2 (by rw [HF.out]; simp), Below.refl _ _⟩
    | succ g =>
      obtain ⟨b, hk, hb, hb1, hb2, hDj⟩ := HSome.out j (by omega)
      have hjb : j < 140737488351232 := by omega
      have hcj : capStep (capV (D.take j)) b = capV (D.take (j + 1)) := (capV_take hDj).symm
      go_wp2_with fail
      all_goals go_roundg g
      case measure => omega
      case rel => exact ⟨j + 1, by omega, congrArg (Value.int .i64) (by rw [← hcj]; unfold capStep; omega), congrArg (Value.int .i64) (by omega), rfl⟩
      all_goals first | omega | exact ⟨j + 1, by omega, congrArg (Value.int .i64) (by rw [← hcj]; unfold capStep; omega), congrArg (Value.int .i64) (by omega), rfl⟩
set_option maxHeartbeats 4000000 in
set_option maxRecDepth 4000 in
theorem whole_at0 (s : ByteArray) (hs : s.size ≤ 140737488351232) (x : UInt8) (hpos : 0 < s.size) (hx : s[0]'hpos = x) (h45 : x ≠ 45) (w : World) :
    Calls Tryd.prog 60 #[.string s] w fun e w' => e = .returned (.tuple #[.int .i64 (wholeL s.data.toList).1, .int .i64 (wholeL s.data.toList).2]) ∧ Below w.heap.size w w' := by
  have hxl : s.data.toList[0]? = some x := by rw [← hx]; exact dat_get s 0 hpos
  have ho : offD s.data.toList = 0 := by
    unfold offD
    rw [List.head?_eq_getElem?, hxl]
    exact if_neg (fun h => h45 (Option.some.inj h))
  obtain ⟨D, hD⟩ : ∃ D, runD s.data.toList = D := ⟨_, rfl⟩
  have hDd : D = (s.data.toList.drop 0).takeWhile digB := by rw [← hD]; unfold runD; rw [ho]
  have hlen : 0 + D.length ≤ s.size := by
    have h1 := tw_len digB (s.data.toList.drop 0)
    rw [← hDd, List.length_drop, ← Lib.size_eq] at h1
    omega
  have HSome : Hid (∀ j, j < D.length → ∃ b, ∃ h : j < s.size, s[j]'h = b ∧ 48 ≤ b.toNat ∧ b.toNat ≤ 57 ∧ D[j]? = some b) := Lib.hid (fun j hj => by
    obtain ⟨b, h1, h2, h3⟩ := tw_some digB (s.data.toList.drop 0) j (by rw [← hDd]; exact hj)
    rw [← hDd] at h3
    rw [List.getElem?_drop, Nat.zero_add] at h1
    have hk : j < s.size := by omega
    rw [dat_get s (j) hk] at h1
    unfold digB at h2; simp at h2
    exact ⟨b, hk, Option.some.inj h1, h2.1, h2.2, h3⟩)
  have HStop : Hid (∀ h : D.length < s.size, (s[D.length]'h).toNat < 48 ∨ 57 < (s[D.length]'h).toNat) := Lib.hid (fun h => by
    have h1 := tw_stop digB (s.data.toList.drop 0) (s[D.length]'h) (by rw [← hDd, List.getElem?_drop, Nat.zero_add]; exact dat_get s _ h)
    unfold digB at h1; simp at h1; omega)
  have HW : Hid (wholeL s.data.toList = if D = [] then (0, 0) else ((capV D : Int), 0 + D.length)) := Lib.hid (by unfold wholeL; rw [hD, ho]; rfl)
  have HL := Lib.hid hlen
  have HC := Lib.hid capV_le
  have hne : ((x.toNat : Int) == 45) = false := beq_eq_false_iff_ne.2 (fun h => h45 (by apply UInt8.toNat_inj.1; have h2 : (x.toNat : Int) = 45 := h; show x.toNat = 45; omega))
  clear hxl ho hD hDd hlen
  go_enter Tryd.func60, Tryd.ntmps60
  go_wp2_with fail
  go_loopg [5, 6] D.length (fun g s5 s6 wx => ∃ j : Nat, j + g = D.length ∧ s5 = .int .i64 (capV (D.take j) : Int) ∧ s6 = .int .i64 (j : Int) ∧ wx = w)
  case atStart => exact ⟨0, by omega, rfl, rfl, rfl⟩
  case round =>
    obtain ⟨j, hjg, rfl, rfl, rfl⟩ := hrel
    have hcap := HC.out (D.take j)
    have hL := HL.out
    cases gk with
    | zero =>
      obtain rfl : j = D.length := by omega
      have hDb : D.length ≤ 140737488351232 := by omega
      rw [List.take_length] at hcap ⊢
      have HW2 := Lib.hid HW.out
      rcases Nat.eq_zero_or_pos D.length with h0 | h0
      · obtain rfl : D = [] := List.eq_nil_of_length_eq_zero h0
        have HF := Lib.hid (show wholeL s.data.toList = (0, 0) by rw [HW.out]; rfl)
        clear HW HW2
        by_cases hend : 0 < s.size
        · obtain ⟨b, hb⟩ : ∃ b : UInt8, s[0]'hend = b := ⟨_, rfl⟩
          have hst := HStop.out hend
          have hb' : s[([] : List UInt8).length]'hend = b := hb
          rw [hb'] at hst
          have hbx : x = b := hx.symm.trans hb
          rw [← hbx] at hst
          have hbl2 := x.toNat_lt
          clear hb hb' hbx
          have hbl := b.toNat_lt
          rcases hst with hst | hst
          · go_wp2_with fail
            all_goals go_ret2
            all_goals exact ⟨ret2 (by rw [HF.out]; first | rfl | simp), Below.refl _ _⟩
          · go_wp2_with fail
            all_goals go_ret2
            all_goals exact ⟨ret2 (by rw [HF.out]; first | rfl | simp), Below.refl _ _⟩
        · go_wp2_with fail
          all_goals go_ret2
          all_goals exact ⟨ret2 (by rw [HF.out]; first | rfl | simp), Below.refl _ _⟩
      · have HF := Lib.hid (show wholeL s.data.toList = ((capV D : Int), 0 + D.length) by rw [HW.out, if_neg (fun h => by rw [h] at h0; simp at h0)])
        clear HW HW2
        by_cases hend : D.length < s.size
        · obtain ⟨b, hb⟩ : ∃ b : UInt8, s[D.length]'hend = b := ⟨_, rfl⟩
          have hst := HStop.out hend
          rw [hb] at hst
          have hbl := b.toNat_lt
          rcases hst with hst | hst
          · go_wp2_with fail
            all_goals go_ret2
            all_goals exact ⟨ret2 (by rw [HF.out]; simp), Below.refl _ _⟩
          · go_wp2_with fail
            all_goals go_ret2
            all_goals exact ⟨ret2 (by rw [HF.out]; simp), Below.refl _ _⟩
        · go_wp2_with fail
          all_goals go_ret2
          all_goals exact ⟨ret2 (by rw [HF.out]; simp), Below.refl _ _⟩
    | succ g =>
      obtain ⟨b, hk, hb, hb1, hb2, hDj⟩ := HSome.out j (by omega)
      have hjb : j < 140737488351232 := by omega
      have hcj : capStep (capV (D.take j)) b = capV (D.take (j + 1)) := (capV_take hDj).symm
      go_wp2_with fail
      all_goals go_roundg g
      case measure => omega
      case rel => exact ⟨j + 1, by omega, congrArg (Value.int .i64) (by rw [← hcj]; unfold capStep; omega), congrArg (Value.int .i64) (by omega), rfl⟩
      all_goals first | omega | exact ⟨j + 1, by omega, congrArg (Value.int .i64) (by rw [← hcj]; unfold capStep; omega), congrArg (Value.int .i64) (by omega), rfl⟩
theorem whole_none (s : ByteArray) (h0 : s.size = 0) (w : World) :
    Calls Tryd.prog 60 #[.string s] w fun e w' => e = .returned (.tuple #[.int .i64 (wholeL s.data.toList).1, .int .i64 (wholeL s.data.toList).2]) ∧ Below w.heap.size w w' := by
  obtain rfl : s = ⟨#[]⟩ := by
    apply ByteArray.ext; apply Array.toList_inj.1; exact List.eq_nil_of_length_eq_zero (by rw [← Lib.size_eq]; exact h0)
  have HF := Lib.hid (show wholeL (⟨#[]⟩ : ByteArray).data.toList = (0, 0) from rfl)
  clear h0
  go_enter Tryd.func60, Tryd.ntmps60
  go_wp2_with fail
  go_loopg [5, 6] 0 (fun g s5 s6 wx => s5 = .int .i64 0 ∧ s6 = .int .i64 0 ∧ wx = w)
  case atStart => exact ⟨rfl, rfl, rfl⟩
  case round =>
    obtain ⟨rfl, rfl, rfl⟩ := hrel
    go_wp2_with fail
    go_ret2
    exact ⟨ret2 (by rw [HF.out]; rfl), Below.refl _ _⟩
/-- whole, at every text -/
theorem whole_any (s : ByteArray) (hs : s.size ≤ 140737488351232) (w : World) :
    Calls Tryd.prog 60 #[.string s] w fun e w' => e = .returned (.tuple #[.int .i64 (wholeL s.data.toList).1, .int .i64 (wholeL s.data.toList).2]) ∧ Below w.heap.size w w' := by
  by_cases h0 : s.size = 0
  · exact whole_none s h0 w
  · by_cases h45 : s[0]'(by omega) = 45
    · exact whole_at1 s hs _ (by omega) rfl h45 w
    · exact whole_at0 s hs _ (by omega) rfl h45 w
end Go.Proofs.YtgddkgbidhhheaaDoor
/- The walk of GaussMakes: whatever the arguments, true. -/
namespace Go.Proofs.YtgddkgbidhhheaaDoor
open Go.RowKit Flo
theorem parts_none {a b : Nat} (ha : a < 18446744073709551616) (hb : b < 18446744073709551616) (h : numC a b = none) (w : World) :
    Calls Tryd.prog 56 #[.complex .f64 a b] w fun e w' => e = .returned (.tuple #[.int .i64 0, .int .i64 0, .int .i64 3]) ∧ w = w' := by
  have q := parts_any a b ha hb w; rw [h] at q; exact q
theorem parts_some {a b : Nat} {x y : Int} (ha : a < 18446744073709551616) (hb : b < 18446744073709551616) (h : numC a b = some (x, y)) (w : World) :
    Calls Tryd.prog 56 #[.complex .f64 a b] w fun e w' => e = .returned (.tuple #[.int .i64 x, .int .i64 y, .int .i64 0]) ∧ w = w' := by
  have q := parts_any a b ha hb w; rw [h] at q; exact q
end Go.Proofs.YtgddkgbidhhheaaDoor
/-
  DERIVED: THE SHELF's CONTRACTS AT THIS DUMP, IN PLAIN WORDS (tools/lay-plain.mjs out of 'TrydShelf.lean', which tools/lay-shelf.mjs wrote): THE SAME DECLARATIONS UNDER THE SAME NAMES: 'import', 'namespace', 'open', 'def', 'theorem' AND NOTHING ELSE: no command of the shelf's: FOR A HAND-IN. Each laying: the table of numbers ('.._ren') and one theorem, a field a fact of the dump's own or the kernel's comparison; each contract: ONE APPLICATION.
-/
namespace Go.Proofs
open Go.Shelf
def Tryd.laysM246_ren : Go.Shelf.Ren := ⟨fun | 246 => 72 | 283 => 76 | 284 => 77 | 285 => 78 | 286 => 79 | 129 => 84 | 317 => 83 | 318 => 85 | 319 => 86 | 320 => 87 | 337 => 92 | 338 => 93 | n => n, fun | 2 => 2 | 3 => 3 | 9 => 9 | 4 => 4 | 171 => 134 | 0 => 0 | 53 => 107 | 37 => 22 | 5 => 5 | 173 => 137 | 212 => 141 | 51 => 142 | 20 => 20 | 213 => 143 | 46 => 145 | 232 => 152 | 233 => 153 | n => n, fun | 17 => 1 | 18 => 2 | 19 => 3 | n => n⟩
def Tryd.laysM243_ren : Go.Shelf.Ren := ⟨fun | 243 => 68 | 246 => 72 | 283 => 76 | 284 => 77 | 285 => 78 | 286 => 79 | 129 => 84 | 317 => 83 | 318 => 85 | 319 => 86 | 320 => 87 | 337 => 92 | 338 => 93 | n => n, fun | 3 => 3 | 9 => 9 | 2 => 2 | 4 => 4 | 171 => 134 | 0 => 0 | 53 => 107 | 37 => 22 | 5 => 5 | 173 => 137 | 212 => 141 | 51 => 142 | 20 => 20 | 213 => 143 | 46 => 145 | 232 => 152 | 233 => 153 | n => n, fun | 17 => 1 | 18 => 2 | 19 => 3 | n => n⟩
def Tryd.laysM171_ren : Go.Shelf.Ren := ⟨fun | 171 => 57 | 243 => 68 | 246 => 72 | 283 => 76 | 284 => 77 | 285 => 78 | 286 => 79 | 129 => 84 | 317 => 83 | 318 => 85 | 319 => 86 | 320 => 87 | 337 => 92 | 338 => 93 | n => n, fun | 3 => 3 | 9 => 9 | 2 => 2 | 4 => 4 | 171 => 134 | 0 => 0 | 53 => 107 | 37 => 22 | 5 => 5 | 173 => 137 | 212 => 141 | 51 => 142 | 20 => 20 | 213 => 143 | 46 => 145 | 232 => 152 | 233 => 153 | n => n, fun | 17 => 1 | 18 => 2 | 19 => 3 | n => n⟩
theorem Tryd.laysM171 : Go.Proofs.LaysM.n171 Tryd.prog Tryd.laysM171_ren := {
  mixed := by kernel_rfl
  f129 := Tryd.func84.trans (congrArg some (by kernel_rfl))
  f171 := Tryd.func57.trans (congrArg some (by kernel_rfl))
  f243 := Tryd.func68.trans (congrArg some (by kernel_rfl))
  f246 := Tryd.func72.trans (congrArg some (by kernel_rfl))
  f283 := Tryd.func76.trans (congrArg some (by kernel_rfl))
  f284 := Tryd.func77.trans (congrArg some (by kernel_rfl))
  f285 := Tryd.func78.trans (congrArg some (by kernel_rfl))
  f286 := Tryd.func79.trans (congrArg some (by kernel_rfl))
  f317 := Tryd.func83.trans (congrArg some (by kernel_rfl))
  f318 := Tryd.func85.trans (congrArg some (by kernel_rfl))
  f319 := Tryd.func86.trans (congrArg some (by kernel_rfl))
  f320 := Tryd.func87.trans (congrArg some (by kernel_rfl))
  f337 := Tryd.func92.trans (congrArg some (by kernel_rfl))
  f338 := Tryd.func93.trans (congrArg some (by kernel_rfl))
  t0 := Tryd.underlying0
  a0 := Tryd.isAgg0
  z0 := Tryd.sizeOf0
  v0 := Tryd.zeroValue0
  t2 := Tryd.underlying2
  a2 := Tryd.isAgg2
  z2 := Tryd.sizeOf2
  v2 := Tryd.zeroValue2
  t3 := Tryd.underlying3
  a3 := Tryd.isAgg3
  z3 := Tryd.sizeOf3
  v3 := Tryd.zeroValue3
  t4 := Tryd.underlying4
  a4 := Tryd.isAgg4
  z4 := Tryd.sizeOf4
  v4 := Tryd.zeroValue4
  t5 := Tryd.underlying5
  a5 := Tryd.isAgg5
  z5 := Tryd.sizeOf5
  v5 := Tryd.zeroValue5
  t9 := Tryd.underlying9
  a9 := Tryd.isAgg9
  z9 := Tryd.sizeOf9
  v9 := Tryd.zeroValue9
  t20 := Tryd.underlying20
  a20 := Tryd.isAgg20
  z20 := Tryd.sizeOf20
  v20 := Tryd.zeroValue20
  t37 := Tryd.underlying22
  a37 := Tryd.isAgg22
  z37 := Tryd.sizeOf22
  v37 := Tryd.zeroValue22
  t46 := Tryd.underlying145
  a46 := Tryd.isAgg145
  z46 := Tryd.sizeOf145
  v46 := Tryd.zeroValue145
  t51 := Tryd.underlying142
  a51 := Tryd.isAgg142
  z51 := Tryd.sizeOf142
  v51 := Tryd.zeroValue142
  t53 := Tryd.underlying107
  a53 := Tryd.isAgg107
  z53 := Tryd.sizeOf107
  v53 := Tryd.zeroValue107
  t171 := Tryd.underlying134
  a171 := Tryd.isAgg134
  z171 := Tryd.sizeOf134
  v171 := Tryd.zeroValue134
  t173 := Tryd.underlying137
  a173 := Tryd.isAgg137
  z173 := Tryd.sizeOf137
  v173 := Tryd.zeroValue137
  t212 := Tryd.underlying141
  a212 := Tryd.isAgg141
  z212 := Tryd.sizeOf141
  v212 := Tryd.zeroValue141
  t213 := Tryd.underlying143
  a213 := Tryd.isAgg143
  z213 := Tryd.sizeOf143
  t232 := Tryd.underlying152
  a232 := Tryd.isAgg152
  z232 := Tryd.sizeOf152
  v232 := Tryd.zeroValue152
  t233 := Tryd.underlying153
  a233 := Tryd.isAgg153
  z233 := Tryd.sizeOf153
  v233 := Tryd.zeroValue153
  g17 := by kernel_rfl
  g18 := by kernel_rfl
  g19 := by kernel_rfl
  i0 := by kernel_rfl
  i2 := by kernel_rfl
  i3 := by kernel_rfl
  i4 := by kernel_rfl
  i5 := by kernel_rfl
  i9 := by kernel_rfl
  i20 := by kernel_rfl
  i37 := by kernel_rfl
  i46 := by kernel_rfl
  i51 := by kernel_rfl
  i53 := by kernel_rfl
  i171 := by kernel_rfl
  i173 := by kernel_rfl
  i212 := by kernel_rfl
  i232 := by kernel_rfl
  i233 := by kernel_rfl
  m17 := by kernel_rfl
  m18 := by kernel_rfl
  m19 := by kernel_rfl }
open Go.RowKit Go.Sort Go.Lib in
/-- strconv.Itoa: "Itoa is equivalent to FormatInt(int64(i), 10).": i's DECIMAL NUMERAL ('Lib.itoa': a '-' where i is negative, then the digits), FOR EVERY int. The world behind the call: the world before it, new blocks behind the heap (the library's 'var a [24]byte'), draws. (LAID: no walk: one application.) -/
theorem Tryd.strconv_Itoa (n : Int) (h0 : -9223372036854775808 ≤ n) (h1 : n ≤ 9223372036854775807) (w : World) (htab : Lib.TabIs Tryd.prog w "internal/strconv.uint64pow10" .u64 Lib.pow10Tab) :
    Calls Tryd.prog 57 #[.int .i64 n] w fun e w' => e = .returned (.string ⟨(Lib.itoa n).toArray⟩) ∧ ∃ k os, w' = grow (w.drewN k) os := Any.strconv_Itoa Tryd.laysM171 n h0 h1 w htab
end Go.Proofs
/- What Text of the package gauss answers. -/
namespace Go.Proofs.YtgddkgbidhhheaaDoor
open Go.RowKit Flo
theorem gPow : Tryd.prog.globalNamed "internal/strconv.uint64pow10" = some 1 := by kernel_rfl
abbrev Pow (w : World) : Prop := Lib.TabIs Tryd.prog w "internal/strconv.uint64pow10" .u64 Lib.pow10Tab
theorem below_grow (w : World) (k : Nat) (os : Array Obj) : Below w.heap.size w (Sort.grow (w.drewN k) os) := by
  refine ⟨rfl, rfl, rfl, ?_, fun i hi => ?_⟩
  · show w.heap.size ≤ (w.heap ++ os).size
    rw [Array.size_append]; omega
  · show (w.heap ++ os)[i]? = w.heap[i]?
    rw [Array.getElem?_append_left hi]
/-- strconv.Itoa, the world told by 'Below' -/
theorem itoa_any (n : Int) (h : -16777216 ≤ n ∧ n ≤ 16777216) (w : World) (hT : Pow w) :
    Calls Tryd.prog 57 #[.int .i64 n] w fun e w' => e = .returned (.string ⟨(Lib.itoa n).toArray⟩) ∧ Below w.heap.size w w' := by
  refine (Tryd.strconv_Itoa n (by omega) (by omega) w hT).mono ?_
  rintro e w' ⟨rfl, k, os, rfl⟩
  exact ⟨rfl, below_grow w k os⟩
set_option maxHeartbeats 400000 in
theorem text_none {a b : Nat} (ha : a < 18446744073709551616) (hb : b < 18446744073709551616) (h : numC a b = none) (w : World) :
    Calls Tryd.prog 40 #[.complex .f64 a b] w fun e w' => e = .returned (.tuple #[.string ⟨#[]⟩, .int .i64 3]) ∧ w = w' := by
  have Q := Lib.hid (fun w => parts_none ha hb h w); clear ha hb h
  go_enter Tryd.func40, Tryd.ntmps40
  go_wp2_with fail
  refine (Q.out _).mono ?_; rintro e w' ⟨rfl, rfl⟩
  go_wp2_with fail
  go_ret2
  exact ⟨rfl, rfl⟩
set_option maxHeartbeats 400000 in
theorem text_some {a b : Nat} {x y : Int} (ha : a < 18446744073709551616) (hb : b < 18446744073709551616) (h : numC a b = some (x, y)) (w : World) (hT : Pow w) :
    Calls Tryd.prog 40 #[.complex .f64 a b] w fun e w' => e = .returned (.tuple #[.string ⟨(textL x y).toArray⟩, .int .i64 0]) ∧ Below w.heap.size w w' := by
  have Q := Lib.hid (fun w => parts_some ha hb h w)
  have g1 := numOf_rng (numC_some h).1; have g2 := numOf_rng (numC_some h).2
  have l1 := itoa_len g1; have l2 := itoa_len g2
  have QI := Lib.hid (fun w hT => itoa_any x g1 w hT); have QJ := Lib.hid (fun w hT => itoa_any y g2 w hT)
  have HT := Lib.hid hT
  clear ha hb h hT g1 g2
  go_enter Tryd.func40, Tryd.ntmps40
  go_wp2_with fail
  refine (Q.out _).mono ?_; rintro e w' ⟨rfl, rfl⟩
  go_wp2_with fail
  refine (QI.out _ HT.out).mono ?_; rintro e w1 ⟨rfl, hb1⟩
  have HB1 := Lib.hid hb1; clear hb1
  have HT1 : Hid (Pow w1) := Lib.hid (Joins.tab_stays gPow HT.out HB1.out (Nat.le_refl _))
  go_wp2_with fail
  refine (QJ.out _ HT1.out).mono ?_; rintro e w2 ⟨rfl, hb2⟩
  have HB2 := Lib.hid hb2; clear hb2
  go_wp2_with fail
  all_goals go_ret2
  all_goals refine ⟨ret2 (congrArg (fun s => Value.tuple #[Value.string s, Value.int .i64 0]) ?_), HB1.out.trans (HB2.out.mono HB1.out.size)⟩
  · rw [textL, if_pos (by simpa using ‹(y == 0) = true›)]
  · rw [textL, if_neg (by simpa using ‹(y == 0) = false›), if_pos (by simpa using ‹(x == 0) = true›)]; exact ba_app _ _
  · rw [textL, if_neg (by simpa using ‹(y == 0) = false›), if_neg (by simpa using ‹(x == 0) = false›), if_pos ‹_›]
    rw [show (⟨#[43]⟩ : ByteArray) = ⟨([43] : List UInt8).toArray⟩ from rfl, show (⟨#[105]⟩ : ByteArray) = ⟨([105] : List UInt8).toArray⟩ from rfl, ba_app, ba_app, ba_app]; simp
  · rw [textL, if_neg (by simpa using ‹(y == 0) = false›), if_neg (by simpa using ‹(x == 0) = false›), if_neg (by omega)]
    rw [show (⟨#[105]⟩ : ByteArray) = ⟨([105] : List UInt8).toArray⟩ from rfl, ba_app, ba_app]; simp
end Go.Proofs.YtgddkgbidhhheaaDoor
/- Where the last sign of a text stands: strings.LastIndexAny of a text and the two signs. -/
namespace Go.Proofs.YtgddkgbidhhheaaDoor
open Go.RowKit Flo
namespace Flo
end Flo
end Go.Proofs.YtgddkgbidhhheaaDoor
/- What part of the package gauss answers, and what the world must hold for it. -/
namespace Go.Proofs.YtgddkgbidhhheaaDoor
open Go.RowKit Flo
/-- an error, or none, stands there -/
def IsErr (w : World) (g : Nat) : Prop := ∃ ev, w.cell? ⟨g, 0, none⟩ = some ev ∧ (ev = .nilIface ∨ ∃ te pe, ev = .iface te pe)
theorem cell_on {w w' : World} (h : Below w.heap.size w w') {a : Addr} {v : Value} (hc : w.cell? a = some v) (_ : w.heap.size ≤ w.heap.size) : w'.cell? a = some v :=
  (h.cell (World.block_lt_of_cell? w a hc)).trans hc
theorem IsErr.below {w w' : World} {g : Nat} (h : IsErr w g) (hb : Below w.heap.size w w') : IsErr w' g := by
  obtain ⟨ev, h1, h2⟩ := h
  exact ⟨ev, cell_on hb h1 (Nat.le_refl _), h2⟩
end Go.Proofs.YtgddkgbidhhheaaDoor
/- The walk of GaussSums: whatever the arguments, true. -/
namespace Go.Proofs.YtgddkgbidhhheaaDoor
open Go.RowKit Flo
end Go.Proofs.YtgddkgbidhhheaaDoor
/- The walk of GaussQuos: whatever the arguments, true. -/
namespace Go.Proofs.YtgddkgbidhhheaaDoor
open Go.RowKit Flo
end Go.Proofs.YtgddkgbidhhheaaDoor
/- Laws of the answers of layer 1, on whole numbers alone. No program in sight. -/
namespace Go.Proofs.YtgddkgbidhhheaaDoor
namespace Flo
end Flo
end Go.Proofs.YtgddkgbidhhheaaDoor
/- The walk of GaussOrder: whatever the arguments, true. -/
namespace Go.Proofs.YtgddkgbidhhheaaDoor
open Go.RowKit Flo
end Go.Proofs.YtgddkgbidhhheaaDoor
/- What Parse of the package gauss answers. -/
namespace Go.Proofs.YtgddkgbidhhheaaDoor
open Go.RowKit Flo
namespace Flo
end Flo
theorem same_text {l : List UInt8} {s : ByteArray} (h : l = s.data.toList) : (⟨l.toArray⟩ : ByteArray) = s := by
  subst h; apply ByteArray.ext; simp
end Go.Proofs.YtgddkgbidhhheaaDoor
