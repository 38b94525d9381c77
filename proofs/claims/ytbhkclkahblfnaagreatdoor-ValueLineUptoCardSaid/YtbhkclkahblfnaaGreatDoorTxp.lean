/- What the text of a number is read as, on lists of bytes. No program in sight. -/
import Derived.Test.YtbhkclkahblfnaaGreatDoorTx
import Derived.Lib.AtoiAllCases
import Derived.Lib.Strings
namespace Go.Proofs.YtbhkclkahblfnaaGreatDoor
namespace Flo
open Go.Lib
theorem dec_mem : ∀ (u : Nat), ∀ b ∈ decDigits u, 48 ≤ b.toNat ∧ b.toNat ≤ 57 := by
  intro u
  induction u using Nat.strongRecOn with
  | _ u ih =>
    intro b hb
    rw [decDigits] at hb
    split at hb
    · rw [List.mem_singleton] at hb
      subst hb
      simp [UInt8.toNat_ofNat']; omega
    · rcases List.mem_append.1 hb with h | h
      · exact ih (u / 10) (by omega) b h
      · rw [List.mem_singleton] at h
        subst h
        simp [UInt8.toNat_ofNat']; omega
theorem dec_ne (u : Nat) : decDigits u ≠ [] := by
  rw [decDigits]; split <;> simp
theorem parse_app (c : UInt8) : ∀ (l : List UInt8) (acc a : Nat), parseUint10 acc l = .ok a → parseUint10 acc (l ++ [c]) = parseUint10 a [c]
  | [], acc, a, h => by
    simp only [parseUint10] at h; injection h with h; subst h; rfl
  | x :: r, acc, a, h => by
    simp only [parseUint10, List.cons_append] at h ⊢
    split at h
    · split at h
      · cases h
      · split at h
        · cases h
        · rename_i h1 h2 h3
          rw [if_pos h1, if_neg h2, if_neg h3]
          exact parse_app c r _ a h
    · cases h
theorem parse_dec : ∀ (u : Nat), u ≤ 16777216 → parseUint10 0 (decDigits u) = .ok u := by
  intro u
  induction u using Nat.strongRecOn with
  | _ u ih =>
    intro hu
    rw [decDigits]
    split
    · have : (UInt8.ofNat (48 + u)).toNat = 48 + u := by simp [UInt8.toNat_ofNat']; omega
      simp only [parseUint10, this]
      rw [if_pos (by omega), if_neg (by omega), if_neg (by omega)]
      congr 1; omega
    · have : (UInt8.ofNat (48 + u % 10)).toNat = 48 + u % 10 := by simp [UInt8.toNat_ofNat']; omega
      rw [parse_app _ _ _ _ (ih (u / 10) (by omega) (by omega))]
      simp only [parseUint10, this]
      rw [if_pos (by omega), if_neg (by omega), if_neg (by omega)]
      congr 1; omega
theorem mag_dec {u : Nat} (hu : u ≤ 16777216) : parseMag (decDigits u) = .ok u := by
  unfold parseMag; rw [if_neg (dec_ne u)]; exact parse_dec u hu
theorem atoi_itoa {x : Int} (h : -16777216 ≤ x ∧ x ≤ 16777216) : atoiAll (itoa x) = .ok x := by
  unfold itoa
  split
  · rw [atoiAll_minus, mag_dec (by omega)]
    show (if 9223372036854775808 < x.natAbs then (NumEnd.range : NumEnd Int) else .ok (-(x.natAbs : Int))) = _
    rw [if_neg (by omega)]
    congr 1; omega
  · obtain ⟨c, r, hcr⟩ : ∃ c r, decDigits x.toNat = c :: r := by
      cases hd : decDigits x.toNat with
      | nil => exact absurd hd (dec_ne _)
      | cons c r => exact ⟨c, r, rfl⟩
    have hc := dec_mem x.toNat c (by rw [hcr]; simp)
    rw [hcr, atoiAll_plain c r (by omega) (by omega), ← hcr, mag_dec (by omega)]
    show (if 9223372036854775808 ≤ x.toNat then (NumEnd.range : NumEnd Int) else .ok (x.toNat : Int)) = _
    rw [if_neg (by omega)]
    congr 1; omega
theorem itoa_ne (x : Int) : itoa x ≠ [] := by
  unfold itoa; split
  · simp
  · exact dec_ne _
/-- the bytes of a numeral: digits, and a minus in front -/
theorem itoa_at (x : Int) (j : Nat) (b : UInt8) (h : (itoa x)[j]? = some b) : (48 ≤ b.toNat ∧ b.toNat ≤ 57) ∨ (j = 0 ∧ b = 45) := by
  unfold itoa at h
  split at h
  · cases j with
    | zero => simp at h; exact Or.inr ⟨rfl, h.symm⟩
    | succ j => rw [List.getElem?_cons_succ] at h; exact Or.inl (dec_mem _ b (List.mem_of_getElem? h))
  · exact Or.inl (dec_mem _ b (List.mem_of_getElem? h))
theorem itoa_pos_head {x : Int} (h : 0 ≤ x) (j : Nat) (b : UInt8) (hb : (itoa x)[j]? = some b) : 48 ≤ b.toNat ∧ b.toNat ≤ 57 := by
  unfold itoa at hb
  rw [if_neg (by omega)] at hb
  exact dec_mem _ b (List.mem_of_getElem? hb)
theorem itoa_neg_head {x : Int} (h : x < 0) : ∃ r, itoa x = 45 :: r ∧ ∀ b ∈ r, 48 ≤ b.toNat ∧ b.toNat ≤ 57 := by
  unfold itoa
  rw [if_pos h]
  exact ⟨_, rfl, dec_mem _⟩
/-- no sign at i or behind it -/
def NoPM (l : List UInt8) (i : Nat) : Prop := ∀ (j : Nat) b, i ≤ j → l[j]? = some b → b ≠ 43 ∧ b ≠ 45
theorem NoPM.top (l : List UInt8) : NoPM l l.length := fun j b h hb => by
  rw [List.getElem?_eq_none (by omega)] at hb; cases hb
theorem NoPM.step {l : List UInt8} {i : Nat} {b : UInt8} (h : NoPM l (i + 1)) (hb : l[i]? = some b) (h1 : b ≠ 43) (h2 : b ≠ 45) : NoPM l i := fun j c hj hc => by
  rcases Nat.eq_or_lt_of_le hj with rfl | hlt
  · rw [hb] at hc; cases hc; exact ⟨h1, h2⟩
  · exact h j c hlt hc
/-- the last sign stands there (-1: there is none) -/
def LastPM (l : List UInt8) (at' : Int) : Prop :=
  (at' = -1 ∧ NoPM l 0) ∨ ∃ i : Nat, ∃ b, at' = i ∧ l[i]? = some b ∧ (b = 43 ∨ b = 45) ∧ NoPM l (i + 1)
theorem LastPM.at {l : List UInt8} {at' : Int} (h : LastPM l at') {i : Nat} {b : UInt8} (hi : l[i]? = some b) (hb : b = 43 ∨ b = 45) (hn : NoPM l (i + 1)) : at' = i := by
  rcases h with ⟨_, h0⟩ | ⟨j, c, rfl, hj, hc, hnj⟩
  · rcases hb with rfl | rfl
    · exact absurd rfl (h0 i _ (by omega) hi).1
    · exact absurd rfl (h0 i _ (by omega) hi).2
  · have h1 : ¬ i + 1 ≤ j := fun hij => by rcases hc with rfl | rfl; exact absurd rfl (hn j _ hij hj).1; exact absurd rfl (hn j _ hij hj).2
    have h2 : ¬ j + 1 ≤ i := fun hij => by rcases hb with rfl | rfl; exact absurd rfl (hnj i _ hij hi).1; exact absurd rfl (hnj i _ hij hi).2
    omega
/-- the two halves of a text -/
def halves (l : List UInt8) (at' : Int) : List UInt8 × List UInt8 :=
  if hasSuffix l [105] = true then
    if 0 < at' then ((trimSuffix l [105]).take at'.toNat, trimPrefix ((trimSuffix l [105]).drop at'.toNat) [43]) else ([], trimSuffix l [105])
  else (l, [])
/-- the whole number of a half -/
def partL (l : List UInt8) : Option Int := if l = [] then some 0 else match atoiAll l with
  | .ok v => some v
  | _ => none
theorem partL_nil : partL [] = some 0 := if_pos rfl
theorem partL_itoa {x : Int} (h : -16777216 ≤ x ∧ x ≤ 16777216) : partL (itoa x) = some x := by
  unfold partL; rw [if_neg (itoa_ne x), atoi_itoa h]
/-- what a text is read as -/
def gParse (l : List UInt8) (at' : Int) : Option (Int × Int) :=
  match partL (halves l at').1, partL (halves l at').2 with
  | some x, some y => if okR x y = true ∧ textL x y = l then some (x, y) else none
  | _, _ => none
theorem suf_app (m : List UInt8) : hasSuffix (m ++ [105]) [105] = true := by
  unfold hasSuffix; simp [List.isSuffixOf_iff_suffix]
theorem trim_app (m : List UInt8) : trimSuffix (m ++ [105]) [105] = m := by
  unfold trimSuffix; rw [if_pos (suf_app m)]; simp
theorem suf_itoa (x : Int) : hasSuffix (itoa x) [105] = false := by
  apply Bool.eq_false_iff.2
  intro h
  unfold hasSuffix at h
  rw [List.isSuffixOf_iff_suffix] at h
  obtain ⟨t, ht⟩ := h
  have h1 : (itoa x)[t.length]? = some 105 := by rw [← ht]; simp
  rcases itoa_at x _ _ h1 with h2 | ⟨_, h2⟩
  · exact absurd h2 (by decide)
  · exact absurd h2 (by decide)
theorem textL_i {x y : Int} (hy : y ≠ 0) : textL x y = (if x = 0 then itoa y else if 0 < y then itoa x ++ [43] ++ itoa y else itoa x ++ itoa y) ++ [105] := by
  unfold textL
  rw [if_neg hy]
  split
  · rfl
  · split <;> rfl
theorem at_app {l m : List UInt8} {j : Nat} {b : UInt8} (h : (l ++ m)[j]? = some b) (hj : l.length ≤ j) : m[j - l.length]? = some b := by
  rwa [List.getElem?_append_right hj] at h
theorem dig_no {b : UInt8} (h : 48 ≤ b.toNat ∧ b.toNat ≤ 57) : b ≠ 43 ∧ b ≠ 45 := by
  constructor
  · rintro rfl; exact absurd h (by decide)
  · rintro rfl; exact absurd h (by decide)
theorem halves_text {x y : Int} {at' : Int} (hl : LastPM (trimSuffix (textL x y) [105]) at') :
    partL (halves (textL x y) at').1 = partL (if x = 0 ∧ y ≠ 0 then [] else itoa x) ∧ partL (halves (textL x y) at').2 = partL (if y = 0 then [] else itoa y) := by
  by_cases hy : y = 0
  · have e : textL x y = itoa x := by unfold textL; rw [if_pos hy]
    unfold halves
    rw [e, if_neg (by rw [suf_itoa]; decide), if_pos hy, if_neg (fun h => h.2 hy)]
    exact ⟨rfl, rfl⟩
  · rw [textL_i hy, trim_app] at hl
    unfold halves
    rw [textL_i hy, if_pos (suf_app _), trim_app, if_neg hy]
    by_cases hx : x = 0
    · simp only [if_pos hx, if_pos (And.intro hx hy)] at hl ⊢
      have hle : ¬ 0 < at' := by
        rcases hl with ⟨rfl, _⟩ | ⟨i, b, rfl, hi, hb, _⟩
        · omega
        · rcases itoa_at y i b hi with h2 | ⟨h0, _⟩
          · rcases hb with rfl | rfl
            · exact absurd h2 (by decide)
            · exact absurd h2 (by decide)
          · omega
      rw [if_neg hle]
      exact ⟨rfl, rfl⟩
    · have hlen : 0 < (itoa x).length := List.length_pos_iff.2 (itoa_ne x)
      simp only [if_neg hx, if_neg (fun h : x = 0 ∧ y ≠ 0 => hx h.1)] at hl ⊢
      by_cases hp : 0 < y
      · simp only [if_pos hp] at hl ⊢
        have hat : at' = ((itoa x).length : Int) := by
          refine hl.at (b := 43) (by simp) (Or.inl rfl) ?_
          intro j b hj hb
          rw [List.append_assoc] at hb
          have hb' := at_app hb (by omega)
          obtain ⟨k, hk⟩ : ∃ k, j - (itoa x).length = k + 1 := ⟨j - (itoa x).length - 1, by omega⟩
          rw [hk] at hb'
          exact dig_no (itoa_pos_head (Int.le_of_lt hp) k b (by simpa using hb'))
        subst hat
        rw [if_pos (by omega)]
        refine ⟨by simp, ?_⟩
        have : ((itoa x ++ [43] ++ itoa y).drop ((itoa x).length : Int).toNat) = 43 :: itoa y := by simp
        rw [this]
        unfold trimPrefix hasPrefix
        simp
      · obtain ⟨r, hr, hd⟩ := itoa_neg_head (x := y) (by omega)
        simp only [if_neg hp] at hl ⊢
        have hat : at' = ((itoa x).length : Int) := by
          refine hl.at (b := 45) (by rw [hr]; simp) (Or.inr rfl) ?_
          intro j b hj hb
          have hb' := at_app hb (by omega)
          obtain ⟨k, hk⟩ : ∃ k, j - (itoa x).length = k + 1 := ⟨j - (itoa x).length - 1, by omega⟩
          rw [hk, hr] at hb'
          exact dig_no (hd b (List.mem_of_getElem? (by simpa using hb' : r[k]? = some b)))
        subst hat
        rw [if_pos (by omega)]
        refine ⟨by simp, ?_⟩
        have : ((itoa x ++ itoa y).drop ((itoa x).length : Int).toNat) = itoa y := by simp
        rw [this, hr]
        unfold trimPrefix hasPrefix
        simp
/-- the text of a number is read as the number -/
theorem gParse_text {x y : Int} {at' : Int} (h : okR x y = true) (hl : LastPM (trimSuffix (textL x y) [105]) at') : gParse (textL x y) at' = some (x, y) := by
  have hr := okR_iff.1 h
  obtain ⟨e1, e2⟩ := halves_text hl
  have f1 : partL (if x = 0 ∧ y ≠ 0 then [] else itoa x) = some x := by
    split
    · rename_i hc; rw [hc.1]; exact partL_nil
    · exact partL_itoa hr.1
  have f2 : partL (if y = 0 then [] else itoa y) = some y := by
    split
    · rename_i hc; rw [hc]; exact partL_nil
    · exact partL_itoa hr.2
  unfold gParse
  rw [e1, e2, f1, f2]
  exact if_pos ⟨h, rfl⟩
theorem gParse_some {l : List UInt8} {at' x y : Int} (h : gParse l at' = some (x, y)) : okR x y = true ∧ textL x y = l := by
  unfold gParse at h
  split at h
  · split at h
    · rename_i hc; cases h; exact hc
    · cases h
  · cases h
end Flo
end Go.Proofs.YtbhkclkahblfnaaGreatDoor
