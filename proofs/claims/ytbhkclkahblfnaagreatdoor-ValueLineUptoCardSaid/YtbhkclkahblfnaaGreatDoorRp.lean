/- What the reference reads as a number, on lists of bytes. No program in sight. -/
import Derived.Test.YtbhkclkahblfnaaGreatDoorTxp
namespace Go.Proofs.YtbhkclkahblfnaaGreatDoor
namespace Flo
open Go.Lib
def digB (b : UInt8) : Bool := decide (48 ≤ b.toNat) && decide (b.toNat ≤ 57)
def capStep (n : Nat) (b : UInt8) : Nat := min (10 * n + (b.toNat - 48)) 16777217
def capV (ds : List UInt8) : Nat := ds.foldl capStep 0
def offD (l : List UInt8) : Nat := if l.head? = some 45 then 1 else 0
def runD (l : List UInt8) : List UInt8 := (l.drop (offD l)).takeWhile digB
/-- a whole number at the front of a text, and how many bytes it has -/
def wholeL (l : List UInt8) : Int × Nat :=
  if runD l = [] then (0, 0) else (if offD l = 1 then -(capV (runD l) : Int) else (capV (runD l) : Int), offD l + (runD l).length)
theorem capV_snoc (ds : List UInt8) (b : UInt8) : capV (ds ++ [b]) = capStep (capV ds) b := by
  unfold capV; rw [List.foldl_append]; rfl
theorem capV_le (ds : List UInt8) : capV ds ≤ 16777217 := by
  unfold capV
  suffices h : ∀ (ds : List UInt8) (n : Nat), n ≤ 16777217 → ds.foldl capStep n ≤ 16777217 from h ds 0 (by omega)
  intro ds
  induction ds with
  | nil => intro n h; exact h
  | cons b r ih => intro n h; exact ih _ (Nat.min_le_right _ _)
theorem tw_some (p : UInt8 → Bool) : ∀ (m : List UInt8) (j : Nat), j < (m.takeWhile p).length → ∃ b, m[j]? = some b ∧ p b = true ∧ (m.takeWhile p)[j]? = some b
  | [], j, h => by simp at h
  | c :: r, j, h => by
    rw [List.takeWhile_cons] at h ⊢
    cases hc : p c with
    | false => rw [hc] at h; simp at h
    | true =>
      rw [hc] at h
      simp only [if_true] at h ⊢
      cases j with
      | zero => exact ⟨c, rfl, hc, rfl⟩
      | succ j => simpa using tw_some p r j (by simpa using h)
theorem tw_stop (p : UInt8 → Bool) : ∀ (m : List UInt8) (b : UInt8), m[(m.takeWhile p).length]? = some b → p b = false
  | [], b, h => by simp at h
  | c :: r, b, h => by
    rw [List.takeWhile_cons] at h
    cases hc : p c with
    | false => rw [hc] at h; simp at h; rw [← h]; exact hc
    | true => rw [hc] at h; simp at h; exact tw_stop p r b h
theorem tw_len (p : UInt8 → Bool) (m : List UInt8) : (m.takeWhile p).length ≤ m.length := by
  induction m with
  | nil => simp
  | cons c r ih => rw [List.takeWhile_cons]; split <;> simp; omega
theorem tw_app (p : UInt8 → Bool) (t : List UInt8) (ht : ∀ b, t.head? = some b → p b = false) : ∀ (m : List UInt8), (∀ b ∈ m, p b = true) → (m ++ t).takeWhile p = m
  | [], _ => by
    cases t with
    | nil => rfl
    | cons b r => rw [List.nil_append, List.takeWhile_cons, ht b rfl]; rfl
  | c :: r, h => by
    rw [List.cons_append, List.takeWhile_cons, h c (by simp)]
    simp only [if_true]
    rw [tw_app p t ht r (fun b hb => h b (by simp [hb]))]
theorem dec_dig (u : Nat) : ∀ b ∈ decDigits u, digB b = true := fun b hb => by
  have := dec_mem u b hb
  unfold digB; simp; exact this
theorem capV_dec : ∀ (u : Nat), u ≤ 16777216 → capV (decDigits u) = u := by
  intro u
  induction u using Nat.strongRecOn with
  | _ u ih =>
    intro hu
    rw [decDigits]
    split
    · have : (UInt8.ofNat (48 + u)).toNat = 48 + u := by simp [UInt8.toNat_ofNat']; omega
      show min (10 * 0 + ((UInt8.ofNat (48 + u)).toNat - 48)) 16777217 = u
      rw [this]; omega
    · have : (UInt8.ofNat (48 + u % 10)).toNat = 48 + u % 10 := by simp [UInt8.toNat_ofNat']; omega
      rw [capV_snoc, ih (u / 10) (by omega) (by omega)]
      unfold capStep
      rw [this]; omega
/-- the number at the front of a text that begins with a number's text -/
theorem whole_itoa {x : Int} (hx : -16777216 ≤ x ∧ x ≤ 16777216) (t : List UInt8) (ht : ∀ b, t.head? = some b → digB b = false) :
    wholeL (itoa x ++ t) = (x, (itoa x).length) := by
  unfold itoa
  by_cases hn : x < 0
  · rw [if_pos hn]
    have ho : offD (45 :: decDigits x.natAbs ++ t) = 1 := rfl
    have hr : runD (45 :: decDigits x.natAbs ++ t) = decDigits x.natAbs := by
      unfold runD; rw [ho]; exact tw_app _ _ ht _ (dec_dig _)
    unfold wholeL
    rw [hr, ho, if_neg (dec_ne _), if_pos rfl, capV_dec _ (by omega)]
    simp only [List.length_cons]
    refine Prod.ext ?_ ?_
    · show -(x.natAbs : Int) = x; omega
    · show 1 + (decDigits x.natAbs).length = (decDigits x.natAbs).length + 1; omega
  · rw [if_neg hn]
    obtain ⟨c, r, hcr⟩ : ∃ c r, decDigits x.toNat = c :: r := by
      cases hd : decDigits x.toNat with
      | nil => exact absurd hd (dec_ne _)
      | cons c r => exact ⟨c, r, rfl⟩
    have ho : offD (decDigits x.toNat ++ t) = 0 := by
      have := dec_mem x.toNat c (by rw [hcr]; simp)
      unfold offD
      rw [hcr]
      refine if_neg fun h => ?_
      have e : c = 45 := Option.some.inj h
      rw [e] at this; exact absurd this (by decide)
    have hr : runD (decDigits x.toNat ++ t) = decDigits x.toNat := by
      unfold runD; rw [ho]; exact tw_app _ _ ht _ (dec_dig _)
    unfold wholeL
    rw [hr, ho, if_neg (dec_ne _), if_neg (by decide), capV_dec _ (by omega)]
    refine Prod.ext ?_ ?_
    · show (x.toNat : Int) = x; omega
    · show 0 + (decDigits x.toNat).length = (decDigits x.toNat).length; omega
/-- the two parts that the reference takes a text for -/
def refHalves (l : List UInt8) : Int × Int :=
  if l.drop (wholeL l).2 = [105] then (0, (wholeL l).1)
  else if l.drop (wholeL l).2 = [] then ((wholeL l).1, 0)
  else ((wholeL l).1, (wholeL (if (l.drop (wholeL l).2).head? = some 43 then (l.drop (wholeL l).2).drop 1 else l.drop (wholeL l).2)).1)
/-- what the reference reads -/
def refParse (l : List UInt8) : Option (Int × Int) :=
  if (wholeL l).2 = 0 then none
  else if okR (refHalves l).1 (refHalves l).2 = true ∧ textL (refHalves l).1 (refHalves l).2 = l then some (refHalves l) else none
theorem refHalves_text {x y : Int} (h : okR x y = true) : (wholeL (textL x y)).2 ≠ 0 ∧ refHalves (textL x y) = (x, y) := by
  have hr := okR_iff.1 h
  have hnl : ∀ b, ([] : List UInt8).head? = some b → digB b = false := fun b hb => by cases hb
  have hi : ∀ b, ([105] : List UInt8).head? = some b → digB b = false := fun b hb => by cases hb; rfl
  have lx : (itoa x).length ≠ 0 := fun e => itoa_ne x (List.eq_nil_of_length_eq_zero e)
  have ly : (itoa y).length ≠ 0 := fun e => itoa_ne y (List.eq_nil_of_length_eq_zero e)
  by_cases hy : y = 0
  · have e : textL x y = itoa x ++ [] := by unfold textL; rw [if_pos hy, List.append_nil]
    have w := whole_itoa hr.1 [] hnl
    rw [e]
    refine ⟨by rw [w]; exact lx, ?_⟩
    unfold refHalves
    rw [w]
    have d : (itoa x ++ []).drop (itoa x).length = [] := by simp
    simp only [d]
    rw [if_neg (by decide), if_pos trivial, hy]
  · by_cases hx : x = 0
    · have e : textL x y = itoa y ++ [105] := by unfold textL; rw [if_neg hy, if_pos hx]
      have w := whole_itoa hr.2 [105] hi
      rw [e]
      refine ⟨by rw [w]; exact ly, ?_⟩
      unfold refHalves
      rw [w]
      have d : (itoa y ++ [105]).drop (itoa y).length = [105] := by simp
      simp only [d]
      rw [if_pos trivial, hx]
    · by_cases hp : 0 < y
      · have e : textL x y = itoa x ++ (43 :: (itoa y ++ [105])) := by unfold textL; rw [if_neg hy, if_neg hx, if_pos hp]; simp
        have w := whole_itoa hr.1 (43 :: (itoa y ++ [105])) (fun b hb => by cases hb; rfl)
        have w2 := whole_itoa hr.2 [105] hi
        rw [e]
        refine ⟨by rw [w]; exact lx, ?_⟩
        unfold refHalves
        rw [w]
        have d : (itoa x ++ (43 :: (itoa y ++ [105]))).drop (itoa x).length = 43 :: (itoa y ++ [105]) := by simp
        simp only [d]
        rw [if_neg (by simp), if_neg (by simp)]
        show (x, (wholeL (if (43 :: (itoa y ++ [105])).head? = some 43 then itoa y ++ [105] else _)).1) = (x, y)
        rw [if_pos List.head?_cons, w2]
      · obtain ⟨r, hrr, hd⟩ := itoa_neg_head (x := y) (by omega)
        have e : textL x y = itoa x ++ (itoa y ++ [105]) := by unfold textL; rw [if_neg hy, if_neg hx, if_neg hp]; simp
        have w := whole_itoa hr.1 (itoa y ++ [105]) (fun b hb => by rw [hrr] at hb; cases hb; rfl)
        have w2 := whole_itoa hr.2 [105] hi
        rw [e]
        refine ⟨by rw [w]; exact lx, ?_⟩
        unfold refHalves
        rw [w]
        have d : (itoa x ++ (itoa y ++ [105])).drop (itoa x).length = itoa y ++ [105] := by simp
        simp only [d]
        rw [if_neg (by rw [hrr]; simp), if_neg (by simp), if_neg (by rw [hrr]; simp)]
        rw [w2]
theorem refParse_text {x y : Int} (h : okR x y = true) : refParse (textL x y) = some (x, y) := by
  obtain ⟨h1, h2⟩ := refHalves_text h
  unfold refParse
  rw [if_neg h1, h2]
  exact if_pos ⟨h, rfl⟩
theorem refParse_some {l : List UInt8} {x y : Int} (h : refParse l = some (x, y)) : okR x y = true ∧ textL x y = l := by
  unfold refParse at h
  split at h
  · cases h
  · split at h
    · rename_i hc; have := Option.some.inj h; rw [this] at hc; exact hc
    · cases h
/-- both read the same -/
theorem parse_same {l : List UInt8} {a : Int} (hl : (∀ (j : Nat) b, (trimSuffix l [105])[j]? = some b → b.toNat < 128) → LastPM (trimSuffix l [105]) a) (hasc : ∀ x y, textL x y = l → ∀ (j : Nat) b, (trimSuffix l [105])[j]? = some b → b.toNat < 128) :
    gParse l a = refParse l := by
  cases hr : refParse l with
  | some p =>
    obtain ⟨x, y⟩ := p
    obtain ⟨h1, h2⟩ := refParse_some hr
    have q := hl (hasc x y h2)
    rw [← h2] at q ⊢
    exact gParse_text h1 q
  | none =>
    cases hg : gParse l a with
    | none => rfl
    | some p =>
      obtain ⟨x, y⟩ := p
      obtain ⟨h1, h2⟩ := gParse_some hg
      rw [← h2, refParse_text h1] at hr
      cases hr
end Flo
end Go.Proofs.YtbhkclkahblfnaaGreatDoor
