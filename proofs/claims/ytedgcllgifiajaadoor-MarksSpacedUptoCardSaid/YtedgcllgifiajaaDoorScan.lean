/- The marks of a text, on lists of bytes. No program in sight. -/
import Derived.Test.YtedgcllgifiajaaDoorRp
namespace Go.Proofs.YtedgcllgifiajaaDoor
namespace Mk
open Flo
/-- a blank -/
def blankB (c : UInt8) : Bool := c == 32 || c == 9 || c == 10 || c == 13
/-- a byte of a run -/
def runB (c : UInt8) : Bool := decide (65 ≤ c.toNat ∧ c.toNat ≤ 90) || decide (97 ≤ c.toNat ∧ c.toNat ≤ 122) || digB c || c == 95
/-- a sign of one byte -/
def sign1 (c : UInt8) : Bool := c == 40 || c == 41 || c == 44 || c == 58 || c == 59 || c == 61 || c == 43 || c == 45 || c == 42 || c == 47 || c == 60 || c == 124
structure M where
  kind : Nat
  text : List UInt8
  num : Int × Int
  pos : Nat
  deriving DecidableEq
/-- the reserved words -/
def resv : List (List UInt8) := [[66], [76], [78], [99, 97, 115, 101], [99, 111, 110, 106], [101, 108, 115, 101], [102, 97, 105, 108], [102, 97, 108, 115, 101], [105, 102], [105, 109], [105, 110], [108, 101, 116], [110, 105, 108], [110, 111, 116], [111, 102], [114, 101], [115, 116, 114, 105, 99, 116], [116, 104, 101, 110], [116, 114, 117, 101]]
/-- the mark of a run -/
def wordM (s : List UInt8) (at' : Nat) : Option M :=
  if (s.head?.map digB) = some true then (refParse s).map (fun p => ⟨2, s, p, at'⟩)
  else if s ∈ resv then some ⟨1, s, (0, 0), at'⟩
  else if s.head? = some 95 then none
  else some ⟨0, s, (0, 0), at'⟩
/-- how long the sign is -/
def signL : List UInt8 → Nat
  | [] => 0
  | c :: r => if (c == 45 && r.head? == some 62) || (c == 61 && r.head? == some 61) then 2 else if sign1 c then 1 else 0
/-- the mark with which a text begins -/
def one (l : List UInt8) (at' : Nat) : Option M :=
  if (l.head?.map runB) = some true then wordM (l.takeWhile runB) at'
  else if signL l = 0 then none else some ⟨3, l.take (signL l), (0, 0), at'⟩
def pre (m : M) : Except Nat (List M) → Except Nat (List M)
  | .ok ms => .ok (m :: ms)
  | .error a => .error a
def scanF : Nat → List UInt8 → Nat → Except Nat (List M)
  | 0, _, at' => .ok [⟨4, [], (0, 0), at'⟩]
  | _ + 1, [], at' => .ok [⟨4, [], (0, 0), at'⟩]
  | k + 1, c :: r, at' =>
    if blankB c then scanF k r (at' + 1)
    else if c = 35 then scanF k (r.dropWhile (· != 10)) (at' + 1 + (r.takeWhile (· != 10)).length)
    else match one (c :: r) at' with
      | none => .error at'
      | some m => pre m (scanF k ((c :: r).drop m.text.length) (at' + m.text.length))
def scan (l : List UInt8) (at' : Nat) : Except Nat (List M) := scanF (l.length + 1) l at'
theorem take_len (p : UInt8 → Bool) (l : List UInt8) : (l.takeWhile p).length ≤ l.length := tw_len p l
theorem drop_len (p : UInt8 → Bool) : ∀ (l : List UInt8), (l.dropWhile p).length ≤ l.length
  | [] => Nat.le_refl _
  | c :: r => by
    rw [List.dropWhile_cons]
    split
    · exact Nat.le_succ_of_le (drop_len p r)
    · exact Nat.le_refl _
theorem wordM_text {s : List UInt8} {at' : Nat} {m : M} (h : wordM s at' = some m) : m.text = s ∧ m.pos = at' := by
  unfold wordM at h
  split at h
  · cases hp : refParse s with
    | none => rw [hp] at h; cases h
    | some p => rw [hp] at h; cases h; exact ⟨rfl, rfl⟩
  · split at h
    · cases h; exact ⟨rfl, rfl⟩
    · split at h
      · cases h
      · cases h; exact ⟨rfl, rfl⟩
theorem signL_le (l : List UInt8) : signL l ≤ l.length := by
  cases l with
  | nil => exact Nat.le_refl _
  | cons c r =>
    show (if _ then 2 else if _ then 1 else 0) ≤ r.length + 1
    split
    · rename_i h
      cases r with
      | nil => simp at h
      | cons d t => simp
    · split <;> omega
theorem one_text {l : List UInt8} {at' : Nat} {m : M} (h : one l at' = some m) : m.text = l.take m.text.length ∧ m.pos = at' ∧ 0 < m.text.length ∧ m.text.length ≤ l.length := by
  unfold one at h
  split at h
  · rename_i hr
    obtain ⟨h1, h2⟩ := wordM_text h
    rw [h1]
    refine ⟨?_, h2, ?_, take_len _ _⟩
    · obtain ⟨t, ht⟩ := List.takeWhile_prefix (p := runB) (l := l)
      conv => rhs; rw [← ht]
      conv => rhs; rw [ht]
      rw [show l.take (l.takeWhile runB).length = (l.takeWhile runB ++ t).take (l.takeWhile runB).length by rw [ht]]
      simp
    · cases l with
      | nil => cases hr
      | cons c r =>
        have : runB c = true := by simpa using hr
        rw [List.takeWhile_cons, if_pos this]; simp
  · split at h
    · cases h
    · rename_i hs
      cases h
      have := signL_le l
      show l.take (signL l) = l.take (l.take (signL l)).length ∧ _ ∧ 0 < (l.take (signL l)).length ∧ (l.take (signL l)).length ≤ _
      rw [List.length_take, Nat.min_eq_left this]
      exact ⟨rfl, rfl, by omega, this⟩
theorem scanF_eq : ∀ (k k' : Nat) (l : List UInt8) (at' : Nat), l.length < k → l.length < k' → scanF k l at' = scanF k' l at' := by
  intro k
  induction k with
  | zero => intro k' l at' h; omega
  | succ k ih =>
    intro k' l at' h h'
    cases k' with
    | zero => omega
    | succ k' =>
      cases l with
      | nil => rfl
      | cons c r =>
        simp only [List.length_cons] at h h'
        simp only [scanF]
        split
        · exact ih k' r _ (by omega) (by omega)
        · split
          · have := drop_len (· != 10) r
            exact ih k' _ _ (by omega) (by omega)
          · cases ho : one (c :: r) at' with
            | none => rfl
            | some m =>
              obtain ⟨_, _, h3, h4⟩ := one_text ho
              simp only [List.length_cons] at h4
              show pre m _ = pre m _
              rw [ih k' _ _ (by rw [List.length_drop]; simp only [List.length_cons]; omega) (by rw [List.length_drop]; simp only [List.length_cons]; omega)]
theorem scan_nil (at' : Nat) : scan [] at' = .ok [⟨4, [], (0, 0), at'⟩] := rfl
theorem scan_blank {c : UInt8} (h : blankB c = true) (r : List UInt8) (at' : Nat) : scan (c :: r) at' = scan r (at' + 1) := by
  show scanF (r.length + 1 + 1) (c :: r) at' = scanF (r.length + 1) r (at' + 1)
  simp only [scanF]; rw [if_pos h]
/-- within a remark -/
def rem (l : List UInt8) (at' : Nat) : Except Nat (List M) := scan (l.dropWhile (· != 10)) (at' + (l.takeWhile (· != 10)).length)
theorem rem_nil (at' : Nat) : rem [] at' = scan [] at' := rfl
theorem rem_nl (r : List UInt8) (at' : Nat) : rem (10 :: r) at' = scan (10 :: r) at' := rfl
theorem rem_cons {c : UInt8} (h : c ≠ 10) (r : List UInt8) (at' : Nat) : rem (c :: r) at' = rem r (at' + 1) := by
  unfold rem
  rw [List.dropWhile_cons, List.takeWhile_cons, if_pos (by simpa using h), if_pos (by simpa using h)]
  rw [List.length_cons, show at' + ((r.takeWhile (· != 10)).length + 1) = at' + 1 + (r.takeWhile (· != 10)).length by omega]
theorem scan_hash (r : List UInt8) (at' : Nat) : scan (35 :: r) at' = rem (35 :: r) at' := by
  rw [rem_cons (by decide)]
  have := drop_len (· != 10) r
  show scanF (r.length + 1 + 1) (35 :: r) at' = scanF _ _ _
  simp only [scanF]
  rw [if_neg (by decide), if_pos trivial]
  exact scanF_eq _ _ _ _ (by omega) (by omega)
theorem scan_one {c : UInt8} (h : blankB c = false) (h2 : c ≠ 35) (r : List UInt8) (at' : Nat) : scan (c :: r) at' =
    match one (c :: r) at' with
    | none => .error at'
    | some m => pre m (scan ((c :: r).drop m.text.length) (at' + m.text.length)) := by
  show scanF (r.length + 1 + 1) (c :: r) at' = _
  simp only [scanF]
  rw [if_neg (by rw [h]; decide), if_neg h2]
  cases ho : one (c :: r) at' with
  | none => rfl
  | some m =>
    obtain ⟨_, _, h3, h4⟩ := one_text ho
    simp only [List.length_cons] at h4
    show pre m _ = pre m _
    unfold scan
    rw [scanF_eq _ _ _ _ (by rw [List.length_drop]; simp only [List.length_cons]; omega) (Nat.lt_succ_self _)]
/-- what is known behind the marks acc -/
def fin (acc : List M) : Except Nat (List M) → Except Nat (List M)
  | .ok ms => .ok (acc ++ ms)
  | .error a => .error a
theorem fin_nil (r : Except Nat (List M)) : fin [] r = r := by cases r <;> rfl
theorem fin_pre (acc : List M) (m : M) (r : Except Nat (List M)) : fin acc (pre m r) = fin (acc ++ [m]) r := by
  cases r with
  | error a => rfl
  | ok ms => show Except.ok (acc ++ m :: ms) = Except.ok (acc ++ [m] ++ ms); rw [List.append_assoc]; rfl
theorem fin_ok {acc ms : List M} {r : Except Nat (List M)} (h : r = .ok ms) : fin acc r = .ok (acc ++ ms) := by subst h; rfl
theorem fin_error {acc : List M} {r : Except Nat (List M)} {a : Nat} (h : r = .error a) : fin acc r = .error a := by subst h; rfl
/-- at most one mark a byte, and the end -/
theorem scan_len (k : Nat) : ∀ (l : List UInt8) (at' : Nat) (ms : List M), l.length < k → scan l at' = .ok ms → ms.length ≤ l.length + 1 := by
  induction k with
  | zero => intro l _ _ h; omega
  | succ k ih =>
    intro l at' ms hk h
    cases l with
    | nil => rw [scan_nil] at h; cases h; simp
    | cons c r =>
      simp only [List.length_cons] at hk ⊢
      by_cases hb : blankB c = true
      · rw [scan_blank hb] at h; have := ih r _ _ (by omega) h; omega
      · by_cases h35 : c = 35
        · subst h35
          rw [scan_hash, rem_cons (by decide)] at h
          have h1 := ih _ _ _ (by have := drop_len (· != 10) r; omega) h
          have := drop_len (· != 10) r
          omega
        · rw [scan_one (by simpa using hb) h35] at h
          cases ho : one (c :: r) at' with
          | none => rw [ho] at h; cases h
          | some m =>
            rw [ho] at h
            obtain ⟨_, _, h3, h4⟩ := one_text ho
            simp only [List.length_cons] at h4
            change pre m _ = _ at h
            cases hs : scan ((c :: r).drop m.text.length) (at' + m.text.length) with
            | error a => rw [hs] at h; cases h
            | ok xs =>
              rw [hs] at h
              cases h
              have := ih _ _ _ (by rw [List.length_drop]; simp only [List.length_cons]; omega) hs
              rw [List.length_drop] at this
              simp only [List.length_cons] at this ⊢
              omega
end Mk
end Go.Proofs.YtedgcllgifiajaaDoor
