/- Laws of the marks of a text: two texts, a fault, other gaps, the whole text. No program in sight. -/
import Derived.Test.YtedgcllgifiajaaDoorScan
namespace Go.Proofs.YtedgcllgifiajaaDoor
namespace Mk
open Flo
theorem tw_all {p : UInt8 → Bool} {d : UInt8} (hd : p d = false) (b : List UInt8) : ∀ (r : List UInt8), (r ++ d :: b).takeWhile p = r.takeWhile p
  | [] => by simp [hd]
  | c :: r => by
    rw [List.cons_append, List.takeWhile_cons, List.takeWhile_cons]
    cases p c
    · rfl
    · simp only [if_true]; rw [tw_all hd b r]
theorem sign_app {d : UInt8} (h1 : d ≠ 62) (h2 : d ≠ 61) (b : List UInt8) (c : UInt8) (r : List UInt8) : signL (c :: r ++ d :: b) = signL (c :: r) := by
  cases r with
  | nil =>
    show (if (c == 45 && some d == some 62) || (c == 61 && some d == some 61) then 2 else _) = (if (c == 45 && none == some 62) || (c == 61 && none == some 61) then 2 else _)
    have e1 : (some d == some (62 : UInt8)) = false := by simpa using h1
    have e2 : (some d == some (61 : UInt8)) = false := by simpa using h2
    rw [e1, e2]; rfl
  | cons e t => rfl
/-- a mark stays whatever follows a byte that no mark goes on with -/
theorem one_app {d : UInt8} (hr : runB d = false) (h1 : d ≠ 62) (h2 : d ≠ 61) (b : List UInt8) (c : UInt8) (r : List UInt8) (at' : Nat) : one (c :: r ++ d :: b) at' = one (c :: r) at' := by
  unfold one
  rw [sign_app h1 h2, tw_all hr]
  show (if Option.map runB (some c) = some true then _ else _) = (if Option.map runB (some c) = some true then _ else _)
  split
  · rfl
  · split
    · rfl
    · have := signL_le (c :: r)
      rw [List.take_append_of_le_length this]
def app (n : Nat) (x : Except Nat (List M)) (b : List UInt8) : Except Nat (List M) :=
  match x with
  | .error a => .error a
  | .ok ms => fin ms.dropLast (scan b n)
theorem app_pre (n : Nat) (m : M) (x : Except Nat (List M)) (b : List UInt8) (hne : ∀ ms, x = .ok ms → ms ≠ []) : app n (pre m x) b = pre m (app n x b) := by
  cases x with
  | error a => rfl
  | ok ms =>
    show fin (m :: ms).dropLast _ = pre m (fin ms.dropLast _)
    have := hne ms rfl
    cases ms with
    | nil => exact absurd rfl this
    | cons y t =>
      rw [List.dropLast_cons_of_ne_nil (by simp)]
      cases scan b n <;> rfl
theorem pre_ne (m : M) (x : Except Nat (List M)) (ms : List M) (h : pre m x = .ok ms) : ms ≠ [] := by
  cases x with
  | error a => cases h
  | ok t => cases h; simp
theorem scan_ne (k : Nat) : ∀ (l : List UInt8) (at' : Nat) (ms : List M), l.length < k → scan l at' = .ok ms → ms ≠ [] := by
  induction k with
  | zero => intro l _ _ h; omega
  | succ k ih =>
    intro l at' ms hk h
    cases l with
    | nil => rw [scan_nil] at h; cases h; simp
    | cons c r =>
      simp only [List.length_cons] at hk
      by_cases hb : blankB c = true
      · rw [scan_blank hb] at h; exact ih r _ _ (by omega) h
      · by_cases h35 : c = 35
        · subst h35
          rw [scan_hash, rem_cons (by decide)] at h
          exact ih _ _ _ (by have := drop_len (· != 10) r; omega) h
        · rw [scan_one (by simpa using hb) h35] at h
          cases ho : one (c :: r) at' with
          | none => rw [ho] at h; cases h
          | some m => rw [ho] at h; exact pre_ne _ _ _ h
theorem scan_app (b : List UInt8) (k : Nat) : ∀ (a : List UInt8) (at' : Nat), a.length < k → scan (a ++ 10 :: b) at' = app (at' + a.length + 1) (scan a at') b := by
  induction k with
  | zero => intro a _ h; omega
  | succ k ih =>
    intro a at' hk
    cases a with
    | nil =>
      rw [List.nil_append, scan_blank (by decide), scan_nil]
      show _ = fin ([_] : List M).dropLast (scan b _)
      show _ = fin [] (scan b _)
      rw [fin_nil]; rfl
    | cons c r =>
      simp only [List.length_cons] at hk
      by_cases hb : blankB c = true
      · rw [List.cons_append, scan_blank hb, scan_blank hb, ih r _ (by omega)]
        rw [List.length_cons, show at' + 1 + r.length + 1 = at' + (r.length + 1) + 1 by omega]
      · by_cases h35 : c = 35
        · subst h35
          rw [List.cons_append, scan_hash, scan_hash, rem_cons (by decide), rem_cons (by decide)]
          unfold rem
          rw [tw_all (p := (· != 10)) (d := 10) (by decide)]
          have hdw : ∀ (r : List UInt8), (r ++ 10 :: b).dropWhile (· != 10) = r.dropWhile (· != 10) ++ 10 :: b := by
            intro r
            induction r with
            | nil => rfl
            | cons e t iht =>
              rw [List.cons_append, List.dropWhile_cons, List.dropWhile_cons]
              split
              · exact iht
              · rfl
          have hl : (r.dropWhile (· != 10)).length + (r.takeWhile (· != 10)).length = r.length := by
            have := congrArg List.length (List.takeWhile_append_dropWhile (p := (· != 10)) (l := r))
            rw [List.length_append] at this; omega
          rw [hdw, ih _ _ (by omega)]
          congr 1
          simp only [List.length_cons]; omega
        · have hb' : blankB c = false := by simpa using hb
          rw [List.cons_append, scan_one hb' h35, scan_one hb' h35, ← List.cons_append, one_app (by decide) (by decide) (by decide)]
          cases ho : one (c :: r) at' with
          | none => rfl
          | some m =>
            obtain ⟨_, _, h3, h4⟩ := one_text ho
            show pre m _ = app _ (pre m _) b
            rw [app_pre _ _ _ _ (fun ms h => scan_ne _ _ _ _ (Nat.lt_succ_self _) h)]
            rw [List.drop_append_of_le_length h4]
            simp only [List.length_cons] at h4
            rw [ih _ _ (by rw [List.length_drop]; simp only [List.length_cons]; omega)]
            congr 2
            rw [List.length_drop]; simp only [List.length_cons]; omega
/-- places moved on -/
def mv (n : Nat) (m : M) : M := { m with pos := m.pos + n }
def mvR (n : Nat) : Except Nat (List M) → Except Nat (List M)
  | .ok ms => .ok (ms.map (mv n))
  | .error a => .error (a + n)
theorem word_mv (s : List UInt8) (n at' : Nat) : wordM s (at' + n) = (wordM s at').map (mv n) := by
  unfold wordM
  split
  · cases refParse s <;> rfl
  · split
    · rfl
    · split <;> rfl
theorem one_mv (l : List UInt8) (n at' : Nat) : one l (at' + n) = (one l at').map (mv n) := by
  unfold one
  split
  · exact word_mv _ _ _
  · split <;> rfl
theorem mvR_pre (n : Nat) (m : M) (x : Except Nat (List M)) : mvR n (pre m x) = pre (mv n m) (mvR n x) := by cases x <;> rfl
theorem scan_mv (n k : Nat) : ∀ (l : List UInt8) (at' : Nat), l.length < k → scan l (at' + n) = mvR n (scan l at') := by
  induction k with
  | zero => intro l _ h; omega
  | succ k ih =>
    intro l at' hk
    cases l with
    | nil => rfl
    | cons c r =>
      simp only [List.length_cons] at hk
      by_cases hb : blankB c = true
      · rw [scan_blank hb, scan_blank hb, ← ih r _ (by omega)]; congr 1; omega
      · by_cases h35 : c = 35
        · subst h35
          rw [scan_hash, scan_hash, rem_cons (by decide), rem_cons (by decide)]
          unfold rem
          rw [← ih _ _ (by have := drop_len (· != 10) r; omega)]
          congr 1; omega
        · have hb' : blankB c = false := by simpa using hb
          rw [scan_one hb' h35, scan_one hb' h35, one_mv]
          cases ho : one (c :: r) at' with
          | none => rfl
          | some m =>
            obtain ⟨_, _, h3, h4⟩ := one_text ho
            simp only [List.length_cons] at h4
            show pre (mv n m) (scan (List.drop m.text.length (c :: r)) (at' + n + m.text.length)) = mvR n (pre m _)
            rw [mvR_pre, ← ih _ _ (by rw [List.length_drop]; simp only [List.length_cons]; omega)]
            congr 2; omega
/-- where a fault stands -/
theorem scan_bad (k : Nat) : ∀ (l : List UInt8) (at' e : Nat), l.length < k → scan l at' = .error e → at' ≤ e ∧ e < at' + l.length := by
  induction k with
  | zero => intro l _ _ h; omega
  | succ k ih =>
    intro l at' e hk h
    cases l with
    | nil => rw [scan_nil] at h; cases h
    | cons c r =>
      simp only [List.length_cons] at hk ⊢
      by_cases hb : blankB c = true
      · rw [scan_blank hb] at h; have := ih r _ _ (by omega) h; omega
      · by_cases h35 : c = 35
        · subst h35
          rw [scan_hash, rem_cons (by decide)] at h
          have hl : (r.dropWhile (· != 10)).length + (r.takeWhile (· != 10)).length = r.length := by
            have := congrArg List.length (List.takeWhile_append_dropWhile (p := (· != 10)) (l := r))
            rw [List.length_append] at this; omega
          have := ih _ _ _ (by omega) h; omega
        · rw [scan_one (by simpa using hb) h35] at h
          cases ho : one (c :: r) at' with
          | none => rw [ho] at h; cases h; omega
          | some m =>
            rw [ho] at h
            obtain ⟨_, _, h3, h4⟩ := one_text ho
            simp only [List.length_cons] at h4
            change pre m _ = _ at h
            cases hs : scan ((c :: r).drop m.text.length) (at' + m.text.length) with
            | ok xs => rw [hs] at h; cases h
            | error a =>
              rw [hs] at h; cases h
              have := ih _ _ _ (by rw [List.length_drop]; simp only [List.length_cons]; omega) hs
              rw [List.length_drop] at this; simp only [List.length_cons] at this; omega
end Mk
end Go.Proofs.YtedgcllgifiajaaDoor
