/- Laws of the marks of a text: they cover it; what lies ahead of a fault. No program in sight. -/
import Derived.Test.YtedgcllgifiajaaDoorScanl
namespace Go.Proofs.YtedgcllgifiajaaDoor
namespace Mk
open Flo
/-- blanks and remarks alone: within a remark at the end, or not; none: something else -/
def fs : List UInt8 → Bool → Option Bool
  | [], s => some s
  | c :: r, s => if c = 10 then fs r false else if c = 35 then fs r true else if s = false ∧ blankB c = false then none else fs r s
theorem fs_app : ∀ (a b : List UInt8) (s : Bool), fs (a ++ b) s = (fs a s).bind (fs b)
  | [], b, s => rfl
  | c :: r, b, s => by
    simp only [List.cons_append, fs]
    split
    · exact fs_app r b _
    · split
      · exact fs_app r b _
      · split
        · rfl
        · exact fs_app r b _
theorem fs_rem : ∀ (a : List UInt8), (∀ c ∈ a, c ≠ 10) → fs a true = some true
  | [], _ => rfl
  | c :: r, h => by
    have hc := h c (by simp)
    simp only [fs]
    rw [if_neg hc]
    split
    · exact fs_rem r (fun d hd => h d (by simp [hd]))
    · rw [if_neg (fun h => by cases h.1)]
      exact fs_rem r (fun d hd => h d (by simp [hd]))
/-- the marks cover the text t from a place on -/
def Cov (t : List UInt8) : Nat → List M → Prop
  | at', [] => at' = t.length
  | at', m :: r => at' ≤ m.pos ∧ m.pos + m.text.length ≤ t.length ∧ (t.drop m.pos).take m.text.length = m.text ∧ (fs ((t.drop at').take (m.pos - at')) false).isSome = true ∧
      (m.kind = 4 ↔ r = []) ∧ (m.text = [] ↔ m.kind = 4) ∧ (m.kind = 1 ↔ m.text ∈ resv) ∧ (m.kind ≠ 2 → m.num = (0, 0)) ∧ Cov t (m.pos + m.text.length) r
theorem resv_head : ∀ x ∈ resv, (x.head?.map runB) = some true ∧ (x.head?.map digB) = some false := by decide
theorem head_tw {p : UInt8 → Bool} {l : List UInt8} (h : (l.head?.map p) = some true) : (l.takeWhile p).head? = l.head? := by
  cases l with
  | nil => rfl
  | cons c r =>
    have : p c = true := by simpa using h
    rw [List.takeWhile_cons, if_pos this]; rfl
theorem one_kind {l : List UInt8} {at' : Nat} {m : M} (h : one l at' = some m) : m.kind ≠ 4 ∧ (m.kind = 1 ↔ m.text ∈ resv) ∧ (m.kind ≠ 2 → m.num = (0, 0)) := by
  unfold one at h
  split at h
  · rename_i hr
    unfold wordM at h
    split at h
    · rename_i hd
      cases hp : refParse (l.takeWhile runB) with
      | none => rw [hp] at h; cases h
      | some p =>
        rw [hp] at h; cases h
        refine ⟨by simp, ⟨fun h => (by cases h), fun h => ?_⟩, fun h => absurd rfl h⟩
        have := (resv_head _ h).2
        rw [show (l.takeWhile runB).head?.map digB = some true from hd] at this
        cases this
    · split at h
      · rename_i hm; cases h; exact ⟨by simp, ⟨fun _ => hm, fun _ => rfl⟩, fun _ => rfl⟩
      · rename_i hm
        split at h
        · cases h
        · cases h; exact ⟨by simp, ⟨fun h => (by cases h), fun h => absurd h hm⟩, fun _ => rfl⟩
  · rename_i hr
    split at h
    · cases h
    · rename_i hs
      cases h
      refine ⟨by simp, ⟨fun h => (by cases h), fun h => ?_⟩, fun _ => rfl⟩
      have h1 := (resv_head _ h).1
      cases l with
      | nil => exact absurd rfl hs
      | cons c r =>
        obtain ⟨k, hk⟩ : ∃ k, signL (c :: r) = k + 1 := ⟨signL (c :: r) - 1, by omega⟩
        rw [show (M.text ⟨3, (c :: r).take (signL (c :: r)), (0, 0), at'⟩) = c :: r.take k by rw [hk]; rfl] at h1
        exact absurd h1 hr
theorem cut_app {t l : List UInt8} {a at' : Nat} (ha : a ≤ at') (hl : t.drop at' = l) (n : Nat) :
    (t.drop a).take (at' + n - a) = (t.drop a).take (at' - a) ++ l.take n := by
  have e : at' + n - a = (at' - a) + n := by omega
  rw [e, List.take_add, ← hl]
  congr 2
  rw [List.drop_drop]
  congr 1; omega
theorem drop_of {t l : List UInt8} {at' : Nat} (hl : t.drop at' = l) (n : Nat) : t.drop (at' + n) = l.drop n := by rw [← hl, List.drop_drop]
theorem tw_mem {p : UInt8 → Bool} {d : UInt8} : ∀ {r : List UInt8}, d ∈ r.takeWhile p → p d = true
  | c :: r, h => by
    rw [List.takeWhile_cons] at h
    split at h
    · rename_i hc
      rcases List.mem_cons.1 h with h | h
      · rw [h]; exact hc
      · exact tw_mem h
    · cases h
theorem tw_dw (p : UInt8 → Bool) (r : List UInt8) : (r.takeWhile p).length + (r.dropWhile p).length = r.length := by
  have := congrArg List.length (List.takeWhile_append_dropWhile (p := p) (l := r))
  rw [List.length_append] at this; omega
theorem dw_drop (p : UInt8 → Bool) : ∀ (r : List UInt8), r.dropWhile p = r.drop (r.takeWhile p).length
  | [] => rfl
  | c :: r => by
    rw [List.dropWhile_cons, List.takeWhile_cons]
    split
    · rw [List.length_cons, List.drop_succ_cons]; exact dw_drop p r
    · rfl
theorem tw_take (p : UInt8 → Bool) (r : List UInt8) : r.take (r.takeWhile p).length = r.takeWhile p := by
  obtain ⟨t, ht⟩ := List.takeWhile_prefix (p := p) (l := r)
  conv => lhs; arg 2; rw [← ht]
  simp
theorem dw_head (p : UInt8 → Bool) (r : List UInt8) : r.dropWhile p = [] ∨ ∃ c t, r.dropWhile p = c :: t ∧ p c = false := by
  induction r with
  | nil => exact Or.inl rfl
  | cons c r ih =>
    rw [List.dropWhile_cons]
    split
    · exact ih
    · rename_i h; exact Or.inr ⟨c, r, rfl, by simpa using h⟩
theorem scan_cov (t : List UInt8) (k : Nat) : ∀ (l : List UInt8) (at' a : Nat) (s : Bool) (ms : List M), l.length < k → t.drop at' = l → at' ≤ t.length → a ≤ at' → fs ((t.drop a).take (at' - a)) false = some s →
    (s = true → l = [] ∨ ∃ r, l = 10 :: r) → scan l at' = .ok ms → Cov t a ms := by
  induction k with
  | zero => intro l _ _ _ _ h; omega
  | succ k ih =>
    intro l at' a s ms hk hl hat ha hf hs h
    have hlen : l.length = t.length - at' := by rw [← hl, List.length_drop]
    cases l with
    | nil =>
      rw [scan_nil] at h; cases h
      simp only [List.length_nil] at hlen
      refine ⟨ha, by simp; omega, rfl, by show (fs _ false).isSome = true; rw [hf]; rfl, by simp, by simp, ⟨fun h => (by cases h), fun h => absurd h (by show ¬ [] ∈ resv; decide)⟩, fun _ => rfl, ?_⟩
      show at' + 0 = t.length
      omega
    | cons c r =>
      simp only [List.length_cons] at hk hlen
      have g1 := cut_app ha hl 1
      have d1 : t.drop (at' + 1) = r := drop_of hl 1
      by_cases hb : blankB c = true
      · rw [scan_blank hb] at h
        refine ih r (at' + 1) a false ms (by omega) d1 (by omega) (by omega) ?_ (fun h => by cases h) h
        rw [g1, fs_app, hf]
        show fs [c] s = some false
        simp only [fs]
        split
        · rfl
        · rename_i h10
          rw [if_neg (fun h => by rw [h] at hb; exact absurd hb (by decide)), if_neg (fun h => by rw [h.2] at hb; cases hb)]
          cases s with
          | false => rfl
          | true => rcases hs rfl with h | ⟨_, h⟩; cases h; injection h with h; exact absurd h h10
      · have hs' : s = false := by
          cases s with
          | false => rfl
          | true => rcases hs rfl with h | ⟨_, h⟩; cases h; injection h with h; rw [h] at hb; exact absurd (by decide) hb
        subst hs'
        by_cases h35 : c = 35
        · subst h35
          rw [scan_hash, rem_cons (by decide)] at h
          have hw := tw_dw (· != 10) r
          have g2 := cut_app ha hl (1 + (r.takeWhile (· != 10)).length)
          have e2 : (35 :: r).take (1 + (r.takeWhile (· != 10)).length) = 35 :: r.takeWhile (· != 10) := by
            rw [Nat.add_comm, List.take_succ_cons, tw_take]
          refine ih _ _ a true ms (by omega) (by rw [drop_of d1, ← dw_drop]) (by omega) (by omega) ?_ (fun _ => ?_) h
          · rw [show at' + 1 + (r.takeWhile (· != 10)).length - a = at' + (1 + (r.takeWhile (· != 10)).length) - a by omega, g2, e2, fs_app, hf]
            show fs (35 :: r.takeWhile (· != 10)) false = some true
            simp only [fs]
            rw [if_neg (by decide), if_pos trivial]
            refine fs_rem _ (fun d hd => ?_)
            have := tw_mem hd
            simpa using this
          · rcases dw_head (· != 10) r with h | ⟨d, u, h, h'⟩
            · exact Or.inl h
            · refine Or.inr ⟨u, ?_⟩
              have : d = 10 := by simpa using h'
              rw [h, this]
        · rw [scan_one (by simpa using hb) h35] at h
          cases ho : one (c :: r) at' with
          | none => rw [ho] at h; cases h
          | some m =>
            rw [ho] at h
            obtain ⟨h1, h2, h3, h4⟩ := one_text ho
            obtain ⟨k1, k2, k3⟩ := one_kind ho
            simp only [List.length_cons] at h4
            change pre m _ = _ at h
            cases hsc : scan ((c :: r).drop m.text.length) (at' + m.text.length) with
            | error e => rw [hsc] at h; cases h
            | ok xs =>
              rw [hsc] at h; cases h
              have hne := scan_ne _ _ _ _ (Nat.lt_succ_self _) hsc
              refine ⟨by omega, by omega, by rw [h2, hl]; exact h1.symm, by rw [h2, hf]; rfl, ⟨fun h => absurd h k1, fun h => absurd h hne⟩, ⟨fun h => by rw [h] at h3; exact absurd h3 (by decide), fun h => absurd h k1⟩, k2, k3, ?_⟩
              rw [h2]
              refine ih _ _ _ false xs (by rw [List.length_drop]; simp only [List.length_cons]; omega) (drop_of hl _) (by omega) (Nat.le_refl _) (by rw [Nat.sub_self]; rfl) (fun h => by cases h) hsc
/-- what lies ahead of a fault has marks -/
theorem one_take {l : List UInt8} {at' : Nat} {m : M} (h : one l at' = some m) (k : Nat) (hk : m.text.length ≤ k) : one (l.take k) at' = some m := by
  obtain ⟨_, _, h3, h4⟩ := one_text h
  cases l with
  | nil => simp only [List.length_nil] at h4; omega
  | cons c r =>
    obtain ⟨j, rfl⟩ : ∃ j, k = j + 1 := ⟨k - 1, by omega⟩
    rw [List.take_succ_cons]
    unfold one at h ⊢
    have e : (Option.map runB (c :: r.take j).head? = some true) = (Option.map runB (c :: r).head? = some true) := rfl
    by_cases hr : Option.map runB (c :: r).head? = some true
    · rw [if_pos hr] at h
      rw [if_pos (e ▸ hr)]
      obtain ⟨h5, _⟩ := wordM_text h
      have : (c :: r.take j).takeWhile runB = (c :: r).takeWhile runB := by
        have h6 : ((c :: r).takeWhile runB).length ≤ j + 1 := by rw [← h5]; exact hk
        have h7 : ∀ (l : List UInt8) (n : Nat), (l.takeWhile runB).length ≤ n → (l.take n).takeWhile runB = l.takeWhile runB := by
          intro l
          induction l with
          | nil => intro n _; simp
          | cons d u ihd =>
            intro n hn
            cases hd : runB d with
            | false => cases n <;> simp [hd]
            | true =>
              rw [List.takeWhile_cons, if_pos hd, List.length_cons] at hn
              obtain ⟨i, rfl⟩ : ∃ i, n = i + 1 := ⟨n - 1, by omega⟩
              rw [List.take_succ_cons, List.takeWhile_cons, List.takeWhile_cons, if_pos hd, if_pos hd, ihd i (by omega)]
        exact h7 (c :: r) (j + 1) h6
      rw [this]; exact h
    · rw [if_neg hr] at h
      rw [if_neg (e ▸ hr)]
      split at h
      · cases h
      · rename_i hs
        cases h
        have hle := signL_le (c :: r)
        have hk' : signL (c :: r) ≤ j + 1 := by
          rw [show (M.text ⟨3, (c :: r).take (signL (c :: r)), (0, 0), at'⟩) = (c :: r).take (signL (c :: r)) from rfl, List.length_take, Nat.min_eq_left hle] at hk; exact hk
        have : signL (c :: r.take j) = signL (c :: r) := by
          cases j with
          | zero =>
            rw [List.take_zero]
            show (if (c == 45 && none == some 62) || (c == 61 && none == some 61) then 2 else if sign1 c then 1 else 0) = (if (c == 45 && r.head? == some 62) || (c == 61 && r.head? == some 61) then 2 else if sign1 c then 1 else 0)
            have h2 : ¬ ((c == 45 && r.head? == some 62) || (c == 61 && r.head? == some 61)) = true := fun h => by
              have : signL (c :: r) = 2 := if_pos h
              omega
            rw [if_neg h2, if_neg]
            simp
          | succ j =>
            show (if (c == 45 && (r.take (j + 1)).head? == some 62) || (c == 61 && (r.take (j + 1)).head? == some 61) then 2 else if sign1 c then 1 else 0) = _
            have : (r.take (j + 1)).head? = r.head? := by cases r <;> rfl
            rw [this]; rfl
        rw [this, if_neg hs]
        congr 2
        rw [show c :: r.take j = (c :: r).take (j + 1) from rfl, List.take_take, Nat.min_eq_left hk']
theorem scan_cut (k : Nat) : ∀ (l : List UInt8) (at' e : Nat), l.length < k → scan l at' = .error e → ∃ ms, scan (l.take (e - at')) at' = .ok ms := by
  induction k with
  | zero => intro l _ _ h; omega
  | succ k ih =>
    intro l at' e hk h
    obtain ⟨b1, b2⟩ := scan_bad _ _ _ _ (Nat.lt_succ_self _) h
    cases l with
    | nil => rw [scan_nil] at h; cases h
    | cons c r =>
      simp only [List.length_cons] at hk b2
      by_cases hb : blankB c = true
      · rw [scan_blank hb] at h
        obtain ⟨b3, _⟩ := scan_bad _ _ _ _ (Nat.lt_succ_self _) h
        obtain ⟨ms, hm⟩ := ih r _ _ (by omega) h
        refine ⟨ms, ?_⟩
        rw [show e - at' = (e - (at' + 1)) + 1 by omega, List.take_succ_cons, scan_blank hb]; exact hm
      · by_cases h35 : c = 35
        · subst h35
          rw [scan_hash, rem_cons (by decide)] at h
          have hw := tw_dw (· != 10) r
          obtain ⟨b3, b4⟩ := scan_bad _ _ _ _ (Nat.lt_succ_self _) h
          obtain ⟨ms, hm⟩ := ih _ _ _ (by omega) h
          refine ⟨ms, ?_⟩
          rw [show e - at' = (e - (at' + 1)) + 1 by omega, List.take_succ_cons, scan_hash, rem_cons (by decide)]
          obtain ⟨n, hn⟩ : ∃ n, n = e - (at' + 1 + (r.takeWhile (· != 10)).length) := ⟨_, rfl⟩
          rw [← hn] at hm
          have hr : r.take (e - (at' + 1)) = r.takeWhile (· != 10) ++ (r.dropWhile (· != 10)).take n := by
            rw [show e - (at' + 1) = (r.takeWhile (· != 10)).length + n by omega, List.take_add, tw_take, ← dw_drop]
          unfold rem
          have hp : ∀ (x y : List UInt8), (∀ d ∈ x, d ≠ 10) → (y = [] ∨ ∃ u, y = 10 :: u) → (x ++ y).takeWhile (· != 10) = x ∧ (x ++ y).dropWhile (· != 10) = y := by
            intro x y hx hy
            induction x with
            | nil => rcases hy with rfl | ⟨u, rfl⟩ <;> exact ⟨rfl, rfl⟩
            | cons d x ihx =>
              have hd : (d != 10) = true := by simpa using hx d (by simp)
              obtain ⟨i1, i2⟩ := ihx (fun d hd => hx d (by simp [hd]))
              rw [List.cons_append, List.takeWhile_cons, List.dropWhile_cons, if_pos hd, if_pos hd, i1, i2]; exact ⟨rfl, rfl⟩
          obtain ⟨p1, p2⟩ := hp (r.takeWhile (· != 10)) ((r.dropWhile (· != 10)).take n) (fun d hd => by have := tw_mem hd; simpa using this) (by
            rcases dw_head (· != 10) r with h | ⟨d, u, h, h'⟩
            · rw [h]; left; simp
            · have : d = 10 := by simpa using h'
              rw [h, this]
              cases n with
              | zero => left; rfl
              | succ n => right; exact ⟨_, rfl⟩)
          rw [hr, p1, p2]; exact hm
        · rw [scan_one (by simpa using hb) h35] at h
          cases ho : one (c :: r) at' with
          | none =>
            rw [ho] at h; cases h
            rw [Nat.sub_self, List.take_zero]; exact ⟨_, rfl⟩
          | some m =>
            rw [ho] at h
            obtain ⟨_, _, h3, h4⟩ := one_text ho
            simp only [List.length_cons] at h4
            change pre m _ = _ at h
            cases hs : scan ((c :: r).drop m.text.length) (at' + m.text.length) with
            | ok xs => rw [hs] at h; cases h
            | error a =>
              rw [hs] at h; cases h
              obtain ⟨b3, _⟩ := scan_bad _ _ _ _ (Nat.lt_succ_self _) hs
              obtain ⟨ms, hm⟩ := ih _ _ _ (by rw [List.length_drop]; simp only [List.length_cons]; omega) hs
              refine ⟨m :: ms, ?_⟩
              have hto := one_take ho (e - at') (by omega)
              obtain ⟨n, hn⟩ : ∃ n, e - at' = n + 1 := ⟨e - at' - 1, by omega⟩
              rw [hn, List.take_succ_cons] at hto ⊢
              rw [scan_one (by simpa using hb) h35, hto]
              show pre m _ = _
              have : (c :: r.take n).drop m.text.length = ((c :: r).drop m.text.length).take (e - (at' + m.text.length)) := by
                rw [show c :: r.take n = (c :: r).take (n + 1) from rfl, List.drop_take]
                congr 1; omega
              rw [this, hm]; rfl
end Mk
end Go.Proofs.YtedgcllgifiajaaDoor
