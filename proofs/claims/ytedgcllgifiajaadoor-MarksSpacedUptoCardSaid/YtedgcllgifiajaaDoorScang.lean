/- Laws of the marks of a text: other gaps between them. No program in sight. -/
import Derived.Test.YtedgcllgifiajaaDoorScanc
namespace Go.Proofs.YtedgcllgifiajaaDoor
namespace Mk
open Flo
def gapL : List (List UInt8) := [[32], [10], [9], [13], [32, 35, 32, 61, 61, 32, 51, 120, 32, 64, 10], [35, 10], [32, 32]]
def gapB (c : UInt8) : Bool := blankB c || c == 35
theorem gap_head : ∀ g ∈ gapL, ∃ d u, g = d :: u ∧ gapB d = true := by
  intro g hg
  simp only [gapL, List.mem_cons, List.not_mem_nil, or_false] at hg
  rcases hg with rfl | rfl | rfl | rfl | rfl | rfl | rfl <;> exact ⟨_, _, rfl, by decide⟩
theorem scan_gap : ∀ g ∈ gapL, ∀ (rest : List UInt8) (at' : Nat), scan (g ++ rest) at' = scan rest (at' + g.length) := by
  intro g hg rest at'
  simp only [gapL, List.mem_cons, List.not_mem_nil, or_false] at hg
  rcases hg with rfl | rfl | rfl | rfl | rfl | rfl | rfl
  · exact scan_blank (by decide) _ _
  · exact scan_blank (by decide) _ _
  · exact scan_blank (by decide) _ _
  · exact scan_blank (by decide) _ _
  · simp only [List.cons_append, List.nil_append]
    rw [scan_blank (by decide), scan_hash, rem_cons (by decide), rem_cons (by decide), rem_cons (by decide), rem_cons (by decide), rem_cons (by decide), rem_cons (by decide), rem_cons (by decide), rem_cons (by decide), rem_cons (by decide), rem_nl, scan_blank (by decide)]
    rfl
  · simp only [List.cons_append, List.nil_append]
    rw [scan_hash, rem_cons (by decide), rem_nl, scan_blank (by decide)]
    rfl
  · simp only [List.cons_append, List.nil_append]
    rw [scan_blank (by decide), scan_blank (by decide)]
    rfl
/-- a mark that some text begins with -/
def Tok (m : M) : Prop := ∃ c r at', one (c :: r) at' = some m ∧ blankB c = false ∧ c ≠ 35
theorem word_pos {s : List UInt8} {a : Nat} {m : M} (h : wordM s a = some m) (b : Nat) : wordM s b = some { m with pos := b } := by
  unfold wordM at h ⊢
  split at h
  · rename_i h1; rw [if_pos h1]
    cases hp : refParse s with
    | none => rw [hp] at h; cases h
    | some p => rw [hp] at h; cases h; rfl
  · rename_i h1; rw [if_neg h1]
    split at h
    · rename_i h2; rw [if_pos h2]; cases h; rfl
    · rename_i h2; rw [if_neg h2]
      split at h
      · cases h
      · rename_i h3; rw [if_neg h3]; cases h; rfl
theorem one_pos {l : List UInt8} {a : Nat} {m : M} (h : one l a = some m) (b : Nat) : one l b = some { m with pos := b } := by
  unfold one at h ⊢
  split at h
  · rename_i h1; rw [if_pos h1]; exact word_pos h b
  · rename_i h1; rw [if_neg h1]
    split at h
    · cases h
    · rename_i h2; rw [if_neg h2]; cases h; rfl
theorem gap_bytes {d : UInt8} (h : gapB d = true) : runB d = false ∧ d ≠ 62 ∧ d ≠ 61 := by
  unfold gapB blankB at h
  simp only [Bool.or_eq_true, beq_iff_eq] at h
  rcases h with (((rfl | rfl) | rfl) | rfl) | rfl <;> decide
theorem Tok.read {m : M} (h : Tok m) (rest : List UInt8) (hr : ∃ d u, rest = d :: u ∧ gapB d = true) (at' : Nat) :
    ∃ c t, m.text = c :: t ∧ blankB c = false ∧ c ≠ 35 ∧ one (m.text ++ rest) at' = some { m with pos := at' } := by
  obtain ⟨c, r, a, ho, h1, h2⟩ := h
  obtain ⟨h3, _, h5, h6⟩ := one_text ho
  have h7 := one_take ho _ (Nat.le_refl _)
  obtain ⟨k, hk⟩ : ∃ k, m.text.length = k + 1 := ⟨m.text.length - 1, by omega⟩
  rw [hk, List.take_succ_cons] at h3 h7
  obtain ⟨d, u, rfl, hd⟩ := hr
  obtain ⟨g1, g2, g3⟩ := gap_bytes hd
  refine ⟨c, _, h3, h1, h2, ?_⟩
  rw [h3, one_app g1 g2 g3]
  exact h3 ▸ one_pos h7 at'
def strip (m : M) : M := { m with pos := 0 }
theorem scan_toks (k : Nat) : ∀ (l : List UInt8) (at' : Nat) (ms : List M), l.length < k → scan l at' = .ok ms → ∃ ts e, ms = ts ++ [⟨4, [], (0, 0), e⟩] ∧ ∀ m ∈ ts, Tok m := by
  induction k with
  | zero => intro l _ _ h; omega
  | succ k ih =>
    intro l at' ms hk h
    cases l with
    | nil => rw [scan_nil] at h; cases h; exact ⟨[], at', rfl, by simp⟩
    | cons c r =>
      simp only [List.length_cons] at hk
      by_cases hb : blankB c = true
      · rw [scan_blank hb] at h; exact ih r _ _ (by omega) h
      · by_cases h35 : c = 35
        · subst h35
          rw [scan_hash, rem_cons (by decide)] at h
          exact ih _ _ _ (by have := drop_len (· != 10) r; omega) h
        · rw [scan_one (by simpa using hb) h35] at h
          cases ho : one (c :: r) at' with
          | none => rw [ho] at h; cases h
          | some m =>
            rw [ho] at h
            obtain ⟨_, _, h3, h4⟩ := one_text ho
            simp only [List.length_cons] at h4
            change pre m _ = _ at h
            cases hs : scan ((c :: r).drop m.text.length) (at' + m.text.length) with
            | error a => rw [hs] at h; cases h
            | ok xs =>
              rw [hs] at h; cases h
              obtain ⟨ts, e, rfl, ht⟩ := ih _ _ _ (by rw [List.length_drop]; simp only [List.length_cons]; omega) hs
              refine ⟨m :: ts, e, rfl, fun x hx => ?_⟩
              rcases List.mem_cons.1 hx with rfl | hx
              · exact ⟨c, r, at', ho, by simpa using hb, h35⟩
              · exact ht x hx
/-- the marks' texts with gaps ahead of each -/
def joinG : List (List UInt8) → List M → List UInt8
  | g :: gs, m :: ms => g ++ (m.text ++ joinG gs ms)
  | _, _ => []
theorem spaced (g0 : List UInt8) (h0 : g0 ∈ gapL) (e : Nat) : ∀ (ts : List M) (gs : List (List UInt8)) (at' : Nat), gs.length = ts.length → (∀ g ∈ gs, g ∈ gapL) → (∀ m ∈ ts, Tok m) →
    ∃ ms, scan (joinG gs ts ++ g0) at' = .ok ms ∧ ms.map strip = (ts ++ ([⟨4, [], (0, 0), e⟩] : List M)).map strip
  | [], gs, at', hl, _, _ => by
    obtain rfl : gs = [] := List.eq_nil_of_length_eq_zero hl
    refine ⟨[⟨4, [], (0, 0), at' + g0.length⟩], ?_, rfl⟩
    have := scan_gap g0 h0 [] at'
    rw [List.append_nil] at this
    show scan ([] ++ g0) at' = _
    rw [List.nil_append, this, scan_nil]
  | m :: ts, [], at', hl, _, _ => by cases hl
  | m :: ts, g :: gs, at', hl, hg, ht => by
    obtain ⟨ms, hm, hs⟩ := spaced g0 h0 e ts gs (at' + g.length + m.text.length) (by simpa using hl) (fun x hx => hg x (by simp [hx])) (fun x hx => ht x (by simp [hx]))
    have hrest : ∃ d u, joinG gs ts ++ g0 = d :: u ∧ gapB d = true := by
      obtain ⟨d0, u0, e0, b0⟩ := gap_head g0 h0
      cases ts with
      | nil => exact ⟨d0, u0, by cases gs <;> exact e0, b0⟩
      | cons m' ts =>
        cases gs with
        | nil => cases hl
        | cons g' gs =>
          obtain ⟨d, u, e1, b1⟩ := gap_head g' (hg g' (by simp))
          exact ⟨d, _, by subst e1; rfl, b1⟩
    obtain ⟨c, t, hc, h1, h2, ho⟩ := (ht m (by simp)).read _ hrest (at' + g.length)
    refine ⟨({ m with pos := at' + g.length } : M) :: ms, ?_, by simp only [List.map_cons, List.cons_append, hs]; rfl⟩
    show scan ((g ++ (m.text ++ joinG gs ts)) ++ g0) at' = _
    rw [List.append_assoc, List.append_assoc, scan_gap g (hg g (by simp))]
    have hcons : m.text ++ (joinG gs ts ++ g0) = c :: (t ++ (joinG gs ts ++ g0)) := by rw [hc]; rfl
    rw [hcons] at ho ⊢
    rw [scan_one h1 h2, ho]
    show pre _ (scan ((c :: (t ++ (joinG gs ts ++ g0))).drop m.text.length) _) = _
    rw [← hcons, List.drop_left, hm]
    rfl
end Mk
end Go.Proofs.YtedgcllgifiajaaDoor
