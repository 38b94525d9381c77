/- Two texts one behind the other: the plain law, and what the law's loop holds of memory. -/
import Derived.Test.YtedgcllgifiajaaDoorChain
namespace Go.Proofs.YtedgcllgifiajaaDoor
open Go.RowKit Flo Mk
theorem join_bad {t u : List UInt8} {a : Nat} (h : scan t 0 = .error a) : scan (t ++ [10] ++ u) 0 = .error a := by
  rw [List.append_assoc]; show scan (t ++ 10 :: u) 0 = _
  rw [scan_app u _ t 0 (Nat.lt_succ_self _), h]; rfl
theorem join_ok {t u : List UInt8} {ms : List M} (h : scan t 0 = .ok ms) : scan (t ++ [10] ++ u) 0 = fin ms.dropLast (mvR (t.length + 1) (scan u 0)) := by
  rw [List.append_assoc]; show scan (t ++ 10 :: u) 0 = _
  rw [scan_app u _ t 0 (Nat.lt_succ_self _), h]
  show fin ms.dropLast (scan u (0 + t.length + 1)) = _
  rw [show 0 + t.length + 1 = 0 + (t.length + 1) by omega, scan_mv _ _ u 0 (Nat.lt_succ_self _)]
theorem scan_pos (k : Nat) : ∀ (l : List UInt8) (a : Nat) (ms : List M), l.length < k → scan l a = .ok ms → ∀ m ∈ ms, m.pos ≤ a + l.length := by
  induction k with
  | zero => intro l _ _ h; omega
  | succ k ih =>
    intro l a ms hk h
    cases l with
    | nil => rw [scan_nil] at h; cases h; intro m hm; rw [List.mem_singleton] at hm; subst hm; exact Nat.le_refl _
    | cons c r =>
      simp only [List.length_cons] at hk ⊢
      by_cases hb : blankB c = true
      · rw [scan_blank hb] at h; intro m hm; have := ih r _ _ (by omega) h m hm; omega
      · by_cases h35 : c = 35
        · subst h35
          rw [scan_hash, rem_cons (by decide)] at h
          have hw := tw_dw (· != 10) r
          intro m hm; have := ih _ _ _ (by omega) h m hm; omega
        · rw [scan_one (by simpa using hb) h35] at h
          cases ho : one (c :: r) a with
          | none => rw [ho] at h; cases h
          | some m =>
            rw [ho] at h
            obtain ⟨_, h2, h3, h4⟩ := one_text ho
            simp only [List.length_cons] at h4
            change pre m _ = _ at h
            cases hs : scan ((c :: r).drop m.text.length) (a + m.text.length) with
            | error e => rw [hs] at h; cases h
            | ok xs =>
              rw [hs] at h; cases h
              intro x hx
              rcases List.mem_cons.1 hx with rfl | hx
              · omega
              · have := ih _ _ _ (by rw [List.length_drop]; simp only [List.length_cons]; omega) hs x hx
                rw [List.length_drop] at this; simp only [List.length_cons] at this; omega
/-- the first k marks moved on -/
def mvk (n k : Nat) (us : List M) : List M := (us.take k).map (mv n) ++ us.drop k
theorem mvk_zero (n : Nat) (us : List M) : mvk n 0 us = us := by simp [mvk]
theorem mvk_all (n : Nat) (us : List M) : mvk n us.length us = us.map (mv n) := by simp [mvk]
theorem mvk_len (n k : Nat) (us : List M) : (mvk n k us).length = us.length := by
  simp only [mvk, List.length_append, List.length_map, List.length_take, List.length_drop]; omega
theorem mvk_at (n k : Nat) (us : List M) (j : Nat) : (mvk n k us)[j]? = if j < k then us[j]?.map (mv n) else us[j]? := by
  unfold mvk
  by_cases hk : k ≤ us.length
  · by_cases hj : j < k
    · rw [List.getElem?_append_left (by simp; omega), if_pos hj, List.getElem?_map, List.getElem?_take, if_pos hj]
    · rw [List.getElem?_append_right (by simp; omega), if_neg hj, List.getElem?_drop]
      congr 1
      simp only [List.length_map, List.length_take]; omega
  · rw [List.take_of_length_le (by omega), List.drop_of_length_le (by omega), List.append_nil, List.getElem?_map]
    by_cases hj : j < k
    · rw [if_pos hj]
    · rw [if_neg hj, List.getElem?_eq_none (by omega)]; rfl
/-- what the loop over the second list holds -/
structure JoinAt (w X : World) (gx gz gy : Nat) (D us Z : List M) (n k : Nat) : Prop where
  below : Below w.heap.size w X
  rx : RowAt X (some ⟨gx, 0, none⟩) D
  rz : RowAt X (some ⟨gz, 0, none⟩) Z
  ry : ∀ i m, (mvk n k us)[i]? = some m → X.cell? ⟨gy, i * 4, none⟩ = some (.int .i64 m.kind) ∧ X.cell? ⟨gy, i * 4 + 1, none⟩ = some (.string ⟨m.text.toArray⟩) ∧ X.cell? ⟨gy, i * 4 + 2, none⟩ = some (.complex .f64 (W m.num.1) (W m.num.2)) ∧ X.cell? ⟨gy, i * 4 + 3, none⟩ = some (.int .i64 m.pos)
  fy : ∀ j, X.frozen? ⟨gy, j, none⟩ = false
  nx : gx ≠ gy
  nz : gz ≠ gy
  base : w.heap.size ≤ gy
theorem RowAt.other {X : World} {g o q : Nat} {ms : List M} {gy : Nat} {v : Value} (h : RowAt X (some ⟨g, o, none⟩) ms) (hne : g ≠ gy) : RowAt (X.setCell ⟨gy, q, none⟩ v) (some ⟨g, o, none⟩) ms := fun hn => by
  obtain ⟨g', o', e, hc⟩ := h hn
  cases e
  refine ⟨g, o, rfl, fun j u hu => ?_⟩
  rw [← hc j u hu]
  simp [go_sem]
theorem JoinAt.step {w X : World} {gx gz gy : Nat} {D us Z : List M} {n k : Nat} {m : M} (h : JoinAt w X gx gz gy D us Z n k) (hm : us[k]? = some m) : JoinAt w (X.setCell ⟨gy, k * 4 + 3, none⟩ (.int .i64 ((m.pos + n : Nat) : Int))) gx gz gy D us Z n (k + 1) := by
  have hkk : (mvk n k us)[k]? = some m := by rw [mvk_at, if_neg (Nat.lt_irrefl _), hm]
  refine ⟨h.below.setCell (p := ⟨gy, k * 4 + 3, none⟩) h.base _, h.rx.other h.nx, h.rz.other h.nz, fun i x hi => ?_, fun j => by rw [← h.fy j]; simp [go_sem], h.nx, h.nz, h.base⟩
  by_cases hik : i = k
  · subst hik
    rw [mvk_at, if_pos (Nat.lt_succ_self _), hm] at hi
    cases hi
    obtain ⟨c0, c1, c2, c3⟩ := h.ry i m hkk
    refine ⟨?_, ?_, ?_, ?_⟩
    · rw [show (mv n m).kind = m.kind from rfl, ← c0]; simp [go_sem]
    · rw [show (mv n m).text = m.text from rfl, ← c1]; simp [go_sem]
    · rw [show (mv n m).num = m.num from rfl, ← c2]; simp [go_sem]
    · simp [go_sem, c3, mv]
  · have hx : (mvk n k us)[i]? = some x := by
      rw [mvk_at] at hi ⊢
      by_cases h1 : i < k
      · rw [if_pos h1]; rw [if_pos (by omega)] at hi; exact hi
      · rw [if_neg h1]; rw [if_neg (by omega)] at hi; exact hi
    obtain ⟨c0, c1, c2, c3⟩ := h.ry i x hx
    have n0 : i * 4 ≠ k * 4 + 3 := by omega
    have n1 : i * 4 + 1 ≠ k * 4 + 3 := by omega
    have n2 : i * 4 + 2 ≠ k * 4 + 3 := by omega
    have n3 : i * 4 + 3 ≠ k * 4 + 3 := by omega
    refine ⟨?_, ?_, ?_, ?_⟩
    · rw [← c0]; simp [go_sem]
    · rw [← c1]; simp [go_sem]
    · rw [← c2]; simp [go_sem]
    · rw [← c3]; simp [go_sem]
theorem JoinAt.start {w X : World} {gx gz gy : Nat} {D us Z : List M} {n : Nat} (hb : Below w.heap.size w X) (rx : RowAt X (some ⟨gx, 0, none⟩) D) (rz : RowAt X (some ⟨gz, 0, none⟩) Z) (ry : RowAt X (some ⟨gy, 0, none⟩) us) (fy : ∀ j, X.frozen? ⟨gy, j, none⟩ = false) (nx : gx ≠ gy) (nz : gz ≠ gy) (base : w.heap.size ≤ gy) : JoinAt w X gx gz gy D us Z n 0 := by
  refine ⟨hb, rx, rz, fun i m hi => ?_, fy, nx, nz, base⟩
  rw [mvk_zero] at hi
  obtain ⟨g, o, e, hc⟩ := ry (by intro e; rw [e] at hi; cases hi)
  cases e
  obtain ⟨r0, r1, r2, r3⟩ := rowM_at _ _ m hi
  have c0 := hc _ _ r0
  have c1 := hc _ _ r1
  have c2 := hc _ _ r2
  have c3 := hc _ _ r3
  rw [show 0 + 4 * i = i * 4 by omega] at c0
  rw [show 0 + (4 * i + 1) = i * 4 + 1 by omega] at c1
  rw [show 0 + (4 * i + 2) = i * 4 + 2 by omega] at c2
  rw [show 0 + (4 * i + 3) = i * 4 + 3 by omega] at c3
  exact ⟨c0, c1, c2, c3⟩
theorem JoinAt.row {w X : World} {gx gz gy : Nat} {D us Z : List M} {n k : Nat} (h : JoinAt w X gx gz gy D us Z n k) : RowAt X (some ⟨gy, 0, none⟩) (mvk n k us) := fun _ => by
  refine ⟨gy, 0, rfl, fun j u hu => ?_⟩
  have hl := (List.getElem?_eq_some_iff.1 hu).1
  rw [rowM_len] at hl
  obtain ⟨m, hm⟩ : ∃ m, (mvk n k us)[j / 4]? = some m := ⟨_, List.getElem?_eq_getElem (by omega)⟩
  obtain ⟨c0, c1, c2, c3⟩ := h.ry _ m hm
  obtain ⟨r0, r1, r2, r3⟩ := rowM_at _ _ m hm
  rw [Nat.zero_add]
  have h4 := Nat.div_add_mod j 4
  have hlt := Nat.mod_lt j (show 0 < 4 by decide)
  rcases (show j % 4 = 0 ∨ j % 4 = 1 ∨ j % 4 = 2 ∨ j % 4 = 3 by omega) with e | e | e | e
  · rw [show j = 4 * (j / 4) by omega] at hu; rw [r0] at hu; cases hu; rw [show j = j / 4 * 4 by omega]; exact c0
  · rw [show j = 4 * (j / 4) + 1 by omega] at hu; rw [r1] at hu; cases hu; rw [show j = j / 4 * 4 + 1 by omega]; exact c1
  · rw [show j = 4 * (j / 4) + 2 by omega] at hu; rw [r2] at hu; cases hu; rw [show j = j / 4 * 4 + 2 by omega]; exact c2
  · rw [show j = 4 * (j / 4) + 3 by omega] at hu; rw [r3] at hu; cases hu; rw [show j = j / 4 * 4 + 3 by omega]; exact c3
end Go.Proofs.YtedgcllgifiajaaDoor
