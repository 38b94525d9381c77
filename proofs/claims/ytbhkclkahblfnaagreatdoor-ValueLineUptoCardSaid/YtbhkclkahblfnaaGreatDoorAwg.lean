/- Plain laws of layer 9: a line of texts is taken apart into the values. -/
import Derived.Test.YtbhkclkahblfnaaGreatDoorAwf
set_option linter.unusedVariables false
set_option linter.unusedSimpArgs false
namespace Go.Proofs.YtbhkclkahblfnaaGreatDoor
open Go.RowKit Flo Ab
theorem pcR_stop {rest : List UInt8} (h : rest = [] ∨ rest.head? = some 32) : pcR rest false = 0 := by
  rcases h with rfl | h
  · rfl
  · cases rest with
    | nil => rfl
    | cons b r =>
      simp only [List.head?_cons, Option.some.injEq] at h
      subst h
      rw [pcR_cons, if_neg (by simp)]
theorem pcR_run : ∀ (w rest : List UInt8), (∀ b ∈ w, b ≠ 32) → pcR (w ++ rest) false = w.length + pcR rest false
  | [], rest, _ => by simp
  | b :: w, rest, h => by
    rw [List.cons_append, pcR_cons, if_pos (.inr (h b (by simp))), Bool.false_and, pcR_run w rest (fun c hc => h c (by simp [hc]))]
    simp; omega
theorem pcR_in : ∀ (w rest : List UInt8), (∀ b ∈ w, b ≠ 93) → pcR (w ++ rest) true = w.length + pcR rest true
  | [], rest, _ => by simp
  | b :: w, rest, h => by
    have hb : (b == 93) = false := by simpa using h b (by simp)
    rw [List.cons_append, pcR_cons, if_pos (.inl rfl), hb, Bool.not_false, Bool.and_true, pcR_in w rest (fun c hc => h c (by simp [hc]))]
    simp; omega
theorem join_ch : ∀ (ws : List (List UInt8)), (∀ w ∈ ws, ∀ b ∈ w, b ≠ 93) → ∀ b ∈ Lib.join ws [32], b ≠ 93
  | [], _ => by simp [Lib.join_nil]
  | [w], h => by rw [Lib.join_one]; exact h w (by simp)
  | w :: x :: r, h => by
    intro b hb
    rw [Lib.join_cons, joinTail_cons] at hb
    simp only [List.mem_append, List.mem_singleton] at hb
    rcases hb with hb | hb | hb
    · exact h w (by simp) b hb
    · subst hb; decide
    · exact join_ch (x :: r) (fun w hw => h w (by simp [hw])) b hb
theorem tx_pc {v : Va} (h : v.ok = true) {rest : List UInt8} (hr : rest = [] ∨ rest.head? = some 32) : ∃ b q, v.tx = b :: q ∧ b ≠ 32 ∧ pcr (v.tx ++ rest) = v.tx.length := by
  have plain : ∀ w : List UInt8, w ≠ [] → (∀ b ∈ w, b ≠ 32 ∧ b ≠ 91) → ∃ b q, w = b :: q ∧ b ≠ 32 ∧ pcr (w ++ rest) = w.length := fun w hw hc => by
    cases w with
    | nil => exact absurd rfl hw
    | cons b q =>
      refine ⟨b, q, rfl, (hc b (by simp)).1, ?_⟩
      have hb : ((b :: q ++ rest).head? == some 91) = false := by simpa using (hc b (by simp)).2
      unfold pcr
      rw [hb, pcR_run (b :: q) rest (fun c hc' => (hc c hc').1), pcR_stop hr]; rfl
  obtain ⟨h1, h2, h3⟩ := ok_parts h
  obtain ⟨ty, a, b, bo, l⟩ := v
  simp only at h1 h2 h3
  unfold Va.tx
  rw [if_pos h]
  rcases h3 with ⟨rfl, rfl, rfl⟩ | ⟨rfl, rfl, rfl, rfl⟩ | ⟨rfl, rfl, rfl, rfl⟩
  · obtain ⟨x, y, h0, he⟩ := isN_eq h1
    obtain ⟨rfl, rfl⟩ := Prod.mk.inj he
    rw [if_pos rfl, txC_W h0]
    exact plain _ (textL_ne x y) (fun b hb => ⟨(textL_ch x y b hb).1, (textL_ch x y b hb).2.1⟩)
  · rw [if_neg (by show ¬ (2 : Int) = 1; decide), if_pos rfl]
    cases bo
    · exact plain _ (by decide) (by decide)
    · exact plain _ (by decide) (by decide)
  · rw [if_neg (by show ¬ (3 : Int) = 1; decide), if_neg (by show ¬ (3 : Int) = 2; decide)]
    simp only at h2 ⊢
    obtain ⟨p1, _⟩ := txs_parse h2
    have hno := join_ch (txs l) (fun w hw b hb => ((parsed_ch (List.all_eq_true.1 p1 w hw)).2 b hb).2.2)
    refine ⟨91, Lib.join (txs l) [32] ++ [93], by simp, by decide, ?_⟩
    have e : ([91] ++ Lib.join (txs l) [32] ++ [93] ++ rest : List UInt8) = 91 :: (Lib.join (txs l) [32] ++ (93 :: rest)) := by simp
    rw [e]
    unfold pcr
    have hb : ((91 :: (Lib.join (txs l) [32] ++ (93 :: rest))).head? == some (91 : UInt8)) = true := by simp
    rw [hb, pcR_cons, if_pos (.inl rfl)]
    have h93 : (true && !((91 : UInt8) == 93)) = true := by decide
    rw [h93, pcR_in _ _ hno, pcR_cons, if_pos (.inl rfl)]
    have h93' : (true && !((93 : UInt8) == 93)) = false := by decide
    rw [h93', pcR_stop hr]; simp
theorem goS_app {v : Va} (h : v.ok = true) {rest : List UInt8} (hr : rest = [] ∨ rest.head? = some 32) : goS (v.tx ++ rest) = match goS rest with | none => none | some vs => some (v :: vs) := by
  obtain ⟨b, q, he, hb, hp⟩ := tx_pc h hr
  have e : v.tx ++ rest = b :: (q ++ rest) := by rw [he]; rfl
  rw [e, goS_piece hb, ← e, hp, List.take_left, List.drop_left, refV_tx h]
  rfl
theorem goS_blanks : ∀ (n : Nat) (l : List UInt8), goS (List.replicate n 32 ++ l) = goS l
  | 0, l => rfl
  | n + 1, l => by rw [List.replicate_succ, List.cons_append, goS_blank, goS_blanks n l]
/-- the line's pieces: blanks ahead, the value -/
def gapN (gaps : List UInt8) (i : Nat) : Nat := match gaps[i]? with | some b => b.toNat % 3 + 1 | none => 1
def lnS (gaps : List UInt8) : Nat → List Vx → List (Nat × Va)
  | _, [] => []
  | i, a :: r => if a.val.ok = true then (gapN gaps i, a.val) :: lnS gaps (i + 1) r else lnS gaps (i + 1) r
def lnB (ps : List (Nat × Va)) : List UInt8 := ps.flatMap fun p => List.replicate p.1 32 ++ p.2.tx
theorem gapN_pos (gaps : List UInt8) (i : Nat) : 1 ≤ gapN gaps i := by unfold gapN; split <;> omega
theorem lnS_ok (gaps : List UInt8) : ∀ (i : Nat) (l : List Vx), ∀ p ∈ lnS gaps i l, 1 ≤ p.1 ∧ p.2.ok = true
  | _, [], p, h => by simp [lnS] at h
  | i, a :: r, p, h => by
    unfold lnS at h
    split at h
    · rename_i ho
      rcases List.mem_cons.1 h with rfl | h
      · exact ⟨gapN_pos _ _, ho⟩
      · exact lnS_ok gaps _ r p h
    · exact lnS_ok gaps _ r p h
theorem line_head (ps : List (Nat × Va)) (h : ∀ p ∈ ps, 1 ≤ p.1 ∧ p.2.ok = true) : (lnB ps ++ [32, 32]).head? = some 32 := by
  cases ps with
  | nil => rfl
  | cons p r =>
    have := (h p (by simp)).1
    obtain ⟨n, hn⟩ : ∃ n, p.1 = n + 1 := ⟨p.1 - 1, by omega⟩
    unfold lnB
    rw [List.flatMap_cons, hn, List.replicate_succ]; simp
theorem goS_line : ∀ (ps : List (Nat × Va)), (∀ p ∈ ps, 1 ≤ p.1 ∧ p.2.ok = true) → goS (lnB ps ++ [32, 32]) = some (ps.map (·.2))
  | [], _ => by
    show goS [32, 32] = some []
    rw [goS_blank, goS_blank, goS_nil]
  | p :: r, h => by
    have e : lnB (p :: r) ++ [32, 32] = List.replicate p.1 32 ++ (p.2.tx ++ (lnB r ++ [32, 32])) := by simp [lnB]
    have hr : ∀ p ∈ r, 1 ≤ p.1 ∧ p.2.ok = true := fun p hp => h p (by simp [hp])
    rw [e, goS_blanks, goS_app (h p (by simp)).2 (.inr (line_head r hr)), goS_line r hr]; rfl
end Go.Proofs.YtbhkclkahblfnaaGreatDoor
