/- Texts joined: Avw Avx Avy Avz Awa Awb Awc Awd. -/
import Derived.Test.YtbhkclkahblfnaaGreatDoorVa
/- Plain laws of layer 9: pieces and words of a text; what value.Parse reads is what the reference reads. -/
set_option linter.unusedVariables false
set_option linter.unusedSimpArgs false
namespace Go.Proofs.YtbhkclkahblfnaaGreatDoor
open Go.RowKit Flo Ab
/-- the pieces between blanks; cur: the piece under way -/
def splitS : List UInt8 → List UInt8 → List (List UInt8)
  | [], cur => [cur]
  | b :: r, cur => if b = 32 then cur :: splitS r [] else splitS r (cur ++ [b])
theorem splitS_cons (b : UInt8) (r cur : List UInt8) : splitS (b :: r) cur = if b = 32 then cur :: splitS r [] else splitS r (cur ++ [b]) := rfl
theorem splitS_ne : ∀ (l cur : List UInt8), splitS l cur ≠ []
  | [], cur => by simp [splitS]
  | b :: r, cur => by
    unfold splitS
    split
    · simp
    · exact splitS_ne r _
theorem index_cons (b : UInt8) (r : List UInt8) : Lib.index (b :: r) [32] = if b = 32 then 0 else if Lib.index r [32] = -1 then -1 else Lib.index r [32] + 1 := by
  rw [Lib.index]
  by_cases h : b = 32
  · subst h; rw [if_pos rfl, if_pos (by simp [List.isPrefixOf])]
  · have : ¬ 32 = b := fun e => h e.symm
    rw [if_neg h, if_neg (by simp [List.isPrefixOf, this])]
    simp only [beq_iff_eq]
theorem splitS_miss : ∀ (l cur : List UInt8), Lib.index l [32] = -1 → splitS l cur = [cur ++ l]
  | [], cur, _ => by simp [splitS]
  | b :: r, cur, h => by
    rw [index_cons] at h
    split at h
    · omega
    · rename_i hb
      have hr : Lib.index r [32] = -1 := by
        split at h
        · assumption
        · have := Lib.index_ge r [32]; omega
      unfold splitS
      rw [if_neg hb, splitS_miss r _ hr]; simp
theorem splitS_hit : ∀ (l cur : List UInt8) (i : Nat), Lib.index l [32] = i → splitS l cur = (cur ++ l.take i) :: splitS (l.drop (i + 1)) []
  | [], cur, i, h => by
    have : Lib.index [] [32] = -1 := rfl
    omega
  | b :: r, cur, i, h => by
    rw [index_cons] at h
    split at h
    · rename_i hb
      obtain rfl : i = 0 := by omega
      rw [splitS_cons, if_pos hb]; simp
    · rename_i hb
      split at h
      · omega
      · cases i with
        | zero => have := Lib.index_ge r [32]; omega
        | succ i =>
          rw [splitS_cons, if_neg hb, splitS_hit r _ i (by omega)]; simp
theorem splitK_S : ∀ (n : Nat) (l : List UInt8), l.length ≤ n → Lib.splitK [32] 0 (Lib.count l [32]) l = splitS l [] := by
  intro n
  induction n with
  | zero =>
    intro l hl
    obtain rfl : l = [] := List.eq_nil_of_length_eq_zero (by omega)
    rw [Lib.count_miss (by simp [Lib.index])]; rfl
  | succ n ih =>
    intro l hl
    by_cases hm : Lib.index l [32] = -1
    · rw [Lib.count_miss hm, splitS_miss l [] hm]; rfl
    · have hge := Lib.index_ge l [32]
      obtain ⟨i, hi⟩ : ∃ i : Nat, Lib.index l [32] = i := ⟨(Lib.index l [32]).toNat, by omega⟩
      rw [Lib.count_hit (by simp) hi, splitS_hit l [] i hi, Nat.add_comm]
      have hlt : i < l.length := by
        have hx : ∀ (l : List UInt8) (i : Nat), Lib.index l [32] = i → i < l.length := by
          intro l
          induction l with
          | nil =>
            intro i h
            have : Lib.index [] [32] = -1 := rfl
            omega
          | cons b r ihr =>
            intro i h
            rw [index_cons] at h
            split at h
            · simp; omega
            · split at h
              · omega
              · cases i with
                | zero => simp
                | succ i => have := ihr i (by omega); simp; omega
        exact hx l i hi
      show (if Lib.index l [32] == -1 then [l] else l.take ((Lib.index l [32]).toNat + 0) :: Lib.splitK [32] 0 _ (l.drop ((Lib.index l [32]).toNat + [32].length))) = _
      rw [if_neg (by simpa using hm), hi]
      show l.take (i + 0) :: Lib.splitK [32] 0 (Lib.count (l.drop (i + 1)) [32]) (l.drop (i + 1)) = _
      rw [ih (l.drop (i + 1)) (by simp; omega)]; simp
theorem splitL_S (l : List UInt8) : splitL l = splitS l [] := by
  unfold splitL
  rw [Lib.splitB_data]
  exact splitK_S l.length l (Nat.le_refl _)
theorem words_S : ∀ (l cur : List UInt8), wordsS l cur = (splitS l cur).filter fun w => !w.isEmpty
  | [], cur => by
    unfold wordsS splitS
    cases cur <;> simp
  | b :: r, cur => by
    unfold wordsS splitS
    by_cases hb : b = 32
    · rw [if_pos hb, if_pos hb, words_S r []]
      cases cur <;> simp
    · rw [if_neg hb, if_neg hb, words_S r _]
theorem joinTail_cons (sep x : List UInt8) (r : List (List UInt8)) : Lib.joinTail sep (x :: r) = sep ++ Lib.join (x :: r) sep := by
  rw [Lib.join_cons]; simp [Lib.joinTail]
theorem join_S : ∀ (l cur : List UInt8), Lib.join (splitS l cur) [32] = cur ++ l
  | [], cur => by simp [splitS, Lib.join_one]
  | b :: r, cur => by
    unfold splitS
    by_cases hb : b = 32
    · rw [if_pos hb, Lib.join_cons, hb]
      have ih := join_S r []
      cases hs : splitS r [] with
      | nil => exact absurd hs (splitS_ne _ _)
      | cons x q => rw [hs] at ih; rw [joinTail_cons, ih]; simp
    · rw [if_neg hb, join_S r _]; simp
theorem splitS_word : ∀ (w rest cur : List UInt8), (∀ b ∈ w, b ≠ 32) → splitS (w ++ rest) cur = splitS rest (cur ++ w)
  | [], rest, cur, _ => by simp
  | b :: w, rest, cur, h => by
    rw [List.cons_append, splitS, if_neg (h b (by simp)), splitS_word w rest _ (fun c hc => h c (by simp [hc]))]
    simp
theorem S_join : ∀ (ws : List (List UInt8)), ws ≠ [] → (∀ w ∈ ws, ∀ b ∈ w, b ≠ 32) → splitS (Lib.join ws [32]) [] = ws
  | [], h, _ => absurd rfl h
  | [w], _, h => by
    have := splitS_word w [] [] (h w (by simp))
    rw [Lib.join_one]
    simpa [splitS] using this
  | w :: x :: r, _, h => by
    rw [Lib.join_cons, joinTail_cons, splitS_word w _ [] (h w (by simp))]
    show splitS (32 :: Lib.join (x :: r) [32]) _ = _
    rw [splitS, if_pos rfl, S_join (x :: r) (by simp) (fun w hw => h w (by simp [hw]))]
    simp
/-! what the text of a number is made of -/
theorem itoa_ch (x : Int) : ∀ b ∈ Lib.itoa x, b ≠ 32 ∧ b ≠ 91 ∧ b ≠ 93 := by
  intro b hb
  obtain ⟨j, hj⟩ := List.getElem?_of_mem hb
  rcases itoa_at x j b hj with ⟨h1, h2⟩ | ⟨_, rfl⟩
  · refine ⟨fun e => ?_, fun e => ?_, fun e => ?_⟩ <;> (subst e; revert h1 h2; decide)
  · decide
theorem textL_ch (x y : Int) : ∀ b ∈ textL x y, b ≠ 32 ∧ b ≠ 91 ∧ b ≠ 93 := by
  intro b hb
  have h1 := itoa_ch x b
  have h2 := itoa_ch y b
  have c1 : ∀ b : UInt8, b = 43 ∨ b = 105 → b ≠ 32 ∧ b ≠ 91 ∧ b ≠ 93 := by rintro b (rfl | rfl) <;> decide
  have h3 := c1 b
  unfold textL at hb
  split at hb
  · exact h1 hb
  · split at hb
    · simp only [List.mem_append, List.mem_singleton] at hb
      rcases hb with hb | hb
      · exact h2 hb
      · exact h3 (.inr hb)
    · split at hb
      · simp only [List.mem_append, List.mem_singleton] at hb
        rcases hb with ((hb | hb) | hb) | hb
        · exact h1 hb
        · exact h3 (.inl hb)
        · exact h2 hb
        · exact h3 (.inr hb)
      · simp only [List.mem_append, List.mem_singleton] at hb
        rcases hb with (hb | hb) | hb
        · exact h1 hb
        · exact h2 hb
        · exact h3 (.inr hb)
theorem textL_ne (x y : Int) : textL x y ≠ [] := by
  have h1 := itoa_ne x
  have h2 := itoa_ne y
  unfold textL
  split
  · exact h1
  · split
    · simp
    · split <;> simp
theorem parsed_ch {w : List UInt8} (h : (refParse w).isSome = true) : w ≠ [] ∧ ∀ b ∈ w, b ≠ 32 ∧ b ≠ 91 ∧ b ≠ 93 := by
  cases hr : refParse w with
  | none => rw [hr] at h; cases h
  | some p =>
    obtain ⟨x, y⟩ := p
    obtain ⟨_, rfl⟩ := refParse_some hr
    exact ⟨textL_ne x y, textL_ch x y⟩
theorem parsed_tx {w : List UInt8} (h : (refParse w).isSome = true) : txC (wz (refParse w)).1 (wz (refParse w)).2 = w ∧ isN (wz (refParse w)) = true := by
  cases hr : refParse w with
  | none => rw [hr] at h; cases h
  | some p =>
    obtain ⟨x, y⟩ := p
    obtain ⟨h0, h1⟩ := refParse_some hr
    have hx := okR_iff.1 h0
    have hn := numC_W hx.1 hx.2
    exact ⟨by simp only [wz, txC, hn, h1], by simp only [isN, wz, hn]; rfl⟩
theorem zero_num : numC 0 0 = some (0, 0) := by
  have := numC_W (x := 0) (y := 0) (by omega) (by omega)
  rwa [W0] at this
theorem zero_eq : cEq 0 0 0 0 = true := by decide +kernel
/-- the list of numbers that words read as -/
def lstV (ws : List (List UInt8)) : Va := ⟨3, 0, 0, false, ws.map fun w => wz (refParse w)⟩
theorem lstV_ok {ws : List (List UInt8)} (h : ws.all (fun w => (refParse w).isSome) = true) : (lstV ws).ok = true := by
  unfold Va.ok lstV
  simp only [Int.reduceEq, if_false, if_true, isN, zero_num, zero_eq, Option.isSome_some, Bool.not_false, Bool.and_self, Bool.true_and]
  rw [List.all_map]
  refine List.all_eq_true.2 (fun w hw => ?_)
  exact (parsed_tx (List.all_eq_true.1 h w hw)).2
theorem lstV_txs {ws : List (List UInt8)} (h : ws.all (fun w => (refParse w).isSome) = true) : txs (lstV ws).l = ws := by
  unfold txs lstV
  simp only [List.map_map]
  exact (List.map_congr_left (g := id) fun w hw => (parsed_tx (List.all_eq_true.1 h w hw)).1).trans (List.map_id _)
theorem lstV_tx {ws : List (List UInt8)} (h : ws.all (fun w => (refParse w).isSome) = true) : (lstV ws).tx = [91] ++ Lib.join ws [32] ++ [93] := by
  unfold Va.tx
  rw [if_pos (lstV_ok h), lstV_txs h]
  rfl
/-- how the reference reads -/
def refV (l : List UInt8) : Option Va :=
  if l = tru then some ⟨2, 0, 0, true, []⟩
  else if l = fals then some ⟨2, 0, 0, false, []⟩
  else match refParse l with
    | some (x, y) => some ⟨1, W x, W y, false, []⟩
    | none =>
      if l.length < 2 ∨ l[0]? ≠ some 91 ∨ l[l.length - 1]? ≠ some 93 then none
      else if (wordsS ((l.take (l.length - 1)).drop 1) []).all (fun w => (refParse w).isSome) = true ∧ (lstV (wordsS ((l.take (l.length - 1)).drop 1) [])).tx = l then some (lstV (wordsS ((l.take (l.length - 1)).drop 1) [])) else none
theorem refParse_br (r : List UInt8) : refParse (91 :: r) = none := by
  cases h : refParse (91 :: r) with
  | none => rfl
  | some p =>
    have := (parsed_ch (w := 91 :: r) (by rw [h]; rfl)).2 91 (by simp)
    exact absurd rfl this.2.1
theorem refV_list (ins : List UInt8) : refV ([91] ++ ins ++ [93]) = if (ins = [] ∨ (splitS ins []).all (fun w => (refParse w).isSome) = true) then some (lstV (if ins = [] then [] else splitS ins [])) else none := by
  have e0 : ([91] ++ ins ++ [93] : List UInt8) = 91 :: (ins ++ [93]) := by simp
  rw [e0]
  unfold refV
  rw [if_neg (by simp [tru]), if_neg (by simp [fals]), refParse_br]
  have hlast : (91 :: (ins ++ [93]))[(91 :: (ins ++ [93])).length - 1]? = some (93 : UInt8) := by simp
  have hin : ((91 :: (ins ++ [93])).take ((91 :: (ins ++ [93])).length - 1)).drop 1 = ins := by simp
  simp only
  rw [if_neg (by rw [hlast]; simp), hin, words_S]
  by_cases hi : ins = []
  · subst hi
    have : (splitS [] []).filter (fun w => !w.isEmpty) = [] := rfl
    rw [this, if_pos ⟨rfl, by rw [lstV_tx rfl]; rfl⟩, if_pos (.inl rfl), if_pos rfl]
  · rw [if_neg hi]
    by_cases ha : (splitS ins []).all (fun w => (refParse w).isSome) = true
    · have hf : (splitS ins []).filter (fun w => !w.isEmpty) = splitS ins [] := List.filter_eq_self.2 fun w hw => by
        have := (parsed_ch (List.all_eq_true.1 ha w hw)).1
        simpa using this
      rw [hf, if_pos ⟨ha, by rw [lstV_tx ha, join_S]; simp⟩, if_pos (.inr ha)]
    · rw [if_neg (c := ins = [] ∨ (splitS ins []).all (fun w => (refParse w).isSome) = true) (fun h => h.elim hi ha), if_neg]
      rintro ⟨h1, h2⟩
      rw [lstV_tx h1] at h2
      have h3 : Lib.join ((splitS ins []).filter fun w => !w.isEmpty) [32] = ins := by
        have h4 : ([91] : List UInt8) ++ (Lib.join ((splitS ins []).filter fun w => !w.isEmpty) [32] ++ [93]) = [91] ++ (ins ++ [93]) := by
          rw [← List.append_assoc, h2]; simp
        exact List.append_cancel_right (List.append_cancel_left h4)
      have hne : (splitS ins []).filter (fun w => !w.isEmpty) ≠ [] := by
        intro e
        rw [e] at h3
        exact hi h3.symm
      have h5 := S_join _ hne (fun w hw b hb => ((parsed_ch (List.all_eq_true.1 h1 w hw)).2 b hb).1)
      rw [h3] at h5
      rw [h5] at ha
      exact ha h1
theorem br_form {l : List UInt8} (h : (Lib.hasPrefix l [91] && Lib.hasSuffix (Lib.trimPrefix l [91]) [93]) = true) : l = [91] ++ Lib.trimSuffix (Lib.trimPrefix l [91]) [93] ++ [93] := by
  rw [Bool.and_eq_true] at h
  obtain ⟨h1, h2⟩ := h
  unfold Lib.trimSuffix
  rw [if_pos h2]
  unfold Lib.trimPrefix at h2 ⊢
  rw [if_pos h1] at h2 ⊢
  obtain ⟨r, rfl⟩ : ∃ r, l = 91 :: r := by
    cases l with
    | nil => simp [Lib.hasPrefix] at h1
    | cons b r =>
      simp [Lib.hasPrefix] at h1
      exact ⟨r, by rw [h1]⟩
  simp only [List.length_cons, List.length_nil, List.drop_succ_cons, List.drop_zero] at h2 ⊢
  obtain ⟨t, ht⟩ := List.isSuffixOf_iff_suffix.1 h2
  rw [← ht]; simp
theorem read_same (l : List UInt8) : parseV l = refV l := by
  by_cases h1 : l = tru
  · unfold parseV refV; rw [if_pos h1, if_pos h1]
  by_cases h2 : l = fals
  · unfold parseV refV; rw [if_neg h1, if_neg h1, if_pos h2, if_pos h2]
  by_cases hb : (Lib.hasPrefix l [91] && Lib.hasSuffix (Lib.trimPrefix l [91]) [93]) = true
  · have hl := br_form hb
    obtain ⟨ins, hins⟩ : ∃ i, Lib.trimSuffix (Lib.trimPrefix l [91]) [93] = i := ⟨_, rfl⟩
    have hr := refV_list ins
    rw [hins] at hl
    rw [← hl] at hr
    rw [hr]
    unfold parseV
    rw [if_neg h1, if_neg h2, if_pos hb, hins, splitL_S]
    by_cases hi : ins = []
    · rw [if_pos hi, if_pos (.inl hi), if_pos hi]; rfl
    · rw [if_neg hi, if_neg hi]
      by_cases ha : (splitS ins []).all (fun w => (refParse w).isSome) = true
      · rw [if_pos ha, if_pos (.inr ha)]; rfl
      · rw [if_neg ha, if_neg (fun h => h.elim hi ha)]
  · unfold parseV refV
    rw [if_neg h1, if_neg h1, if_neg h2, if_neg h2, if_neg hb]
    cases hr : refParse l with
    | some p => rfl
    | none =>
      simp only
      by_cases hc : l.length < 2 ∨ l[0]? ≠ some 91 ∨ l[l.length - 1]? ≠ some 93
      · rw [if_pos hc]
      · exfalso
        have c1 : ¬ l.length < 2 := fun h => hc (.inl h)
        have c2 : l[0]? = some 91 := Classical.byContradiction fun h => hc (.inr (.inl h))
        have c3 : l[l.length - 1]? = some 93 := Classical.byContradiction fun h => hc (.inr (.inr h))
        refine hb ?_
        cases l with
        | nil => simp at c2
        | cons b r =>
          simp at c2
          subst c2
          have hp : Lib.hasPrefix (91 :: r) [91] = true := by simp [Lib.hasPrefix]
          have ht : Lib.trimPrefix (91 :: r) [91] = r := by unfold Lib.trimPrefix; rw [if_pos hp]; simp
          rw [hp, ht, Bool.true_and]
          have hne : r ≠ [] := by rintro rfl; simp at c1
          have hlast : r.getLast hne = 93 := by
            rw [List.getLast_eq_getElem]
            have c4 : (91 :: r)[r.length]? = some 93 := by simpa using c3
            have hpos := List.length_pos_iff.2 hne
            have c5 : r[r.length - 1]? = some 93 := by
              have e : r.length = (r.length - 1) + 1 := by omega
              rw [e, List.getElem?_cons_succ] at c4
              exact c4
            exact (List.getElem?_eq_some_iff.1 c5).2
          have hr2 : r = r.dropLast ++ [93] := by rw [← hlast]; exact (List.dropLast_concat_getLast hne).symm
          unfold Lib.hasSuffix
          rw [List.isSuffixOf_iff_suffix]
          exact ⟨r.dropLast, hr2.symm⟩
end Go.Proofs.YtbhkclkahblfnaaGreatDoor
/- Plain laws of layer 9: how a line is taken apart. -/
set_option linter.unusedVariables false
set_option linter.unusedSimpArgs false
namespace Go.Proofs.YtbhkclkahblfnaaGreatDoor
open Go.RowKit Flo Ab
/-- how far a piece goes; li: within a list -/
def pcR : List UInt8 → Bool → Nat
  | [], _ => 0
  | b :: r, li => if li = true ∨ b ≠ 32 then pcR r (li && !(b == 93)) + 1 else 0
theorem pcR_cons (b : UInt8) (r : List UInt8) (li : Bool) : pcR (b :: r) li = if li = true ∨ b ≠ 32 then pcR r (li && !(b == 93)) + 1 else 0 := rfl
def pcr (l : List UInt8) : Nat := pcR l (l.head? == some 91)
theorem pcR_le : ∀ (l : List UInt8) (li : Bool), pcR l li ≤ l.length
  | [], li => by simp [pcR]
  | b :: r, li => by
    unfold pcR
    split
    · have := pcR_le r (li && !(b == 93)); simp; exact this
    · simp
theorem pcr_le (l : List UInt8) : pcr l ≤ l.length := pcR_le l _
theorem pcr_pos {b : UInt8} {r : List UInt8} (h : b ≠ 32) : 0 < pcr (b :: r) := by
  unfold pcr pcR
  rw [if_pos (.inr h)]; omega
/-- the values of a line, as the reference has them -/
def goS (l : List UInt8) : Option (List Va) :=
  match l with
  | [] => some []
  | b :: r => if b = 32 then goS r else match refV ((b :: r).take (pcr (b :: r))) with
    | none => none
    | some v => match goS ((b :: r).drop (max 1 (pcr (b :: r)))) with
      | none => none
      | some vs => some (v :: vs)
termination_by l.length
decreasing_by all_goals (simp; try omega)
theorem goS_nil : goS [] = some [] := by unfold goS; rfl
theorem goS_blank (r : List UInt8) : goS (32 :: r) = goS r := by rw [goS, if_pos rfl]
theorem goS_piece {b : UInt8} {r : List UInt8} (h : b ≠ 32) : goS (b :: r) = match refV ((b :: r).take (pcr (b :: r))) with
    | none => none
    | some v => match goS ((b :: r).drop (pcr (b :: r))) with
      | none => none
      | some vs => some (v :: vs) := by
  rw [goS, if_neg h]
  have : max 1 (pcr (b :: r)) = pcr (b :: r) := by have := pcr_pos (r := r) h; omega
  rw [this]
theorem goS_trim (l : List UInt8) : goS (Lib.trimLeftB l 32) = goS l := by
  induction l with
  | nil => rfl
  | cons b r ih =>
    unfold Lib.trimLeftB at ih ⊢
    by_cases h : b = 32
    · subst h
      rw [goS_blank, ← ih]; rfl
    · rw [List.dropWhile_cons_of_neg (by simpa using h)]
/-- how far value.Split takes a piece -/
def ixO (i : Int) (d : Nat) : Nat := if 0 ≤ i then i.toNat else d
def pcv (l : List UInt8) : Nat :=
  if l.head? = some 91 ∧ (ixO (Lib.indexByte l 32) l.length : Int) ≤ Lib.indexByte l 93 then (Lib.indexByte l 93).toNat + 1 + ixO (Lib.indexByte (l.drop ((Lib.indexByte l 93).toNat + 1)) 32) (l.drop ((Lib.indexByte l 93).toNat + 1)).length
  else ixO (Lib.indexByte l 32) l.length
theorem ib_nil (c : UInt8) : Lib.indexByte [] c = -1 := rfl
theorem ib_eq (c : UInt8) (r : List UInt8) : Lib.indexByte (c :: r) c = 0 := by rw [Lib.indexByte]; simp
theorem ib_ne {b c : UInt8} (r : List UInt8) (h : b ≠ c) : Lib.indexByte (b :: r) c = if Lib.indexByte r c = -1 then -1 else Lib.indexByte r c + 1 := by
  rw [Lib.indexByte, if_neg (by simpa using h)]
  simp only [beq_iff_eq]
theorem pcR_false : ∀ l : List UInt8, pcR l false = ixO (Lib.indexByte l 32) l.length
  | [] => rfl
  | b :: r => by
    unfold pcR
    by_cases h : b = 32
    · subst h; rw [if_neg (by simp), ib_eq]; rfl
    · rw [if_pos (.inr h), Bool.false_and, pcR_false r, ib_ne r h]
      have := Lib.indexByte_ge r 32
      unfold ixO
      by_cases hm : Lib.indexByte r 32 = -1
      · rw [if_pos hm, hm]; simp
      · rw [if_neg hm, if_pos (by omega), if_pos (by omega)]; omega
theorem pcR_true : ∀ l : List UInt8, pcR l true = if 0 ≤ Lib.indexByte l 93 then (Lib.indexByte l 93).toNat + 1 + pcR (l.drop ((Lib.indexByte l 93).toNat + 1)) false else l.length
  | [] => rfl
  | b :: r => by
    rw [pcR_cons, if_pos (.inl rfl)]
    by_cases h : b = 93
    · subst h
      rw [ib_eq, if_pos (by omega)]
      simp only [beq_self_eq_true, Bool.not_true, Bool.and_false, Int.toNat_zero, List.drop_succ_cons, List.drop_zero]
      show pcR r false + 1 = 0 + 1 + pcR r false
      omega
    · have hb : (b == 93) = false := by simpa using h
      rw [hb, Bool.not_false, Bool.and_true, pcR_true r, ib_ne r h]
      have := Lib.indexByte_ge r 93
      by_cases hm : Lib.indexByte r 93 = -1
      · rw [if_pos hm, hm]; simp
      · rw [if_neg hm, if_pos (by omega), if_pos (by omega)]
        have e : (Lib.indexByte r 93 + 1).toNat = (Lib.indexByte r 93).toNat + 1 := by omega
        rw [e, List.drop_succ_cons]; omega
theorem pcR_drop : ∀ (k : Nat) (l : List UInt8), k ≤ pcR l false → pcR (l.drop k) false + k = pcR l false
  | 0, l, _ => by simp
  | k + 1, [], h => by simp [pcR] at h
  | k + 1, b :: r, h => by
    rw [pcR_cons] at h ⊢
    by_cases hb : b = 32
    · subst hb; simp at h
    · rw [if_pos (.inr hb), Bool.false_and] at h ⊢
      have := pcR_drop k r (by omega)
      rw [List.drop_succ_cons]
      omega
theorem ib_none {l : List UInt8} {c : UInt8} (h : Lib.indexByte l c < 0) : c ∉ l := by
  induction l with
  | nil => simp
  | cons b r ih =>
    by_cases hb : b = c
    · subst hb; rw [ib_eq] at h; omega
    · rw [ib_ne r hb] at h
      have := Lib.indexByte_ge r c
      have hr : Lib.indexByte r c < 0 := by
        split at h <;> omega
      simp only [List.mem_cons, not_or]
      exact ⟨fun e => hb e.symm, ih hr⟩
/-- what begins as a list and never closes is no value -/
theorem refV_open {r : List UInt8} (h : (93 : UInt8) ∉ (91 :: r)) : refV (91 :: r) = none := by
  unfold refV
  rw [if_neg (by simp [tru]), if_neg (by simp [fals]), refParse_br]
  simp only
  rw [if_pos]
  right; right
  intro e
  exact h (List.mem_of_getElem? e)
theorem pc_same {b : UInt8} {r : List UInt8} (h : b ≠ 32) : pcv (b :: r) = pcr (b :: r) ∨ (refV ((b :: r).take (pcv (b :: r))) = none ∧ refV ((b :: r).take (pcr (b :: r))) = none) := by
  by_cases h91 : b = 91
  · subst h91
    obtain ⟨l, hl⟩ : ∃ l : List UInt8, l = 91 :: r := ⟨_, rfl⟩
    have hpr : pcr (91 :: r) = pcR (91 :: r) true := by unfold pcr; simp
    have hpos : 0 < ixO (Lib.indexByte (91 :: r) 32) (91 :: r).length := by
      rw [← pcR_false]; unfold pcR; rw [if_pos (.inr (by decide))]; omega
    by_cases hat : 0 ≤ Lib.indexByte (91 :: r) 93
    · left
      rw [hpr, pcR_true, if_pos hat]
      unfold pcv
      by_cases hge : (ixO (Lib.indexByte (91 :: r) 32) (91 :: r).length : Int) ≤ Lib.indexByte (91 :: r) 93
      · rw [if_pos ⟨by simp, hge⟩, pcR_false]
      · rw [if_neg (fun hh => hge hh.2)]
        have hk := pcR_drop ((Lib.indexByte (91 :: r) 93).toNat + 1) (91 :: r) (by rw [pcR_false]; omega)
        rw [pcR_false (91 :: r)] at hk
        omega
    · right
      have hno := ib_none (l := 91 :: r) (c := 93) (by omega)
      have key : ∀ n : Nat, 0 < n → refV ((91 :: r).take n) = none := fun n hn => by
        obtain ⟨m, rfl⟩ : ∃ m, n = m + 1 := ⟨n - 1, by omega⟩
        rw [List.take_succ_cons]
        refine refV_open (fun hm => hno ?_)
        simp only [List.mem_cons] at hm ⊢
        exact hm.imp id List.mem_of_mem_take
      refine ⟨key _ ?_, key _ (pcr_pos (by decide))⟩
      unfold pcv
      rw [if_neg (fun hh => by have := hh.2; omega)]
      exact hpos
  · left
    have hh : ((b :: r).head? == some 91) = false := by simpa using h91
    have hh' : ¬ (b :: r).head? = some 91 := by simpa using h91
    unfold pcr pcv
    rw [hh, pcR_false, if_neg (fun e => hh' e.1)]
theorem pcv_pos {b : UInt8} {r : List UInt8} (h : b ≠ 32) : 0 < pcv (b :: r) := by
  have hpos : 0 < ixO (Lib.indexByte (b :: r) 32) (b :: r).length := by
    rw [← pcR_false]; unfold pcR; rw [if_pos (.inr h)]; omega
  unfold pcv
  split
  · omega
  · exact hpos
theorem ib_lt : ∀ {l : List UInt8} {c : UInt8}, Lib.indexByte l c < l.length ∨ l = []
  | [], c => .inr rfl
  | b :: r, c => by
    left
    by_cases hb : b = c
    · subst hb; rw [ib_eq]; simp
    · rw [ib_ne r hb]
      rcases ib_lt (l := r) (c := c) with h | rfl
      · have := Lib.indexByte_ge r c
        split
        · simp; omega
        · simp; omega
      · simp [ib_nil]
theorem ixO_le (l : List UInt8) : ixO (Lib.indexByte l 32) l.length ≤ l.length := by rw [← pcR_false]; exact pcR_le l false
theorem pcv_le (l : List UInt8) : pcv l ≤ l.length := by
  unfold pcv
  split
  · rename_i h
    have h1 := ixO_le (l.drop ((Lib.indexByte l 93).toNat + 1))
    rcases ib_lt (l := l) (c := 93) with h2 | h2
    · simp only [List.length_drop] at h1 ⊢
      have : 0 ≤ Lib.indexByte l 93 := by have := h.2; omega
      omega
    · subst h2; simp at h
  · exact ixO_le l
/-- the values of a line, as value.Split has them -/
theorem goS_val {b : UInt8} {r : List UInt8} (h : b ≠ 32) : goS (b :: r) = match parseV ((b :: r).take (pcv (b :: r))) with
    | none => none
    | some v => match goS ((b :: r).drop (pcv (b :: r))) with
      | none => none
      | some vs => some (v :: vs) := by
  rw [goS_piece h, read_same]
  rcases pc_same (r := r) h with e | ⟨e1, e2⟩
  · rw [e]
  · rw [e1, e2]
theorem goS_len : ∀ (n : Nat) (l : List UInt8) (vs : List Va), l.length ≤ n → goS l = some vs → vs.length ≤ l.length
  | n, [], vs, _, h => by rw [goS_nil] at h; cases h; simp
  | 0, b :: r, vs, hn, h => by simp at hn
  | n + 1, b :: r, vs, hn, h => by
    by_cases hb : b = 32
    · subst hb
      rw [goS_blank] at h
      have := goS_len n r vs (by simpa using hn) h
      simp; omega
    · rw [goS_piece hb] at h
      have hp := pcr_pos (r := r) hb
      split at h
      · cases h
      · rename_i v hv
        split at h
        · cases h
        · rename_i us hu
          cases h
          have := goS_len n _ us (by simp at hn ⊢; omega) hu
          simp at this ⊢; omega
/-! what is read is a value -/
theorem w_lt {x : Int} (h : -16777216 ≤ x ∧ x ≤ 16777216) : W x < 18446744073709551616 := W_lt x (by omega)
theorem isN_W {x y : Int} (h : okR x y = true) : isN (W x, W y) = true := by
  have hx := okR_iff.1 h
  simp only [isN, numC_W hx.1 hx.2]; rfl
theorem wz_lt (o : Option (Int × Int)) (h : ∀ p, o = some p → okR p.1 p.2 = true) : (wz o).1 < 18446744073709551616 ∧ (wz o).2 < 18446744073709551616 := by
  cases o with
  | none => exact ⟨by decide, by decide⟩
  | some p =>
    have hx := okR_iff.1 (h p rfl)
    exact ⟨w_lt hx.1, w_lt hx.2⟩
theorem refV_good {l : List UInt8} {v : Va} (hl : l.length ≤ 14000000) (h : refV l = some v) : v.ok = true ∧ v.Wf := by
  have bool : ∀ b : Bool, Va.ok ⟨2, 0, 0, b, []⟩ = true ∧ Va.Wf ⟨2, 0, 0, b, []⟩ := fun b => by
    refine ⟨?_, ⟨by show (0 : Nat) < _; decide, by show (0 : Nat) < _; decide, fun p hp => by simp at hp, by simp⟩⟩
    unfold Va.ok
    simp [isN, zero_num, zero_eq]
  unfold refV at h
  split at h
  · cases h; exact bool true
  · split at h
    · cases h; exact bool false
    · split at h
      · rename_i x y hp
        cases h
        obtain ⟨h0, _⟩ := refParse_some hp
        have hx := okR_iff.1 h0
        refine ⟨?_, ⟨w_lt hx.1, w_lt hx.2, fun p hp => by simp at hp, by simp⟩⟩
        unfold Va.ok
        simp [isN_W h0]
      · split at h
        · cases h
        · split at h
          · rename_i hc
            cases h
            refine ⟨lstV_ok hc.1, ⟨by show (0 : Nat) < _; decide, by show (0 : Nat) < _; decide, fun p hp => ?_, ?_⟩⟩
            · obtain ⟨w, hw, rfl⟩ := List.mem_map.1 hp
              exact wz_lt _ (fun q hq => (refParse_some hq).1)
            · have := wordsS_len ((l.take (l.length - 1)).drop 1) []
              show ((wordsS _ []).map _).length ≤ _
              rw [List.length_map]
              simp only [List.length_drop, List.length_take] at this
              omega
          · cases h
theorem goS_good : ∀ (n : Nat) (l : List UInt8) (vs : List Va), l.length ≤ n → l.length ≤ 14000000 → goS l = some vs → ∀ v ∈ vs, v.ok = true ∧ v.Wf
  | n, [], vs, _, _, h => by rw [goS_nil] at h; cases h; simp
  | 0, b :: r, vs, hn, _, h => by simp at hn
  | n + 1, b :: r, vs, hn, hl, h => by
    by_cases hb : b = 32
    · subst hb
      rw [goS_blank] at h
      exact goS_good n r vs (by simpa using hn) (by simp at hl; omega) h
    · rw [goS_piece hb] at h
      have hp := pcr_pos (r := r) hb
      split at h
      · cases h
      · rename_i v hv
        split at h
        · cases h
        · rename_i us hu
          cases h
          intro u hu'
          rcases List.mem_cons.1 hu' with rfl | hu'
          · exact refV_good (by simp at hl ⊢; omega) hv
          · exact goS_good n _ us (by simp at hn ⊢; omega) (by simp at hl ⊢; omega) hu u hu'
end Go.Proofs.YtbhkclkahblfnaaGreatDoor
/- Plain laws of layer 9: values and their texts are one to one. -/
set_option linter.unusedVariables false
set_option linter.unusedSimpArgs false
namespace Go.Proofs.YtbhkclkahblfnaaGreatDoor
open Go.RowKit Flo Ab
theorem isN_eq {p : Nat × Nat} (h : isN p = true) : ∃ x y, okR x y = true ∧ p = (W x, W y) := by
  unfold isN at h
  cases hn : numC p.1 p.2 with
  | none => rw [hn] at h; cases h
  | some q =>
    obtain ⟨x, y⟩ := q
    obtain ⟨h1, h2⟩ := numC_some hn
    exact ⟨x, y, okR_num hn, by rw [← numOf_eq h1, ← numOf_eq h2]⟩
theorem cEq_W {x y x' y' : Int} (h : okR x y = true) (h' : okR x' y' = true) : cEq (W x) (W y) (W x') (W y') = (decide (x = x') && decide (y = y')) := by
  have h1 := okR_iff.1 h
  have h2 := okR_iff.1 h'
  unfold cEq
  rw [order_w (by omega) (by omega) (W_isW _) (W_isW _), order_w (by omega) (by omega) (W_isW _) (W_isW _)]
  have key : ∀ a b : Int, ((some (compare a b) : Option Ordering) == some .eq) = decide (a = b) := fun a b => by
    rw [Bool.eq_iff_iff]
    simp [Int.compare_eq_eq]
  rw [key, key]
theorem cEq_iff {p q : Nat × Nat} (h : isN p = true) (h' : isN q = true) : cEq p.1 p.2 q.1 q.2 = true ↔ p = q := by
  obtain ⟨x, y, h0, rfl⟩ := isN_eq h
  obtain ⟨x', y', h0', rfl⟩ := isN_eq h'
  rw [cEq_W h0 h0']
  constructor
  · intro e
    simp only [Bool.and_eq_true, decide_eq_true_eq] at e
    rw [e.1, e.2]
  · intro e
    obtain ⟨e1, e2⟩ := Prod.mk.inj e
    have r1 := okR_iff.1 h0
    have r2 := okR_iff.1 h0'
    have := W_inj (a := x) (b := x') (by omega) (by omega) e1
    have := W_inj (a := y) (b := y') (by omega) (by omega) e2
    simp [*]
theorem eqCL_iff : ∀ {l m : List (Nat × Nat)}, l.all isN = true → m.all isN = true → (eqCL l m = true ↔ l = m)
  | [], [], _, _ => by simp [eqCL]
  | [], q :: m, _, _ => by simp [eqCL]
  | p :: l, [], _, _ => by simp [eqCL]
  | p :: l, q :: m, h, h' => by
    simp only [List.all_cons, Bool.and_eq_true] at h h'
    rw [eqCL, Bool.and_eq_true, cEq_iff h.1 h'.1, eqCL_iff h.2 h'.2]
    simp
theorem zero_N : isN (0, 0) = true := by unfold isN; rw [zero_num]; rfl
/-- a value's parts -/
theorem ok_parts {v : Va} (h : v.ok = true) : isN (v.a, v.b) = true ∧ v.l.all isN = true ∧ ((v.ty = 1 ∧ v.bo = false ∧ v.l = []) ∨ (v.ty = 2 ∧ v.a = 0 ∧ v.b = 0 ∧ v.l = []) ∨ (v.ty = 3 ∧ v.a = 0 ∧ v.b = 0 ∧ v.bo = false)) := by
  have hz : ∀ a b : Nat, isN (a, b) = true → cEq a b 0 0 = true → a = 0 ∧ b = 0 := fun a b h1 h2 => by
    have := (cEq_iff (p := (a, b)) (q := (0, 0)) h1 zero_N).1 h2
    exact Prod.mk.inj this
  unfold Va.ok at h
  split at h
  · rename_i t
    simp only [Bool.and_eq_true, Bool.not_eq_true', List.isEmpty_iff] at h
    exact ⟨h.1.1, by rw [h.2]; rfl, .inl ⟨t, h.1.2, h.2⟩⟩
  · split at h
    · rename_i t
      simp only [Bool.and_eq_true, List.isEmpty_iff] at h
      have := hz _ _ h.1.1 h.1.2
      exact ⟨h.1.1, by rw [h.2]; rfl, .inr (.inl ⟨t, this.1, this.2, h.2⟩)⟩
    · split at h
      · rename_i t
        simp only [Bool.and_eq_true, Bool.not_eq_true'] at h
        have := hz _ _ h.1.1.1 h.1.1.2
        exact ⟨h.1.1.1, h.2, .inr (.inr ⟨t, this.1, this.2, h.1.2⟩)⟩
      · cases h
theorem same_iff {v u : Va} (hv : v.ok = true) (hu : u.ok = true) : v.same u = true ↔ v = u := by
  obtain ⟨a1, a2, _⟩ := ok_parts hv
  obtain ⟨b1, b2, _⟩ := ok_parts hu
  obtain ⟨ty, a, b, bo, l⟩ := v
  obtain ⟨ty', a', b', bo', l'⟩ := u
  unfold Va.same
  rw [hv, hu]
  simp only [Bool.true_and, Bool.and_eq_true, decide_eq_true_eq, beq_iff_eq, Va.mk.injEq] at *
  rw [cEq_iff (p := (a, b)) (q := (a', b')) a1 b1, eqCL_iff a2 b2, Prod.mk.injEq]
  constructor
  · rintro ⟨⟨⟨h1, h2, h3⟩, h4⟩, h5⟩; exact ⟨h1, h2, h3, h4, h5⟩
  · rintro ⟨h1, h2, h3, h4, h5⟩; exact ⟨⟨⟨h1, h2, h3⟩, h4⟩, h5⟩
theorem same_no {v u : Va} (h : v.ok = false ∨ u.ok = false) : v.same u = false := by
  unfold Va.same
  rcases h with h | h
  · rw [h]; simp
  · rw [h]; simp
theorem same_refl {v : Va} (hv : v.ok = true) : v.same v = true := (same_iff hv hv).2 rfl
theorem same_comm (v u : Va) : v.same u = u.same v := by
  cases hv : v.ok with
  | false => rw [same_no (.inl hv), same_no (.inr hv)]
  | true =>
    cases hu : u.ok with
    | false => rw [same_no (.inr hu), same_no (.inl hu)]
    | true =>
      rw [Bool.eq_iff_iff, same_iff hv hu, same_iff hu hv]
      exact ⟨Eq.symm, Eq.symm⟩
theorem textL_ch2 (x y : Int) : ∀ b ∈ textL x y, b ≠ 116 ∧ b ≠ 102 := by
  have it : ∀ x : Int, ∀ b ∈ Lib.itoa x, b ≠ 116 ∧ b ≠ 102 := by
    intro x b hb
    obtain ⟨j, hj⟩ := List.getElem?_of_mem hb
    rcases itoa_at x j b hj with ⟨h1, h2⟩ | ⟨_, rfl⟩
    · refine ⟨fun e => ?_, fun e => ?_⟩ <;> (subst e; revert h1 h2; decide)
    · decide
  have c1 : ∀ b : UInt8, b = 43 ∨ b = 105 → b ≠ 116 ∧ b ≠ 102 := by rintro b (rfl | rfl) <;> decide
  intro b hb
  have h1 := it x b
  have h2 := it y b
  have h3 := c1 b
  unfold textL at hb
  split at hb
  · exact h1 hb
  · split at hb
    · simp only [List.mem_append, List.mem_singleton] at hb
      rcases hb with hb | hb
      · exact h2 hb
      · exact h3 (.inr hb)
    · split at hb
      · simp only [List.mem_append, List.mem_singleton] at hb
        rcases hb with ((hb | hb) | hb) | hb
        · exact h1 hb
        · exact h3 (.inl hb)
        · exact h2 hb
        · exact h3 (.inr hb)
      · simp only [List.mem_append, List.mem_singleton] at hb
        rcases hb with (hb | hb) | hb
        · exact h1 hb
        · exact h2 hb
        · exact h3 (.inr hb)
theorem refV_num {x y : Int} (h : okR x y = true) : refV (textL x y) = some ⟨1, W x, W y, false, []⟩ := by
  have h1 : textL x y ≠ tru := fun e => by
    have := (textL_ch2 x y 116 (by rw [e]; simp [tru])).1
    exact this rfl
  have h2 : textL x y ≠ fals := fun e => by
    have := (textL_ch2 x y 102 (by rw [e]; simp [fals])).2
    exact this rfl
  unfold refV
  rw [if_neg h1, if_neg h2, refParse_text h]
theorem txC_W {x y : Int} (h : okR x y = true) : txC (W x) (W y) = textL x y := by
  have hx := okR_iff.1 h
  unfold txC
  rw [numC_W hx.1 hx.2]
theorem txs_parse {l : List (Nat × Nat)} (h : l.all isN = true) : (txs l).all (fun w => (refParse w).isSome) = true ∧ (txs l).map (fun w => wz (refParse w)) = l := by
  have key : ∀ p ∈ l, refParse (txC p.1 p.2) ≠ none ∧ wz (refParse (txC p.1 p.2)) = p := fun p hp => by
    obtain ⟨x, y, h0, rfl⟩ := isN_eq (List.all_eq_true.1 h p hp)
    simp only [txC_W h0, refParse_text h0]
    exact ⟨by simp, rfl⟩
  refine ⟨List.all_eq_true.2 fun w hw => ?_, ?_⟩
  · obtain ⟨p, hp, rfl⟩ := List.mem_map.1 hw
    exact Option.isSome_iff_ne_none.2 (key p hp).1
  · unfold txs
    rw [List.map_map]
    exact (List.map_congr_left (g := id) fun p hp => (key p hp).2).trans (List.map_id _)
/-- a value's text is read as the value -/
theorem refV_tx {v : Va} (h : v.ok = true) : refV v.tx = some v := by
  obtain ⟨h1, h2, h3⟩ := ok_parts h
  obtain ⟨ty, a, b, bo, l⟩ := v
  simp only at h1 h2 h3
  unfold Va.tx
  rw [if_pos h]
  rcases h3 with ⟨rfl, rfl, rfl⟩ | ⟨rfl, rfl, rfl, rfl⟩ | ⟨rfl, rfl, rfl, rfl⟩
  · obtain ⟨x, y, h0, he⟩ := isN_eq h1
    obtain ⟨rfl, rfl⟩ := Prod.mk.inj he
    rw [if_pos rfl, txC_W h0, refV_num h0]
  · rw [if_neg (by show ¬ (2 : Int) = 1; decide), if_pos rfl]
    cases bo <;> rfl
  · rw [if_neg (by show ¬ (3 : Int) = 1; decide), if_neg (by show ¬ (3 : Int) = 2; decide)]
    obtain ⟨p1, p2⟩ := txs_parse h2
    rw [refV_list]
    simp only at p1 p2 ⊢
    cases l with
    | nil => rfl
    | cons p r =>
      have hne : txs (p :: r) ≠ [] := by simp [txs]
      have hs := S_join (txs (p :: r)) hne (fun w hw b hb => ((parsed_ch (List.all_eq_true.1 p1 w hw)).2 b hb).1)
      have hjn : Lib.join (txs (p :: r)) [32] ≠ [] := by
        intro e
        rw [e] at hs
        have hw := (parsed_ch (List.all_eq_true.1 p1 [] (by rw [← hs]; simp [splitS]))).1
        exact hw rfl
      rw [if_neg hjn, hs, if_pos (.inr p1)]
      unfold lstV
      rw [p2]
/-- what is read has the text that was read -/
theorem refV_back {l : List UInt8} {v : Va} (h : refV l = some v) : v.tx = l := by
  unfold refV at h
  split at h
  · rename_i e; cases h; subst e
    have : Va.ok ⟨2, 0, 0, true, []⟩ = true := by unfold Va.ok; simp [isN, zero_num, zero_eq]
    unfold Va.tx
    rw [if_pos this]; rfl
  · split at h
    · rename_i e; cases h; subst e
      have : Va.ok ⟨2, 0, 0, false, []⟩ = true := by unfold Va.ok; simp [isN, zero_num, zero_eq]
      unfold Va.tx
      rw [if_pos this]; rfl
    · split at h
      · rename_i x y hp
        cases h
        obtain ⟨h0, h1⟩ := refParse_some hp
        have : Va.ok ⟨1, W x, W y, false, []⟩ = true := by unfold Va.ok; simp [isN_W h0]
        unfold Va.tx
        rw [if_pos this, if_pos rfl, txC_W h0, h1]
      · split at h
        · cases h
        · split at h
          · rename_i hc; cases h; exact hc.2
          · cases h
theorem tx_inj {v u : Va} (hv : v.ok = true) (hu : u.ok = true) (h : v.tx = u.tx) : v = u := by
  have h1 := refV_tx hv
  rw [h, refV_tx hu] at h1
  exact (Option.some.inj h1).symm
end Go.Proofs.YtbhkclkahblfnaaGreatDoor
/- Contracts of layer 9: the reference's Parse. -/
set_option linter.unusedVariables false
set_option linter.unusedSimpArgs false
namespace Go.Proofs.YtbhkclkahblfnaaGreatDoor
open Go.RowKit Flo Ab
theorem app_at {α : Type} {H : List α} {i : Nat} {o : α} (h : H[i]? = some o) (X : List α) : (H ++ X)[i]? = some o := by
  rw [List.getElem?_append_left (List.getElem?_eq_some_iff.1 h).1]; exact h
def vz : List AV := [iv 0, cv 0 0, bv false, .v (.slice none 0 0)]
def RpI (l : List UInt8) (ws : List (List UInt8)) (g : Nat) (F : Fr) (H : List Ob) : Prop := ∃ (k : Nat) (X : AV) (n1 n2 : Int), k + g = ws.length ∧ F 0 = some (sv l) ∧ F 2 = some (.ptr 0 0) ∧ F 4 = some (.ptr 1 0) ∧ F 6 = some (.ptr 2 0) ∧ F 7 = some (.sl ws.length (ws.map sv)) ∧ F 8 = some (iv k) ∧
  H[0]? = some (.var vz) ∧ H[1]? = some (.var [iv n1, iv n2]) ∧ H[2]? = some (.var [iv 3, cv 0 0, bv false, X]) ∧ (ws.take k).all (fun w => (refParse w).isSome) = true ∧
  ((k = 0 ∧ X = .v (.slice none 0 0)) ∨ ∃ r, 2 < r ∧ X = .row r ∧ H[r]? = some (.own 32 1 k (cvs ((ws.take k).map fun w => wz (refParse w)))))
set_option maxHeartbeats 4000000 in
set_option maxRecDepth 100000 in
theorem rparse_loop {G : World → Prop} (l : List UInt8) (ws : List (List UInt8)) (hwl : ∀ w ∈ ws, w.length ≤ 16777216) (hwn : ws.length ≤ 16777216) (Q : Exit → Fr → List Ob → Prop)
    (hbad : ws.all (fun w => (refParse w).isSome) = false → ∀ F H, F 2 = some (.ptr 0 0) → F 3 = some (iv 11) → H[0]? = some (.var vz) → Q .ret F H)
    (hgood : ws.all (fun w => (refParse w).isSome) = true → ∀ F H X, F 0 = some (sv l) → F 2 = some (.ptr 0 0) → F 6 = some (.ptr 2 0) → H[0]? = some (.var vz) → H[2]? = some (.var [iv 3, cv 0 0, bv false, X]) →
      ((ws = [] ∧ X = .v (.slice none 0 0)) ∨ ∃ r, 2 < r ∧ X = .row r ∧ H[r]? = some (.own 32 1 ws.length (cvs (ws.map fun w => wz (refParse w))))) → Q (.exit 0) F H) :
    ∀ (g : Nat) (F : Fr) (H : List Ob), RpI l ws g F H → aw Tryz.prog G 88 c_rparse_L0 (thenA (fun F' H' => ∃ m, m < g ∧ RpI l ws m F' H') Q) F H := by
  unfold c_rparse_L0
  rintro g F H ⟨k, X, n1, n2, hk, f0, f2, f4, f6, f7, f8, h0, h1, h2, hall, hX⟩
  by_cases hkl : (k : Int) < ws.length
  · have hkl' : k < ws.length := by omega
    obtain ⟨w, hw0⟩ : ∃ w, ws[k]? = some w := ⟨_, List.getElem?_eq_getElem hkl'⟩
    have hcw : (ws.map sv)[k]? = some (sv w) := by rw [List.getElem?_map, hw0]; rfl
    have hw : IntKind.i64.wrap ((k : Int) + 1) = ((k + 1 : Nat) : Int) := by rw [wrap64 _ (by omega)]; omega
    have hg := refparse_ap (G := G) w (hwl w (List.mem_of_getElem? hw0))
    simp -implicitDefEqProofs [f7, f8, hkl, hkl', hcw, -Int.natCast_add, -getElem?_pos, -List.getElem?_map, List.getElem?_cons_zero, List.getElem?_cons_succ]
    refine SC.frz (by simp) [sv w] (by simp) (post := fun z => z = prA (refParse w)) (by simpa using hg) (by simp) ?_ (a := .mk)
    rintro z rfl
    have hl0 : 0 < H.length := (List.getElem?_eq_some_iff.1 h0).1
    have hl1 : 1 < H.length := (List.getElem?_eq_some_iff.1 h1).1
    have hl2 : 2 < H.length := (List.getElem?_eq_some_iff.1 h2).1
    cases hr : refParse w with
    | none =>
      have hna : ws.all (fun w => (refParse w).isSome) = false := by
        rw [List.all_eq_false]; exact ⟨w, List.mem_of_getElem? hw0, by simp [hr]⟩
      simp -implicitDefEqProofs [prA, f2, f4, h0, h1, vz, evP, fillA, wrOb, splice, hl0, -getElem?_pos, List.getElem?_cons_zero, List.getElem?_cons_succ]
      refine hbad hna _ _ (by simp [f2]) (by simp) ?_
      rw [List.getElem?_set_self (by simp; omega)]; rfl
    | some q =>
      obtain ⟨x, y⟩ := q
      have hz := refz_ap (G := G) x y
      have hs1 : (H.set 1 (.var [iv x, iv y]))[1]? = some (.var [iv x, iv y]) := List.getElem?_set_self hl1
      have hs2 : (H.set 1 (.var [iv x, iv y]))[2]? = some (.var [iv 3, cv 0 0, bv false, X]) := by rw [List.getElem?_set_ne (by omega)]; exact h2
      have hs0 : (H.set 1 (.var [iv x, iv y]))[0]? = some (.var vz) := by rw [List.getElem?_set_ne (by omega)]; exact h0
      obtain ⟨H1, hH1⟩ : ∃ H1, H1 = H.set 1 (.var [iv x, iv y]) := ⟨_, rfl⟩
      have hlen : H1.length = H.length := by rw [hH1]; simp
      simp -implicitDefEqProofs [prA, f4, h1, wrOb, splice, ← hH1, -getElem?_pos, List.getElem?_cons_zero, List.getElem?_cons_succ]
      rw [← hH1] at hs0 hs1 hs2
      simp -implicitDefEqProofs [f4, f6, hs1, hs2, -getElem?_pos, List.getElem?_cons_zero, List.getElem?_cons_succ]
      refine DC.go [.agg [iv x, iv y]] (cv (W x) (W y)) (by simp) (by simpa using hz) (by simp) (by simp) ?_ (a := .mk)
      rcases hX with ⟨hk0, rfl⟩ | ⟨r, hr1, rfl, hrr⟩
      · subst hk0
        have hX2 : ∀ Y : List Ob, (H1 ++ Y)[2]? = some (.var [iv 3, cv 0 0, bv false, .v (.slice none 0 0)]) := fun Y => app_at hs2 Y
        simp -implicitDefEqProofs [f6, f8, hX2, evP, fillA, dz, wrOb, splice, hw, -Int.natCast_add, -getElem?_pos, List.getElem?_cons_zero, List.getElem?_cons_succ]
        refine ⟨g - 1, by omega, 0 + 1, .row H1.length, x, y, by omega, by simp [f0], by simp [f2], by simp [f4], by simp [f6], by simp [f7], by simp [wrap64 1 (by omega)], ?_, ?_, ?_, ?_, .inr ⟨H1.length, by omega, rfl, ?_⟩⟩
        · rw [List.getElem?_set_ne (by omega)]; exact app_at hs0 _
        · rw [List.getElem?_set_ne (by omega)]; exact app_at hs1 _
        · rw [List.getElem?_set_self (by simp; omega)]
        · rw [take_snoc hw0, List.all_append, hall]; simp [hr]
        · rw [List.getElem?_set_ne (by omega), List.getElem?_append_right (by omega), take_snoc hw0]; simp [cvs, hr, wz]
      · have hrr1 : H1[r]? = some (.own 32 1 k (cvs ((ws.take k).map fun w => wz (refParse w)))) := by rw [hH1, List.getElem?_set_ne (by omega)]; exact hrr
        have h2X : ∀ Y : List Ob, (H1.set r .gone ++ Y)[2]? = some (.var [iv 3, cv 0 0, bv false, .row r]) := fun Y => by
          refine app_at ?_ Y
          rw [List.getElem?_set_ne (by omega)]; exact hs2
        have hb1 : (k + 1) * 16 ≤ 140737488355328 := by omega
        have hb2 : k + 1 ≤ 1073741824 := by omega
        have hb3 : k ≤ 1073741823 := by omega
        simp -implicitDefEqProofs [f6, f8, hrr1, h2X, hb1, hb2, hb3, evP, fillA, dz, wrOb, splice, hw, -Int.natCast_add, -getElem?_pos, List.getElem?_cons_zero, List.getElem?_cons_succ]
        refine ⟨g - 1, by omega, k + 1, .row H1.length, x, y, by omega, by simp [f0], by simp [f2], by simp [f4], by simp [f6], by simp [f7], by simp, ?_, ?_, ?_, ?_, .inr ⟨H1.length, by omega, rfl, ?_⟩⟩
        · rw [List.getElem?_set_ne (by omega)]; refine app_at ?_ _; rw [List.getElem?_set_ne (by omega)]; exact hs0
        · rw [List.getElem?_set_ne (by omega)]; refine app_at ?_ _; rw [List.getElem?_set_ne (by omega)]; exact hs1
        · rw [List.getElem?_set_self (by simp; omega)]
        · rw [take_snoc hw0, List.all_append, hall]; simp [hr]
        · rw [List.getElem?_set_ne (by omega), List.getElem?_append_right (by simp), take_snoc hw0]; simp [cvs, hr, wz]
  · obtain rfl : k = ws.length := by omega
    rw [List.take_length] at hall hX
    simp -implicitDefEqProofs [f7, f8]
    refine hgood hall _ _ X (by simp [f0]) (by simp [f2]) (by simp [f6]) h0 h2 ?_
    rcases hX with ⟨h, h'⟩ | h
    · exact .inl ⟨List.eq_nil_of_length_eq_zero h, h'⟩
    · exact .inr h
theorem vz_av : vzero.av = .agg [iv 0, cv 0 0, bv false, .sl 0 []] := rfl
set_option maxHeartbeats 8000000 in
set_option maxRecDepth 100000 in
theorem rparse_ap {G : World → Prop} (l : List UInt8) (hl : l.length ≤ 14000000) : AP Tryz.prog G 21 [sv l] (fun z => z = pvA (refV l)) := by
  have hz : ({ data := l.toArray } : ByteArray).size = l.length := by simp [ByteArray.size]
  refine AP.go hmix F_rparse (by simp) ?_
  by_cases h1 : l = tru
  · subst h1
    simp -implicitDefEqProofs [c_rparse, refV, pvA, Va.av, tru, fals, wrOb, splice, evP, fillA, cvs]
  by_cases h2 : l = fals
  · subst h2
    simp -implicitDefEqProofs [c_rparse, refV, pvA, Va.av, tru, fals, wrOb, splice, evP, fillA, cvs]
  have h1' : (l == [116, 114, 117, 101]) = false := beq_eq_false_iff_ne.2 h1
  have h2' : (l == [102, 97, 108, 115, 101]) = false := beq_eq_false_iff_ne.2 h2
  have hg := refparse_ap (G := G) l (by omega)
  obtain ⟨R, hR⟩ : ∃ R, refV l = R := ⟨_, rfl⟩
  rw [hR]
  unfold refV at hR
  rw [if_neg h1, if_neg h2] at hR
  simp -implicitDefEqProofs [c_rparse, h1', h2']
  refine SC.frz (by simp) [sv l] (by simp) (post := fun z => z = prA (refParse l)) (by simpa using hg) (by simp) ?_ (a := .mk)
  rintro z rfl
  cases hr : refParse l with
  | some q =>
    obtain ⟨x, y⟩ := q
    have hzz := refz_ap (G := G) x y
    rw [hr] at hR
    subst hR
    simp -implicitDefEqProofs [prA, wrOb, splice]
    refine SC.frz (by simp) [.agg [iv x, iv y]] (by simp) (post := fun z => z = cv (W x) (W y)) (by simpa using hzz) (by simp) ?_ (a := .mk)
    rintro z rfl
    simp -implicitDefEqProofs [pvA, Va.av, wrOb, splice, evP, fillA, cvs]
  | none =>
    rw [hr] at hR
    simp only at hR
    by_cases c1 : l.length < 2
    · rw [if_pos (.inl c1)] at hR
      subst hR
      have c1' : (l.length : Int) < 2 := by omega
      simp -implicitDefEqProofs [prA, hz, c1', pvA, vzero, Va.av, wrOb, splice, evP, fillA, cvs]
    · have c1' : ¬ (l.length : Int) < 2 := by omega
      obtain ⟨b0, hb0⟩ : ∃ b, l[0]? = some b := ⟨_, List.getElem?_eq_getElem (by omega)⟩
      obtain ⟨b9, hb9⟩ : ∃ b, l[l.length - 1]? = some b := ⟨_, List.getElem?_eq_getElem (by omega)⟩
      have hat : ∀ (k : Nat) (b : UInt8), l[k]? = some b → ({ data := l.toArray } : ByteArray)[k]? = some b := fun k b hb => by
        have hk : k < l.length := (List.getElem?_eq_some_iff.1 hb).1
        rw [getElem?_pos _ k (by show k < ByteArray.size _; rw [hz]; exact hk)]
        obtain ⟨_, rfl⟩ := List.getElem?_eq_some_iff.1 hb
        rfl
      have a0 := hat 0 b0 hb0
      have a9 := hat (l.length - 1) b9 hb9
      have hw1 : IntKind.i64.wrap ((l.length : Int) - 1) = ((l.length - 1 : Nat) : Int) := by rw [wrap64 _ (by omega)]; omega
      by_cases c2 : b0 = 91
      · subst c2
        by_cases c3 : b9 = 93
        · subst c3
          rw [if_neg (by rw [hb0, hb9]; simp; omega)] at hR
          obtain ⟨ins, hins⟩ : ∃ i, i = (l.take (l.length - 1)).drop 1 := ⟨_, rfl⟩
          rw [← hins] at hR
          have hex : ({ data := l.toArray } : ByteArray).extract 1 (l.length - 1) = ⟨ins.toArray⟩ := by
            refine ba_ext ?_
            rw [hins]
            simp [List.drop_take]
          have hil : ins.length ≤ l.length := by rw [hins]; simp; omega
          obtain ⟨ws, hws⟩ : ∃ ws, wordsS ins [] = ws := ⟨_, rfl⟩
          have hwc := rwords_ap (G := G) ins (by omega)
          rw [hws] at hwc hR
          have hwn : ws.length ≤ 14000001 := by have := wordsS_len ins []; rw [hws] at this; omega
          have hwl : ∀ w ∈ ws, w.length ≤ 16777216 := fun w hw => by
            have hm : w ∈ splitS ins [] := by rw [← hws, words_S] at hw; exact (List.mem_filter.1 hw).1
            rw [← splitL_S] at hm
            have := piece_len ins w hm; omega
          have hb1 : 1 ≤ l.length - 1 := by omega
          have hb2 : (1 : Int) ≤ ((l.length - 1 : Nat) : Int) := by omega
          have hb3 : ((l.length - 1 : Nat) : Int) ≤ l.length := by omega
          simp -implicitDefEqProofs [prA, hz, c1', a0, a9, hw1, hb1, hb2, hb3, hex, byA, wrOb, splice, evP, fillA, -getElem?_pos, List.getElem?_cons_zero, List.getElem?_cons_succ]
          refine SC.frz (by simp) [sv ins] (by simp) (post := fun z => z = .sl ws.length (ws.map sv)) (by simpa using hwc) (by simp) ?_ (a := .mk)
          rintro z rfl
          simp -implicitDefEqProofs
          refine LP.go (RpI l ws) ws.length ⟨0, .v (.slice none 0 0), 0, 0, by omega, by simp, by simp, by simp, by simp, by simp, by simp, by simp [vz], by simp, by simp, by simp, .inl ⟨rfl, rfl⟩⟩ ?_
          refine rparse_loop l ws hwl (by omega) _ (fun hna F H f2 f3 h0 => ?_) (fun hall F H X f0 f2 f6 h0 h2 hX => ?_)
          · rw [if_neg (fun e => by rw [e.1] at hna; cases hna)] at hR
            subst hR
            simp -implicitDefEqProofs [f2, f3, h0, vz, pvA, vzero, Va.av, cvs, -getElem?_pos, List.getElem?_cons_zero, List.getElem?_cons_succ]
          · have hok := lstV_ok hall
            have hWf : (lstV ws).Wf := ⟨by show (0 : Nat) < _; decide, by show (0 : Nat) < _; decide, fun p hp => by
              obtain ⟨w, hw, rfl⟩ := List.mem_map.1 hp
              exact wz_lt _ (fun q hq => (refParse_some hq).1), by show (ws.map _).length ≤ _; rw [List.length_map]; omega⟩
            have ht := rtext_ap (G := G) (lstV ws) hWf
            rw [hok] at ht
            have hl0 : 0 < H.length := (List.getElem?_eq_some_iff.1 h0).1
            obtain ⟨tx, htx0⟩ : ∃ t, (lstV ws).tx = t := ⟨_, rfl⟩
            rw [htx0] at ht hR
            have hres : (if ws.all (fun w => (refParse w).isSome) = true ∧ tx = l then some (lstV ws) else none) = if tx = l then some (lstV ws) else none := by simp [hall]
            rw [hres] at hR
            subst hR
            rcases hX with ⟨hw0, rfl⟩ | ⟨r, hr2, rfl, hrr⟩
            · subst hw0
              simp -implicitDefEqProofs [f6, h2, -getElem?_pos, List.getElem?_cons_zero, List.getElem?_cons_succ]
              refine SC.frz (by simp) [.agg [iv 3, cv 0 0, bv false, .v (.slice none 0 0)]] (by simp) (post := fun z => z = .tup [sv tx, iv 0]) (by simpa [lstV, Va.av, cvs] using ht) (by simp) ?_ (a := .mk)
              rintro z rfl
              by_cases htl : tx = l
              · have htl' : (tx == l) = true := by simpa using htl
                simp -implicitDefEqProofs [f0, f2, f6, h0, h2, hl0, htl, htl', vz, lstV, pvA, Va.av, cvs, wrOb, splice, -getElem?_pos, List.getElem?_cons_zero, List.getElem?_cons_succ]
              · have htl' : (tx == l) = false := by simpa using htl
                simp -implicitDefEqProofs [f0, f2, f6, h0, h2, hl0, htl, htl', vz, vzero, pvA, Va.av, cvs, wrOb, splice, evP, fillA, -getElem?_pos, List.getElem?_cons_zero, List.getElem?_cons_succ]
            · have hrl : r < H.length := (List.getElem?_eq_some_iff.1 hrr).1
              simp -implicitDefEqProofs [f6, h2, -getElem?_pos, List.getElem?_cons_zero, List.getElem?_cons_succ]
              refine SC.frz (by simp) [.agg [iv 3, cv 0 0, bv false, .row r]] (by simp) (post := fun z => z = .tup [sv tx, iv 0]) (by simpa [lstV, Va.av, cvs, hrr] using ht) (by simp [hrr]) ?_ (a := .mk)
              rintro z rfl
              have s0 : (H.set r (.fro ws.length (cvs (ws.map fun w => wz (refParse w)))))[0]? = some (.var vz) := by rw [List.getElem?_set_ne (by omega)]; exact h0
              have s2 : (H.set r (.fro ws.length (cvs (ws.map fun w => wz (refParse w)))))[2]? = some (.var [iv 3, cv 0 0, bv false, .row r]) := by rw [List.getElem?_set_ne (by omega)]; exact h2
              have sr : (H.set r (.fro ws.length (cvs (ws.map fun w => wz (refParse w)))))[r]? = some (.fro ws.length (cvs (ws.map fun w => wz (refParse w)))) := List.getElem?_set_self hrl
              obtain ⟨H1, hH1⟩ : ∃ H1, H1 = H.set r (.fro ws.length (cvs (ws.map fun w => wz (refParse w)))) := ⟨_, rfl⟩
              have hfz : (frzT H [.agg [iv 3, cv 0 0, bv false, .row r]]).1 = H1 := by simp [hrr, hH1]
              rw [hfz]
              rw [← hH1] at s0 s2 sr
              have sl0 : 0 < H1.length := (List.getElem?_eq_some_iff.1 s0).1
              have sr' : ∀ o, (H1.set 0 o)[r]? = some (.fro ws.length (cvs (ws.map fun w => wz (refParse w)))) := fun o => by rw [List.getElem?_set_ne (by omega)]; exact sr
              by_cases htl : tx = l
              · have htl' : (tx == l) = true := by simpa using htl
                simp -implicitDefEqProofs [f0, f2, f6, s0, s2, sr', sl0, htl, htl', vz, lstV, pvA, Va.av, cvs, wrOb, splice, -getElem?_pos, List.getElem?_cons_zero, List.getElem?_cons_succ]
              · have htl' : (tx == l) = false := by simpa using htl
                simp -implicitDefEqProofs [f0, f2, f6, s0, s2, sl0, htl, htl', vz, vzero, pvA, Va.av, cvs, wrOb, splice, evP, fillA, -getElem?_pos, List.getElem?_cons_zero, List.getElem?_cons_succ]
        · rw [if_pos (.inr (.inr (by rw [hb9]; simpa using c3)))] at hR
          subst hR
          have c3' : ¬ (b9.toNat : Int) = 93 := fun e => c3 (UInt8.toNat_inj.1 (by show b9.toNat = 93; omega))
          have hl1 : 0 ≤ l.length - 1 := by omega
          simp -implicitDefEqProofs [prA, hz, c1', a0, a9, hw1, c3', byA, pvA, vzero, Va.av, wrOb, splice, evP, fillA, cvs, -getElem?_pos, List.getElem?_cons_zero, List.getElem?_cons_succ]
      · rw [if_pos (.inr (.inl (by rw [hb0]; simpa using c2)))] at hR
        subst hR
        have c2' : ¬ (b0.toNat : Int) = 91 := fun e => c2 (UInt8.toNat_inj.1 (by show b0.toNat = 91; omega))
        simp -implicitDefEqProofs [prA, hz, c1', a0, c2', byA, pvA, vzero, Va.av, wrOb, splice, evP, fillA, cvs, -getElem?_pos, List.getElem?_cons_zero, List.getElem?_cons_succ]
end Go.Proofs.YtbhkclkahblfnaaGreatDoor
/- Contracts of layer 9: value.Split. -/
set_option linter.unusedVariables false
set_option linter.unusedSimpArgs false
namespace Go.Proofs.YtbhkclkahblfnaaGreatDoor
open Go.RowKit Flo Ab
def Va.cells (v : Va) : List AV := [iv v.ty, cv v.a v.b, bv v.bo, .sl v.l.length (cvs v.l)]
def vsA (vs : List Va) : List AV := vs.flatMap Va.cells
theorem Va.av_cells (v : Va) : v.av = .agg v.cells := rfl
def spA : Option (List Va) → AV
  | some vs => .tup [.sl vs.length (vsA vs), iv 0]
  | none => .tup [.sl 0 [], iv 11]
theorem vsA_snoc (vs : List Va) (v : Va) : vsA (vs ++ [v]) = vsA vs ++ v.cells := by simp [vsA]
theorem vsA_len (vs : List Va) : (vsA vs).length = vs.length * 4 := by
  unfold vsA
  induction vs with
  | nil => rfl
  | cons v vs ih => rw [List.flatMap_cons, List.length_append, ih]; simp [Va.cells]; omega
def goO (out : List Va) : Option (List Va) → Option (List Va)
  | some vs => some (out ++ vs)
  | none => none
def OutI (out : List Va) (X : AV) (H : List Ob) : Prop := (out = [] ∧ X = .v (.slice none 0 0)) ∨ ∃ r, X = .row r ∧ H[r]? = some (.own 35 4 out.length (vsA out))
def VsI (l : List UInt8) (g : Nat) (F : Fr) (H : List Ob) : Prop := ∃ (m : List UInt8) (out : List Va) (X : AV), g = m.length ∧ m.length ≤ l.length ∧ m.head? ≠ some 32 ∧ F 0 = some (sv m) ∧ F 4 = some X ∧ OutI out X H ∧ out.length + m.length ≤ l.length ∧ goS l = goO out (goS m)
theorem trimL_head (l : List UInt8) : (Lib.trimLeftB l 32).head? ≠ some 32 := by
  unfold Lib.trimLeftB
  induction l with
  | nil => simp
  | cons b r ih =>
    rw [List.dropWhile_cons]
    split
    · exact ih
    · rename_i h
      simpa using h
theorem trimL_len (l : List UInt8) : (Lib.trimLeftB l 32).length ≤ l.length := by
  unfold Lib.trimLeftB
  induction l with
  | nil => simp
  | cons b r ih =>
    rw [List.dropWhile_cons]
    split
    · simp only [List.length_cons]; omega
    · exact Nat.le_refl _
theorem ba_take (m : List UInt8) (n : Nat) : ({ data := m.toArray } : ByteArray).extract 0 n = ⟨(m.take n).toArray⟩ := by
  refine ba_ext ?_
  simp
theorem ba_drop (m : List UInt8) (n : Nat) : ({ data := m.toArray } : ByteArray).extract n m.length = ⟨(m.drop n).toArray⟩ := by
  refine ba_ext ?_
  simp
  exact List.take_of_length_le (by simp)
theorem ba_at {l : List UInt8} {k : Nat} {b : UInt8} (h : l[k]? = some b) : ({ data := l.toArray } : ByteArray)[k]? = some b := by
  have hk : k < l.length := (List.getElem?_eq_some_iff.1 h).1
  rw [getElem?_pos _ k (by show k < ByteArray.size _; simpa [ByteArray.size] using hk)]
  obtain ⟨_, rfl⟩ := List.getElem?_eq_some_iff.1 h
  rfl
set_option maxHeartbeats 16000000 in
set_option maxRecDepth 100000 in
theorem vsplit_ap (l : List UInt8) (hl : l.length ≤ 14000000) : AP Tryz.prog Gv 23 [sv l] (fun z => z = spA (goS l)) := by
  refine AP.go hmix F_vsplit (by simp) ?_
  have htr : ∀ m : List UInt8, AP Tryz.prog Gv 52 [sv m, sv [32]] (fun z => z = sv (Lib.trimLeftB m 32)) := fun m => trimleft_ap m 32 (by decide)
  obtain ⟨R, hR⟩ : ∃ R, goS l = R := ⟨_, rfl⟩
  rw [hR]
  simp -implicitDefEqProofs [c_vsplit]
  refine SC.frz (by simp) [sv l, sv [32]] (by simp) (post := fun z => z = sv (Lib.trimLeftB l 32)) (by simpa using htr l) (by simp) ?_ (a := .mk)
  rintro z rfl
  simp -implicitDefEqProofs
  have ht1 := trimL_len l
  refine LP.go (VsI l) (Lib.trimLeftB l 32).length ⟨Lib.trimLeftB l 32, [], .v (.slice none 0 0), rfl, ht1, trimL_head l, by simp, by simp, .inl ⟨rfl, rfl⟩, by simpa using ht1, by rw [goS_trim]; unfold goO; cases goS l <;> rfl⟩ ?_
  unfold c_vsplit_L0
  rintro g F H ⟨m, out, X, rfl, hml, hhd, f0, f4, hX, hsz, hgo⟩
  have hz : ({ data := m.toArray } : ByteArray).size = m.length := by simp [ByteArray.size]
  by_cases hm0 : m = []
  · subst hm0
    rw [goS_nil] at hgo
    have hRo : R = some out := by rw [← hR, hgo]; simp [goO]
    subst hRo
    rcases hX with ⟨rfl, rfl⟩ | ⟨r, rfl, hr⟩
    · simp -implicitDefEqProofs [f0, f4, spA, vsA]
    · simp -implicitDefEqProofs [f0, f4, hr, spA]
  · obtain ⟨b, q, hm⟩ : ∃ b q, m = b :: q := by cases m with | nil => exact absurd rfl hm0 | cons b q => exact ⟨b, q, rfl⟩
    have hb : b ≠ 32 := by rw [hm] at hhd; simpa using hhd
    have hme : m.isEmpty = false := by simpa using hm0
    have hi32 : AP Tryz.prog Gv 53 [sv m, sv [32]] (fun z => z = iv (Lib.indexByte m 32)) := index_ap _ _
    have hi93 : AP Tryz.prog Gv 53 [sv m, sv [93]] (fun z => z = iv (Lib.indexByte m 93)) := index_ap _ _
    have hpos : 0 < pcv m := by rw [hm]; exact pcv_pos hb
    have hple := pcv_le m
    have hval : goS m = match parseV (m.take (pcv m)) with
        | none => none
        | some v => match goS (m.drop (pcv m)) with
          | none => none
          | some vs => some (v :: vs) := by rw [hm]; exact goS_val hb
    have hat0 : ({ data := m.toArray } : ByteArray)[0]? = some b := ba_at (by rw [hm]; rfl)
    have hhd91 : m.head? = some 91 ↔ b = 91 := by rw [hm]; simp
    have hpv : pcv m = if m.head? = some 91 ∧ (ixO (Lib.indexByte m 32) m.length : Int) ≤ Lib.indexByte m 93 then (Lib.indexByte m 93).toNat + 1 + ixO (Lib.indexByte (m.drop ((Lib.indexByte m 93).toNat + 1)) 32) (m.drop ((Lib.indexByte m 93).toNat + 1)).length else ixO (Lib.indexByte m 32) m.length := rfl
    have hlt93 : Lib.indexByte m 93 < m.length := by rcases ib_lt (l := m) (c := 93) with h | h
                                                     · exact h
                                                     · exact absurd h hm0
    have hge32 := Lib.indexByte_ge m 32
    have hge93 := Lib.indexByte_ge m 93
    have hixle := ixO_le m
    obtain ⟨i32, h32⟩ : ∃ i, Lib.indexByte m 32 = i := ⟨_, rfl⟩
    obtain ⟨i93, h93⟩ : ∃ i, Lib.indexByte m 93 = i := ⟨_, rfl⟩
    rw [h32] at hi32 hpv hge32 hixle
    rw [h93] at hi93 hpv hge93 hlt93
    obtain ⟨n0, hn0⟩ : ∃ n0 : Nat, ixO i32 m.length = n0 := ⟨_, rfl⟩
    rw [hn0] at hpv hixle
    obtain ⟨p, hp⟩ : ∃ p, pcv m = p := ⟨_, rfl⟩
    rw [hp] at hpos hple hval hpv
    have hex0 : ({ data := m.toArray } : ByteArray).extract 0 p = ⟨(m.take p).toArray⟩ := ba_take m p
    have hex1 : ({ data := m.toArray } : ByteArray).extract p m.length = ⟨(m.drop p).toArray⟩ := ba_drop m p
    have hpi : (p : Int) ≤ m.length := by omega
    simp -implicitDefEqProofs [f0, hm0, hme]
    refine SC.frz (by simp) [sv m, sv [32]] (by simp) (post := fun z => z = iv i32) (by simpa using hi32) (by simp) ?_ (a := .mk)
    rintro z rfl
    have hparse : AP Tryz.prog Gv 20 [sv (m.take p)] (fun z => z = pvA (parseV (m.take p))) := vparse_ap _ (by simp; omega)
    by_cases c1 : 0 ≤ i32
    · have hi : i32 = (n0 : Int) := by unfold ixO at hn0; rw [if_pos c1] at hn0; omega
      have hex1e : ({ data := m.toArray } : ByteArray).extract n0 m.length = ⟨(m.drop n0).toArray⟩ := ba_drop m n0
      rw [hi] at c1
      simp -implicitDefEqProofs [f0, hi, c1]
      refine SC.frz (by simp) [sv m, sv [93]] (by simp) (post := fun z => z = iv i93) (by simpa using hi93) (by simp) ?_ (a := .mk)
      rintro z rfl
      by_cases c2 : b = 91
      · have hb91 : (b.toNat : Int) = 91 := by rw [c2]; rfl
        by_cases c3 : (n0 : Int) ≤ i93
        · have hp1 : p = i93.toNat + 1 + ixO (Lib.indexByte (m.drop (i93.toNat + 1)) 32) (m.drop (i93.toNat + 1)).length := by rw [hpv, if_pos ⟨hhd91.2 c2, by omega⟩]
          have hn1 : IntKind.i64.wrap (i93 + 1) = ((i93.toNat + 1 : Nat) : Int) := by rw [wrap64 _ (by omega)]; omega
          obtain ⟨n1, hn1e⟩ : ∃ n1, i93.toNat + 1 = n1 := ⟨_, rfl⟩
          rw [hn1e] at hp1 hn1
          have hn1l : (n1 : Int) ≤ m.length := by omega
          have hexn : ({ data := m.toArray } : ByteArray).extract n1 m.length = ⟨(m.drop n1).toArray⟩ := ba_drop m n1
          have hin := index_ap (G := Gv) (m.drop n1) 32
          obtain ⟨j32, hj⟩ : ∃ j, Lib.indexByte (m.drop n1) 32 = j := ⟨_, rfl⟩
          rw [hj] at hin hp1
          simp -implicitDefEqProofs [f0, hat0, byA, hb91, c3, hn1, hn1l, hexn, hz]
          refine SC.frz (by simp) [sv (m.drop n1), sv [32]] (by simp) (post := fun z => z = iv j32) (by simpa using hin) (by simp) ?_ (a := .mk)
          rintro z rfl
          by_cases c4 : 0 ≤ j32
          · have hj2 : IntKind.i64.wrap ((n1 : Int) + j32) = (p : Int) := by unfold ixO at hp1; rw [if_pos c4] at hp1; rw [wrap64 _ (by omega)]; omega
            simp -implicitDefEqProofs [f0, c4, hj2, hz, hex0, hpi]
            refine SC.frz (by simp) [sv (m.take p)] (by simp) (post := fun z => z = pvA (parseV (m.take p))) (by simpa using hparse) (by simp) ?_ (a := .mk)
            rintro z rfl
            obtain ⟨o, ho⟩ : ∃ o, parseV (m.take p) = o := ⟨_, rfl⟩
            rw [ho] at hval ⊢
            cases o with
            | none =>
              simp only at hval
              have hRo : R = none := by rw [← hR, hgo, hval]; rfl
              subst hRo
              simp -implicitDefEqProofs [pvA, vzero, Va.av, cvs, spA, wrOb, splice]
            | some v =>
              simp only at hval
              have hgo2 : goS l = goO (out ++ [v]) (goS (m.drop p)) := by
                rw [hgo, hval]
                cases goS (m.drop p) with
                | none => rfl
                | some vs => simp [goO]
              have hdl : (Lib.trimLeftB (m.drop p) 32).length ≤ m.length - p := by have := trimL_len (m.drop p); simpa using this
              rcases hX with ⟨hout, rfl⟩ | ⟨r, rfl, hr⟩
              · subst hout
                simp -implicitDefEqProofs [f0, hz, hj2, f4, pvA, Va.av, wrOb, splice, evP, fillA, hex1, hpi, -getElem?_pos, List.getElem?_cons_zero, List.getElem?_cons_succ]
                refine SC.frz (by simp) [sv (m.drop p), sv [32]] (by first | (simp; done) | (simp [hp1]; done) | simp [show ByteArray.empty = (⟨(m.drop p).toArray⟩ : ByteArray) by rw [List.drop_eq_nil_of_le (by omega)]; rfl]) (post := fun z => z = sv (Lib.trimLeftB (m.drop p) 32)) (by simpa using htr (m.drop p)) (by simp) ?_ (a := .mk)
                rintro z rfl
                simp -implicitDefEqProofs
                refine ⟨_, by omega, Lib.trimLeftB (m.drop p) 32, [v], .row (H.length + 2), rfl, by omega, trimL_head _, by simp, by simp, .inr ⟨_, rfl, ?_⟩, by simp at hsz ⊢; omega, by rw [goS_trim]; exact hgo2⟩
                rw [List.getElem?_append_right (by simp)]
                simp [vsA, Va.cells]
              · have hrX : ∀ Y : List Ob, (H ++ Y)[r]? = some (.own 35 4 out.length (vsA out)) := fun Y => app_at hr Y
                have hb1 : (out.length + 1) * 56 ≤ 140737488355328 := by omega
                have hb2 : out.length + 1 ≤ 1073741824 := by omega
                simp -implicitDefEqProofs [f0, hz, hj2, f4, hrX, hb1, hb2, pvA, Va.av, wrOb, splice, evP, fillA, hex1, hpi, -getElem?_pos, List.getElem?_cons_zero, List.getElem?_cons_succ]
                refine SC.frz (by simp) [sv (m.drop p), sv [32]] (by first | (simp; done) | (simp [hp1]; done) | simp [show ByteArray.empty = (⟨(m.drop p).toArray⟩ : ByteArray) by rw [List.drop_eq_nil_of_le (by omega)]; rfl]) (post := fun z => z = sv (Lib.trimLeftB (m.drop p) 32)) (by simpa using htr (m.drop p)) (by simp) ?_ (a := .mk)
                rintro z rfl
                simp -implicitDefEqProofs
                refine ⟨_, by omega, Lib.trimLeftB (m.drop p) 32, out ++ [v], .row (H.length + 2), rfl, by omega, trimL_head _, by simp, by simp, .inr ⟨_, rfl, ?_⟩, by simp at hsz ⊢; omega, by rw [goS_trim]; exact hgo2⟩
                rw [List.getElem?_append_right (by simp), vsA_snoc]
                simp [Va.cells]
          · have hp2 : p = m.length := by unfold ixO at hp1; rw [if_neg c4] at hp1; simp at hp1; omega
            have hpl : (m.length : Int) = (p : Int) := by omega
            have hex00 : ({ data := m.toArray } : ByteArray).extract 0 m.length = ⟨(m.take p).toArray⟩ := by rw [← hp2]; exact hex0
            simp -implicitDefEqProofs [f0, c4, hz, hex00]
            refine SC.frz (by simp) [sv (m.take p)] (by simp) (post := fun z => z = pvA (parseV (m.take p))) (by simpa using hparse) (by simp) ?_ (a := .mk)
            rintro z rfl
            obtain ⟨o, ho⟩ : ∃ o, parseV (m.take p) = o := ⟨_, rfl⟩
            rw [ho] at hval ⊢
            cases o with
            | none =>
              simp only at hval
              have hRo : R = none := by rw [← hR, hgo, hval]; rfl
              subst hRo
              simp -implicitDefEqProofs [pvA, vzero, Va.av, cvs, spA, wrOb, splice]
            | some v =>
              simp only at hval
              have hgo2 : goS l = goO (out ++ [v]) (goS (m.drop p)) := by
                rw [hgo, hval]
                cases goS (m.drop p) with
                | none => rfl
                | some vs => simp [goO]
              have hdl : (Lib.trimLeftB (m.drop p) 32).length ≤ m.length - p := by have := trimL_len (m.drop p); simpa using this
              rcases hX with ⟨hout, rfl⟩ | ⟨r, rfl, hr⟩
              · subst hout
                simp -implicitDefEqProofs [f0, hz, hex1e, f4, pvA, Va.av, wrOb, splice, evP, fillA, hex1, hpi, -getElem?_pos, List.getElem?_cons_zero, List.getElem?_cons_succ]
                refine SC.frz (by simp) [sv (m.drop p), sv [32]] (by first | (simp; done) | (simp [hp1]; done) | simp [show ByteArray.empty = (⟨(m.drop p).toArray⟩ : ByteArray) by rw [List.drop_eq_nil_of_le (by omega)]; rfl]) (post := fun z => z = sv (Lib.trimLeftB (m.drop p) 32)) (by simpa using htr (m.drop p)) (by simp) ?_ (a := .mk)
                rintro z rfl
                simp -implicitDefEqProofs
                refine ⟨_, by omega, Lib.trimLeftB (m.drop p) 32, [v], .row (H.length + 2), rfl, by omega, trimL_head _, by simp, by simp, .inr ⟨_, rfl, ?_⟩, by simp at hsz ⊢; omega, by rw [goS_trim]; exact hgo2⟩
                rw [List.getElem?_append_right (by simp)]
                simp [vsA, Va.cells]
              · have hrX : ∀ Y : List Ob, (H ++ Y)[r]? = some (.own 35 4 out.length (vsA out)) := fun Y => app_at hr Y
                have hb1 : (out.length + 1) * 56 ≤ 140737488355328 := by omega
                have hb2 : out.length + 1 ≤ 1073741824 := by omega
                simp -implicitDefEqProofs [f0, hz, hex1e, f4, hrX, hb1, hb2, pvA, Va.av, wrOb, splice, evP, fillA, hex1, hpi, -getElem?_pos, List.getElem?_cons_zero, List.getElem?_cons_succ]
                refine SC.frz (by simp) [sv (m.drop p), sv [32]] (by first | (simp; done) | (simp [hp1]; done) | simp [show ByteArray.empty = (⟨(m.drop p).toArray⟩ : ByteArray) by rw [List.drop_eq_nil_of_le (by omega)]; rfl]) (post := fun z => z = sv (Lib.trimLeftB (m.drop p) 32)) (by simpa using htr (m.drop p)) (by simp) ?_ (a := .mk)
                rintro z rfl
                simp -implicitDefEqProofs
                refine ⟨_, by omega, Lib.trimLeftB (m.drop p) 32, out ++ [v], .row (H.length + 2), rfl, by omega, trimL_head _, by simp, by simp, .inr ⟨_, rfl, ?_⟩, by simp at hsz ⊢; omega, by rw [goS_trim]; exact hgo2⟩
                rw [List.getElem?_append_right (by simp), vsA_snoc]
                simp [Va.cells]
        · have hp1 : p = n0 := by rw [hpv, if_neg (fun h => c3 (by omega))]
          have hex00 : ({ data := m.toArray } : ByteArray).extract 0 n0 = ⟨(m.take p).toArray⟩ := by rw [show n0 = p by omega]; exact hex0
          have hle : (n0 : Int) ≤ m.length := by omega
          simp -implicitDefEqProofs [f0, hat0, byA, hb91, c3, hz, hex00, hle]
          refine SC.frz (by simp) [sv (m.take p)] (by simp) (post := fun z => z = pvA (parseV (m.take p))) (by simpa using hparse) (by simp) ?_ (a := .mk)
          rintro z rfl
          obtain ⟨o, ho⟩ : ∃ o, parseV (m.take p) = o := ⟨_, rfl⟩
          rw [ho] at hval ⊢
          cases o with
          | none =>
            simp only at hval
            have hRo : R = none := by rw [← hR, hgo, hval]; rfl
            subst hRo
            simp -implicitDefEqProofs [pvA, vzero, Va.av, cvs, spA, wrOb, splice]
          | some v =>
            simp only at hval
            have hgo2 : goS l = goO (out ++ [v]) (goS (m.drop p)) := by
              rw [hgo, hval]
              cases goS (m.drop p) with
              | none => rfl
              | some vs => simp [goO]
            have hdl : (Lib.trimLeftB (m.drop p) 32).length ≤ m.length - p := by have := trimL_len (m.drop p); simpa using this
            rcases hX with ⟨hout, rfl⟩ | ⟨r, rfl, hr⟩
            · subst hout
              simp -implicitDefEqProofs [f0, hz, hex1e, hle, f4, pvA, Va.av, wrOb, splice, evP, fillA, hex1, hpi, -getElem?_pos, List.getElem?_cons_zero, List.getElem?_cons_succ]
              refine SC.frz (by simp) [sv (m.drop p), sv [32]] (by first | (simp; done) | (simp [hp1]; done) | simp [show ByteArray.empty = (⟨(m.drop p).toArray⟩ : ByteArray) by rw [List.drop_eq_nil_of_le (by omega)]; rfl]) (post := fun z => z = sv (Lib.trimLeftB (m.drop p) 32)) (by simpa using htr (m.drop p)) (by simp) ?_ (a := .mk)
              rintro z rfl
              simp -implicitDefEqProofs
              refine ⟨_, by omega, Lib.trimLeftB (m.drop p) 32, [v], .row (H.length + 2), rfl, by omega, trimL_head _, by simp, by simp, .inr ⟨_, rfl, ?_⟩, by simp at hsz ⊢; omega, by rw [goS_trim]; exact hgo2⟩
              rw [List.getElem?_append_right (by simp)]
              simp [vsA, Va.cells]
            · have hrX : ∀ Y : List Ob, (H ++ Y)[r]? = some (.own 35 4 out.length (vsA out)) := fun Y => app_at hr Y
              have hb1 : (out.length + 1) * 56 ≤ 140737488355328 := by omega
              have hb2 : out.length + 1 ≤ 1073741824 := by omega
              simp -implicitDefEqProofs [f0, hz, hex1e, hle, f4, hrX, hb1, hb2, pvA, Va.av, wrOb, splice, evP, fillA, hex1, hpi, -getElem?_pos, List.getElem?_cons_zero, List.getElem?_cons_succ]
              refine SC.frz (by simp) [sv (m.drop p), sv [32]] (by first | (simp; done) | (simp [hp1]; done) | simp [show ByteArray.empty = (⟨(m.drop p).toArray⟩ : ByteArray) by rw [List.drop_eq_nil_of_le (by omega)]; rfl]) (post := fun z => z = sv (Lib.trimLeftB (m.drop p) 32)) (by simpa using htr (m.drop p)) (by simp) ?_ (a := .mk)
              rintro z rfl
              simp -implicitDefEqProofs
              refine ⟨_, by omega, Lib.trimLeftB (m.drop p) 32, out ++ [v], .row (H.length + 2), rfl, by omega, trimL_head _, by simp, by simp, .inr ⟨_, rfl, ?_⟩, by simp at hsz ⊢; omega, by rw [goS_trim]; exact hgo2⟩
              rw [List.getElem?_append_right (by simp), vsA_snoc]
              simp [Va.cells]
      · have hb91 : ¬ (b.toNat : Int) = 91 := fun e => c2 (UInt8.toNat_inj.1 (by show b.toNat = 91; omega))
        have hp1 : p = n0 := by rw [hpv, if_neg (fun h => c2 (hhd91.1 h.1))]
        have hex00 : ({ data := m.toArray } : ByteArray).extract 0 n0 = ⟨(m.take p).toArray⟩ := by rw [show n0 = p by omega]; exact hex0
        have hle : (n0 : Int) ≤ m.length := by omega
        simp -implicitDefEqProofs [f0, hat0, byA, hb91, hz, hex00, hle]
        refine SC.frz (by simp) [sv (m.take p)] (by simp) (post := fun z => z = pvA (parseV (m.take p))) (by simpa using hparse) (by simp) ?_ (a := .mk)
        rintro z rfl
        obtain ⟨o, ho⟩ : ∃ o, parseV (m.take p) = o := ⟨_, rfl⟩
        rw [ho] at hval ⊢
        cases o with
        | none =>
          simp only at hval
          have hRo : R = none := by rw [← hR, hgo, hval]; rfl
          subst hRo
          simp -implicitDefEqProofs [pvA, vzero, Va.av, cvs, spA, wrOb, splice]
        | some v =>
          simp only at hval
          have hgo2 : goS l = goO (out ++ [v]) (goS (m.drop p)) := by
            rw [hgo, hval]
            cases goS (m.drop p) with
            | none => rfl
            | some vs => simp [goO]
          have hdl : (Lib.trimLeftB (m.drop p) 32).length ≤ m.length - p := by have := trimL_len (m.drop p); simpa using this
          rcases hX with ⟨hout, rfl⟩ | ⟨r, rfl, hr⟩
          · subst hout
            simp -implicitDefEqProofs [f0, hz, hex1e, hle, f4, pvA, Va.av, wrOb, splice, evP, fillA, hex1, hpi, -getElem?_pos, List.getElem?_cons_zero, List.getElem?_cons_succ]
            refine SC.frz (by simp) [sv (m.drop p), sv [32]] (by first | (simp; done) | (simp [hp1]; done) | simp [show ByteArray.empty = (⟨(m.drop p).toArray⟩ : ByteArray) by rw [List.drop_eq_nil_of_le (by omega)]; rfl]) (post := fun z => z = sv (Lib.trimLeftB (m.drop p) 32)) (by simpa using htr (m.drop p)) (by simp) ?_ (a := .mk)
            rintro z rfl
            simp -implicitDefEqProofs
            refine ⟨_, by omega, Lib.trimLeftB (m.drop p) 32, [v], .row (H.length + 2), rfl, by omega, trimL_head _, by simp, by simp, .inr ⟨_, rfl, ?_⟩, by simp at hsz ⊢; omega, by rw [goS_trim]; exact hgo2⟩
            rw [List.getElem?_append_right (by simp)]
            simp [vsA, Va.cells]
          · have hrX : ∀ Y : List Ob, (H ++ Y)[r]? = some (.own 35 4 out.length (vsA out)) := fun Y => app_at hr Y
            have hb1 : (out.length + 1) * 56 ≤ 140737488355328 := by omega
            have hb2 : out.length + 1 ≤ 1073741824 := by omega
            simp -implicitDefEqProofs [f0, hz, hex1e, hle, f4, hrX, hb1, hb2, pvA, Va.av, wrOb, splice, evP, fillA, hex1, hpi, -getElem?_pos, List.getElem?_cons_zero, List.getElem?_cons_succ]
            refine SC.frz (by simp) [sv (m.drop p), sv [32]] (by first | (simp; done) | (simp [hp1]; done) | simp [show ByteArray.empty = (⟨(m.drop p).toArray⟩ : ByteArray) by rw [List.drop_eq_nil_of_le (by omega)]; rfl]) (post := fun z => z = sv (Lib.trimLeftB (m.drop p) 32)) (by simpa using htr (m.drop p)) (by simp) ?_ (a := .mk)
            rintro z rfl
            simp -implicitDefEqProofs
            refine ⟨_, by omega, Lib.trimLeftB (m.drop p) 32, out ++ [v], .row (H.length + 2), rfl, by omega, trimL_head _, by simp, by simp, .inr ⟨_, rfl, ?_⟩, by simp at hsz ⊢; omega, by rw [goS_trim]; exact hgo2⟩
            rw [List.getElem?_append_right (by simp), vsA_snoc]
            simp [Va.cells]
    · have hi : n0 = m.length := by unfold ixO at hn0; rw [if_neg c1] at hn0; omega
      have hex1e : ({ data := m.toArray } : ByteArray).extract m.length m.length = ⟨(m.drop m.length).toArray⟩ := ba_drop m m.length
      simp -implicitDefEqProofs [f0, c1, hz]
      refine SC.frz (by simp) [sv m, sv [93]] (by simp) (post := fun z => z = iv i93) (by simpa using hi93) (by simp) ?_ (a := .mk)
      rintro z rfl
      by_cases c2 : b = 91
      · have hb91 : (b.toNat : Int) = 91 := by rw [c2]; rfl
        by_cases c3 : (m.length : Int) ≤ i93
        · have hp1 : p = i93.toNat + 1 + ixO (Lib.indexByte (m.drop (i93.toNat + 1)) 32) (m.drop (i93.toNat + 1)).length := by rw [hpv, if_pos ⟨hhd91.2 c2, by omega⟩]
          have hn1 : IntKind.i64.wrap (i93 + 1) = ((i93.toNat + 1 : Nat) : Int) := by rw [wrap64 _ (by omega)]; omega
          obtain ⟨n1, hn1e⟩ : ∃ n1, i93.toNat + 1 = n1 := ⟨_, rfl⟩
          rw [hn1e] at hp1 hn1
          have hn1l : (n1 : Int) ≤ m.length := by omega
          have hexn : ({ data := m.toArray } : ByteArray).extract n1 m.length = ⟨(m.drop n1).toArray⟩ := ba_drop m n1
          have hin := index_ap (G := Gv) (m.drop n1) 32
          obtain ⟨j32, hj⟩ : ∃ j, Lib.indexByte (m.drop n1) 32 = j := ⟨_, rfl⟩
          rw [hj] at hin hp1
          simp -implicitDefEqProofs [f0, hat0, byA, hb91, c3, hn1, hn1l, hexn, hz]
          refine SC.frz (by simp) [sv (m.drop n1), sv [32]] (by simp) (post := fun z => z = iv j32) (by simpa using hin) (by simp) ?_ (a := .mk)
          rintro z rfl
          by_cases c4 : 0 ≤ j32
          · have hj2 : IntKind.i64.wrap ((n1 : Int) + j32) = (p : Int) := by unfold ixO at hp1; rw [if_pos c4] at hp1; rw [wrap64 _ (by omega)]; omega
            simp -implicitDefEqProofs [f0, c4, hj2, hz, hex0, hpi]
            refine SC.frz (by simp) [sv (m.take p)] (by simp) (post := fun z => z = pvA (parseV (m.take p))) (by simpa using hparse) (by simp) ?_ (a := .mk)
            rintro z rfl
            obtain ⟨o, ho⟩ : ∃ o, parseV (m.take p) = o := ⟨_, rfl⟩
            rw [ho] at hval ⊢
            cases o with
            | none =>
              simp only at hval
              have hRo : R = none := by rw [← hR, hgo, hval]; rfl
              subst hRo
              simp -implicitDefEqProofs [pvA, vzero, Va.av, cvs, spA, wrOb, splice]
            | some v =>
              simp only at hval
              have hgo2 : goS l = goO (out ++ [v]) (goS (m.drop p)) := by
                rw [hgo, hval]
                cases goS (m.drop p) with
                | none => rfl
                | some vs => simp [goO]
              have hdl : (Lib.trimLeftB (m.drop p) 32).length ≤ m.length - p := by have := trimL_len (m.drop p); simpa using this
              rcases hX with ⟨hout, rfl⟩ | ⟨r, rfl, hr⟩
              · subst hout
                simp -implicitDefEqProofs [f0, hz, hj2, f4, pvA, Va.av, wrOb, splice, evP, fillA, hex1, hpi, -getElem?_pos, List.getElem?_cons_zero, List.getElem?_cons_succ]
                refine SC.frz (by simp) [sv (m.drop p), sv [32]] (by first | (simp; done) | (simp [hp1]; done) | simp [show ByteArray.empty = (⟨(m.drop p).toArray⟩ : ByteArray) by rw [List.drop_eq_nil_of_le (by omega)]; rfl]) (post := fun z => z = sv (Lib.trimLeftB (m.drop p) 32)) (by simpa using htr (m.drop p)) (by simp) ?_ (a := .mk)
                rintro z rfl
                simp -implicitDefEqProofs
                refine ⟨_, by omega, Lib.trimLeftB (m.drop p) 32, [v], .row (H.length + 2), rfl, by omega, trimL_head _, by simp, by simp, .inr ⟨_, rfl, ?_⟩, by simp at hsz ⊢; omega, by rw [goS_trim]; exact hgo2⟩
                rw [List.getElem?_append_right (by simp)]
                simp [vsA, Va.cells]
              · have hrX : ∀ Y : List Ob, (H ++ Y)[r]? = some (.own 35 4 out.length (vsA out)) := fun Y => app_at hr Y
                have hb1 : (out.length + 1) * 56 ≤ 140737488355328 := by omega
                have hb2 : out.length + 1 ≤ 1073741824 := by omega
                simp -implicitDefEqProofs [f0, hz, hj2, f4, hrX, hb1, hb2, pvA, Va.av, wrOb, splice, evP, fillA, hex1, hpi, -getElem?_pos, List.getElem?_cons_zero, List.getElem?_cons_succ]
                refine SC.frz (by simp) [sv (m.drop p), sv [32]] (by first | (simp; done) | (simp [hp1]; done) | simp [show ByteArray.empty = (⟨(m.drop p).toArray⟩ : ByteArray) by rw [List.drop_eq_nil_of_le (by omega)]; rfl]) (post := fun z => z = sv (Lib.trimLeftB (m.drop p) 32)) (by simpa using htr (m.drop p)) (by simp) ?_ (a := .mk)
                rintro z rfl
                simp -implicitDefEqProofs
                refine ⟨_, by omega, Lib.trimLeftB (m.drop p) 32, out ++ [v], .row (H.length + 2), rfl, by omega, trimL_head _, by simp, by simp, .inr ⟨_, rfl, ?_⟩, by simp at hsz ⊢; omega, by rw [goS_trim]; exact hgo2⟩
                rw [List.getElem?_append_right (by simp), vsA_snoc]
                simp [Va.cells]
          · have hp2 : p = m.length := by unfold ixO at hp1; rw [if_neg c4] at hp1; simp at hp1; omega
            have hpl : (m.length : Int) = (p : Int) := by omega
            have hex00 : ({ data := m.toArray } : ByteArray).extract 0 m.length = ⟨(m.take p).toArray⟩ := by rw [← hp2]; exact hex0
            simp -implicitDefEqProofs [f0, c4, hz, hex00]
            refine SC.frz (by simp) [sv (m.take p)] (by simp) (post := fun z => z = pvA (parseV (m.take p))) (by simpa using hparse) (by simp) ?_ (a := .mk)
            rintro z rfl
            obtain ⟨o, ho⟩ : ∃ o, parseV (m.take p) = o := ⟨_, rfl⟩
            rw [ho] at hval ⊢
            cases o with
            | none =>
              simp only at hval
              have hRo : R = none := by rw [← hR, hgo, hval]; rfl
              subst hRo
              simp -implicitDefEqProofs [pvA, vzero, Va.av, cvs, spA, wrOb, splice]
            | some v =>
              simp only at hval
              have hgo2 : goS l = goO (out ++ [v]) (goS (m.drop p)) := by
                rw [hgo, hval]
                cases goS (m.drop p) with
                | none => rfl
                | some vs => simp [goO]
              have hdl : (Lib.trimLeftB (m.drop p) 32).length ≤ m.length - p := by have := trimL_len (m.drop p); simpa using this
              rcases hX with ⟨hout, rfl⟩ | ⟨r, rfl, hr⟩
              · subst hout
                simp -implicitDefEqProofs [f0, hz, hex1e, f4, pvA, Va.av, wrOb, splice, evP, fillA, hex1, hpi, -getElem?_pos, List.getElem?_cons_zero, List.getElem?_cons_succ]
                refine SC.frz (by simp) [sv (m.drop p), sv [32]] (by first | (simp; done) | (simp [hp1]; done) | simp [show ByteArray.empty = (⟨(m.drop p).toArray⟩ : ByteArray) by rw [List.drop_eq_nil_of_le (by omega)]; rfl]) (post := fun z => z = sv (Lib.trimLeftB (m.drop p) 32)) (by simpa using htr (m.drop p)) (by simp) ?_ (a := .mk)
                rintro z rfl
                simp -implicitDefEqProofs
                refine ⟨_, by omega, Lib.trimLeftB (m.drop p) 32, [v], .row (H.length + 2), rfl, by omega, trimL_head _, by simp, by simp, .inr ⟨_, rfl, ?_⟩, by simp at hsz ⊢; omega, by rw [goS_trim]; exact hgo2⟩
                rw [List.getElem?_append_right (by simp)]
                simp [vsA, Va.cells]
              · have hrX : ∀ Y : List Ob, (H ++ Y)[r]? = some (.own 35 4 out.length (vsA out)) := fun Y => app_at hr Y
                have hb1 : (out.length + 1) * 56 ≤ 140737488355328 := by omega
                have hb2 : out.length + 1 ≤ 1073741824 := by omega
                simp -implicitDefEqProofs [f0, hz, hex1e, f4, hrX, hb1, hb2, pvA, Va.av, wrOb, splice, evP, fillA, hex1, hpi, -getElem?_pos, List.getElem?_cons_zero, List.getElem?_cons_succ]
                refine SC.frz (by simp) [sv (m.drop p), sv [32]] (by first | (simp; done) | (simp [hp1]; done) | simp [show ByteArray.empty = (⟨(m.drop p).toArray⟩ : ByteArray) by rw [List.drop_eq_nil_of_le (by omega)]; rfl]) (post := fun z => z = sv (Lib.trimLeftB (m.drop p) 32)) (by simpa using htr (m.drop p)) (by simp) ?_ (a := .mk)
                rintro z rfl
                simp -implicitDefEqProofs
                refine ⟨_, by omega, Lib.trimLeftB (m.drop p) 32, out ++ [v], .row (H.length + 2), rfl, by omega, trimL_head _, by simp, by simp, .inr ⟨_, rfl, ?_⟩, by simp at hsz ⊢; omega, by rw [goS_trim]; exact hgo2⟩
                rw [List.getElem?_append_right (by simp), vsA_snoc]
                simp [Va.cells]
        · have hp1 : p = n0 := by rw [hpv, if_neg (fun h => c3 (by omega))]
          have hex00 : ({ data := m.toArray } : ByteArray).extract 0 m.length = ⟨(m.take p).toArray⟩ := by rw [show m.length = p by omega]; exact hex0
          have hle : (m.length : Int) ≤ m.length := by omega
          simp -implicitDefEqProofs [f0, hat0, byA, hb91, c3, hz, hex00, hle]
          refine SC.frz (by simp) [sv (m.take p)] (by simp) (post := fun z => z = pvA (parseV (m.take p))) (by simpa using hparse) (by simp) ?_ (a := .mk)
          rintro z rfl
          obtain ⟨o, ho⟩ : ∃ o, parseV (m.take p) = o := ⟨_, rfl⟩
          rw [ho] at hval ⊢
          cases o with
          | none =>
            simp only at hval
            have hRo : R = none := by rw [← hR, hgo, hval]; rfl
            subst hRo
            simp -implicitDefEqProofs [pvA, vzero, Va.av, cvs, spA, wrOb, splice]
          | some v =>
            simp only at hval
            have hgo2 : goS l = goO (out ++ [v]) (goS (m.drop p)) := by
              rw [hgo, hval]
              cases goS (m.drop p) with
              | none => rfl
              | some vs => simp [goO]
            have hdl : (Lib.trimLeftB (m.drop p) 32).length ≤ m.length - p := by have := trimL_len (m.drop p); simpa using this
            rcases hX with ⟨hout, rfl⟩ | ⟨r, rfl, hr⟩
            · subst hout
              simp -implicitDefEqProofs [f0, hz, hex1e, hle, f4, pvA, Va.av, wrOb, splice, evP, fillA, hex1, hpi, -getElem?_pos, List.getElem?_cons_zero, List.getElem?_cons_succ]
              refine SC.frz (by simp) [sv (m.drop p), sv [32]] (by first | (simp; done) | (simp [hp1]; done) | simp [show ByteArray.empty = (⟨(m.drop p).toArray⟩ : ByteArray) by rw [List.drop_eq_nil_of_le (by omega)]; rfl]) (post := fun z => z = sv (Lib.trimLeftB (m.drop p) 32)) (by simpa using htr (m.drop p)) (by simp) ?_ (a := .mk)
              rintro z rfl
              simp -implicitDefEqProofs
              refine ⟨_, by omega, Lib.trimLeftB (m.drop p) 32, [v], .row (H.length + 2), rfl, by omega, trimL_head _, by simp, by simp, .inr ⟨_, rfl, ?_⟩, by simp at hsz ⊢; omega, by rw [goS_trim]; exact hgo2⟩
              rw [List.getElem?_append_right (by simp)]
              simp [vsA, Va.cells]
            · have hrX : ∀ Y : List Ob, (H ++ Y)[r]? = some (.own 35 4 out.length (vsA out)) := fun Y => app_at hr Y
              have hb1 : (out.length + 1) * 56 ≤ 140737488355328 := by omega
              have hb2 : out.length + 1 ≤ 1073741824 := by omega
              simp -implicitDefEqProofs [f0, hz, hex1e, hle, f4, hrX, hb1, hb2, pvA, Va.av, wrOb, splice, evP, fillA, hex1, hpi, -getElem?_pos, List.getElem?_cons_zero, List.getElem?_cons_succ]
              refine SC.frz (by simp) [sv (m.drop p), sv [32]] (by first | (simp; done) | (simp [hp1]; done) | simp [show ByteArray.empty = (⟨(m.drop p).toArray⟩ : ByteArray) by rw [List.drop_eq_nil_of_le (by omega)]; rfl]) (post := fun z => z = sv (Lib.trimLeftB (m.drop p) 32)) (by simpa using htr (m.drop p)) (by simp) ?_ (a := .mk)
              rintro z rfl
              simp -implicitDefEqProofs
              refine ⟨_, by omega, Lib.trimLeftB (m.drop p) 32, out ++ [v], .row (H.length + 2), rfl, by omega, trimL_head _, by simp, by simp, .inr ⟨_, rfl, ?_⟩, by simp at hsz ⊢; omega, by rw [goS_trim]; exact hgo2⟩
              rw [List.getElem?_append_right (by simp), vsA_snoc]
              simp [Va.cells]
      · have hb91 : ¬ (b.toNat : Int) = 91 := fun e => c2 (UInt8.toNat_inj.1 (by show b.toNat = 91; omega))
        have hp1 : p = n0 := by rw [hpv, if_neg (fun h => c2 (hhd91.1 h.1))]
        have hex00 : ({ data := m.toArray } : ByteArray).extract 0 m.length = ⟨(m.take p).toArray⟩ := by rw [show m.length = p by omega]; exact hex0
        have hle : (m.length : Int) ≤ m.length := by omega
        simp -implicitDefEqProofs [f0, hat0, byA, hb91, hz, hex00, hle]
        refine SC.frz (by simp) [sv (m.take p)] (by simp) (post := fun z => z = pvA (parseV (m.take p))) (by simpa using hparse) (by simp) ?_ (a := .mk)
        rintro z rfl
        obtain ⟨o, ho⟩ : ∃ o, parseV (m.take p) = o := ⟨_, rfl⟩
        rw [ho] at hval ⊢
        cases o with
        | none =>
          simp only at hval
          have hRo : R = none := by rw [← hR, hgo, hval]; rfl
          subst hRo
          simp -implicitDefEqProofs [pvA, vzero, Va.av, cvs, spA, wrOb, splice]
        | some v =>
          simp only at hval
          have hgo2 : goS l = goO (out ++ [v]) (goS (m.drop p)) := by
            rw [hgo, hval]
            cases goS (m.drop p) with
            | none => rfl
            | some vs => simp [goO]
          have hdl : (Lib.trimLeftB (m.drop p) 32).length ≤ m.length - p := by have := trimL_len (m.drop p); simpa using this
          rcases hX with ⟨hout, rfl⟩ | ⟨r, rfl, hr⟩
          · subst hout
            simp -implicitDefEqProofs [f0, hz, hex1e, hle, f4, pvA, Va.av, wrOb, splice, evP, fillA, hex1, hpi, -getElem?_pos, List.getElem?_cons_zero, List.getElem?_cons_succ]
            refine SC.frz (by simp) [sv (m.drop p), sv [32]] (by first | (simp; done) | (simp [hp1]; done) | simp [show ByteArray.empty = (⟨(m.drop p).toArray⟩ : ByteArray) by rw [List.drop_eq_nil_of_le (by omega)]; rfl]) (post := fun z => z = sv (Lib.trimLeftB (m.drop p) 32)) (by simpa using htr (m.drop p)) (by simp) ?_ (a := .mk)
            rintro z rfl
            simp -implicitDefEqProofs
            refine ⟨_, by omega, Lib.trimLeftB (m.drop p) 32, [v], .row (H.length + 2), rfl, by omega, trimL_head _, by simp, by simp, .inr ⟨_, rfl, ?_⟩, by simp at hsz ⊢; omega, by rw [goS_trim]; exact hgo2⟩
            rw [List.getElem?_append_right (by simp)]
            simp [vsA, Va.cells]
          · have hrX : ∀ Y : List Ob, (H ++ Y)[r]? = some (.own 35 4 out.length (vsA out)) := fun Y => app_at hr Y
            have hb1 : (out.length + 1) * 56 ≤ 140737488355328 := by omega
            have hb2 : out.length + 1 ≤ 1073741824 := by omega
            simp -implicitDefEqProofs [f0, hz, hex1e, hle, f4, hrX, hb1, hb2, pvA, Va.av, wrOb, splice, evP, fillA, hex1, hpi, -getElem?_pos, List.getElem?_cons_zero, List.getElem?_cons_succ]
            refine SC.frz (by simp) [sv (m.drop p), sv [32]] (by first | (simp; done) | (simp [hp1]; done) | simp [show ByteArray.empty = (⟨(m.drop p).toArray⟩ : ByteArray) by rw [List.drop_eq_nil_of_le (by omega)]; rfl]) (post := fun z => z = sv (Lib.trimLeftB (m.drop p) 32)) (by simpa using htr (m.drop p)) (by simp) ?_ (a := .mk)
            rintro z rfl
            simp -implicitDefEqProofs
            refine ⟨_, by omega, Lib.trimLeftB (m.drop p) 32, out ++ [v], .row (H.length + 2), rfl, by omega, trimL_head _, by simp, by simp, .inr ⟨_, rfl, ?_⟩, by simp at hsz ⊢; omega, by rw [goS_trim]; exact hgo2⟩
            rw [List.getElem?_append_right (by simp), vsA_snoc]
            simp [Va.cells]
end Go.Proofs.YtbhkclkahblfnaaGreatDoor
/- Contracts of layer 9: the reference's Split. -/
set_option linter.unusedVariables false
set_option linter.unusedSimpArgs false
namespace Go.Proofs.YtbhkclkahblfnaaGreatDoor
open Go.RowKit Flo Ab
def RsI (l : List UInt8) (g : Nat) (F : Fr) (H : List Ob) : Prop := ∃ (i : Nat) (out : List Va) (X : AV), i + g = l.length ∧ F 0 = some (sv l) ∧ F 5 = some (iv i) ∧ F 4 = some X ∧ OutI out X H ∧ out.length ≤ i ∧ goS l = goO out (goS (l.drop i))
def RsJ (l : List UInt8) (i e : Nat) (X : AV) (H0 : List Ob) (g : Nat) (F : Fr) (H : List Ob) : Prop := ∃ (j : Nat) (li : Bool), j + g = l.length ∧ F 0 = some (sv l) ∧ F 5 = some (iv j) ∧ F 6 = some (iv i) ∧ F 7 = some (bv li) ∧ F 4 = some X ∧ H = H0 ∧ pcR (l.drop j) li + j = e
theorem ba_piece (l : List UInt8) (i n : Nat) : ({ data := l.toArray } : ByteArray).extract i (i + n) = ⟨((l.drop i).take n).toArray⟩ := by
  refine ba_ext ?_
  simp
set_option maxHeartbeats 8000000 in
set_option maxRecDepth 100000 in
theorem rsplit_in {G : World → Prop} (l : List UInt8) (i e : Nat) (X : AV) (H0 : List Ob) (hl : l.length ≤ 14000000) (Q : Exit → Fr → List Ob → Prop)
    (hQ : ∀ F, F 0 = some (sv l) → F 5 = some (iv e) → F 6 = some (iv i) → F 4 = some X → Q (.exit 2) F H0) :
    ∀ (g : Nat) (F : Fr) (H : List Ob), RsJ l i e X H0 g F H → aw Tryz.prog G 59 c_rsplit_L0 (thenA (fun F' H' => ∃ m, m < g ∧ RsJ l i e X H0 m F' H') Q) F H := by
  unfold c_rsplit_L0
  rintro g F H ⟨j, li, hj, f0, f5, f6, f7, f4, rfl, he⟩
  have hz : ({ data := l.toArray } : ByteArray).size = l.length := by simp [ByteArray.size]
  by_cases hlt : (j : Int) < l.length
  · have hlt' : j < l.length := by omega
    obtain ⟨b, hb⟩ : ∃ b, l[j]? = some b := ⟨_, List.getElem?_eq_getElem hlt'⟩
    have hbb := ba_at hb
    have hw : IntKind.i64.wrap ((j : Int) + 1) = ((j + 1 : Nat) : Int) := by rw [wrap64 _ (by omega)]; omega
    rw [drop_at hb, pcR_cons] at he
    by_cases h93 : b = 93
    · have e93 : (b.toNat : Int) = 93 := by rw [h93]; rfl
      have e32 : ¬ (b.toNat : Int) = 32 := by rw [h93]; decide
      rw [if_pos (.inr (by rw [h93]; decide))] at he
      have hli : (li && !(b == 93)) = false := by rw [h93]; simp
      rw [hli] at he
      cases li
      · simp -implicitDefEqProofs [f0, f5, f7, hz, hlt, hbb, byA, e93, e32, hw, -Int.natCast_add, -getElem?_pos]
        exact ⟨g - 1, by omega, j + 1, false, by omega, by simp [f0], by simp, by simp [f6], by simp, by simp [f4], rfl, by omega⟩
      · simp -implicitDefEqProofs [f0, f5, f7, hz, hlt, hbb, byA, e93, e32, hw, -Int.natCast_add, -getElem?_pos]
        exact ⟨g - 1, by omega, j + 1, false, by omega, by simp [f0], by simp, by simp [f6], by simp, by simp [f4], rfl, by omega⟩
    · have e93 : ¬ (b.toNat : Int) = 93 := fun e => h93 (UInt8.toNat_inj.1 (by show b.toNat = 93; omega))
      have hb93 : (b == 93) = false := by simpa using h93
      rw [hb93] at he
      by_cases h32 : b = 32
      · have e32 : (b.toNat : Int) = 32 := by rw [h32]; rfl
        cases li
        · rw [if_neg (by rw [h32]; simp)] at he
          simp -implicitDefEqProofs [f0, f5, f7, hz, hlt, hbb, byA, e93, e32, -Int.natCast_add, -getElem?_pos]
          exact hQ _ (by simp [f0]) (by simp [f5]; omega) (by simp [f6]) (by simp [f4])
        · rw [if_pos (.inl rfl)] at he
          simp -implicitDefEqProofs [f0, f5, f7, hz, hlt, hbb, byA, e93, e32, hw, -Int.natCast_add, -getElem?_pos]
          exact ⟨g - 1, by omega, j + 1, true, by omega, by simp [f0], by simp, by simp [f6], by simp [f7], by simp [f4], rfl, by simp at he; omega⟩
      · have e32 : ¬ (b.toNat : Int) = 32 := fun e => h32 (UInt8.toNat_inj.1 (by show b.toNat = 32; omega))
        rw [if_pos (.inr h32)] at he
        cases li
        · simp -implicitDefEqProofs [f0, f5, f7, hz, hlt, hbb, byA, e93, e32, hw, -Int.natCast_add, -getElem?_pos]
          exact ⟨g - 1, by omega, j + 1, false, by omega, by simp [f0], by simp, by simp [f6], by simp [f7], by simp [f4], rfl, by simp at he; omega⟩
        · simp -implicitDefEqProofs [f0, f5, f7, hz, hlt, hbb, byA, e93, e32, hw, -Int.natCast_add, -getElem?_pos]
          exact ⟨g - 1, by omega, j + 1, true, by omega, by simp [f0], by simp, by simp [f6], by simp [f7], by simp [f4], rfl, by simp at he; omega⟩
  · obtain rfl : j = l.length := by omega
    rw [List.drop_length] at he
    have he' : l.length = e := by simpa [pcR] using he
    simp -implicitDefEqProofs [f0, f5, f7, hz]

    exact hQ _ (by simp [f0]) (by simp [f5]; omega) (by simp [f6]) (by simp [f4])
set_option maxHeartbeats 16000000 in
set_option maxRecDepth 100000 in
theorem rsplit_ap {G : World → Prop} (l : List UInt8) (hl : l.length ≤ 14000000) : AP Tryz.prog G 24 [sv l] (fun z => z = spA (goS l)) := by
  refine AP.go hmix F_rsplit (by simp) ?_
  have hz : ({ data := l.toArray } : ByteArray).size = l.length := by simp [ByteArray.size]
  obtain ⟨R, hR⟩ : ∃ R, goS l = R := ⟨_, rfl⟩
  rw [hR]
  simp -implicitDefEqProofs [c_rsplit]
  refine LP.go (RsI l) l.length ⟨0, [], .v (.slice none 0 0), by omega, by simp, by simp, by simp, .inl ⟨rfl, rfl⟩, by simp, by simp [goO]; cases goS l <;> rfl⟩ ?_
  unfold c_rsplit_L1
  rintro g F H ⟨i, out, X, hi, f0, f5, f4, hX, hoi, hgo⟩
  by_cases hlt : (i : Int) < l.length
  · have hlt' : i < l.length := by omega
    obtain ⟨b, hb⟩ : ∃ b, l[i]? = some b := ⟨_, List.getElem?_eq_getElem hlt'⟩
    have hbb := ba_at hb
    have hw : IntKind.i64.wrap ((i : Int) + 1) = ((i + 1 : Nat) : Int) := by rw [wrap64 _ (by omega)]; omega
    by_cases h32 : b = 32
    · have e32 : (b.toNat : Int) = 32 := by rw [h32]; rfl
      rw [drop_at hb, h32, goS_blank] at hgo
      simp -implicitDefEqProofs [f0, f5, hz, hlt, hbb, byA, e32, hw, -Int.natCast_add, -getElem?_pos]
      exact ⟨g - 1, by omega, i + 1, out, X, by omega, by simp [f0], by simp, by simp [f4], hX, by omega, hgo⟩
    · have e32 : ¬ (b.toNat : Int) = 32 := fun e => h32 (UInt8.toNat_inj.1 (by show b.toNat = 32; omega))
      obtain ⟨p, hp⟩ : ∃ p, pcr (l.drop i) = p := ⟨_, rfl⟩
      have hpp : 0 < p := by rw [← hp, drop_at hb]; exact pcr_pos h32
      have hple : i + p ≤ l.length := by have := pcr_le (l.drop i); rw [hp] at this; simp at this; omega
      have hval : goS (l.drop i) = match refV ((l.drop i).take p) with
          | none => none
          | some v => match goS (l.drop (i + p)) with
            | none => none
            | some vs => some (v :: vs) := by
        have := goS_piece (r := l.drop (i + 1)) h32
        rw [← drop_at hb, hp, List.drop_drop] at this
        exact this
      have hst : pcR (l.drop i) (b == 91) + i = i + p := by
        have : pcr (l.drop i) = pcR (l.drop i) (b == 91) := by
          unfold pcr
          rw [drop_at hb]; simp
        rw [← this, hp]; omega
      have hpar := rparse_ap (G := G) ((l.drop i).take p) (by simp; omega)
      have hex := ba_piece l i p
      have hb1 : (i : Int) ≤ ((i + p : Nat) : Int) := by omega
      have hb2 : ((i + p : Nat) : Int) ≤ l.length := by omega
      have hb3 : i ≤ i + p := by omega
      have inner : ∀ F H, RsJ l i (i + p) X H (l.length - i) F H → True := fun _ _ _ => trivial
      have h91 : (decide ((b.toNat : Int) = 91)) = (b == 91) := by
        rw [Bool.eq_iff_iff]; simp
        constructor
        · intro e; exact UInt8.toNat_inj.1 (by show b.toNat = 91; omega)
        · intro e; rw [e]; rfl
      simp -implicitDefEqProofs [f0, f5, hz, hlt, hbb, byA, e32, -Int.natCast_add, -getElem?_pos]
      refine LP.go (RsJ l i (i + p) X H) (l.length - i) ⟨i, b == 91, by omega, by simp [f0], by simp [f5], by simp, by simp [← h91], by simp [f4], rfl, hst⟩ ?_
      refine rsplit_in l i (i + p) X H hl _ (fun F' g0 g5 g6 g4 => ?_)
      simp -implicitDefEqProofs [g0, g5, g6, hz, hb1, hb2, hb3, hex, -Int.natCast_add, -getElem?_pos]
      refine SC.frz (by simp) [sv ((l.drop i).take p)] (by simp) (post := fun z => z = pvA (refV ((l.drop i).take p))) (by simpa using hpar) (by simp) ?_ (a := .mk)
      rintro z rfl
      obtain ⟨o, ho⟩ : ∃ o, refV ((l.drop i).take p) = o := ⟨_, rfl⟩
      rw [ho] at hval ⊢
      cases o with
      | none =>
        simp only at hval
        have hRo : R = none := by rw [← hR, hgo, hval]; rfl
        subst hRo
        simp -implicitDefEqProofs [pvA, vzero, Va.av, cvs, spA, wrOb, splice]
      | some v =>
        simp only at hval
        have hgo2 : goS l = goO (out ++ [v]) (goS (l.drop (i + p))) := by
          rw [hgo, hval]
          cases goS (l.drop (i + p)) with
          | none => rfl
          | some vs => simp [goO]
        rcases hX with ⟨hout, rfl⟩ | ⟨r, rfl, hr⟩
        · subst hout
          simp -implicitDefEqProofs [g0, g5, g4, pvA, Va.av, wrOb, splice, evP, fillA, -getElem?_pos, List.getElem?_cons_zero, List.getElem?_cons_succ]
          refine ⟨l.length - (i + p), by omega, i + p, [v], .row (H.length + 2), by omega, by simp [g0], by simp [g5], by simp, .inr ⟨_, rfl, ?_⟩, by simp; omega, hgo2⟩
          rw [List.getElem?_append_right (by simp)]
          simp [vsA, Va.cells]
        · have hrX : ∀ Y : List Ob, (H ++ Y)[r]? = some (.own 35 4 out.length (vsA out)) := fun Y => app_at hr Y
          have hb1 : (out.length + 1) * 56 ≤ 140737488355328 := by omega
          have hb2 : out.length + 1 ≤ 1073741824 := by omega
          simp -implicitDefEqProofs [g0, g5, g4, hrX, hb1, hb2, pvA, Va.av, wrOb, splice, evP, fillA, -getElem?_pos, List.getElem?_cons_zero, List.getElem?_cons_succ]
          refine ⟨l.length - (i + p), by omega, i + p, out ++ [v], .row (H.length + 2), by omega, by simp [g0], by simp [g5], by simp, .inr ⟨_, rfl, ?_⟩, by simp; omega, hgo2⟩
          rw [List.getElem?_append_right (by simp), vsA_snoc]
          simp [Va.cells]
  · obtain rfl : i = l.length := by omega
    rw [List.drop_length, goS_nil] at hgo
    have hRo : R = some out := by rw [← hR, hgo]; simp [goO]
    subst hRo
    rcases hX with ⟨rfl, rfl⟩ | ⟨r, rfl, hr⟩
    · simp -implicitDefEqProofs [f0, f5, f4, hz, spA, vsA]
    · simp -implicitDefEqProofs [f0, f5, f4, hz, hr, spA]
end Go.Proofs.YtbhkclkahblfnaaGreatDoor
/- Layer 9: the calls whose answers the document fixes. -/
set_option linter.unusedVariables false
set_option linter.unusedSimpArgs false
namespace Go.Proofs.YtbhkclkahblfnaaGreatDoor
open Go.RowKit Flo Ab
def vInt (x y : Int) : Va := ⟨1, W x, W y, false, []⟩
def vTrue : Va := ⟨2, 0, 0, true, []⟩
def t1 : List UInt8 := [91, 49, 32, 50, 105, 32, 45, 51, 93]
def v1 : Va := ⟨3, 0, 0, false, [(W 1, W 0), (W 0, W 2), (W (-3), W 0)]⟩
def v23 : Va := ⟨3, 0, 0, false, [(W 2, W 0), (W 3, W 0)]⟩
def t2 : List UInt8 := [32, 49, 32, 32, 91, 50, 32, 51, 93, 32, 116, 114, 117, 101, 32]
theorem p_1 : refParse [49] = some (1, 0) := by
  have h : textL 1 0 = [49] := by decide +kernel
  rw [← h]; exact refParse_text (by decide)
theorem p_2 : refParse [50] = some (2, 0) := by
  have h : textL 2 0 = [50] := by decide +kernel
  rw [← h]; exact refParse_text (by decide)
theorem p_3 : refParse [51] = some (3, 0) := by
  have h : textL 3 0 = [51] := by decide +kernel
  rw [← h]; exact refParse_text (by decide)
theorem p_2i : refParse [50, 105] = some (0, 2) := by
  have h : textL 0 2 = [50, 105] := by decide +kernel
  rw [← h]; exact refParse_text (by decide)
theorem p_m3 : refParse [45, 51] = some (-3, 0) := by
  have h : textL (-3) 0 = [45, 51] := by decide +kernel
  rw [← h]; exact refParse_text (by decide)
theorem r_1 : refV [49] = some (vInt 1 0) := by
  have h : textL 1 0 = [49] := by decide +kernel
  rw [← h]; exact refV_num (by decide)
theorem r_t1 : refV t1 = some v1 := by
  have h := refV_list [49, 32, 50, 105, 32, 45, 51]
  have hs : splitS [49, 32, 50, 105, 32, 45, 51] [] = [[49], [50, 105], [45, 51]] := rfl
  rw [hs, if_pos (.inr (by simp [p_1, p_2i, p_m3])), if_neg (by simp)] at h
  have e : ([91] ++ [49, 32, 50, 105, 32, 45, 51] ++ [93] : List UInt8) = t1 := rfl
  rw [e] at h
  rw [h]
  simp only [lstV, List.map_cons, List.map_nil, p_1, p_2i, p_m3, wz]; rfl
theorem r_23 : refV [91, 50, 32, 51, 93] = some v23 := by
  have h := refV_list [50, 32, 51]
  have hs : splitS [50, 32, 51] [] = [[50], [51]] := rfl
  rw [hs, if_pos (.inr (by simp [p_2, p_3])), if_neg (by simp)] at h
  have e : ([91] ++ [50, 32, 51] ++ [93] : List UInt8) = [91, 50, 32, 51, 93] := rfl
  rw [e] at h
  rw [h]
  simp only [lstV, List.map_cons, List.map_nil, p_2, p_3, wz]; rfl
theorem r_tru : refV tru = some vTrue := by unfold refV; rw [if_pos rfl]; rfl
theorem g_t2 : goS t2 = some [vInt 1 0, v23, vTrue] := by
  have g5 : goS [32] = some [] := by rw [goS_blank, goS_nil]
  have g4 : goS [116, 114, 117, 101, 32] = some [vTrue] := by
    rw [goS_piece (by decide)]
    change (match refV tru with | none => none | some v => match goS [32] with | none => none | some vs => some (v :: vs)) = _
    rw [r_tru, g5]
  have g3 : goS [91, 50, 32, 51, 93, 32, 116, 114, 117, 101, 32] = some [v23, vTrue] := by
    rw [goS_piece (by decide)]
    change (match refV [91, 50, 32, 51, 93] with | none => none | some v => match goS [32, 116, 114, 117, 101, 32] with | none => none | some vs => some (v :: vs)) = _
    rw [r_23, goS_blank, g4]
  have g2 : goS [49, 32, 32, 91, 50, 32, 51, 93, 32, 116, 114, 117, 101, 32] = some [vInt 1 0, v23, vTrue] := by
    rw [goS_piece (by decide)]
    change (match refV [49] with | none => none | some v => match goS [32, 32, 91, 50, 32, 51, 93, 32, 116, 114, 117, 101, 32] with | none => none | some vs => some (v :: vs)) = _
    rw [r_1, goS_blank, goS_blank, g3]
  unfold t2
  rw [goS_blank, g2]
set_option maxHeartbeats 16000000 in
set_option maxRecDepth 100000 in
theorem awake_ap : AP Tryz.prog Gv 12 [] (fun x => x = bv true) := by
  have h1 := refV_good (by decide) r_t1
  have hv : AP Tryz.prog Gv 20 [sv t1] (fun z => z = .tup [v1.av, iv 0]) := by
    have := vparse_ap t1 (by decide)
    rw [read_same, r_t1] at this; exact this
  have ht : AP Tryz.prog Gv 13 [v1.av] (fun z => z = .tup [sv t1, iv 0]) := by
    have := vtext_ap v1 h1.2
    rw [h1.1, refV_back r_t1] at this; exact this
  have hs : AP Tryz.prog Gv 23 [sv t2] (fun z => z = .tup [.sl 3 ((vInt 1 0).cells ++ (v23.cells ++ vTrue.cells)), iv 0]) := by
    have := vsplit_ap t2 (by decide)
    rw [g_t2] at this
    simpa [spA, vsA] using this
  have hc : AP Tryz.prog Gv 17 [v1.av] (fun z => z = iv 0) := by
    have := check_ap (G := Gv) v1 h1.2
    rw [h1.1] at this; exact this
  have hm : AP Tryz.prog Gv 18 [v1.av, v1.av] (fun z => z = bv true) := by
    have := vsame_ap (G := Gv) v1 v1 h1.2 h1.2
    rw [same_refl h1.1] at this; exact this
  have hn : AP Tryz.prog Gv 18 [v1.av, (vInt 1 0).av] (fun z => z = bv false) := by
    have := vsame_ap (G := Gv) v1 (vInt 1 0) h1.2 ⟨W_lt 1 (by decide), W_lt 0 (by decide), fun p hp => by simp [vInt] at hp, by simp [vInt]⟩
    have e : v1.same (vInt 1 0) = false := by unfold Va.same; simp [v1, vInt]
    rw [e] at this; exact this
  refine AP.go hmix F_lawake (by simp) ?_
  simp -implicitDefEqProofs [c_lawake]
  refine SC.frz (by simp) [sv t1] (by simp [t1]) (post := fun z => z = .tup [v1.av, iv 0]) (by simpa using hv) (by simp) ?_ (a := .mk)
  rintro z rfl
  simp -implicitDefEqProofs [Va.av, wrOb, splice]
  refine SC.frz (by simp) [v1.av] (by simp [Va.av]) (post := fun z => z = .tup [sv t1, iv 0]) (by simpa [Va.av] using ht) (by simp [Va.av]) ?_ (a := .mk)
  rintro z rfl
  simp -implicitDefEqProofs [Va.av]
  refine SC.frz (by simp) [sv t2] (by simp [t2]) (post := fun z => z = .tup [.sl 3 ((vInt 1 0).cells ++ (v23.cells ++ vTrue.cells)), iv 0]) (by simpa using hs) (by simp) ?_ (a := .mk)
  rintro z rfl
  simp -implicitDefEqProofs [t1, v1, vTrue, Va.cells]
  refine DC.go [v1.av] (iv 0) (by simp [Va.av, v1]) (by simpa [Va.av] using hc) (by simp [Va.av]) (by simp [Va.av]) ?_ (a := .mk)
  simp -implicitDefEqProofs
  refine DC.go [v1.av, v1.av] (bv true) (by simp [Va.av, v1]) (by simpa [Va.av] using hm) (by simp [Va.av]) (by simp [Va.av]) ?_ (a := .mk)
  simp -implicitDefEqProofs
  refine DC.go [v1.av, (vInt 1 0).av] (bv false) (by simp [Va.av, v1, vInt]) (by simpa [Va.av] using hn) (by simp [Va.av]) (by simp [Va.av]) ?_ (a := .mk)
  simp -implicitDefEqProofs
end Go.Proofs.YtbhkclkahblfnaaGreatDoor
/- The statement ValueParses as a contract. -/
set_option linter.unusedVariables false
set_option linter.unusedSimpArgs false
namespace Go.Proofs.YtbhkclkahblfnaaGreatDoor
open Go.RowKit Flo Ab
theorem vsA_at : ∀ {vs : List Va} {k : Nat} {v : Va}, vs[k]? = some v → ((vsA vs).drop (k * 4)).take 4 = v.cells
  | [], k, v, h => by simp at h
  | u :: vs, 0, v, h => by cases h; simp [vsA, Va.cells]
  | u :: vs, k + 1, v, h => by
    have := vsA_at (vs := vs) (k := k) (v := v) (by simpa using h)
    have e : vsA (u :: vs) = u.cells ++ vsA vs := rfl
    rw [e, show (k + 1) * 4 = u.cells.length + k * 4 by simp [Va.cells]; omega, ← List.drop_drop, List.drop_left]
    exact this
theorem whole_refl {v : Va} (h : v.ok = true) : v.whole v = true := by
  unfold Va.whole
  rw [if_neg]
  · exact same_refl h
  · rintro ⟨h0, _⟩
    unfold Va.ok at h
    rw [h0] at h
    simp at h
theorem vzero_wf : vzero.Wf := ⟨by show (0 : Nat) < _; decide, by show (0 : Nat) < _; decide, fun p hp => by simp [vzero] at hp, by simp [vzero]⟩
theorem whole_zero : vzero.whole vzero = true := by
  unfold Va.whole vzero
  simp [zero_eq]
def LpI (vs : List Va) (g : Nat) (F : Fr) (H : List Ob) : Prop := ∃ k : Nat, k + g = vs.length ∧ F 7 = some (.sl vs.length (vsA vs)) ∧ F 9 = some (.sl vs.length (vsA vs)) ∧ F 11 = some (iv k)
set_option maxHeartbeats 16000000 in
set_option maxRecDepth 100000 in
theorem lparses_ap (l : List UInt8) (hl : l.length ≤ 14000000) : AP Tryz.prog Gv 4 [sv l] (fun x => x = bv true) := by
  have h1 := vparse_ap l hl
  have h2 := rparse_ap (G := Gv) l hl
  have h3 := vsplit_ap l hl
  have h4 := rsplit_ap (G := Gv) l hl
  rw [read_same] at h1
  have hgood := fun vs (h : goS l = some vs) => goS_good l.length l vs (Nat.le_refl _) hl h
  have hlen := fun vs (h : goS l = some vs) => goS_len l.length l vs (Nat.le_refl _) h
  have key : ∃ v : Va, ∃ e : Int, pvA (refV l) = .tup [v.av, iv e] ∧ v.Wf ∧ v.whole v = true := by
    cases h : refV l with
    | none => exact ⟨vzero, 11, rfl, vzero_wf, whole_zero⟩
    | some v => exact ⟨v, 0, rfl, (refV_good hl h).2, whole_refl (refV_good hl h).1⟩
  obtain ⟨v, e, hpv, hvw, hvv⟩ := key
  have key2 : ∃ (vs : List Va) (e : Int), spA (goS l) = .tup [.sl vs.length (vsA vs), iv e] ∧ (∀ v ∈ vs, v.ok = true ∧ v.Wf) ∧ vs.length ≤ l.length := by
    cases h : goS l with
    | none => exact ⟨[], 11, rfl, fun v hv => by simp at hv, by simp⟩
    | some vs => exact ⟨vs, 0, rfl, hgood vs h, hlen vs h⟩
  obtain ⟨vs, e2, hsp, hok, hvl⟩ := key2
  rw [hpv] at h1 h2
  rw [hsp] at h3 h4
  have hw := rwhole_ap (G := Gv) v v hvw hvw
  rw [hvv] at hw
  refine AP.go hmix F_lparses (by simp) ?_
  simp -implicitDefEqProofs [c_lparses]
  refine SC.frz (by simp) [] (by simp) (post := fun z => z = bv true) (by simpa using awake_ap) (by simp) ?_ (a := .mk)
  rintro z rfl
  simp -implicitDefEqProofs
  refine SC.frz (by simp) [sv l] (by simp) (post := fun z => z = .tup [v.av, iv e]) (by simpa using h1) (by simp) ?_ (a := .mk)
  rintro z rfl
  simp -implicitDefEqProofs [Va.av, wrOb, splice]
  refine SC.frz (by simp) [sv l] (by simp) (post := fun z => z = .tup [v.av, iv e]) (by simpa using h2) (by simp) ?_ (a := .mk)
  rintro z rfl
  simp -implicitDefEqProofs [Va.av, wrOb, splice]
  refine SC.frz (by simp) [v.av, v.av] (by simp [Va.av]) (post := fun z => z = bv true) (by simpa [Va.av] using hw) (by simp [Va.av]) ?_ (a := .mk)
  rintro z rfl
  simp -implicitDefEqProofs
  refine SC.frz (by simp) [sv l] (by simp) (post := fun z => z = .tup [.sl vs.length (vsA vs), iv e2]) (by simpa using h3) (by simp) ?_ (a := .mk)
  rintro z rfl
  simp -implicitDefEqProofs
  refine SC.frz (by simp) [sv l] (by simp) (post := fun z => z = .tup [.sl vs.length (vsA vs), iv e2]) (by simpa using h4) (by simp) ?_ (a := .mk)
  rintro z rfl
  simp -implicitDefEqProofs
  refine LP.go (LpI vs) vs.length ⟨0, by omega, by simp, by simp, by simp⟩ ?_
  unfold c_lparses_L0
  rintro g F H ⟨k, hk, f7, f9, f11⟩
  by_cases hkl : (k : Int) < vs.length
  · have hkl' : k < vs.length := by omega
    obtain ⟨u, hu⟩ : ∃ u, vs[k]? = some u := ⟨_, List.getElem?_eq_getElem hkl'⟩
    have hat := vsA_at hu
    have hvz : k * 4 + 4 ≤ (vsA vs).length := by rw [vsA_len]; omega
    have hw : IntKind.i64.wrap ((k : Int) + 1) = ((k + 1 : Nat) : Int) := by rw [wrap64 _ (by omega)]; omega
    obtain ⟨o1, o2⟩ := hok u (List.mem_of_getElem? hu)
    have hs := rsame_ap (G := Gv) u u o2 o2
    rw [same_refl o1] at hs
    simp -implicitDefEqProofs [f7, f9, f11, hkl, hkl', hat, hvz, -Int.natCast_add]
    refine DC.go [u.av, u.av] (bv true) (by simp [Va.av, Va.cells]) (by simpa [Va.av] using hs) (by simp [Va.av]) (by simp [Va.av]) ?_ (a := .mk)
    simp -implicitDefEqProofs [f11, hw, -Int.natCast_add]
    exact ⟨g - 1, by omega, k + 1, by omega, by simp [f7], by simp [f9], by simp⟩
  · simp -implicitDefEqProofs [f7, f9, f11, hkl]
end Go.Proofs.YtbhkclkahblfnaaGreatDoor
