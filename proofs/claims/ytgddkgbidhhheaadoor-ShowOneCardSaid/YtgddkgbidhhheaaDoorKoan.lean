/- Texts joined: Prc Prd. -/
import Derived.Test.YtgddkgbidhhheaaDoorKoam
/- The reference parser: contracts for every state of the reader: sequences, arguments. -/
set_option linter.unusedVariables false
set_option linter.unusedSimpArgs false
set_option maxRecDepth 100000
namespace Go.Proofs.YtgddkgbidhhheaaDoor
open Go.RowKit Flo Ab Mk Pg
/-- what a list of marks is like -/
structure Mks (all : List M) : Prop where
  len : all.length ≤ 40000
  fin : ∀ (a : Nat) (m : M), all[a]? = some m → m.kind ≠ 4 → a + 1 < all.length
  sign : ∀ m ∈ all, m.kind = 3 → wordN m.text = 0
theorem drop_at {all : List M} {a : Nat} {m : M} (h : all[a]? = some m) : all.drop a = m :: all.drop (a + 1) := by
  obtain ⟨hl, rfl⟩ := List.getElem?_eq_some_iff.1 h
  exact List.drop_eq_getElem_cons hl
theorem at_mem {all : List M} {a : Nat} {m : M} (h : all[a]? = some m) : m ∈ all := List.mem_of_getElem? h
def _root_.Go.Proofs.YtgddkgbidhhheaaDoor.Pg.Res.pre (vs : List Vl) (r : Res) : Res := vs.foldr Res.cons r
theorem pre_snoc (vs : List Vl) (v : Vl) (r : Res) : Res.pre (vs ++ [v]) r = Res.pre vs (r.cons v) := by unfold Res.pre; rw [List.foldr_append]; rfl
theorem pre_bad (vs : List Vl) (w p : Int) : Res.pre vs (.bad w p) = .bad w p := by
  unfold Res.pre
  induction vs with
  | nil => rfl
  | cons v vs ih => rw [List.foldr_cons, ih]; rfl
theorem pre_ok (vs us : List Vl) (ms : List M) : Res.pre vs (.ok us ms) = .ok (vs ++ us) ms := by
  unfold Res.pre
  induction vs with
  | nil => rfl
  | cons v vs ih => rw [List.foldr_cons, ih]; rfl
/-- what a call came to -/
def Out (Pj : Res → Prop) (all : List M) (l : Lim) (b : Nat) (n : Int) (x : AV) (cs : List AV) : Prop :=
  (∃ (e : Ex) (a' : Nat), Pj (.ok [.e e] (all.drop a')) ∧ x = exA e ∧ b < a' ∧ a' < all.length ∧ cs = rdr all l a' 0 0 n) ∨ (∃ (w p : Int) (e : Ex) (a' : Nat) (n' : Int), Pj (.bad w p) ∧ w ≠ 0 ∧ x = exA e ∧ a' < all.length ∧ cs = rdr all l a' w p n')
def GC (G : World → Prop) (f : Nat) (all : List M) (l : Lim) (job : Int → List M → Job) (a : Nat) : Prop := ∀ n : Int, 0 ≤ n → n ≤ a → AM Tryd.prog G f [.ptr 0 0] (rdr all l a 0 0 n) (fun x cs => Out (P l (job n (all.drop a))) all l a n x cs)
/-- a sequence that is read in part -/
def Sq (l : Lim) (all : List M) (b : Nat) (n : Int) (Q : Res → Prop) (vs : List Vl) (its : List It) (a : Nat) (w p n' : Int) : Prop :=
  a < all.length ∧ ((w = 0 ∧ p = 0 ∧ n' = n ∧ b < a ∧ ∀ r, P l (.seq n its (all.drop a)) r → Q (Res.pre vs r)) ∨ (w ≠ 0 ∧ Q (.bad w p)))
section
variable {G : World → Prop} {all : List M} {l : Lim} {b : Nat} {n : Int} {Q : Res → Prop}
theorem Sq.new {a : Nat} (ha : a < all.length) (hb : b < a) (its : List It) : Sq l all b n (P l (.seq n its (all.drop a))) [] its a 0 0 n := ⟨ha, .inl ⟨rfl, rfl, rfl, hb, fun r h => h⟩⟩
theorem Sq.end {vs : List Vl} {a : Nat} {w p n' : Int} (h : Sq l all b n Q vs [] a w p n') : (w = 0 ∧ p = 0 ∧ n' = n ∧ b < a ∧ a < all.length ∧ Q (.ok vs (all.drop a))) ∨ (w ≠ 0 ∧ a < all.length ∧ Q (.bad w p)) := by
  obtain ⟨ha, ⟨h1, h2, h3, h4, h5⟩ | ⟨h1, h2⟩⟩ := h
  · have := h5 _ (.nil n _)
    rw [pre_ok, List.append_nil] at this
    exact .inl ⟨h1, h2, h3, h4, ha, this⟩
  · exact .inr ⟨h1, ha, h2⟩
theorem Sq.skip {vs : List Vl} {v v' : Vl} {its : List It} {a : Nat} {w p n' : Int} (hw : w ≠ 0) (h : Sq l all b n Q vs its a w p n') (vs' : List Vl) (its' : List It) : Sq l all b n Q vs' its' a w p n' := by
  obtain ⟨ha, ⟨h1, _⟩ | ⟨h1, h2⟩⟩ := h
  · exact absurd h1 hw
  · exact ⟨ha, .inr ⟨h1, h2⟩⟩
theorem Sq.go {vs : List Vl} {v : Vl} {its : List It} {i : It} {a a' : Nat} {n' : Int} (h : Sq l all b n Q vs (i :: its) a 0 0 n') (ha : a < a') (ha' : a' < all.length) (hs : ∀ r, P l (.seq n its (all.drop a')) r → P l (.seq n (i :: its) (all.drop a)) (r.cons v)) : n' = n ∧ Sq l all b n Q (vs ++ [v]) its a' 0 0 n := by
  obtain ⟨h0, ⟨_, _, h3, h4, h5⟩ | ⟨h1, _⟩⟩ := h
  · exact ⟨h3, ha', .inl ⟨rfl, rfl, rfl, by omega, fun r hr => by rw [pre_snoc]; exact h5 _ (hs r hr)⟩⟩
  · exact absurd rfl h1
theorem Sq.stop {vs vs' : List Vl} {its its' : List It} {a a' : Nat} {n' n'' w p : Int} (h : Sq l all b n Q vs its a 0 0 n') (ha' : a' < all.length) (hw : w ≠ 0) (hs : P l (.seq n its (all.drop a)) (.bad w p)) : Sq l all b n Q vs' its' a' w p n'' := by
  obtain ⟨h0, ⟨_, _, h3, h4, h5⟩ | ⟨h1, _⟩⟩ := h
  · have := h5 _ hs
    rw [pre_bad] at this
    exact ⟨ha', .inr ⟨hw, this⟩⟩
  · exact absurd rfl h1
theorem Sq.st {vs : List Vl} {its : List It} {a : Nat} {w p n' : Int} (h : Sq l all b n Q vs its a w p n') : a < all.length ∧ ((w = 0 ∧ p = 0 ∧ n' = n ∧ b < a) ∨ w ≠ 0) := by
  obtain ⟨h0, ⟨h1, h2, h3, h4, h5⟩ | ⟨h1, _⟩⟩ := h
  · exact ⟨h0, .inl ⟨h1, h2, h3, h4⟩⟩
  · exact ⟨h0, .inr h1⟩
theorem want_sq (hm : Mks all) {vs : List Vl} {s : List UInt8} {its : List It} {a : Nat} {w p n' : Int} (h : Sq l all b n Q vs (.w s :: its) a w p n') : AM Tryd.prog G 52 [.ptr 0 0, sv s] (rdr all l a w p n')
    (fun x cs => x = .tup [] ∧ ∃ (a : Nat) (w p n' : Int), cs = rdr all l a w p n' ∧ Sq l all b n Q (vs ++ [.u]) its a w p n') := by
  obtain ⟨ha, hst⟩ := h.st
  have h0 : all[a]? = some all[a] := List.getElem?_eq_getElem ha
  have hlen := hm.len
  refine AM.mono (rwant_ap all l a w p n' s h0 (by omega)) ?_
  rintro x cs ⟨rfl, rfl⟩
  refine ⟨rfl, ?_⟩
  unfold wantS
  rcases hst with ⟨rfl, rfl, rfl, hb⟩ | hw
  · rw [if_pos rfl]
    cases hq : isW all[a] s
    · refine ⟨a, 21, all[a].pos, n', by simp [hq], h.stop ha (by omega) ?_⟩
      rw [drop_at h0]; exact .wBad _ _ _ hq
    · obtain ⟨hk0, hk2, hk4⟩ := isW_kind hq
      obtain ⟨_, hs⟩ := h.go (v := .u) (a' := a + 1) (by omega) (hm.fin a _ h0 hk4) (fun r hr => by rw [drop_at h0]; exact .w hq hr)
      exact ⟨a + 1, 0, 0, n', by simp [hq], hs⟩
  · rw [if_neg hw]
    exact ⟨a, w, p, n', rfl, h.skip (v := .u) (v' := .u) hw _ _⟩
theorem name_sq (hm : Mks all) {vs : List Vl} {its : List It} {a : Nat} {w p n' : Int} (h : Sq l all b n Q vs (.nm :: its) a w p n') : AM Tryd.prog G 51 [.ptr 0 0] (rdr all l a w p n')
    (fun x cs => ∃ m : M, x = .agg (mcells m) ∧ ∃ (a : Nat) (w p n' : Int), cs = rdr all l a w p n' ∧ Sq l all b n Q (vs ++ [.nm m]) its a w p n') := by
  obtain ⟨ha, hst⟩ := h.st
  have h0 : all[a]? = some all[a] := List.getElem?_eq_getElem ha
  have hlen := hm.len
  refine AM.mono (rname_ap all l a w p n' h0 (by omega)) ?_
  intro x cs hx
  rcases hst with ⟨rfl, rfl, rfl, hb⟩ | hw
  · rw [if_pos rfl] at hx
    by_cases hk : all[a].kind = 0
    · rw [if_pos hk] at hx
      obtain ⟨rfl, rfl⟩ := hx
      obtain ⟨_, hs⟩ := h.go (v := .nm all[a]) (a' := a + 1) (by omega) (hm.fin a _ h0 (by omega)) (fun r hr => by rw [drop_at h0]; exact .nm hk hr)
      exact ⟨_, rfl, a + 1, 0, 0, _, rfl, hs⟩
    · rw [if_neg hk] at hx
      obtain ⟨rfl, rfl⟩ := hx
      refine ⟨_, rfl, a, 21, _, _, rfl, h.stop ha (by omega) ?_⟩
      rw [drop_at h0]; exact .nmBad _ _ _ hk
  · rw [if_neg hw] at hx
    obtain ⟨rfl, rfl⟩ := hx
    exact ⟨_, rfl, a, w, p, n', rfl, h.skip (v := .u) (v' := .u) hw _ _⟩
theorem typ_sq (hm : Mks all) {vs : List Vl} {its : List It} {a : Nat} {w p n' : Int} (h : Sq l all b n Q vs (.ty :: its) a w p n') : AM Tryd.prog G 54 [.ptr 0 0] (rdr all l a w p n')
    (fun x cs => ∃ t : Int, x = iv t ∧ ∃ (a : Nat) (w p n' : Int), cs = rdr all l a w p n' ∧ Sq l all b n Q (vs ++ [.ty t]) its a w p n') := by
  obtain ⟨ha, hst⟩ := h.st
  have h0 : all[a]? = some all[a] := List.getElem?_eq_getElem ha
  have hlen := hm.len
  refine AM.mono (rtyp_ap all l a w p n' h0 (by omega)) ?_
  intro x cs hx
  rcases hst with ⟨rfl, rfl, rfl, hb⟩ | hw
  · rw [if_pos rfl] at hx
    cases hk : typOf all[a] with
    | some t =>
      rw [hk] at hx
      obtain ⟨rfl, rfl⟩ := hx
      have hk4 : all[a].kind ≠ 4 := by
        unfold typOf at hk
        split at hk
        · rename_i hq; exact (isW_kind hq).2.2
        · split at hk
          · rename_i hq; exact (isW_kind hq).2.2
          · split at hk
            · rename_i hq; exact (isW_kind hq).2.2
            · cases hk
      obtain ⟨_, hs⟩ := h.go (v := .ty t) (a' := a + 1) (by omega) (hm.fin a _ h0 hk4) (fun r hr => by rw [drop_at h0]; exact .ty hk hr)
      exact ⟨_, rfl, a + 1, 0, 0, _, rfl, hs⟩
    | none =>
      rw [hk] at hx
      obtain ⟨rfl, rfl⟩ := hx
      refine ⟨_, rfl, a, 21, _, _, rfl, h.stop ha (by omega) ?_⟩
      rw [drop_at h0]; exact .tyBad _ _ _ hk
  · rw [if_neg hw] at hx
    obtain ⟨rfl, rfl⟩ := hx
    exact ⟨_, rfl, a, w, p, n', rfl, h.skip (v := .u) (v' := .u) hw _ _⟩
/-- what is known of expressions farther on -/
def HX (G : World → Prop) (all : List M) (l : Lim) (b : Nat) : Prop := ∀ a : Nat, b < a → a < all.length → GC G 55 all l .expr a
theorem expr_sq (hm : Mks all) (hX : HX G all l b) (hn : 0 ≤ n ∧ n ≤ b + 1) {vs : List Vl} {its : List It} {a : Nat} {w p n' : Int} (h : Sq l all b n Q vs (.e :: its) a w p n') : AM Tryd.prog G 55 [.ptr 0 0] (rdr all l a w p n')
    (fun x cs => ∃ e : Ex, x = exA e ∧ ∃ (a : Nat) (w p n' : Int), cs = rdr all l a w p n' ∧ Sq l all b n Q (vs ++ [.e e]) its a w p n') := by
  obtain ⟨ha, hst⟩ := h.st
  rcases hst with ⟨rfl, rfl, rfl, hb⟩ | hw
  · refine AM.mono (hX a hb ha n' hn.1 (by omega)) ?_
    rintro x cs (⟨e, a', hP, rfl, ha1, ha2, rfl⟩ | ⟨w, p, e, a', n1, hP, hw, rfl, ha2, rfl⟩)
    · obtain ⟨_, hs⟩ := h.go (v := .e e) (a' := a') ha1 ha2 (fun r hr => .e hP hr)
      exact ⟨_, rfl, a', 0, 0, _, rfl, hs⟩
    · exact ⟨_, rfl, a', w, p, n1, rfl, h.stop ha2 hw (.eBad _ hP)⟩
  · refine AM.mono (expr_bad all l a w p n' ha hw) ?_
    rintro x cs ⟨e, rfl, rfl⟩
    exact ⟨_, rfl, a, w, p, n', rfl, h.skip (v := .u) (v' := .u) hw _ _⟩
end
end Go.Proofs.YtgddkgbidhhheaaDoor
/- The reference parser: calls and variables. -/
set_option linter.unusedVariables false
set_option linter.unusedSimpArgs false
set_option maxRecDepth 100000
namespace Go.Proofs.YtgddkgbidhhheaaDoor
open Go.RowKit Flo Ab Mk Pg
section
variable {G : World → Prop} {all : List M} {l : Lim} {b : Nat} {n : Int}
theorem exsA_len (us : List Ex) : (exsA us).length = us.length * 7 := by
  induction us with
  | nil => rfl
  | cons e r ih => obtain ⟨o, nm, tl, ty, num, args, pos⟩ := e; rw [exsA, List.length_append, ih]; simp [Ex.cells]; omega
theorem exsA_snoc (us : List Ex) (e : Ex) : exsA (us ++ [e]) = exsA us ++ e.cells := by
  induction us with
  | nil => simp [exsA]
  | cons u r ih => rw [List.cons_append, exsA, ih, exsA, List.append_assoc]
theorem set_same {α : Type} {H : List α} {i : Nat} {o : α} (h : H[i]? = some o) : H.set i o = H := by
  apply List.ext_getElem?
  intro k
  by_cases hk : i = k
  · subst hk
    rw [List.getElem?_set_self (List.getElem?_eq_some_iff.1 h).1, h]
  · rw [List.getElem?_set_ne hk]
/-- arguments that are read in part -/
def AsI (l : Lim) (all : List M) (b : Nat) (n : Int) (ms0 : List M) (us : List Ex) (a : Nat) (w p n' : Int) : Prop :=
  a < all.length ∧ ((w = 0 ∧ p = 0 ∧ n' = n ∧ b < a ∧ us.length ≤ a ∧ ∀ r, P l (.args n us (all.drop a)) r → P l (.args n [] ms0) r) ∨ (w ≠ 0 ∧ P l (.args n [] ms0) (.bad w p)))
/-- .. the next one is about to be read -/
def ArI (l : Lim) (all : List M) (b : Nat) (n : Int) (ms0 : List M) (us : List Ex) (a : Nat) (w p n' : Int) : Prop :=
  a < all.length ∧ ((w = 0 ∧ p = 0 ∧ n' = n ∧ b < a ∧ us.length ≤ a ∧ (∀ e ms' r, P l (.expr n (all.drop a)) (.ok [.e e] ms') → P l (.args n (us ++ [e]) ms') r → P l (.args n [] ms0) r) ∧ ∀ w p, P l (.expr n (all.drop a)) (.bad w p) → P l (.args n [] ms0) (.bad w p)) ∨ (w ≠ 0 ∧ P l (.args n [] ms0) (.bad w p)))
theorem args_expr (hm : Mks all) (hX : HX G all l b) (hn : 0 ≤ n ∧ n ≤ b + 1) {ms0 : List M} {us : List Ex} {a : Nat} {w p n' : Int} (h : ArI l all b n ms0 us a w p n') : AM Tryd.prog G 55 [.ptr 0 0] (rdr all l a w p n')
    (fun x cs => ∃ e : Ex, x = exA e ∧ ∃ (a1 : Nat) (w1 p1 n1 : Int), cs = rdr all l a1 w1 p1 n1 ∧ AsI l all b n ms0 (us ++ [e]) a1 w1 p1 n1 ∧ (w1 = 0 → w = 0 ∧ a < a1)) := by
  obtain ⟨ha, ⟨rfl, rfl, rfl, hb, hl, h1, h2⟩ | ⟨hw, hP⟩⟩ := h
  · refine AM.mono (hX a hb ha n' hn.1 (by omega)) ?_
    rintro x cs (⟨e, a', hP, rfl, ha1, ha2, rfl⟩ | ⟨w, p, e, a', n1, hP, hw, rfl, ha2, rfl⟩)
    · exact ⟨_, rfl, a', 0, 0, _, rfl, ⟨ha2, .inl ⟨rfl, rfl, rfl, by omega, by simp; omega, fun r hr => h1 _ _ r hP hr⟩⟩, fun _ => ⟨rfl, ha1⟩⟩
    · exact ⟨_, rfl, a', w, p, n1, rfl, ⟨ha2, .inr ⟨hw, h2 _ _ hP⟩⟩, fun h => absurd h hw⟩
  · refine AM.mono (expr_bad all l a w p n' ha hw) ?_
    rintro x cs ⟨e, rfl, rfl⟩
    exact ⟨_, rfl, a, w, p, n', rfl, ⟨ha, .inr ⟨hw, hP⟩⟩, fun h => absurd h hw⟩
theorem args_comma (hm : Mks all) {ms0 : List M} {us : List Ex} {a : Nat} {p n' : Int} (h : AsI l all b n ms0 us a 0 p n') (hu : us ≠ []) {m : M} (h0 : all[a]? = some m) (hc : isW m sClose = false) : AM Tryd.prog G 52 [.ptr 0 0, sv sComma] (rdr all l a 0 p n')
    (fun x cs => x = .tup [] ∧ ∃ (a1 : Nat) (w p n' : Int), cs = rdr all l a1 w p n' ∧ ArI l all b n ms0 us a1 w p n' ∧ (w = 0 → a < a1)) := by
  have hlen := hm.len
  obtain ⟨ha, ⟨_, rfl, rfl, hb, hl, h1⟩ | ⟨hw, hP⟩⟩ := h
  · refine AM.mono (rwant_ap all l a 0 0 n' sComma h0 (by omega)) ?_
    rintro x cs ⟨rfl, rfl⟩
    refine ⟨rfl, ?_⟩
    unfold wantS
    rw [if_pos rfl]
    cases hq : isW m sComma
    · refine ⟨a, 21, m.pos, n', by simp [hq], ⟨ha, .inr ⟨by omega, h1 _ ?_⟩⟩, by omega⟩
      rw [drop_at h0]; exact .aSep _ _ hc hu hq
    · obtain ⟨hk0, hk2, hk4⟩ := isW_kind hq
      refine ⟨a + 1, 0, 0, n', by simp [hq], ⟨hm.fin a _ h0 hk4, .inl ⟨rfl, rfl, rfl, by omega, by omega, fun e ms' r he hr => h1 r ?_, fun w p he => h1 _ ?_⟩⟩, by omega⟩
      · rw [drop_at h0]; exact .aNext hu hq he hr
      · rw [drop_at h0]; exact .aBad hu hq he
  · exact absurd rfl hw
theorem ArI.zero {ms0 : List M} {a : Nat} {p n' : Int} (h : AsI l all b n ms0 [] a 0 p n') {m : M} (h0 : all[a]? = some m) (hc : isW m sClose = false) : ArI l all b n ms0 [] a 0 p n' := by
  obtain ⟨ha, ⟨_, rfl, rfl, hb, hl, h1⟩ | ⟨hw, hP⟩⟩ := h
  · refine ⟨ha, .inl ⟨rfl, rfl, rfl, hb, hl, fun e ms' r he hr => h1 r ?_, fun w p he => h1 _ ?_⟩⟩
    · rw [drop_at h0] at he ⊢; exact .aNext0 hc he hr
    · rw [drop_at h0] at he ⊢; exact .aBad0 hc he
  · exact absurd rfl hw
theorem args_close (hm : Mks all) {ms0 : List M} {us : List Ex} {a : Nat} {w p n' : Int} (h : AsI l all b n ms0 us a w p n') (hc : w = 0 → ∃ m, all[a]? = some m ∧ isW m sClose = true) : AM Tryd.prog G 52 [.ptr 0 0, sv sClose] (rdr all l a w p n')
    (fun x cs => x = .tup [] ∧ ∃ (a1 : Nat) (w p n' : Int), cs = rdr all l a1 w p n' ∧ a1 < all.length ∧ ((w = 0 ∧ p = 0 ∧ n' = n ∧ b < a1 ∧ P l (.args n [] ms0) (.ok [.asx us] (all.drop a1))) ∨ (w ≠ 0 ∧ P l (.args n [] ms0) (.bad w p)))) := by
  have hlen := hm.len
  have ha := h.1
  refine AM.mono (rwant_ap all l a w p n' sClose (List.getElem?_eq_getElem ha) (by omega)) ?_
  rintro x cs ⟨rfl, rfl⟩
  refine ⟨rfl, ?_⟩
  unfold wantS
  obtain ⟨ha, ⟨rfl, rfl, rfl, hb, hl, h1⟩ | ⟨hw, hP⟩⟩ := h
  · obtain ⟨m, h0, hq⟩ := hc rfl
    obtain ⟨_, rfl⟩ := List.getElem?_eq_some_iff.1 h0
    obtain ⟨hk0, hk2, hk4⟩ := isW_kind hq
    rw [if_pos rfl, if_pos hq]
    refine ⟨a + 1, 0, 0, n', rfl, hm.fin a _ h0 hk4, .inl ⟨rfl, rfl, rfl, by omega, h1 _ ?_⟩⟩
    rw [drop_at h0]; exact .aStop _ _ _ hq
  · rw [if_neg hw]
    exact ⟨a, w, p, n', rfl, ha, .inr ⟨hw, hP⟩⟩
def argR (us : List Ex) (H : List Ob) (X : AV) : Prop := (us = [] ∧ X = .v (.slice none 0 0)) ∨ ∃ r, 3 < r ∧ X = .row r ∧ us ≠ [] ∧ H[r]? = some (.own 36 7 us.length (exsA us))
def NamI (l : Lim) (all : List M) (b : Nat) (n : Int) (ms0 : List M) (m : M) (g : Nat) (F : Fr) (H : List Ob) : Prop :=
  ∃ (us : List Ex) (a : Nat) (w p n' : Int) (X : AV), AsI l all b n ms0 us a w p n' ∧ ((w = 0 ∧ g = all.length - a) ∨ (w ≠ 0 ∧ g = 0)) ∧ F 0 = some (.ptr 0 0) ∧ F 4 = some (.ptr 2 0) ∧ F 5 = some (.ptr 3 0) ∧ H[0]? = some (.var (rdr all l a w p n')) ∧
    H[2]? = some (.var [iv 0, sv [], sv [], iv 0, cv 0 0, .v (.slice none 0 0), iv 0]) ∧ H[3]? = some (.var [iv 7, sv m.text, sv [], iv 0, cv 0 0, X, iv m.pos]) ∧ argR us H X
theorem named_ok (hm : Mks all) (hX : HX G all l b) (hn0 : 0 ≤ n) (hn1 : n ≤ b + 1) {m : M} (hk : m.kind = 0) (hb : b + 1 < all.length) :
    AM Tryd.prog G 94 [.ptr 0 0, .agg (mcells m)] (rdr all l (b + 1) 0 0 n) (fun x cs => Out (P l (.unit n (m :: all.drop (b + 1)))) all l b n x cs) := by
  have hlen := hm.len
  have h0 : all[b + 1]? = some all[b + 1] := List.getElem?_eq_getElem hb
  obtain ⟨q, hq⟩ : ∃ q, isW all[b + 1] sOpen = q := ⟨_, rfl⟩
  have htake := rtake_ap (G := G) all l (b + 1) 0 0 n sOpen h0 (by omega)
  rw [hq] at htake
  refine AM.go hmix F_pnamed (by simp) ?_
  simp -implicitDefEqProofs [c_pnamed, mcells, wrOb, splice]
  refine SC.rd (by simp) [.ptr 0 0, sv sOpen] (by simp) (all := all) (l := l) (a := b + 1) (why := 0) (wh := 0) (n := n) (by simp) (htake) (by simp [toO]) ⟨0, by simp⟩ (by simp [lentO]) ?_ (tg := .mk)
  rintro x cs - ⟨rfl, rfl⟩
  cases q
  · simp -implicitDefEqProofs [wrOb, splice, evP, fillA, finM, rdr]
    refine .inl ⟨.mk 6 m.text [] 0 (0, 0) [] m.pos, b + 1, ?_, ?_, by omega, hb, by simp [rdr]⟩
    · rw [drop_at h0]; exact .var _ _ hk hq
    · simp [exA, Ex.cells, exsA, W0]
  · obtain ⟨hk0, hk2, hk4⟩ := isW_kind hq
    have hb2 := hm.fin _ _ h0 hk4
    simp -implicitDefEqProofs [wrOb, splice, evP, fillA]
    refine LP.go (NamI l all b n (all.drop (b + 1 + 1)) m) (all.length - (b + 1 + 1)) ⟨[], b + 1 + 1, 0, 0, n, .v (.slice none 0 0), ⟨hb2, .inl ⟨rfl, rfl, rfl, by omega, by simp, fun r hr => hr⟩⟩, .inl ⟨rfl, rfl⟩, by simp, by simp, by simp, by simp, by simp, by simp, .inl ⟨rfl, rfl⟩⟩ ?_
    unfold c_pnamed_L0
    rintro g F H ⟨us, a, w, p, n', X, hA, hg, f0, f4, f5, hH0, hH2, hH3, hR⟩
    have ha := hA.1
    have h1 : all[a]? = some all[a] := List.getElem?_eq_getElem ha
    have hl0 : 0 < H.length := (List.getElem?_eq_some_iff.1 hH0).1
    have hl3 : 3 < H.length := (List.getElem?_eq_some_iff.1 hH3).1
    by_cases hw : w = 0
    · subst hw
      have his := ris_ap (G := G) all l a 0 p n' sClose h1
      obtain ⟨q', hq'⟩ : ∃ q, isW all[a] sClose = q := ⟨_, rfl⟩
      rw [hq'] at his
      have hr0 : (rdr all l a 0 p n')[2]? = some (iv 0) := rfl
      simp -implicitDefEqProofs [f0, hH0, hr0]
      refine SC.rd (by simp) [.ptr 0 0, sv sClose] (by simp) (all := all) (l := l) (a := a) (why := 0) (wh := p) (n := n') (by simp -implicitDefEqProofs [hH0]) (his) (by simp [toO]) ⟨0, by simp⟩ (by simp [lentO]) ?_ (tg := .mk)
      rintro x cs - ⟨rfl, rfl⟩
      have hf0 : (frzT H [.ptr 0 0, sv sClose]).1 = H := by simp
      rw [hf0, set_same hH0]
      cases q'
      · rcases hR with ⟨rfl, rfl⟩ | ⟨r, hr3, rfl, hne, hr⟩
        · simp -implicitDefEqProofs [f0, f5, hH3]
          refine SC.rd (by simp) [.ptr 0 0] (by simp) (all := all) (l := l) (a := a) (why := 0) (wh := p) (n := n') (by simp -implicitDefEqProofs [hH0]) (args_expr hm hX ⟨hn0, hn1⟩ (ArI.zero hA h1 hq')) (by simp [toO]) ⟨0, by simp⟩ (by simp [lentO]) ?_ (tg := .mk)
          rintro x cs - ⟨e, rfl, a1, w1, p1, n1, rfl, hA1, hlt⟩
          obtain ⟨o, nm, tl, ty, num, args, pos⟩ := e
          have h3X : ∀ (o : Ob) (X : List Ob), (H.set 0 o ++ X)[3]? = some (.var [iv 7, sv m.text, sv [], iv 0, cv 0 0, .v (.slice none 0 0), iv m.pos]) := fun o X => by
            rw [List.getElem?_append_left (by simpa using hl3), List.getElem?_set_ne (by omega)]; exact hH3
          simp -implicitDefEqProofs [exA, Ex.cells, wrOb, splice, f0, f5, h3X, evP, fillA]
          refine ⟨if w1 = 0 then all.length - a1 else 0, ?_, [.mk o nm tl ty num args pos], a1, w1, p1, n1, .row (H.length + 2), hA1, ?_, by simp [f0], by simp [f4], by simp [f5], ?_, ?_, ?_, .inr ⟨H.length + 2, by omega, rfl, by simp, ?_⟩⟩
          · rcases hg with ⟨_, hg⟩ | ⟨h, _⟩
            · split
              · rename_i hw1; have := (hlt hw1).2; omega
              · omega
            · exact absurd rfl h
          · by_cases hw1 : w1 = 0
            · exact .inl ⟨hw1, by rw [if_pos hw1]⟩
            · exact .inr ⟨hw1, by rw [if_neg hw1]⟩
          · rw [List.getElem?_set_ne (by omega), List.getElem?_append_left (by simpa using hl0), List.getElem?_set_self hl0]
          · rw [List.getElem?_set_ne (by omega), List.getElem?_append_left (by simp; omega), List.getElem?_set_ne (by omega)]; exact hH2
          · rw [List.getElem?_set_self (by simp; omega)]
          · rw [List.getElem?_set_ne (by omega), List.getElem?_append_right (by simp)]; simp [exsA, Ex.cells]
        · have hul : 0 < us.length := List.length_pos_iff.2 hne
          simp -implicitDefEqProofs [f0, f5, hH3, hr, hul]
          refine SC.rd (by simp) [.ptr 0 0, sv sComma] (by simp) (all := all) (l := l) (a := a) (why := 0) (wh := p) (n := n') (by simp -implicitDefEqProofs [hH0]) (args_comma hm hA hne h1 hq') (by simp [toO]) ⟨0, by simp⟩ (by simp [lentO]) ?_ (tg := .mk)
          rintro x cs - ⟨rfl, a1, w1, p1, n1, rfl, hA1, hlt⟩
          simp -implicitDefEqProofs [f0, f5]
          refine SC.rd (by simp) [.ptr 0 0] (by simp) (all := all) (l := l) (a := a1) (why := w1) (wh := p1) (n := n1) (by simp -implicitDefEqProofs [hl0]) (args_expr hm hX ⟨hn0, hn1⟩ hA1) (by simp [toO]) ⟨0, by simp⟩ (by simp [lentO]) ?_ (tg := .mk)
          rintro x cs - ⟨e, rfl, a2, w2, p2, n2, rfl, hA2, hlt2⟩
          obtain ⟨o, nm, tl, ty, num, args, pos⟩ := e
          have hrl : r < H.length := (List.getElem?_eq_some_iff.1 hr).1
          have h3X : ∀ (o : Ob) (X : List Ob), (H.set 0 o ++ X)[3]? = some (.var [iv 7, sv m.text, sv [], iv 0, cv 0 0, .row r, iv m.pos]) := fun o X => by
            rw [List.getElem?_append_left (by simpa using hl3), List.getElem?_set_ne (by omega)]; exact hH3
          have hrX : ∀ (o : Ob) (X : List Ob), (H.set 0 o ++ X)[r]? = some (.own 36 7 us.length (exsA us)) := fun o X => by
            rw [List.getElem?_append_left (by simpa using hrl), List.getElem?_set_ne (by omega)]; exact hr
          have h3Y : ∀ (o : Ob) (X Y : List Ob), ((H.set 0 o ++ X).set r .gone ++ Y)[3]? = some (.var [iv 7, sv m.text, sv [], iv 0, cv 0 0, .row r, iv m.pos]) := fun o X Y => by
            rw [List.getElem?_append_left (by simp; omega), List.getElem?_set_ne (by omega)]; exact h3X o X
          have hul2 : us.length ≤ 40000 := by
            obtain ⟨ha, ⟨_, _, _, hb, hl, h1⟩ | ⟨hw, hP⟩⟩ := hA
            · omega
            · exact absurd rfl hw
          have hb1 : (us.length + 1) * 96 ≤ 140737488355328 := by omega
          have hb2 : us.length + 1 ≤ 1073741824 := by omega
          have hb3 : us.length ≤ 1073741823 := by omega
          simp -implicitDefEqProofs [exA, Ex.cells, wrOb, splice, f0, f5, h3X, hrX, h3Y, hb1, hb2, hb3, evP, fillA]
          refine ⟨if w2 = 0 then all.length - a2 else 0, ?_, us ++ [.mk o nm tl ty num args pos], a2, w2, p2, n2, .row (H.length + 2), hA2, ?_, by simp [f0], by simp [f4], by simp [f5], ?_, ?_, ?_, .inr ⟨H.length + 2, by omega, rfl, by simp, ?_⟩⟩
          · rcases hg with ⟨_, hg⟩ | ⟨h, _⟩
            · split
              · rename_i hw1; have := hlt2 hw1; have := hlt this.1; omega
              · omega
            · exact absurd rfl h
          · by_cases hw1 : w2 = 0
            · exact .inl ⟨hw1, by rw [if_pos hw1]⟩
            · exact .inr ⟨hw1, by rw [if_neg hw1]⟩
          · rw [List.getElem?_set_ne (by omega), List.getElem?_append_left (by simp), List.getElem?_set_ne (by omega), List.getElem?_append_left (by simpa using hl0), List.getElem?_set_self hl0]
          · rw [List.getElem?_set_ne (by omega), List.getElem?_append_left (by simp; omega), List.getElem?_set_ne (by omega), List.getElem?_append_left (by simp; omega), List.getElem?_set_ne (by omega)]; exact hH2
          · rw [List.getElem?_set_self (by simp; omega)]
          · rw [List.getElem?_set_ne (by omega), List.getElem?_append_right (by simp)]; simp [exsA_snoc, Ex.cells]
      · simp -implicitDefEqProofs [f0, f4, f5, hH3]
        refine SC.rd (by simp) [.ptr 0 0, sv sClose] (by simp) (all := all) (l := l) (a := a) (why := 0) (wh := p) (n := n') (by simp -implicitDefEqProofs [hH0]) (args_close hm hA (fun _ => ⟨_, h1, hq'⟩)) (by simp [toO]) ⟨0, by simp⟩ (by simp [lentO]) ?_ (tg := .mk)
        rintro x cs - ⟨rfl, a1, w1, p1, n1, rfl, ha1, hE⟩
        have hS : ∀ (o : Ob), (H.set 0 o)[3]? = some (.var [iv 7, sv m.text, sv [], iv 0, cv 0 0, X, iv m.pos]) := fun o => by rw [List.getElem?_set_ne (by omega)]; exact hH3
        have hT : ∀ (o : Ob), (H.set 0 o)[2]? = some (.var [iv 0, sv [], sv [], iv 0, cv 0 0, .v (.slice none 0 0), iv 0]) := fun o => by rw [List.getElem?_set_ne (by omega)]; exact hH2
        have q2 : ∀ (o o' : Ob), ((H.set 0 o).set 2 o')[2]? = some o' := fun o o' => by rw [List.getElem?_set_self (by simp; omega)]
        have q0 : ∀ (o o' : Ob), ((H.set 0 o).set 2 o')[0]? = some o := fun o o' => by rw [List.getElem?_set_ne (by omega), List.getElem?_set_self hl0]
        have hfin : Out (P l (.unit n (m :: all.drop (b + 1)))) all l b n (exA (.mk 7 m.text [] 0 (0, 0) us m.pos)) (rdr all l a1 w1 p1 n1) := by
          rcases hE with ⟨rfl, rfl, rfl, hb1, hP⟩ | ⟨hw1, hP⟩
          · refine .inl ⟨.mk 7 m.text [] 0 (0, 0) us m.pos, a1, ?_, rfl, by omega, ha1, rfl⟩
            rw [drop_at h0]; exact .call hk hq hP
          · refine .inr ⟨w1, p1, _, a1, n1, ?_, hw1, rfl, ha1, rfl⟩
            rw [drop_at h0]; exact .call hk hq hP
        rcases hR with ⟨rfl, rfl⟩ | ⟨r, hr3, rfl, hne, hr⟩
        · simp -implicitDefEqProofs [f4, f5, hS, hT, q2, q0, finM, wrOb, splice, rdr_deep]
          refine ⟨by simp [rdr], ?_⟩
          simpa [exA, Ex.cells, exsA, W0] using hfin
        · have qr : ∀ (o o' : Ob), ((H.set 0 o).set 2 o')[r]? = some (.own 36 7 us.length (exsA us)) := fun o o' => by rw [List.getElem?_set_ne (by omega), List.getElem?_set_ne (by omega)]; exact hr
          have q0r : ∀ (o o' o'' : Ob), (((H.set 0 o).set 2 o').set r o'')[0]? = some o := fun o o' o'' => by rw [List.getElem?_set_ne (by omega)]; exact q0 o o'
          simp -implicitDefEqProofs [f4, f5, hS, hT, q2, q0, qr, q0r, finM, wrOb, splice, rdr_deep]
          refine ⟨by simp [rdr], ?_⟩
          simpa [exA, Ex.cells, exsA, W0] using hfin
    · have hr0 : (rdr all l a w p n')[2]? = some (iv w) := rfl
      simp -implicitDefEqProofs [f0, f4, f5, hH0, hr0, hw]
      refine SC.rd (by simp) [.ptr 0 0, sv sClose] (by simp) (all := all) (l := l) (a := a) (why := w) (wh := p) (n := n') (by simp -implicitDefEqProofs [hH0]) (args_close hm hA (fun h => absurd h hw)) (by simp [toO]) ⟨0, by simp⟩ (by simp [lentO]) ?_ (tg := .mk)
      rintro x cs - ⟨rfl, a1, w1, p1, n1, rfl, ha1, hE⟩
      have hS : ∀ (o : Ob), (H.set 0 o)[3]? = some (.var [iv 7, sv m.text, sv [], iv 0, cv 0 0, X, iv m.pos]) := fun o => by rw [List.getElem?_set_ne (by omega)]; exact hH3
      have hT : ∀ (o : Ob), (H.set 0 o)[2]? = some (.var [iv 0, sv [], sv [], iv 0, cv 0 0, .v (.slice none 0 0), iv 0]) := fun o => by rw [List.getElem?_set_ne (by omega)]; exact hH2
      have q2 : ∀ (o o' : Ob), ((H.set 0 o).set 2 o')[2]? = some o' := fun o o' => by rw [List.getElem?_set_self (by simp; omega)]
      have q0 : ∀ (o o' : Ob), ((H.set 0 o).set 2 o')[0]? = some o := fun o o' => by rw [List.getElem?_set_ne (by omega), List.getElem?_set_self hl0]
      have hfin : Out (P l (.unit n (m :: all.drop (b + 1)))) all l b n (exA (.mk 7 m.text [] 0 (0, 0) us m.pos)) (rdr all l a1 w1 p1 n1) := by
        rcases hE with ⟨rfl, rfl, rfl, hb1, hP⟩ | ⟨hw1, hP⟩
        · refine .inl ⟨.mk 7 m.text [] 0 (0, 0) us m.pos, a1, ?_, rfl, by omega, ha1, rfl⟩
          rw [drop_at h0]; exact .call hk hq hP
        · refine .inr ⟨w1, p1, _, a1, n1, ?_, hw1, rfl, ha1, rfl⟩
          rw [drop_at h0]; exact .call hk hq hP
      rcases hR with ⟨rfl, rfl⟩ | ⟨r, hr3, rfl, hne, hr⟩
      · simp -implicitDefEqProofs [f4, f5, hS, hT, q2, q0, finM, wrOb, splice, rdr_deep]
        refine ⟨by simp [rdr], ?_⟩
        simpa [exA, Ex.cells, exsA, W0] using hfin
      · have qr : ∀ (o o' : Ob), ((H.set 0 o).set 2 o')[r]? = some (.own 36 7 us.length (exsA us)) := fun o o' => by rw [List.getElem?_set_ne (by omega), List.getElem?_set_ne (by omega)]; exact hr
        have q0r : ∀ (o o' o'' : Ob), (((H.set 0 o).set 2 o').set r o'')[0]? = some o := fun o o' o'' => by rw [List.getElem?_set_ne (by omega)]; exact q0 o o'
        simp -implicitDefEqProofs [f4, f5, hS, hT, q2, q0, qr, q0r, finM, wrOb, splice, rdr_deep]
        refine ⟨by simp [rdr], ?_⟩
        simpa [exA, Ex.cells, exsA, W0] using hfin
end
end Go.Proofs.YtgddkgbidhhheaaDoor
