/- Texts joined: Prn Pro Scanl Scanc. -/
import Derived.Test.YtgddkgbidhhheaaDoorKoar
import Derived.Test.YtgddkgbidhhheaaDoorKoak
/- The reference's Same: expressions. -/
set_option linter.unusedVariables false
set_option linter.unusedSimpArgs false
set_option maxRecDepth 100000
namespace Go.Proofs.YtgddkgbidhhheaaDoor
open Go.RowKit Flo Ab Mk Pg
mutual
def sameX (pl : Bool) : Ex → Ex → Bool
  | .mk o n t ty num us p, .mk o' n' t' ty' num' vs p' => decide (o = o') && (n == n') && (t == t') && decide (ty = ty') && cEq (W num.1) (W num.2) (W num'.1) (W num'.2) && decide (us.length = vs.length) && (!pl || decide (p = p')) && sameXs pl us vs
def sameXs (pl : Bool) : List Ex → List Ex → Bool
  | e :: r, e' :: r' => sameX pl e e' && sameXs pl r r'
  | _, _ => true
end
mutual
/-- how many nodes an expression has -/
def cntX : Ex → Nat
  | .mk _ _ _ _ _ us _ => 1 + cntXs us
def cntXs : List Ex → Nat
  | [] => 0
  | e :: r => cntX e + cntXs r
end
theorem cntX_pos (e : Ex) : 1 ≤ cntX e := by obtain ⟨o, n, t, ty, num, us, p⟩ := e; rw [cntX]; omega
theorem cntXs_len : ∀ us : List Ex, us.length ≤ cntXs us
  | [] => Nat.zero_le _
  | e :: r => by have := cntXs_len r; have := cntX_pos e; rw [cntXs, List.length_cons]; omega
theorem cntXs_mem : ∀ {us : List Ex} {e : Ex}, e ∈ us → cntX e ≤ cntXs us
  | u :: r, e, h => by
    rw [cntXs]
    rcases List.mem_cons.1 h with rfl | h
    · omega
    · have := cntXs_mem h; omega
theorem exsA_at : ∀ {us : List Ex} {k : Nat} {e : Ex}, us[k]? = some e → ((exsA us).drop (k * 7)).take 7 = e.cells
  | [], k, v, h => by simp at h
  | u :: vs, 0, v, h => by cases h; rw [exsA, Nat.zero_mul, List.drop_zero, List.take_left' (cells_len _)]
  | u :: vs, k + 1, v, h => by
    have := exsA_at (us := vs) (k := k) (e := v) (by simpa using h)
    rw [exsA, show (k + 1) * 7 = u.cells.length + k * 7 by rw [cells_len]; omega, ← List.drop_drop, List.drop_left]
    exact this
theorem sameXs_drop (pl : Bool) {us vs : List Ex} {k : Nat} {e e' : Ex} (h : us[k]? = some e) (h' : vs[k]? = some e') : sameXs pl (us.drop k) (vs.drop k) = (sameX pl e e' && sameXs pl (us.drop (k + 1)) (vs.drop (k + 1))) := by
  obtain ⟨h1, rfl⟩ := List.getElem?_eq_some_iff.1 h
  obtain ⟨h2, rfl⟩ := List.getElem?_eq_some_iff.1 h'
  rw [List.drop_eq_getElem_cons h1, List.drop_eq_getElem_cons h2, sameXs]
section
variable {G : World → Prop}
def SxI (pl : Bool) (us vs : List Ex) (ca cb : List AV) (g : Nat) (F : Fr) (H : List Ob) : Prop :=
  ∃ k : Nat, k + g = us.length ∧ F 2 = some (bv pl) ∧ F 3 = some (.ptr 0 0) ∧ F 4 = some (.ptr 1 0) ∧ F 7 = some (iv k) ∧ H[0]? = some (.var ca) ∧ H[1]? = some (.var cb) ∧ sameXs pl us vs = sameXs pl (us.drop k) (vs.drop k)
theorem psamee_ap (pl : Bool) : ∀ (a b : Ex), cntX a ≤ 1000000 → AP Tryd.prog G 35 [exA a, exA b, bv pl] (fun x => x = bv (sameX pl a b))
  | .mk o n t ty num us p, .mk o' n' t' ty' num' vs p', hcnt => by
    rw [cntX] at hcnt
    have hul := cntXs_len us
    refine AP.go hmix F_psamee (by simp) ?_
    have hsx : sameX pl (.mk o n t ty num us p) (.mk o' n' t' ty' num' vs p') = (decide (o = o') && (n == n') && (t == t') && decide (ty = ty') && cEq (W num.1) (W num.2) (W num'.1) (W num'.2) && decide (us.length = vs.length) && (!pl || decide (p = p')) && sameXs pl us vs) := by rw [sameX]
    obtain ⟨R, hR⟩ : ∃ R, sameX pl (.mk o n t ty num us p) (.mk o' n' t' ty' num' vs p') = R := ⟨_, rfl⟩
    rw [hR] at hsx ⊢
    rcases Classical.em (¬ (o = o')) with h1 | h1
    · simp -implicitDefEqProofs [c_psamee, exA, Ex.cells, h1, hsx]
    have h1 := Decidable.not_not.1 h1
    subst h1
    rcases Classical.em (¬ (n = n')) with h2 | h2
    · have h2' : (n == n') = false := beq_eq_false_iff_ne.2 h2
      simp -implicitDefEqProofs [c_psamee, exA, Ex.cells, h2, h2', hsx]
    have h2 := Decidable.not_not.1 h2
    subst h2
    rcases Classical.em (¬ (t = t')) with h3 | h3
    · have h2' : (t == t') = false := beq_eq_false_iff_ne.2 h3
      simp -implicitDefEqProofs [c_psamee, exA, Ex.cells, h3, h2', hsx]
    have h3 := Decidable.not_not.1 h3
    subst h3
    rcases Classical.em (¬ (ty = ty')) with h4 | h4
    · simp -implicitDefEqProofs [c_psamee, exA, Ex.cells, h4, hsx]
    have h4 := Decidable.not_not.1 h4
    subst h4
    cases h5 : cEq (W num.1) (W num.2) (W num'.1) (W num'.2)
    · simp -implicitDefEqProofs [c_psamee, exA, Ex.cells, h5, hsx]
    rcases Classical.em (¬ (us.length = vs.length)) with h6 | h6
    · have h6' : ¬ (us.length : Int) = vs.length := by omega
      simp -implicitDefEqProofs [c_psamee, exA, Ex.cells, h5, h6, h6', hsx]
    have h6 := Decidable.not_not.1 h6
    have h6' : (us.length : Int) = vs.length := by omega
    by_cases h7 : pl = true ∧ p ≠ p'
    · obtain ⟨rfl, h7⟩ := h7
      simp -implicitDefEqProofs [c_psamee, exA, Ex.cells, h5, eq_true h6, eq_true h6', h7, hsx]
    have ih : ∀ e ∈ us, ∀ b, AP Tryd.prog G 35 [exA e, exA b, bv pl] (fun x => x = bv (sameX pl e b)) := fun e he b => psamee_ap pl e b (by have := cntXs_mem he; omega)
    have hR2 : (pl = false ∨ p = p') → R = sameXs pl us vs := by
      intro hp
      have h8 : (!pl || decide (p = p')) = true := by
        rcases hp with rfl | rfl
        · rfl
        · simp
      rw [hsx, h5, h8, decide_eq_true h6]
      simp
    have hcase : pl = false ∨ (pl = true ∧ p = p') := by
      cases pl
      · exact .inl rfl
      · refine .inr ⟨rfl, ?_⟩
        rcases Classical.em (p = p') with h | h
        · exact h
        · exact absurd ⟨rfl, h⟩ h7
    rcases hcase with rfl | ⟨rfl, rfl⟩
    · have hRR := hR2 (.inl rfl)
      simp -implicitDefEqProofs [c_psamee, exA, Ex.cells, h5, eq_true h6, eq_true h6']
      refine LP.go (SxI false us vs [iv o, sv n, sv t, iv ty, cv (W num.1) (W num.2), .sl us.length (exsA us), iv p] [iv o, sv n, sv t, iv ty, cv (W num'.1) (W num'.2), .sl vs.length (exsA vs), iv p']) us.length ⟨0, by omega, by simp, by simp, by simp, by simp, by simp, by simp, rfl⟩ ?_
      unfold c_psamee_L0
      rintro g F H ⟨k, hk, f2, f3, f4, f7, hH0, hH1, he⟩
      by_cases hkl : (k : Int) < us.length
      · have hkl' : k < us.length := by omega
        obtain ⟨e, hu⟩ : ∃ e, us[k]? = some e := ⟨_, List.getElem?_eq_getElem hkl'⟩
        obtain ⟨e', hv⟩ : ∃ e, vs[k]? = some e := ⟨_, List.getElem?_eq_getElem (by omega)⟩
        have hcu := exsA_at hu
        have hcv := exsA_at hv
        have hw : IntKind.i64.wrap ((k : Int) + 1) = ((k + 1 : Nat) : Int) := by rw [wrap64 _ (by omega)]; omega
        rw [sameXs_drop _ hu hv] at he
        have hih := ih e (List.mem_of_getElem? hu) e'
        simp -implicitDefEqProofs [f2, f3, f4, f7, hH0, hH1, hkl, hcu, hcv]
        have hz1 : k * 7 + 7 ≤ (exsA us).length := by rw [exsA_len]; omega
        have hz2 : k * 7 + 7 ≤ (exsA vs).length := by rw [exsA_len]; omega
        have hkv : k < vs.length := by omega
        refine ⟨hz1, hkv, hz2, ?_⟩
        refine DC.go [.agg e.cells, .agg e'.cells, bv false] (bv (sameX false e e')) (by simp) (by simpa [exA] using hih) (by simp [cells_deep]) (by simp) ?_ (a := .mk)
        cases hs : sameX false e e'
        · have he2 : sameXs false us vs = false := by rw [he, hs]; rfl
          simp -implicitDefEqProofs [hRR, he2]
        · rw [hs, Bool.true_and] at he
          simp -implicitDefEqProofs [f7, hw, -Int.natCast_add]
          exact ⟨g - 1, by omega, k + 1, by omega, by simp [f2], by simp [f3], by simp [f4], by simp, hH0, hH1, he⟩
      · obtain rfl : k = us.length := by omega
        rw [List.drop_length] at he
        have he2 : sameXs false us vs = true := by rw [he]; simp [sameXs]
        simp -implicitDefEqProofs [f2, f3, f4, f7, hH0, hH1, hkl, hRR, he2]
    · have hRR := hR2 (.inr rfl)
      simp -implicitDefEqProofs [c_psamee, exA, Ex.cells, h5, eq_true h6, eq_true h6']
      refine LP.go (SxI true us vs [iv o, sv n, sv t, iv ty, cv (W num.1) (W num.2), .sl us.length (exsA us), iv p] [iv o, sv n, sv t, iv ty, cv (W num'.1) (W num'.2), .sl vs.length (exsA vs), iv p]) us.length ⟨0, by omega, by simp, by simp, by simp, by simp, by simp, by simp, rfl⟩ ?_
      unfold c_psamee_L0
      rintro g F H ⟨k, hk, f2, f3, f4, f7, hH0, hH1, he⟩
      by_cases hkl : (k : Int) < us.length
      · have hkl' : k < us.length := by omega
        obtain ⟨e, hu⟩ : ∃ e, us[k]? = some e := ⟨_, List.getElem?_eq_getElem hkl'⟩
        obtain ⟨e', hv⟩ : ∃ e, vs[k]? = some e := ⟨_, List.getElem?_eq_getElem (by omega)⟩
        have hcu := exsA_at hu
        have hcv := exsA_at hv
        have hw : IntKind.i64.wrap ((k : Int) + 1) = ((k + 1 : Nat) : Int) := by rw [wrap64 _ (by omega)]; omega
        rw [sameXs_drop _ hu hv] at he
        have hih := ih e (List.mem_of_getElem? hu) e'
        simp -implicitDefEqProofs [f2, f3, f4, f7, hH0, hH1, hkl, hcu, hcv]
        have hz1 : k * 7 + 7 ≤ (exsA us).length := by rw [exsA_len]; omega
        have hz2 : k * 7 + 7 ≤ (exsA vs).length := by rw [exsA_len]; omega
        have hkv : k < vs.length := by omega
        refine ⟨hz1, hkv, hz2, ?_⟩
        refine DC.go [.agg e.cells, .agg e'.cells, bv true] (bv (sameX true e e')) (by simp) (by simpa [exA] using hih) (by simp [cells_deep]) (by simp) ?_ (a := .mk)
        cases hs : sameX true e e'
        · have he2 : sameXs true us vs = false := by rw [he, hs]; rfl
          simp -implicitDefEqProofs [hRR, he2]
        · rw [hs, Bool.true_and] at he
          simp -implicitDefEqProofs [f7, hw, -Int.natCast_add]
          exact ⟨g - 1, by omega, k + 1, by omega, by simp [f2], by simp [f3], by simp [f4], by simp, hH0, hH1, he⟩
      · obtain rfl : k = us.length := by omega
        rw [List.drop_length] at he
        have he2 : sameXs true us vs = true := by rw [he]; simp [sameXs]
        simp -implicitDefEqProofs [f2, f3, f4, f7, hH0, hH1, hkl, hRR, he2]
termination_by a => SizeOf.sizeOf a
decreasing_by
  have := List.sizeOf_lt_of_mem he
  simp only [Ex.mk.sizeOf_spec]
  omega
end
end Go.Proofs.YtgddkgbidhhheaaDoor
/- The reference's Same: definitions and programs. -/
set_option linter.unusedVariables false
set_option linter.unusedSimpArgs false
set_option maxRecDepth 100000
namespace Go.Proofs.YtgddkgbidhhheaaDoor
open Go.RowKit Flo Ab Mk Pg
def sameP (pl : Bool) (x y : Pm) : Bool := (x.name == y.name) && decide (x.ty = y.ty) && (!pl || decide (x.pos = y.pos))
def samePs (pl : Bool) : List Pm → List Pm → Bool
  | x :: r, y :: r' => sameP pl x y && samePs pl r r'
  | _, _ => true
def sameF (pl : Bool) (f g : Pg.Fd) : Bool := (f.name == g.name) && decide (f.ty = g.ty) && decide (f.params.length = g.params.length) && (!pl || decide (f.pos = g.pos)) && samePs pl f.params g.params && sameX pl f.body g.body
theorem pmsA_at : ∀ {ps : List Pm} {k : Nat} {p : Pm}, ps[k]? = some p → ((pmsA ps).drop (k * 3)).take 3 = [sv p.name, iv p.ty, iv p.pos]
  | [], k, v, h => by simp at h
  | u :: vs, 0, v, h => by cases h; simp [pmsA]
  | u :: vs, k + 1, v, h => by
    have := pmsA_at (ps := vs) (k := k) (p := v) (by simpa using h)
    have e : pmsA (u :: vs) = [sv u.name, iv u.ty, iv u.pos] ++ pmsA vs := rfl
    rw [e, show (k + 1) * 3 = ([sv u.name, iv u.ty, iv u.pos] : List AV).length + k * 3 by simp; omega, ← List.drop_drop, List.drop_left]
    exact this
theorem samePs_drop (pl : Bool) {us vs : List Pm} {k : Nat} {e e' : Pm} (h : us[k]? = some e) (h' : vs[k]? = some e') : samePs pl (us.drop k) (vs.drop k) = (sameP pl e e' && samePs pl (us.drop (k + 1)) (vs.drop (k + 1))) := by
  obtain ⟨h1, rfl⟩ := List.getElem?_eq_some_iff.1 h
  obtain ⟨h2, rfl⟩ := List.getElem?_eq_some_iff.1 h'
  rw [List.drop_eq_getElem_cons h1, List.drop_eq_getElem_cons h2, samePs]
section
variable {G : World → Prop}
def SfI (pl : Bool) (us vs : List Pm) (ca cb : List AV) (g : Nat) (F : Fr) (H : List Ob) : Prop :=
  ∃ k : Nat, k + g = us.length ∧ F 2 = some (bv pl) ∧ F 3 = some (.ptr 0 0) ∧ F 4 = some (.ptr 1 0) ∧ F 7 = some (iv k) ∧ H[0]? = some (.var ca) ∧ H[1]? = some (.var cb) ∧ samePs pl us vs = samePs pl (us.drop k) (vs.drop k)
theorem psamef_true (f g : Pg.Fd) (hc : cntX f.body ≤ 1000000) (hp : f.params.length ≤ 1000000) : AP Tryd.prog G 24 [.agg (fdA f), .agg (fdA g), bv true] (fun x => x = bv (sameF true f g)) := by
  obtain ⟨n, us, ty, ⟨o, nm, tl, t2, num, as1, p2⟩, p⟩ := f
  obtain ⟨n', vs, ty', ⟨o', nm', tl', t2', num', as2, p2'⟩, p'⟩ := g
  dsimp only at hc hp
  have hbody := psamee_ap (G := G) true (.mk o nm tl t2 num as1 p2) (.mk o' nm' tl' t2' num' as2 p2') hc
  have hsx : sameF true ⟨n, us, ty, .mk o nm tl t2 num as1 p2, p⟩ ⟨n', vs, ty', .mk o' nm' tl' t2' num' as2 p2', p'⟩ = ((n == n') && decide (ty = ty') && decide (us.length = vs.length) && (!true || decide (p = p')) && samePs true us vs && sameX true (.mk o nm tl t2 num as1 p2) (.mk o' nm' tl' t2' num' as2 p2')) := rfl
  obtain ⟨R, hR⟩ : ∃ R, sameF true ⟨n, us, ty, .mk o nm tl t2 num as1 p2, p⟩ ⟨n', vs, ty', .mk o' nm' tl' t2' num' as2 p2', p'⟩ = R := ⟨_, rfl⟩
  obtain ⟨B, hB⟩ : ∃ B, sameX true (.mk o nm tl t2 num as1 p2) (.mk o' nm' tl' t2' num' as2 p2') = B := ⟨_, rfl⟩
  rw [hR, hB] at hsx
  rw [hR]
  rw [hB] at hbody
  simp only [exA, Ex.cells] at hbody
  refine AP.go hmix F_psamef (by simp) ?_
  rcases Classical.em (¬ (n = n')) with h2 | h2
  · have h2' : (n == n') = false := beq_eq_false_iff_ne.2 h2
    simp -implicitDefEqProofs [c_psamef, fdA, Ex.cells, h2, h2', hsx]
  have h2 := Decidable.not_not.1 h2
  subst h2
  rcases Classical.em (¬ (ty = ty')) with h4 | h4
  · simp -implicitDefEqProofs [c_psamef, fdA, Ex.cells, h4, hsx]
  have h4 := Decidable.not_not.1 h4
  subst h4
  rcases Classical.em (¬ (us.length = vs.length)) with h6 | h6
  · have h6' : ¬ (us.length : Int) = vs.length := by omega
    simp -implicitDefEqProofs [c_psamef, fdA, Ex.cells, h6, h6', hsx]
  have h6 := Decidable.not_not.1 h6
  have h6' : (us.length : Int) = vs.length := by omega
  rcases Classical.em (¬ (p = p')) with h7 | h7
  · simp -implicitDefEqProofs [c_psamef, fdA, Ex.cells, eq_true h6, eq_true h6', h7, hsx]
  have h7 := Decidable.not_not.1 h7
  subst h7
  have hRR : R = (samePs true us vs && B) := by rw [hsx, decide_eq_true h6]; simp
  simp -implicitDefEqProofs [c_psamef, fdA, Ex.cells, eq_true h6, eq_true h6']
  refine LP.go (SfI true us vs (fdA ⟨n, us, ty, .mk o nm tl t2 num as1 p2, p⟩) (fdA ⟨n, vs, ty, .mk o' nm' tl' t2' num' as2 p2', p⟩)) us.length ⟨0, by omega, by simp, by simp, by simp, by simp, by simp [fdA, Ex.cells], by simp [fdA, Ex.cells], rfl⟩ ?_
  unfold c_psamef_L0
  rintro g F H ⟨k, hk, f2, f3, f4, f7, hH0, hH1, he⟩
  simp only [fdA, Ex.cells, List.cons_append, List.nil_append] at hH0 hH1
  by_cases hkl : (k : Int) < us.length
  · have hkl' : k < us.length := by omega
    obtain ⟨⟨xn, xt, xp⟩, hu⟩ : ∃ e, us[k]? = some e := ⟨_, List.getElem?_eq_getElem hkl'⟩
    obtain ⟨⟨yn, yt, yp⟩, hv⟩ : ∃ e, vs[k]? = some e := ⟨_, List.getElem?_eq_getElem (by omega)⟩
    have hcu := pmsA_at hu
    have hcv := pmsA_at hv
    have hw : IntKind.i64.wrap ((k : Int) + 1) = ((k + 1 : Nat) : Int) := by rw [wrap64 _ (by omega)]; omega
    have hz1 : k * 3 + 3 ≤ (pmsA us).length := by rw [pmsA_len]; omega
    have hz2 : k * 3 + 3 ≤ (pmsA vs).length := by rw [pmsA_len]; omega
    have hkv : k < vs.length := by omega
    have hl1 : 1 < H.length := (List.getElem?_eq_some_iff.1 hH1).1
    have hX0 : ∀ X : List Ob, (H ++ X)[0]? = H[0]? := fun X => by rw [List.getElem?_append_left (by omega)]
    have hX1 : ∀ X : List Ob, (H ++ X)[1]? = H[1]? := fun X => by rw [List.getElem?_append_left hl1]
    rw [samePs_drop _ hu hv] at he
    have hsp : sameP true ⟨xn, xt, xp⟩ ⟨yn, yt, yp⟩ = ((xn == yn) && decide (xt = yt) && (!true || decide (xp = yp))) := rfl
    rw [hsp] at he
    rcases Classical.em (¬ (xn = yn)) with q1 | q1
    · have q1' : (xn == yn) = false := beq_eq_false_iff_ne.2 q1
      have he2 : samePs true us vs = false := by rw [he, q1']; rfl
      simp -implicitDefEqProofs [f2, f3, f4, f7, hX0, hX1, hH0, hH1, hkl, hcu, hcv, hz1, hz2, hkv, wrOb, splice, q1, q1', hRR, he2, -getElem?_pos, List.getElem?_cons_zero, List.getElem?_cons_succ]
    have q1 := Decidable.not_not.1 q1
    subst q1
    rcases Classical.em (¬ (xt = yt)) with q2 | q2
    · have he2 : samePs true us vs = false := by rw [he, decide_eq_false q2]; simp
      simp -implicitDefEqProofs [f2, f3, f4, f7, hX0, hX1, hH0, hH1, hkl, hcu, hcv, hz1, hz2, hkv, wrOb, splice, q2, hRR, he2, -getElem?_pos, List.getElem?_cons_zero, List.getElem?_cons_succ]
    have q2 := Decidable.not_not.1 q2
    subst q2
    rcases Classical.em (¬ (xp = yp)) with q3 | q3
    · have he2 : samePs true us vs = false := by rw [he, decide_eq_false q3]; simp
      simp -implicitDefEqProofs [f2, f3, f4, f7, hX0, hX1, hH0, hH1, hkl, hcu, hcv, hz1, hz2, hkv, wrOb, splice, q3, hRR, he2, -getElem?_pos, List.getElem?_cons_zero, List.getElem?_cons_succ]
    have q3 := Decidable.not_not.1 q3
    subst q3
    have he3 : samePs true us vs = samePs true (us.drop (k + 1)) (vs.drop (k + 1)) := by rw [he]; simp
    simp -implicitDefEqProofs [f2, f3, f4, f7, hX0, hX1, hH0, hH1, hkl, hcu, hcv, hz1, hz2, hkv, hw, wrOb, splice, -Int.natCast_add, -getElem?_pos, List.getElem?_cons_zero, List.getElem?_cons_succ]
    exact ⟨g - 1, by omega, k + 1, by omega, by simp [f2], by simp [f3], by simp [f4], by simp, by rw [hX0, hH0]; simp [fdA, Ex.cells], by rw [hX1, hH1]; simp [fdA, Ex.cells], he3⟩
  · obtain rfl : k = us.length := by omega
    rw [List.drop_length] at he
    have he2 : samePs true us vs = true := by rw [he]; simp [samePs]
    simp -implicitDefEqProofs [f2, f3, f4, f7, hH0, hH1, hkl]
    refine SC.frz (by simp) [.agg [iv o, sv nm, sv tl, iv t2, cv (W num.1) (W num.2), .sl as1.length (exsA as1), iv p2], .agg [iv o', sv nm', sv tl', iv t2', cv (W num'.1) (W num'.2), .sl as2.length (exsA as2), iv p2'], bv true] (by simp) (post := fun x => x = bv B) (by simpa using hbody) (by simp) ?_ (a := .mk)
    rintro x rfl
    simp -implicitDefEqProofs [hRR, he2]
theorem psamef_false (f g : Pg.Fd) (hc : cntX f.body ≤ 1000000) (hp : f.params.length ≤ 1000000) : AP Tryd.prog G 24 [.agg (fdA f), .agg (fdA g), bv false] (fun x => x = bv (sameF false f g)) := by
  obtain ⟨n, us, ty, ⟨o, nm, tl, t2, num, as1, p2⟩, p⟩ := f
  obtain ⟨n', vs, ty', ⟨o', nm', tl', t2', num', as2, p2'⟩, p'⟩ := g
  dsimp only at hc hp
  have hbody := psamee_ap (G := G) false (.mk o nm tl t2 num as1 p2) (.mk o' nm' tl' t2' num' as2 p2') hc
  have hsx : sameF false ⟨n, us, ty, .mk o nm tl t2 num as1 p2, p⟩ ⟨n', vs, ty', .mk o' nm' tl' t2' num' as2 p2', p'⟩ = ((n == n') && decide (ty = ty') && decide (us.length = vs.length) && (!false || decide (p = p')) && samePs false us vs && sameX false (.mk o nm tl t2 num as1 p2) (.mk o' nm' tl' t2' num' as2 p2')) := rfl
  obtain ⟨R, hR⟩ : ∃ R, sameF false ⟨n, us, ty, .mk o nm tl t2 num as1 p2, p⟩ ⟨n', vs, ty', .mk o' nm' tl' t2' num' as2 p2', p'⟩ = R := ⟨_, rfl⟩
  obtain ⟨B, hB⟩ : ∃ B, sameX false (.mk o nm tl t2 num as1 p2) (.mk o' nm' tl' t2' num' as2 p2') = B := ⟨_, rfl⟩
  rw [hR, hB] at hsx
  rw [hR]
  rw [hB] at hbody
  simp only [exA, Ex.cells] at hbody
  refine AP.go hmix F_psamef (by simp) ?_
  rcases Classical.em (¬ (n = n')) with h2 | h2
  · have h2' : (n == n') = false := beq_eq_false_iff_ne.2 h2
    simp -implicitDefEqProofs [c_psamef, fdA, Ex.cells, h2, h2', hsx]
  have h2 := Decidable.not_not.1 h2
  subst h2
  rcases Classical.em (¬ (ty = ty')) with h4 | h4
  · simp -implicitDefEqProofs [c_psamef, fdA, Ex.cells, h4, hsx]
  have h4 := Decidable.not_not.1 h4
  subst h4
  rcases Classical.em (¬ (us.length = vs.length)) with h6 | h6
  · have h6' : ¬ (us.length : Int) = vs.length := by omega
    simp -implicitDefEqProofs [c_psamef, fdA, Ex.cells, h6, h6', hsx]
  have h6 := Decidable.not_not.1 h6
  have h6' : (us.length : Int) = vs.length := by omega
  have hRR : R = (samePs false us vs && B) := by rw [hsx, decide_eq_true h6]; simp
  simp -implicitDefEqProofs [c_psamef, fdA, Ex.cells, eq_true h6, eq_true h6']
  refine LP.go (SfI false us vs (fdA ⟨n, us, ty, .mk o nm tl t2 num as1 p2, p⟩) (fdA ⟨n, vs, ty, .mk o' nm' tl' t2' num' as2 p2', p'⟩)) us.length ⟨0, by omega, by simp, by simp, by simp, by simp, by simp [fdA, Ex.cells], by simp [fdA, Ex.cells], rfl⟩ ?_
  unfold c_psamef_L0
  rintro g F H ⟨k, hk, f2, f3, f4, f7, hH0, hH1, he⟩
  simp only [fdA, Ex.cells, List.cons_append, List.nil_append] at hH0 hH1
  by_cases hkl : (k : Int) < us.length
  · have hkl' : k < us.length := by omega
    obtain ⟨⟨xn, xt, xp⟩, hu⟩ : ∃ e, us[k]? = some e := ⟨_, List.getElem?_eq_getElem hkl'⟩
    obtain ⟨⟨yn, yt, yp⟩, hv⟩ : ∃ e, vs[k]? = some e := ⟨_, List.getElem?_eq_getElem (by omega)⟩
    have hcu := pmsA_at hu
    have hcv := pmsA_at hv
    have hw : IntKind.i64.wrap ((k : Int) + 1) = ((k + 1 : Nat) : Int) := by rw [wrap64 _ (by omega)]; omega
    have hz1 : k * 3 + 3 ≤ (pmsA us).length := by rw [pmsA_len]; omega
    have hz2 : k * 3 + 3 ≤ (pmsA vs).length := by rw [pmsA_len]; omega
    have hkv : k < vs.length := by omega
    have hl1 : 1 < H.length := (List.getElem?_eq_some_iff.1 hH1).1
    have hX0 : ∀ X : List Ob, (H ++ X)[0]? = H[0]? := fun X => by rw [List.getElem?_append_left (by omega)]
    have hX1 : ∀ X : List Ob, (H ++ X)[1]? = H[1]? := fun X => by rw [List.getElem?_append_left hl1]
    rw [samePs_drop _ hu hv] at he
    have hsp : sameP false ⟨xn, xt, xp⟩ ⟨yn, yt, yp⟩ = ((xn == yn) && decide (xt = yt) && (!false || decide (xp = yp))) := rfl
    rw [hsp] at he
    rcases Classical.em (¬ (xn = yn)) with q1 | q1
    · have q1' : (xn == yn) = false := beq_eq_false_iff_ne.2 q1
      have he2 : samePs false us vs = false := by rw [he, q1']; rfl
      simp -implicitDefEqProofs [f2, f3, f4, f7, hX0, hX1, hH0, hH1, hkl, hcu, hcv, hz1, hz2, hkv, wrOb, splice, q1, q1', hRR, he2, -getElem?_pos, List.getElem?_cons_zero, List.getElem?_cons_succ]
    have q1 := Decidable.not_not.1 q1
    subst q1
    rcases Classical.em (¬ (xt = yt)) with q2 | q2
    · have he2 : samePs false us vs = false := by rw [he, decide_eq_false q2]; simp
      simp -implicitDefEqProofs [f2, f3, f4, f7, hX0, hX1, hH0, hH1, hkl, hcu, hcv, hz1, hz2, hkv, wrOb, splice, q2, hRR, he2, -getElem?_pos, List.getElem?_cons_zero, List.getElem?_cons_succ]
    have q2 := Decidable.not_not.1 q2
    subst q2
    have he3 : samePs false us vs = samePs false (us.drop (k + 1)) (vs.drop (k + 1)) := by rw [he]; simp
    simp -implicitDefEqProofs [f2, f3, f4, f7, hX0, hX1, hH0, hH1, hkl, hcu, hcv, hz1, hz2, hkv, hw, wrOb, splice, -Int.natCast_add, -getElem?_pos, List.getElem?_cons_zero, List.getElem?_cons_succ]
    exact ⟨g - 1, by omega, k + 1, by omega, by simp [f2], by simp [f3], by simp [f4], by simp, by rw [hX0, hH0]; simp [fdA, Ex.cells], by rw [hX1, hH1]; simp [fdA, Ex.cells], he3⟩
  · obtain rfl : k = us.length := by omega
    rw [List.drop_length] at he
    have he2 : samePs false us vs = true := by rw [he]; simp [samePs]
    simp -implicitDefEqProofs [f2, f3, f4, f7, hH0, hH1, hkl]
    refine SC.frz (by simp) [.agg [iv o, sv nm, sv tl, iv t2, cv (W num.1) (W num.2), .sl as1.length (exsA as1), iv p2], .agg [iv o', sv nm', sv tl', iv t2', cv (W num'.1) (W num'.2), .sl as2.length (exsA as2), iv p2'], bv false] (by simp) (post := fun x => x = bv B) (by simpa using hbody) (by simp) ?_ (a := .mk)
    rintro x rfl
    simp -implicitDefEqProofs [hRR, he2]
theorem psamef_ap (pl : Bool) (f g : Pg.Fd) (hc : cntX f.body ≤ 1000000) (hp : f.params.length ≤ 1000000) : AP Tryd.prog G 24 [.agg (fdA f), .agg (fdA g), bv pl] (fun x => x = bv (sameF pl f g)) := by
  cases pl
  · exact psamef_false f g hc hp
  · exact psamef_true f g hc hp
end
end Go.Proofs.YtgddkgbidhhheaaDoor
/- Laws of the marks of a text: two texts, a fault, other gaps, the whole text. No program in sight. -/
namespace Go.Proofs.YtgddkgbidhhheaaDoor
namespace Mk
open Flo
theorem tw_all {p : UInt8 → Bool} {d : UInt8} (hd : p d = false) (b : List UInt8) : ∀ (r : List UInt8), (r ++ d :: b).takeWhile p = r.takeWhile p
  | [] => by simp [hd]
  | c :: r => by
    rw [List.cons_append, List.takeWhile_cons, List.takeWhile_cons]
    cases p c
    · rfl
    · simp only [if_true]; rw [tw_all hd b r]
theorem sign_app {d : UInt8} (h1 : d ≠ 62) (h2 : d ≠ 61) (b : List UInt8) (c : UInt8) (r : List UInt8) : signL (c :: r ++ d :: b) = signL (c :: r) := by
  cases r with
  | nil =>
    show (if (c == 45 && some d == some 62) || (c == 61 && some d == some 61) then 2 else _) = (if (c == 45 && none == some 62) || (c == 61 && none == some 61) then 2 else _)
    have e1 : (some d == some (62 : UInt8)) = false := by simpa using h1
    have e2 : (some d == some (61 : UInt8)) = false := by simpa using h2
    rw [e1, e2]; rfl
  | cons e t => rfl
/-- a mark stays whatever follows a byte that no mark goes on with -/
theorem one_app {d : UInt8} (hr : runB d = false) (h1 : d ≠ 62) (h2 : d ≠ 61) (b : List UInt8) (c : UInt8) (r : List UInt8) (at' : Nat) : one (c :: r ++ d :: b) at' = one (c :: r) at' := by
  unfold one
  rw [sign_app h1 h2, tw_all hr]
  show (if Option.map runB (some c) = some true then _ else _) = (if Option.map runB (some c) = some true then _ else _)
  split
  · rfl
  · split
    · rfl
    · have := signL_le (c :: r)
      rw [List.take_append_of_le_length this]
def app (n : Nat) (x : Except Nat (List M)) (b : List UInt8) : Except Nat (List M) :=
  match x with
  | .error a => .error a
  | .ok ms => fin ms.dropLast (scan b n)
theorem app_pre (n : Nat) (m : M) (x : Except Nat (List M)) (b : List UInt8) (hne : ∀ ms, x = .ok ms → ms ≠ []) : app n (pre m x) b = pre m (app n x b) := by
  cases x with
  | error a => rfl
  | ok ms =>
    show fin (m :: ms).dropLast _ = pre m (fin ms.dropLast _)
    have := hne ms rfl
    cases ms with
    | nil => exact absurd rfl this
    | cons y t =>
      rw [List.dropLast_cons_of_ne_nil (by simp)]
      cases scan b n <;> rfl
theorem pre_ne (m : M) (x : Except Nat (List M)) (ms : List M) (h : pre m x = .ok ms) : ms ≠ [] := by
  cases x with
  | error a => cases h
  | ok t => cases h; simp
theorem scan_ne (k : Nat) : ∀ (l : List UInt8) (at' : Nat) (ms : List M), l.length < k → scan l at' = .ok ms → ms ≠ [] := by
  induction k with
  | zero => intro l _ _ h; omega
  | succ k ih =>
    intro l at' ms hk h
    cases l with
    | nil => rw [scan_nil] at h; cases h; simp
    | cons c r =>
      simp only [List.length_cons] at hk
      by_cases hb : blankB c = true
      · rw [scan_blank hb] at h; exact ih r _ _ (by omega) h
      · by_cases h35 : c = 35
        · subst h35
          rw [scan_hash, rem_cons (by decide)] at h
          exact ih _ _ _ (by have := drop_len (· != 10) r; omega) h
        · rw [scan_one (by simpa using hb) h35] at h
          cases ho : one (c :: r) at' with
          | none => rw [ho] at h; cases h
          | some m => rw [ho] at h; exact pre_ne _ _ _ h
theorem scan_app (b : List UInt8) (k : Nat) : ∀ (a : List UInt8) (at' : Nat), a.length < k → scan (a ++ 10 :: b) at' = app (at' + a.length + 1) (scan a at') b := by
  induction k with
  | zero => intro a _ h; omega
  | succ k ih =>
    intro a at' hk
    cases a with
    | nil =>
      rw [List.nil_append, scan_blank (by decide), scan_nil]
      show _ = fin ([_] : List M).dropLast (scan b _)
      show _ = fin [] (scan b _)
      rw [fin_nil]; rfl
    | cons c r =>
      simp only [List.length_cons] at hk
      by_cases hb : blankB c = true
      · rw [List.cons_append, scan_blank hb, scan_blank hb, ih r _ (by omega)]
        rw [List.length_cons, show at' + 1 + r.length + 1 = at' + (r.length + 1) + 1 by omega]
      · by_cases h35 : c = 35
        · subst h35
          rw [List.cons_append, scan_hash, scan_hash, rem_cons (by decide), rem_cons (by decide)]
          unfold rem
          rw [tw_all (p := (· != 10)) (d := 10) (by decide)]
          have hdw : ∀ (r : List UInt8), (r ++ 10 :: b).dropWhile (· != 10) = r.dropWhile (· != 10) ++ 10 :: b := by
            intro r
            induction r with
            | nil => rfl
            | cons e t iht =>
              rw [List.cons_append, List.dropWhile_cons, List.dropWhile_cons]
              split
              · exact iht
              · rfl
          have hl : (r.dropWhile (· != 10)).length + (r.takeWhile (· != 10)).length = r.length := by
            have := congrArg List.length (List.takeWhile_append_dropWhile (p := (· != 10)) (l := r))
            rw [List.length_append] at this; omega
          rw [hdw, ih _ _ (by omega)]
          congr 1
          simp only [List.length_cons]; omega
        · have hb' : blankB c = false := by simpa using hb
          rw [List.cons_append, scan_one hb' h35, scan_one hb' h35, ← List.cons_append, one_app (by decide) (by decide) (by decide)]
          cases ho : one (c :: r) at' with
          | none => rfl
          | some m =>
            obtain ⟨_, _, h3, h4⟩ := one_text ho
            show pre m _ = app _ (pre m _) b
            rw [app_pre _ _ _ _ (fun ms h => scan_ne _ _ _ _ (Nat.lt_succ_self _) h)]
            rw [List.drop_append_of_le_length h4]
            simp only [List.length_cons] at h4
            rw [ih _ _ (by rw [List.length_drop]; simp only [List.length_cons]; omega)]
            congr 2
            rw [List.length_drop]; simp only [List.length_cons]; omega
/-- places moved on -/
def mv (n : Nat) (m : M) : M := { m with pos := m.pos + n }
def mvR (n : Nat) : Except Nat (List M) → Except Nat (List M)
  | .ok ms => .ok (ms.map (mv n))
  | .error a => .error (a + n)
theorem word_mv (s : List UInt8) (n at' : Nat) : wordM s (at' + n) = (wordM s at').map (mv n) := by
  unfold wordM
  split
  · cases refParse s <;> rfl
  · split
    · rfl
    · split <;> rfl
theorem one_mv (l : List UInt8) (n at' : Nat) : one l (at' + n) = (one l at').map (mv n) := by
  unfold one
  split
  · exact word_mv _ _ _
  · split <;> rfl
theorem mvR_pre (n : Nat) (m : M) (x : Except Nat (List M)) : mvR n (pre m x) = pre (mv n m) (mvR n x) := by cases x <;> rfl
theorem scan_mv (n k : Nat) : ∀ (l : List UInt8) (at' : Nat), l.length < k → scan l (at' + n) = mvR n (scan l at') := by
  induction k with
  | zero => intro l _ h; omega
  | succ k ih =>
    intro l at' hk
    cases l with
    | nil => rfl
    | cons c r =>
      simp only [List.length_cons] at hk
      by_cases hb : blankB c = true
      · rw [scan_blank hb, scan_blank hb, ← ih r _ (by omega)]; congr 1; omega
      · by_cases h35 : c = 35
        · subst h35
          rw [scan_hash, scan_hash, rem_cons (by decide), rem_cons (by decide)]
          unfold rem
          rw [← ih _ _ (by have := drop_len (· != 10) r; omega)]
          congr 1; omega
        · have hb' : blankB c = false := by simpa using hb
          rw [scan_one hb' h35, scan_one hb' h35, one_mv]
          cases ho : one (c :: r) at' with
          | none => rfl
          | some m =>
            obtain ⟨_, _, h3, h4⟩ := one_text ho
            simp only [List.length_cons] at h4
            show pre (mv n m) (scan (List.drop m.text.length (c :: r)) (at' + n + m.text.length)) = mvR n (pre m _)
            rw [mvR_pre, ← ih _ _ (by rw [List.length_drop]; simp only [List.length_cons]; omega)]
            congr 2; omega
end Mk
end Go.Proofs.YtgddkgbidhhheaaDoor
/- Laws of the marks of a text: they cover it; what lies ahead of a fault. No program in sight. -/
namespace Go.Proofs.YtgddkgbidhhheaaDoor
namespace Mk
open Flo
/-- blanks and remarks alone: within a remark at the end, or not; none: something else -/
def fs : List UInt8 → Bool → Option Bool
  | [], s => some s
  | c :: r, s => if c = 10 then fs r false else if c = 35 then fs r true else if s = false ∧ blankB c = false then none else fs r s
theorem resv_head : ∀ x ∈ resv, (x.head?.map runB) = some true ∧ (x.head?.map digB) = some false := by decide
theorem one_kind {l : List UInt8} {at' : Nat} {m : M} (h : one l at' = some m) : m.kind ≠ 4 ∧ (m.kind = 1 ↔ m.text ∈ resv) ∧ (m.kind ≠ 2 → m.num = (0, 0)) := by
  unfold one at h
  split at h
  · rename_i hr
    unfold wordM at h
    split at h
    · rename_i hd
      cases hp : refParse (l.takeWhile runB) with
      | none => rw [hp] at h; cases h
      | some p =>
        rw [hp] at h; cases h
        refine ⟨by simp, ⟨fun h => (by cases h), fun h => ?_⟩, fun h => absurd rfl h⟩
        have := (resv_head _ h).2
        rw [show (l.takeWhile runB).head?.map digB = some true from hd] at this
        cases this
    · split at h
      · rename_i hm; cases h; exact ⟨by simp, ⟨fun _ => hm, fun _ => rfl⟩, fun _ => rfl⟩
      · rename_i hm
        split at h
        · cases h
        · cases h; exact ⟨by simp, ⟨fun h => (by cases h), fun h => absurd h hm⟩, fun _ => rfl⟩
  · rename_i hr
    split at h
    · cases h
    · rename_i hs
      cases h
      refine ⟨by simp, ⟨fun h => (by cases h), fun h => ?_⟩, fun _ => rfl⟩
      have h1 := (resv_head _ h).1
      cases l with
      | nil => exact absurd rfl hs
      | cons c r =>
        obtain ⟨k, hk⟩ : ∃ k, signL (c :: r) = k + 1 := ⟨signL (c :: r) - 1, by omega⟩
        rw [show (M.text ⟨3, (c :: r).take (signL (c :: r)), (0, 0), at'⟩) = c :: r.take k by rw [hk]; rfl] at h1
        exact absurd h1 hr
theorem tw_mem {p : UInt8 → Bool} {d : UInt8} : ∀ {r : List UInt8}, d ∈ r.takeWhile p → p d = true
  | c :: r, h => by
    rw [List.takeWhile_cons] at h
    split at h
    · rename_i hc
      rcases List.mem_cons.1 h with h | h
      · rw [h]; exact hc
      · exact tw_mem h
    · cases h
theorem tw_take (p : UInt8 → Bool) (r : List UInt8) : r.take (r.takeWhile p).length = r.takeWhile p := by
  obtain ⟨t, ht⟩ := List.takeWhile_prefix (p := p) (l := r)
  conv => lhs; arg 2; rw [← ht]
  simp
/-- what lies ahead of a fault has marks -/
theorem one_take {l : List UInt8} {at' : Nat} {m : M} (h : one l at' = some m) (k : Nat) (hk : m.text.length ≤ k) : one (l.take k) at' = some m := by
  obtain ⟨_, _, h3, h4⟩ := one_text h
  cases l with
  | nil => simp only [List.length_nil] at h4; omega
  | cons c r =>
    obtain ⟨j, rfl⟩ : ∃ j, k = j + 1 := ⟨k - 1, by omega⟩
    rw [List.take_succ_cons]
    unfold one at h ⊢
    have e : (Option.map runB (c :: r.take j).head? = some true) = (Option.map runB (c :: r).head? = some true) := rfl
    by_cases hr : Option.map runB (c :: r).head? = some true
    · rw [if_pos hr] at h
      rw [if_pos (e ▸ hr)]
      obtain ⟨h5, _⟩ := wordM_text h
      have : (c :: r.take j).takeWhile runB = (c :: r).takeWhile runB := by
        have h6 : ((c :: r).takeWhile runB).length ≤ j + 1 := by rw [← h5]; exact hk
        have h7 : ∀ (l : List UInt8) (n : Nat), (l.takeWhile runB).length ≤ n → (l.take n).takeWhile runB = l.takeWhile runB := by
          intro l
          induction l with
          | nil => intro n _; simp
          | cons d u ihd =>
            intro n hn
            cases hd : runB d with
            | false => cases n <;> simp [hd]
            | true =>
              rw [List.takeWhile_cons, if_pos hd, List.length_cons] at hn
              obtain ⟨i, rfl⟩ : ∃ i, n = i + 1 := ⟨n - 1, by omega⟩
              rw [List.take_succ_cons, List.takeWhile_cons, List.takeWhile_cons, if_pos hd, if_pos hd, ihd i (by omega)]
        exact h7 (c :: r) (j + 1) h6
      rw [this]; exact h
    · rw [if_neg hr] at h
      rw [if_neg (e ▸ hr)]
      split at h
      · cases h
      · rename_i hs
        cases h
        have hle := signL_le (c :: r)
        have hk' : signL (c :: r) ≤ j + 1 := by
          rw [show (M.text ⟨3, (c :: r).take (signL (c :: r)), (0, 0), at'⟩) = (c :: r).take (signL (c :: r)) from rfl, List.length_take, Nat.min_eq_left hle] at hk; exact hk
        have : signL (c :: r.take j) = signL (c :: r) := by
          cases j with
          | zero =>
            rw [List.take_zero]
            show (if (c == 45 && none == some 62) || (c == 61 && none == some 61) then 2 else if sign1 c then 1 else 0) = (if (c == 45 && r.head? == some 62) || (c == 61 && r.head? == some 61) then 2 else if sign1 c then 1 else 0)
            have h2 : ¬ ((c == 45 && r.head? == some 62) || (c == 61 && r.head? == some 61)) = true := fun h => by
              have : signL (c :: r) = 2 := if_pos h
              omega
            rw [if_neg h2, if_neg]
            simp
          | succ j =>
            show (if (c == 45 && (r.take (j + 1)).head? == some 62) || (c == 61 && (r.take (j + 1)).head? == some 61) then 2 else if sign1 c then 1 else 0) = _
            have : (r.take (j + 1)).head? = r.head? := by cases r <;> rfl
            rw [this]; rfl
        rw [this, if_neg hs]
        congr 2
        rw [show c :: r.take j = (c :: r).take (j + 1) from rfl, List.take_take, Nat.min_eq_left hk']
end Mk
end Go.Proofs.YtgddkgbidhhheaaDoor
