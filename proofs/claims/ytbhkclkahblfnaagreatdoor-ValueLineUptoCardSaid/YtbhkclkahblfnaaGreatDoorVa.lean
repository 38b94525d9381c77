/- Texts joined: Avl Avm Avn Avo Avq Avr Avs Avt Avu. -/
import Derived.Test.YtbhkclkahblfnaaGreatDoorAgv
import Derived.Test.YtbhkclkahblfnaaGreatDoorCdV
import Derived.Lib.SplitLaws
/- Contracts of layer 9: what is a value. -/
set_option linter.unusedVariables false
set_option linter.unusedSimpArgs false
namespace Go.Proofs.YtbhkclkahblfnaaGreatDoor
open Go.RowKit Flo Ab
/-- a value, or nearly one -/
structure Va where
  ty : Int
  a : Nat
  b : Nat
  bo : Bool
  l : List (Nat × Nat)
def cvs (l : List (Nat × Nat)) : List AV := l.map fun p => cv p.1 p.2
def Va.av (v : Va) : AV := .agg [iv v.ty, cv v.a v.b, bv v.bo, .sl v.l.length (cvs v.l)]
structure Va.Wf (v : Va) : Prop where
  a : v.a < 18446744073709551616
  b : v.b < 18446744073709551616
  l : ∀ p ∈ v.l, p.1 < 18446744073709551616 ∧ p.2 < 18446744073709551616
  n : v.l.length ≤ 16777216
def isN (p : Nat × Nat) : Bool := (numC p.1 p.2).isSome
def Va.ok (v : Va) : Bool :=
  if v.ty = 1 then isN (v.a, v.b) && !v.bo && v.l.isEmpty
  else if v.ty = 2 then isN (v.a, v.b) && cEq v.a v.b 0 0 && v.l.isEmpty
  else if v.ty = 3 then isN (v.a, v.b) && cEq v.a v.b 0 0 && !v.bo && v.l.all isN
  else false
def ChkI (l : List (Nat × Nat)) (r : Bool) (g : Nat) (F : Fr) (_ : List Ob) : Prop := ∃ (k : Nat) (q : Bool), k + g = l.length ∧ F 56 = some (.sl l.length (cvs l)) ∧ F 57 = some (iv l.length) ∧ F 58 = some (iv k) ∧ F 3 = some (bv q) ∧ (q && (l.drop k).all isN) = r
theorem drop_at {α : Type} {l : List α} {k : Nat} {x : α} (h : l[k]? = some x) : l.drop k = x :: l.drop (k + 1) := by
  obtain ⟨hi', rfl⟩ := List.getElem?_eq_some_iff.1 h
  exact List.drop_eq_getElem_cons hi'
theorem cvs_at {l : List (Nat × Nat)} {k : Nat} {p : Nat × Nat} (h : l[k]? = some p) : (cvs l)[k]? = some (cv p.1 p.2) := by rw [cvs, List.getElem?_map, h]; rfl
set_option maxHeartbeats 2000000 in
set_option maxRecDepth 100000 in
theorem check_ap {G : World → Prop} (v : Va) (hv : v.Wf) : AP Tryz.prog G 17 [v.av] (fun x => x = iv (if v.ok then 0 else 3)) := by
  obtain ⟨ty, a, b, bo, l⟩ := v
  obtain ⟨ha, hb, hl, hn⟩ := hv
  simp only at ha hb hl hn
  have hval : AP Tryz.prog G 43 [cv a b] (fun x => x = bv (numC a b).isSome) := valid_ap a b ha hb
  refine AP.go hmix F_check (by simp) ?_
  by_cases t1 : ty = 1
  · subst t1
    simp -implicitDefEqProofs [c_check, Va.av]
    refine SC.frz (by simp) [cv a b] (by simp) (post := fun x => x = bv (numC a b).isSome) (by simpa using hval) (by simp) ?_ (a := .mk)
    rintro x rfl
    by_cases hl0 : l = []
    · subst hl0
      cases hq : (numC a b).isSome <;> cases bo <;> simp -implicitDefEqProofs [Va.ok, isN, hq]
    · have hz : ¬ (l.length : Int) = 0 := by have := List.length_pos_iff.2 hl0; omega
      have he : l.isEmpty = false := by simpa using hl0
      cases hq : (numC a b).isSome <;> cases bo <;> simp -implicitDefEqProofs [Va.ok, isN, hq, hl0, he]
  by_cases t2 : ty = 2
  · subst t2
    simp -implicitDefEqProofs [c_check, Va.av]
    refine SC.frz (by simp) [cv a b] (by simp) (post := fun x => x = bv (numC a b).isSome) (by simpa using hval) (by simp) ?_ (a := .mk)
    rintro x rfl
    by_cases hl0 : l = []
    · subst hl0
      cases hq : (numC a b).isSome <;> cases hz : cEq a b 0 0 <;> simp -implicitDefEqProofs [Va.ok, isN, hq, hz]
    · have he : l.isEmpty = false := by simpa using hl0
      cases hq : (numC a b).isSome <;> cases hz : cEq a b 0 0 <;> simp -implicitDefEqProofs [Va.ok, isN, hq, hz, hl0, he]
  by_cases t3 : ty = 3
  · subst t3
    simp -implicitDefEqProofs [c_check, Va.av]
    refine SC.frz (by simp) [cv a b] (by simp) (post := fun x => x = bv (numC a b).isSome) (by simpa using hval) (by simp) ?_ (a := .mk)
    rintro x rfl
    have round : ∀ (r : Bool) (Q : Exit → Fr → List Ob → Prop), (∀ F H, F 3 = some (bv r) → Q (.exit 1) F H) → ∀ (g : Nat) (F : Fr) (H : List Ob), ChkI l r g F H → aw Tryz.prog G 70 c_check_L0 (thenA (fun F' H' => ∃ m, m < g ∧ ChkI l r m F' H') Q) F H := by
      rintro r Q hQ g F H ⟨k, q, hk, f56, f57, f58, f3, hr⟩
      unfold c_check_L0
      by_cases hkl : (k : Int) < l.length
      · have hkl' : k < l.length := by omega
        obtain ⟨p, hp⟩ : ∃ p, l[k]? = some p := ⟨_, List.getElem?_eq_getElem hkl'⟩
        have hcp := cvs_at hp
        have hw : IntKind.i64.wrap ((k : Int) + 1) = ((k + 1 : Nat) : Int) := by rw [wrap64 _ (by omega)]; omega
        rw [drop_at hp, List.all_cons] at hr
        obtain ⟨h1, h2⟩ := hl p (List.mem_of_getElem? hp)
        cases q with
        | true =>
          simp -implicitDefEqProofs [f56, f57, f58, f3, hkl, hcp, hw, -Int.natCast_add]
          refine SC.frz (by simp) [cv p.1 p.2] (by simp) (post := fun x => x = bv (numC p.1 p.2).isSome) (by simpa using valid_ap p.1 p.2 h1 h2) (by simp) ?_ (a := .mk)
          rintro x rfl
          simp -implicitDefEqProofs [f56, f57, f58, f3, hw, -Int.natCast_add]
          exact ⟨g - 1, by omega, k + 1, (numC p.1 p.2).isSome, by omega, by simp [f56], by simp [f57], by simp, by simp, by rw [← hr, Bool.true_and]; rfl⟩
        | false =>
          simp -implicitDefEqProofs [f56, f57, f58, f3, hkl, hcp, hw, -Int.natCast_add]
          exact ⟨g - 1, by omega, k + 1, false, by omega, by simp [f56], by simp [f57], by simp, by simp, by rw [← hr]; rfl⟩
      · simp -implicitDefEqProofs [f56, f57, f58, f3, hkl]
        refine hQ _ _ ?_
        rw [← hr, List.drop_eq_nil_of_le (by omega)]
        simp [f3]
    cases hq : (numC a b).isSome <;> cases hz : cEq a b 0 0 <;> cases bo <;> simp -implicitDefEqProofs [isN, hq, hz]
    iterate 6 (focus exact LP.go (ChkI l false) l.length ⟨0, false, by omega, by simp, by simp, by simp, by simp, rfl⟩ (round false _ fun F H f3 => by simp -implicitDefEqProofs [f3, Va.ok, isN, hq, hz]))
    · refine LP.go (ChkI l (l.all isN)) l.length ⟨0, true, by omega, by simp, by simp, by simp, by simp, by simp⟩ (round _ _ fun F H f3 => ?_)
      have hq' : isN (a, b) = true := hq
      cases hall : l.all isN
      · rw [hall] at f3
        simp -implicitDefEqProofs [f3, Va.ok, hq', hz, hall]
      · rw [hall] at f3
        simp -implicitDefEqProofs [f3, Va.ok, hq', hz, hall]
    · exact LP.go (ChkI l false) l.length ⟨0, false, by omega, by simp, by simp, by simp, by simp, rfl⟩ (round false _ fun F H f3 => by simp -implicitDefEqProofs [f3, Va.ok, isN, hq, hz])
  · simp -implicitDefEqProofs [c_check, Va.av, t1, t2, t3, Va.ok]
end Go.Proofs.YtbhkclkahblfnaaGreatDoor
/- Contracts of layer 9: the reference's Valid; both Sames. -/
set_option linter.unusedVariables false
set_option linter.unusedSimpArgs false
namespace Go.Proofs.YtbhkclkahblfnaaGreatDoor
open Go.RowKit Flo Ab
def VldI (v : Va) (r : Bool) (g : Nat) (F : Fr) (H : List Ob) : Prop := ∃ (k : Nat) (q : Bool), k + g = v.l.length ∧ F 1 = some (.ptr 0 0) ∧ F 5 = some (iv k) ∧ F 4 = some (bv q) ∧ H[0]? = some (.var [iv v.ty, cv v.a v.b, bv v.bo, .sl v.l.length (cvs v.l)]) ∧ (q && (v.l.drop k).all isN) = r
theorem h0_app {H X : List Ob} {o : Ob} (h : H[0]? = some o) : (H ++ X)[0]? = some o := by
  rw [List.getElem?_append_left (List.getElem?_eq_some_iff.1 h).1]; exact h
theorem ok3 (ty : Int) (a b : Nat) (bo : Bool) (l : List (Nat × Nat)) : Va.ok ⟨ty, a, b, bo, l⟩ = if ty = 1 then isN (a, b) && l.all isN && !bo && l.isEmpty else if ty = 2 then isN (a, b) && l.all isN && cEq a b 0 0 && l.isEmpty else if ty = 3 then isN (a, b) && l.all isN && cEq a b 0 0 && !bo else false := by
  unfold Va.ok
  simp only
  cases l with
  | nil => simp
  | cons x l => simp; cases isN (a, b) <;> cases cEq a b 0 0 <;> cases bo <;> cases isN x <;> cases (l.all isN) <;> simp
theorem nat1 (n : Nat) : ¬ (n : Int) + 1 = 0 := by omega
set_option maxHeartbeats 4000000 in
set_option maxRecDepth 100000 in
theorem rvalid_ap {G : World → Prop} (v : Va) (hv : v.Wf) : AP Tryz.prog G 16 [v.av] (fun x => x = bv v.ok) := by
  obtain ⟨ha, hb, hl, hn⟩ := hv
  refine AP.go hmix F_rvalid (by simp) ?_
  simp -implicitDefEqProofs [c_rvalid, Va.av]
  refine SC.frz (by simp) [cv v.a v.b] (by simp) (post := fun x => x = ofA (numC v.a v.b)) (by simpa using of_ap v.a v.b ha hb) (by simp) ?_ (a := .mk)
  rintro x rfl
  have round : ∀ (r : Bool) (Q : Exit → Fr → List Ob → Prop), (∀ F H, F 1 = some (.ptr 0 0) → F 4 = some (bv r) → H[0]? = some (.var [iv v.ty, cv v.a v.b, bv v.bo, .sl v.l.length (cvs v.l)]) → Q (.exit 0) F H) → ∀ (g : Nat) (F : Fr) (H : List Ob), VldI v r g F H → aw Tryz.prog G 77 c_rvalid_L0 (thenA (fun F' H' => ∃ m, m < g ∧ VldI v r m F' H') Q) F H := by
    rintro r Q hQ g F H ⟨k, q, hk, f1, f5, f4, h0, hr⟩
    unfold c_rvalid_L0
    by_cases hkl : (k : Int) < v.l.length
    · have hkl' : k < v.l.length := by omega
      obtain ⟨p, hp⟩ : ∃ p, v.l[k]? = some p := ⟨_, List.getElem?_eq_getElem hkl'⟩
      have hcp := cvs_at hp
      have hw : IntKind.i64.wrap ((k : Int) + 1) = ((k + 1 : Nat) : Int) := by rw [wrap64 _ (by omega)]; omega
      rw [drop_at hp, List.all_cons] at hr
      obtain ⟨h1, h2⟩ := hl p (List.mem_of_getElem? hp)
      simp -implicitDefEqProofs [f1, f5, f4, h0, hkl, hcp, hw, -Int.natCast_add]
      refine SC.frz (by simp) [cv p.1 p.2] (by simp) (post := fun x => x = ofA (numC p.1 p.2)) (by simpa using of_ap p.1 p.2 h1 h2) (by simp) ?_ (a := .mk)
      rintro x rfl
      have hop : ∃ x y, ofA (numC p.1 p.2) = .tup [.agg [iv x, iv y], bv (isN p)] := by
        unfold isN; cases numC p.1 p.2 with
        | none => exact ⟨0, 0, rfl⟩
        | some z => exact ⟨z.1, z.2, rfl⟩
      obtain ⟨x, y, hop⟩ := hop
      rw [hop]
      cases q with
      | true =>
        simp -implicitDefEqProofs [f1, f5, f4, wrOb, splice, hw, -Int.natCast_add]
        exact ⟨g - 1, by omega, k + 1, isN p, by omega, by simp [f1], by simp, by simp, by exact h0_app h0, by rw [← hr, Bool.true_and]⟩
      | false =>
        simp -implicitDefEqProofs [f1, f5, f4, wrOb, splice, hw, -Int.natCast_add]
        exact ⟨g - 1, by omega, k + 1, false, by omega, by simp [f1], by simp, by simp, by exact h0_app h0, by rw [← hr]; rfl⟩
    · simp -implicitDefEqProofs [f1, f5, f4, h0, hkl]
      refine hQ _ _ (by simp [f1]) ?_ h0
      rw [← hr, List.drop_eq_nil_of_le (by omega)]
      simp [f4]
  have hop : ∃ x y, ofA (numC v.a v.b) = .tup [.agg [iv x, iv y], bv (isN (v.a, v.b))] := by
    unfold isN; cases numC v.a v.b with
    | none => exact ⟨0, 0, rfl⟩
    | some z => exact ⟨z.1, z.2, rfl⟩
  obtain ⟨x, y, hop⟩ := hop
  rw [hop]
  simp -implicitDefEqProofs [wrOb, splice]
  refine LP.go (VldI v (isN (v.a, v.b) && v.l.all isN)) v.l.length ⟨0, isN (v.a, v.b), by omega, by simp, by simp, by simp, by simp, by simp⟩ (round _ _ fun F H f1 f4 h0 => ?_)
  obtain ⟨ty, a, b, bo, l⟩ := v
  rw [ok3]
  simp only at f1 f4 h0 ⊢
  cases hq : (isN (a, b) && l.all isN)
  · rw [hq] at f4
    by_cases t1 : ty = 1
    · subst t1; simp -implicitDefEqProofs [f1, f4, h0]
    by_cases t2 : ty = 2
    · subst t2; simp -implicitDefEqProofs [f1, f4, h0]
    by_cases t3 : ty = 3
    · subst t3; simp -implicitDefEqProofs [f1, f4, h0]
    · simp -implicitDefEqProofs [f1, f4, h0, t1, t2, t3]
  · rw [hq] at f4
    by_cases t1 : ty = 1
    · subst t1
      cases l <;> cases bo <;> simp -implicitDefEqProofs [f1, f4, h0, nat1]
    by_cases t2 : ty = 2
    · subst t2
      cases l <;> cases hz : cEq a b 0 0 <;> simp -implicitDefEqProofs [f1, f4, h0, hz, nat1]
    by_cases t3 : ty = 3
    · subst t3
      cases hz : cEq a b 0 0 <;> cases bo <;> simp -implicitDefEqProofs [f1, f4, h0, hz]
    · simp -implicitDefEqProofs [f1, f4, h0, t1, t2, t3]
end Go.Proofs.YtbhkclkahblfnaaGreatDoor
/- Contracts of layer 9: both Sames. -/
set_option linter.unusedVariables false
set_option linter.unusedSimpArgs false
namespace Go.Proofs.YtbhkclkahblfnaaGreatDoor
open Go.RowKit Flo Ab
def eqCL : List (Nat × Nat) → List (Nat × Nat) → Bool
  | [], [] => true
  | p :: l, q :: m => cEq p.1 p.2 q.1 q.2 && eqCL l m
  | _, _ => false
def EqI (l m : List (Nat × Nat)) (sa si : Nat) (g : Nat) (F : Fr) (_ : List Ob) : Prop := ∃ k : Nat, k + g = l.length ∧ F 0 = some (.sl l.length (cvs l)) ∧ F 1 = some (.sl m.length (cvs m)) ∧ F 12 = some (iv l.length) ∧ F 13 = some (iv k) ∧ eqCL l m = eqCL (l.drop k) (m.drop k)
theorem eqCL_len : ∀ (l m : List (Nat × Nat)), l.length ≠ m.length → eqCL l m = false
  | [], [], h => absurd rfl h
  | p :: l, q :: m, h => by rw [eqCL, eqCL_len l m (by simpa using h), Bool.and_false]
  | [], q :: m, _ => rfl
  | p :: l, [], _ => rfl
set_option maxHeartbeats 4000000 in
set_option maxRecDepth 100000 in
theorem slequal_ap {G : World → Prop} (l m : List (Nat × Nat)) (hn : l.length ≤ 16777216) : AP Tryz.prog G 44 [.sl l.length (cvs l), .sl m.length (cvs m)] (fun x => x = bv (eqCL l m)) := by
  refine AP.go hmix F_slequal (by simp) ?_
  by_cases hlm : (l.length : Int) = m.length
  · have hlm' : l.length = m.length := by omega
    simp -implicitDefEqProofs [c_slequal, hlm]
    refine LP.go (EqI l m 0 0) l.length ⟨0, by omega, by simp, by simp, by simp [hlm'], by simp, rfl⟩ ?_
    unfold c_slequal_L0
    rintro g F H ⟨k, hk, f0, f1, f12, f13, he⟩
    by_cases hkl : (k : Int) < l.length
    · have hkl' : k < l.length := by omega
      have hkm : (k : Int) < m.length := by omega
      obtain ⟨p, hp⟩ : ∃ p, l[k]? = some p := ⟨_, List.getElem?_eq_getElem hkl'⟩
      obtain ⟨q, hq⟩ : ∃ p, m[k]? = some p := ⟨_, List.getElem?_eq_getElem (by omega)⟩
      have hcp := cvs_at hp
      have hcq := cvs_at hq
      have hw : IntKind.i64.wrap ((k : Int) + 1) = ((k + 1 : Nat) : Int) := by rw [wrap64 _ (by omega)]; omega
      rw [drop_at hp, drop_at hq, eqCL] at he
      cases hc : cEq p.1 p.2 q.1 q.2
      · rw [hc] at he
        simp -implicitDefEqProofs [f0, f1, f12, f13, hkl, hkm, hcp, hcq, hw, hc, he, -Int.natCast_add]
      · rw [hc] at he
        simp -implicitDefEqProofs [f0, f1, f12, f13, hkl, hkm, hcp, hcq, hw, hc, -Int.natCast_add]
        exact ⟨g - 1, by omega, k + 1, by omega, by simp [f0], by simp [f1], by simp [f12], by simp, by rw [he, Bool.true_and]⟩
    · simp -implicitDefEqProofs [f0, f1, f12, f13, hkl]
      rw [he, List.drop_eq_nil_of_le (by omega), List.drop_eq_nil_of_le (by omega)]; rfl
  · have := eqCL_len l m (by omega)
    simp -implicitDefEqProofs [c_slequal, hlm, this]
def Va.same (v u : Va) : Bool := v.ok && u.ok && decide (v.ty = u.ty) && cEq v.a v.b u.a u.b && (v.bo == u.bo) && eqCL v.l u.l
set_option maxHeartbeats 4000000 in
set_option maxRecDepth 100000 in
theorem vsame_ap {G : World → Prop} (v u : Va) (hv : v.Wf) (hu : u.Wf) : AP Tryz.prog G 18 [v.av, u.av] (fun x => x = bv (v.same u)) := by
  have c1 := check_ap (G := G) v hv
  have c2 := check_ap (G := G) u hu
  have c3 := slequal_ap (G := G) v.l u.l hv.n
  refine AP.go hmix F_vsame (by simp) ?_
  simp -implicitDefEqProofs [c_vsame, Va.av]
  refine SC.frz (by simp) [v.av] (by simp [Va.av]) (post := fun x => x = iv (if v.ok then 0 else 3)) (by simpa [Va.av] using c1) (by simp [Va.av]) ?_ (a := .mk)
  rintro x rfl
  unfold Va.same
  cases hvo : v.ok
  · simp -implicitDefEqProofs [Va.av]
  simp -implicitDefEqProofs [Va.av]
  refine SC.frz (by simp) [u.av] (by simp [Va.av]) (post := fun x => x = iv (if u.ok then 0 else 3)) (by simpa [Va.av] using c2) (by simp [Va.av]) ?_ (a := .mk)
  rintro x rfl
  cases huo : u.ok
  · simp -implicitDefEqProofs [Va.av]
  by_cases ht : v.ty = u.ty
  · cases hc : cEq v.a v.b u.a u.b
    · simp -implicitDefEqProofs [Va.av, ht, hc]
    · cases hbo : (v.bo == u.bo)
      · simp -implicitDefEqProofs [Va.av, ht, hc, hbo]
      · simp -implicitDefEqProofs [Va.av, ht, hc, hbo]
        refine SC.frz (by simp) [.sl v.l.length (cvs v.l), .sl u.l.length (cvs u.l)] (by simp [Va.av]) (post := fun x => x = bv (eqCL v.l u.l)) (by simpa using c3) (by simp) ?_ (a := .mk)
        rintro x rfl
        simp -implicitDefEqProofs [Va.av]
  · simp -implicitDefEqProofs [Va.av, ht]
def SamI (v u : Va) (g : Nat) (F : Fr) (H : List Ob) : Prop := ∃ k : Nat, k + g = v.l.length ∧ F 2 = some (.ptr 0 0) ∧ F 3 = some (.ptr 1 0) ∧ F 5 = some (iv k) ∧ H = [.var [iv v.ty, cv v.a v.b, bv v.bo, .sl v.l.length (cvs v.l)], .var [iv u.ty, cv u.a u.b, bv u.bo, .sl u.l.length (cvs u.l)]] ∧ eqCL v.l u.l = eqCL (v.l.drop k) (u.l.drop k)
set_option maxHeartbeats 4000000 in
set_option maxRecDepth 100000 in
theorem rsame_ap {G : World → Prop} (v u : Va) (hv : v.Wf) (hu : u.Wf) : AP Tryz.prog G 19 [v.av, u.av] (fun x => x = bv (v.same u)) := by
  have c1 := rvalid_ap (G := G) v hv
  have c2 := rvalid_ap (G := G) u hu
  have hn := hv.n
  refine AP.go hmix F_rsame (by simp) ?_
  simp -implicitDefEqProofs [c_rsame, Va.av]
  refine SC.frz (by simp) [v.av] (by simp [Va.av]) (post := fun x => x = bv v.ok) (by simpa [Va.av] using c1) (by simp [Va.av]) ?_ (a := .mk)
  rintro x rfl
  unfold Va.same
  cases hvo : v.ok
  · simp -implicitDefEqProofs [Va.av]
  simp -implicitDefEqProofs [Va.av]
  refine SC.frz (by simp) [u.av] (by simp [Va.av]) (post := fun x => x = bv u.ok) (by simpa [Va.av] using c2) (by simp [Va.av]) ?_ (a := .mk)
  rintro x rfl
  cases huo : u.ok
  · simp -implicitDefEqProofs [Va.av]
  by_cases ht : v.ty = u.ty
  · cases hc : cEq v.a v.b u.a u.b
    · simp -implicitDefEqProofs [Va.av, ht, hc]
    · cases hbo : (v.bo == u.bo)
      · have hbo' : (v.bo != u.bo) = true := by rw [bne, hbo]; rfl
        simp -implicitDefEqProofs [Va.av, ht, hc, hbo, hbo']
      · have hbo' : (v.bo != u.bo) = false := by rw [bne, hbo]; rfl
        by_cases hlm : (v.l.length : Int) = u.l.length
        · have hlm' : v.l.length = u.l.length := by omega
          simp -implicitDefEqProofs [Va.av, ht, hc, hbo, hbo', hlm']
          refine LP.go (SamI v u) v.l.length ⟨0, by omega, by simp, by simp, by simp, by simp [Va.av, ht, hlm'], rfl⟩ ?_
          unfold c_rsame_L0
          rintro g F H ⟨k, hk, f2, f3, f5, rfl, he⟩
          by_cases hkl : (k : Int) < v.l.length
          · have hkl' : k < v.l.length := by omega
            have hkm : (k : Int) < u.l.length := by omega
            obtain ⟨p, hp⟩ : ∃ p, v.l[k]? = some p := ⟨_, List.getElem?_eq_getElem hkl'⟩
            obtain ⟨q, hq⟩ : ∃ p, u.l[k]? = some p := ⟨_, List.getElem?_eq_getElem (by omega)⟩
            have hcp := cvs_at hp
            have hcq := cvs_at hq
            have hw : IntKind.i64.wrap ((k : Int) + 1) = ((k + 1 : Nat) : Int) := by rw [wrap64 _ (by omega)]; omega
            rw [drop_at hp, drop_at hq, eqCL] at he
            cases hcc : cEq p.1 p.2 q.1 q.2
            · rw [hcc] at he
              simp -implicitDefEqProofs [f2, f3, f5, hkl, hkm, hcp, hcq, hw, hcc, he, -Int.natCast_add]
            · rw [hcc] at he
              simp -implicitDefEqProofs [f2, f3, f5, hkl, hkm, hcp, hcq, hw, hcc, -Int.natCast_add]
              exact ⟨g - 1, by omega, k + 1, by omega, by simp [f2], by simp [f3], by simp, rfl, by rw [he, Bool.true_and]⟩
          · simp -implicitDefEqProofs [f2, f3, f5, hkl]
            rw [he, List.drop_eq_nil_of_le (by omega), List.drop_eq_nil_of_le (by omega)]; exact ⟨ht, rfl⟩
        · have := eqCL_len v.l u.l (by omega)
          have hlm' : ¬ v.l.length = u.l.length := by omega
          simp -implicitDefEqProofs [Va.av, ht, hc, hbo, hbo', hlm, hlm', this]
  · simp -implicitDefEqProofs [Va.av, ht]
end Go.Proofs.YtbhkclkahblfnaaGreatDoor
/- Contracts of layer 9: texts. -/
set_option linter.unusedVariables false
set_option linter.unusedSimpArgs false
namespace Go.Proofs.YtbhkclkahblfnaaGreatDoor
open Go.RowKit Flo Ab
theorem strs_of {w : World} {L : Nat → Prop} {n : Nat} {cs : List AV} {u : Value} {xs : List (List UInt8)} (h : RD w L (.sl n cs) u) (hn : n = xs.length) (hc : cs = xs.map sv) :
    (xs = [] ∧ ∃ p c, u = .slice p 0 c) ∨ ∃ b o c, u = .slice (some ⟨b, o, none⟩) xs.length c ∧ xs.length ≤ c ∧ b < w.heap.size ∧ ∀ (j : Nat) (x : List UInt8), xs[j]? = some x → w.cell? ⟨b, o + j, none⟩ = some (.string ⟨x.toArray⟩) := by
  cases h with
  | sl0 p cap =>
    obtain rfl : xs = [] := List.eq_nil_of_length_eq_zero hn.symm
    exact .inl ⟨rfl, p, cap, rfl⟩
  | sl b o n cap cs us hl hb hs hcell h1 hr hle =>
    subst hn; subst hc
    refine .inr ⟨b, o, cap, rfl, hle, hs, fun j x hx => ?_⟩
    have hj : (xs.map sv)[j]? = some (sv x) := by rw [List.getElem?_map, hx]; rfl
    have hjl : j < us.length := by rw [hl]; exact (List.getElem?_eq_some_iff.1 hj).1
    have hu := hr j _ us[j] hj (List.getElem?_eq_getElem hjl)
    have he : us[j] = .string ⟨x.toArray⟩ := by
      revert hu; generalize us[j] = y; intro hu; cases hu; rfl
    rw [hcell j us[j] (List.getElem?_eq_getElem hjl), he]
theorem join_ap {G : World → Prop} (xs : List (List UInt8)) (sep : List UInt8) (hn : xs.length ≤ 16777216) (hlen : (Lib.join xs sep).length ≤ 1073741824) : AP Tryz.prog G 40 [.sl xs.length (xs.map sv), sv sep] (fun z => z = sv (Lib.join xs sep)) := by
  intro w0 w M vs hG hbl hM h
  obtain ⟨u, v, rfl, hr, hr'⟩ := vs2 h
  cases hr'
  rcases strs_of hr rfl rfl with ⟨rfl, p, c, rfl⟩ | ⟨b, o, c, rfl, hc, hb, hcell⟩
  · refine (Tryz.strings_Join_none p c ⟨sep.toArray⟩ w).mono ?_
    rintro e w' ⟨rfl, rfl⟩
    exact ⟨_, _, rfl, Below.refl _ _, .v _ rfl, rfl⟩
  · have hm : ((xs.map fun l => (⟨l.toArray⟩ : ByteArray)).map (·.data.toList)) = xs := by
      rw [List.map_map]; exact List.map_id'' (fun l => by simp) xs
    have hj := Tryz.strings_Join b o c (xs.map fun l => ⟨l.toArray⟩) ⟨sep.toArray⟩ w (fun j x hx => by
      rw [List.getElem?_map, Option.map_eq_some_iff] at hx
      obtain ⟨y, hy, rfl⟩ := hx
      exact hcell j y hy) hb (by simp; omega) (by simpa using hc) (by rw [hm]; show (Lib.join xs sep).length ≤ _; omega)
    rw [hm, List.length_map] at hj
    refine hj.mono ?_
    rintro e w' ⟨rfl, hb'⟩
    exact ⟨_, _, rfl, hb', .v _ rfl, rfl⟩
theorem okR_num {a b : Nat} {x y : Int} (h : numC a b = some (x, y)) : okR x y = true := okR_iff.2 ⟨numOf_rng (numC_some h).1, numOf_rng (numC_some h).2⟩
set_option maxHeartbeats 2000000 in
set_option maxRecDepth 100000 in
theorem rnumber_ap {G : World → Prop} (a b : Nat) (ha : a < 18446744073709551616) (hb : b < 18446744073709551616) (hi : isN (a, b) = true) : AP Tryz.prog G 41 [cv a b] (fun z => z = sv (txC a b)) := by
  refine AP.go hmix F_rnumber (by simp) ?_
  have h0 := of_ap (G := G) a b ha hb
  cases hn : numC a b with
  | none => rw [isN, hn] at hi; cases hi
  | some p =>
    obtain ⟨x, y⟩ := p
    rw [hn] at h0
    have h1 := reftext_ap (G := G) (okR_num hn)
    simp -implicitDefEqProofs [c_rnumber]
    refine SC.frz (by simp) [cv a b] (by simp) (post := fun z => z = ofA (some (x, y))) (by simpa using h0) (by simp) ?_ (a := .mk)
    rintro z rfl
    simp -implicitDefEqProofs [ofA, wrOb, splice]
    refine SC.frz (by simp) [.agg [iv x, iv y]] (by simp) (post := fun z => z = sv (textL x y)) (by simpa using h1) (by simp) ?_ (a := .mk)
    rintro z rfl
    simp -implicitDefEqProofs [txC, hn]
def txs (l : List (Nat × Nat)) : List (List UInt8) := l.map fun p => txC p.1 p.2
/-- a value's text -/
def Va.tx (v : Va) : List UInt8 :=
  if v.ok then (if v.ty = 1 then txC v.a v.b else if v.ty = 2 then Lib.formatBool v.bo else [91] ++ Lib.join (txs v.l) [32] ++ [93]) else []
theorem txC_len (a b : Nat) : (txC a b).length ≤ 50 := by
  unfold txC
  cases hn : numC a b with
  | none => simp
  | some p =>
    obtain ⟨x, y⟩ := p
    have l1 := itoa_len (numOf_rng (numC_some hn).1)
    have l2 := itoa_len (numOf_rng (numC_some hn).2)
    simp only
    unfold textL
    split
    · omega
    · split
      · simp; omega
      · split <;> (simp; omega)
theorem join_len (l : List (Nat × Nat)) : (Lib.join (txs l) [32]).length ≤ 51 * l.length := by
  cases l with
  | nil => simp [txs, Lib.join]
  | cons p l =>
    have h : ∀ l : List (Nat × Nat), (Lib.joinTail [32] (txs l)).length ≤ 51 * l.length := by
      intro l
      induction l with
      | nil => simp [txs, Lib.joinTail]
      | cons p l ih =>
        have := txC_len p.1 p.2
        simp only [txs, Lib.joinTail, List.map_cons, List.flatten_cons, List.length_append, List.length_cons, List.length_nil] at ih ⊢
        omega
    have h1 := h l
    have := txC_len p.1 p.2
    rw [txs, List.map_cons, Lib.join_cons, List.length_append]
    show (txC p.1 p.2).length + (Lib.joinTail [32] (txs l)).length ≤ _
    simp only [List.length_cons]; omega
def VtI (l : List (Nat × Nat)) (g : Nat) (F : Fr) (H : List Ob) : Prop := ∃ k : Nat, k + g = l.length ∧ F 30 = some (.sl l.length (cvs l)) ∧ F 31 = some (iv l.length) ∧ F 32 = some (iv k) ∧
  ((k = 0 ∧ F 5 = some (.v (.slice none 0 0))) ∨ ∃ r, F 5 = some (.row r) ∧ H[r]? = some (.own 9 1 k ((txs (l.take k)).map sv)))
theorem txs_snoc {l : List (Nat × Nat)} {k : Nat} {p : Nat × Nat} (h : l[k]? = some p) : txs (l.take (k + 1)) = txs (l.take k) ++ [txC p.1 p.2] := by
  rw [List.take_add_one, h]; simp [txs]
theorem okN {v : Va} (h : v.ok = true) (h1 : ¬ v.ty = 1) (h2 : ¬ v.ty = 2) : v.ty = 3 ∧ v.l.all isN = true := by
  unfold Va.ok at h
  rw [if_neg h1, if_neg h2] at h
  split at h
  · rename_i h3; simp only [Bool.and_eq_true] at h; exact ⟨h3, h.2⟩
  · cases h
set_option maxHeartbeats 4000000 in
set_option maxRecDepth 100000 in
theorem vtext_ap (v : Va) (hv : v.Wf) : AP Tryz.prog Gv 13 [v.av] (fun z => z = .tup [sv v.tx, iv (if v.ok then 0 else 3)]) := by
  have c1 := check_ap (G := Gv) v hv
  have hn := hv.n
  have hz : ∀ l : List UInt8, ({ data := l.toArray } : ByteArray).size = l.length := fun l => by simp [ByteArray.size]
  refine AP.go hmix F_vtext (by simp) ?_
  simp -implicitDefEqProofs [c_vtext, Va.av]
  refine SC.frz (by simp) [v.av] (by simp [Va.av]) (post := fun x => x = iv (if v.ok then 0 else 3)) (by simpa [Va.av] using c1) (by simp [Va.av]) ?_ (a := .mk)
  rintro x rfl
  cases hvo : v.ok
  · simp -implicitDefEqProofs [Va.av, Va.tx, hvo]
  by_cases t1 : v.ty = 1
  · simp -implicitDefEqProofs [Va.av, t1]
    have hi : (numC v.a v.b).isSome = true := by
      unfold Va.ok at hvo; rw [if_pos t1] at hvo
      simp only [Bool.and_eq_true] at hvo
      exact hvo.1.1
    refine SC.frz (by simp) [cv v.a v.b] (by simp) (post := fun z => z = .tup [sv (txC v.a v.b), iv (if (numC v.a v.b).isSome then 0 else 3)]) (by simpa using gtext_ap v.a v.b hv.a hv.b) (by simp) ?_ (a := .mk)
    rintro z rfl
    simp -implicitDefEqProofs [Va.tx, hvo, t1, hi]
  by_cases t2 : v.ty = 2
  · simp -implicitDefEqProofs [Va.av, t1, t2]
    refine SC.frz (by simp) [bv v.bo] (by simp) (post := fun z => z = sv (Lib.formatBool v.bo)) (by simpa using fmtbool_ap v.bo) (by simp) ?_ (a := .mk)
    rintro z rfl
    simp -implicitDefEqProofs [Va.tx, hvo, t1, t2]
  obtain ⟨t3, hall⟩ := okN hvo t1 t2
  simp -implicitDefEqProofs [Va.av, t1, t2]
  refine LP.go (VtI v.l) v.l.length ⟨0, by omega, by simp, by simp, by simp, .inl ⟨rfl, by simp⟩⟩ ?_
  unfold c_vtext_L0
  rintro g F H ⟨k, hk, f30, f31, f32, hst⟩
  by_cases hkl : (k : Int) < v.l.length
  · have hkl' : k < v.l.length := by omega
    obtain ⟨p, hp⟩ : ∃ p, v.l[k]? = some p := ⟨_, List.getElem?_eq_getElem hkl'⟩
    have hcp := cvs_at hp
    have hw : IntKind.i64.wrap ((k : Int) + 1) = ((k + 1 : Nat) : Int) := by rw [wrap64 _ (by omega)]; omega
    obtain ⟨h1, h2⟩ := hv.l p (List.mem_of_getElem? hp)
    simp -implicitDefEqProofs [f30, f31, f32, hkl, hcp, -Int.natCast_add]
    refine SC.frz (by simp) [cv p.1 p.2] (by simp) (post := fun z => z = .tup [sv (txC p.1 p.2), iv (if (numC p.1 p.2).isSome then 0 else 3)]) (by simpa using gtext_ap p.1 p.2 h1 h2) (by simp) ?_ (a := .mk)
    rintro z rfl
    rcases hst with ⟨hk0, f5⟩ | ⟨r, f5, hr⟩
    · subst hk0
      simp -implicitDefEqProofs [f30, f31, f32, f5, hw, evP, fillA, splice, -Int.natCast_add]
      refine ⟨g - 1, by omega, 0 + 1, by omega, by simp [f30], by simp [f31], by simp [wrap64 1 (by omega)], .inr ⟨H.length + 1, by simp, ?_⟩⟩
      rw [txs_snoc hp]
      first | (rw [List.getElem?_append_right (by simp)]; simp [txs]; done) | (simp [txs])
    · have hb1 : (k + 1) * 16 ≤ 140737488355328 := by omega
      have hb2 : k + 1 ≤ 1073741824 := by omega
      have hrX : ∀ X : List Ob, (H ++ X)[r]? = some (.own 9 1 k ((txs (v.l.take k)).map sv)) := fun X => by rw [List.getElem?_append_left (List.getElem?_eq_some_iff.1 hr).1]; exact hr
      simp -implicitDefEqProofs [f30, f31, f32, f5, hrX, hw, evP, fillA, splice, hb1, hb2, -Int.natCast_add]
      refine ⟨g - 1, by omega, k + 1, by omega, by simp [f30], by simp [f31], by simp, .inr ⟨H.length + 1, by simp, ?_⟩⟩
      rw [txs_snoc hp, List.getElem?_append_right (by simp)]
      simp
  · obtain rfl : k = v.l.length := by omega
    have hlen : (txs v.l).length = v.l.length := by simp [txs]
    have hjl := join_len v.l
    have htx : v.tx = [91] ++ Lib.join (txs v.l) [32] ++ [93] := by unfold Va.tx; rw [if_pos hvo, if_neg t1, if_neg t2]
    have hsz : (({ data := #[91] } : ByteArray)).size = 1 := rfl
    have fin : ∀ (F : Fr) (H : List Ob), True := fun _ _ => trivial
    have hj : AP Tryz.prog Gv 40 [.sl v.l.length ((txs v.l).map sv), sv [32]] (fun z => z = sv (Lib.join (txs v.l) [32])) := by
      have := join_ap (G := Gv) (txs v.l) [32] (by omega) (by omega)
      rwa [hlen] at this
    have hb1 : 1 + (Lib.join (txs v.l) [32]).length ≤ 9223372036854775807 := by omega
    have hb2 : 1 + (Lib.join (txs v.l) [32]).length + 1 ≤ 9223372036854775807 := by omega
    rcases hst with ⟨hk0, f5⟩ | ⟨r, f5, hr⟩
    · have hl0 : v.l = [] := List.eq_nil_of_length_eq_zero hk0
      simp -implicitDefEqProofs [f30, f31, f32, f5, hkl]
      refine SC.frz (by simp) [.v (.slice none 0 0), sv [32]] (by simp) (post := fun z => z = sv (Lib.join (txs v.l) [32])) (by simpa [hl0, txs] using hj) (by simp) ?_ (a := .mk)
      rintro z rfl
      simp -implicitDefEqProofs [ba_app]
      exact ⟨by simp [ByteArray.size]; omega, by simp [ByteArray.size]; omega, by rw [htx]; rfl⟩
    · rw [List.take_length] at hr
      simp -implicitDefEqProofs [f30, f31, f32, f5, hkl]
      refine SC.frz (by simp) [.row r, sv [32]] (by simp) (post := fun z => z = sv (Lib.join (txs v.l) [32])) (by simpa [hr] using hj) (by simp [hr]) ?_ (a := .mk)
      rintro z rfl
      simp -implicitDefEqProofs [ba_app]
      exact ⟨by simp [ByteArray.size]; omega, by simp [ByteArray.size]; omega, by rw [htx]; rfl⟩
end Go.Proofs.YtbhkclkahblfnaaGreatDoor
/- Contracts of layer 9: the reference's text. -/
set_option linter.unusedVariables false
set_option linter.unusedSimpArgs false
namespace Go.Proofs.YtbhkclkahblfnaaGreatDoor
open Go.RowKit Flo Ab
theorem joinTail_snoc (sep y : List UInt8) (r : List (List UInt8)) : Lib.joinTail sep (r ++ [y]) = Lib.joinTail sep r ++ (sep ++ y) := by simp [Lib.joinTail]
theorem join_snoc (sep y : List UInt8) (xs : List (List UInt8)) (h : xs ≠ []) : Lib.join (xs ++ [y]) sep = Lib.join xs sep ++ (sep ++ y) := by
  cases xs with
  | nil => exact absurd rfl h
  | cons x r => rw [List.cons_append, Lib.join_cons, Lib.join_cons, joinTail_snoc, List.append_assoc]
def RtI (v : Va) (g : Nat) (F : Fr) (H : List Ob) : Prop := ∃ k : Nat, k + g = v.l.length ∧ F 1 = some (.ptr 0 0) ∧ H[0]? = some (.var [iv v.ty, cv v.a v.b, bv v.bo, .sl v.l.length (cvs v.l)]) ∧ F 5 = some (iv k) ∧
  ((k = 0 ∧ F 4 = some (.v (.slice none 0 0))) ∨ (0 < k ∧ ∃ r, r ≠ 0 ∧ F 4 = some (.row r) ∧ H[r]? = some (.own 5 1 (Lib.join (txs (v.l.take k)) [32]).length ((Lib.join (txs (v.l.take k)) [32]).map byA))))
theorem txC_pos {p : Nat × Nat} (h : isN p = true) : 0 < (txC p.1 p.2).length := by
  unfold isN at h
  unfold txC
  cases hn : numC p.1 p.2 with
  | none => rw [hn] at h; cases h
  | some q =>
    obtain ⟨x, y⟩ := q
    simp only
    have : ∀ n : Int, 0 < (Lib.itoa n).length := fun n => List.length_pos_iff.2 (itoa_ne n)
    have h1 := this x; have h2 := this y
    unfold textL
    split
    · exact h1
    · split
      · simp
      · split <;> (simp; omega)
set_option maxHeartbeats 4000000 in
set_option maxRecDepth 100000 in
theorem rtext_ap {G : World → Prop} (v : Va) (hv : v.Wf) : AP Tryz.prog G 15 [v.av] (fun z => z = .tup [sv v.tx, iv (if v.ok then 0 else 3)]) := by
  have c1 := rvalid_ap (G := G) v hv
  have hn := hv.n
  have hz : ∀ l : List UInt8, ({ data := l.toArray } : ByteArray).size = l.length := fun l => by simp [ByteArray.size]
  have hsA : ∀ l : List UInt8, strA ⟨l.toArray⟩ = l.map byA := fun l => by simp [strA]
  refine AP.go hmix F_rtext (by simp) ?_
  simp -implicitDefEqProofs [c_rtext, Va.av]
  refine SC.frz (by simp) [v.av] (by simp [Va.av]) (post := fun x => x = bv v.ok) (by simpa [Va.av] using c1) (by simp [Va.av]) ?_ (a := .mk)
  rintro x rfl
  cases hvo : v.ok
  · simp -implicitDefEqProofs [Va.av, Va.tx, hvo]
  by_cases t1 : v.ty = 1
  · simp -implicitDefEqProofs [Va.av, t1]
    have hi : isN (v.a, v.b) = true := by
      unfold Va.ok at hvo; rw [if_pos t1] at hvo
      simp only [Bool.and_eq_true] at hvo
      exact hvo.1.1
    refine SC.frz (by simp) [cv v.a v.b] (by simp) (post := fun z => z = sv (txC v.a v.b)) (by simpa using rnumber_ap v.a v.b hv.a hv.b hi) (by simp) ?_ (a := .mk)
    rintro z rfl
    simp -implicitDefEqProofs [Va.tx, hvo, t1, hi]
  by_cases t2 : v.ty = 2
  · cases hbo : v.bo
    · simp -implicitDefEqProofs [Va.av, t1, t2, hbo, Va.tx, hvo]
      rfl
    · simp -implicitDefEqProofs [Va.av, t1, t2, hbo, Va.tx, hvo]
      rfl
  obtain ⟨t3, hall⟩ := okN hvo t1 t2
  simp -implicitDefEqProofs [Va.av, t1, t2]
  refine LP.go (RtI v) v.l.length ⟨0, by omega, by simp, by simp, by simp, .inl ⟨rfl, by simp⟩⟩ ?_
  unfold c_rtext_L0
  rintro g F H ⟨k, hk, f1, h0, f5, hst⟩
  by_cases hkl : (k : Int) < v.l.length
  · have hkl' : k < v.l.length := by omega
    obtain ⟨p, hp⟩ : ∃ p, v.l[k]? = some p := ⟨_, List.getElem?_eq_getElem hkl'⟩
    have hcp := cvs_at hp
    have hw : IntKind.i64.wrap ((k : Int) + 1) = ((k + 1 : Nat) : Int) := by rw [wrap64 _ (by omega)]; omega
    obtain ⟨h1, h2⟩ := hv.l p (List.mem_of_getElem? hp)
    have hip : isN p = true := List.all_eq_true.1 hall p (List.mem_of_getElem? hp)
    have hpos := txC_pos hip
    have hle := txC_len p.1 p.2
    have hnum := rnumber_ap (G := G) p.1 p.2 h1 h2 hip
    have hX : ∀ X : List Ob, (H ++ X)[0]? = some (.var [iv v.ty, cv v.a v.b, bv v.bo, .sl v.l.length (cvs v.l)]) := fun X => h0_app h0
    rcases hst with ⟨hk0, f4⟩ | ⟨hk0, r, hr0, f4, hr⟩
    · subst hk0
      have hb1 : (txC p.1 p.2).length ≤ 1073741824 := by omega
      simp -implicitDefEqProofs [f1, f4, f5, h0, hkl, hkl', hcp, -Int.natCast_add]
      refine SC.frz (by simp) [cv p.1 p.2] (by simp) (post := fun z => z = sv (txC p.1 p.2)) (by simpa using hnum) (by simp) ?_ (a := .mk)
      rintro z rfl
      simp -implicitDefEqProofs [f1, f4, f5, h0, hz, hsA, hpos, hb1, -Int.natCast_add]
      refine ⟨g - 1, by omega, 0 + 1, by omega, by simp [f1], hX _, by simp [wrap64 1 (by omega)], .inr ⟨by omega, H.length, by have := (List.getElem?_eq_some_iff.1 h0).1; omega, by simp, ?_⟩⟩
      rw [txs_snoc hp, List.getElem?_append_right (by simp)]
      simp [txs, Lib.join_one]
    · have hb0 := join_len (v.l.take k)
      have hb0' : (v.l.take k).length ≤ v.l.length := by simp; omega
      obtain ⟨o, ho⟩ : ∃ o, o = Lib.join (txs (v.l.take k)) [32] := ⟨_, rfl⟩
      rw [← ho] at hr hb0
      have hb1 : o.length + 1 ≤ 1073741824 := by omega
      have hb1' : o.length + 1 ≤ 140737488355328 := by omega
      have hb2 : o.length + 1 + (txC p.1 p.2).length ≤ 1073741824 := by omega
      have hrl : r < H.length := (List.getElem?_eq_some_iff.1 hr).1
      have hrX : ∀ X : List Ob, (H ++ X)[r]? = some (.own 5 1 o.length (o.map byA)) := fun X => by rw [List.getElem?_append_left hrl]; exact hr
      have h0X : ∀ X Y : List Ob, ((H ++ X).set r .gone ++ Y)[0]? = some (.var [iv v.ty, cv v.a v.b, bv v.bo, .sl v.l.length (cvs v.l)]) := fun X Y => by
        rw [List.getElem?_append_left (by simp; omega), List.getElem?_set_ne hr0]; exact hX X
      simp -implicitDefEqProofs [f1, f4, f5, h0, hkl, hcp, hk0, hrX, h0X, evP, fillA, splice, hb1, hb1', List.getElem?_cons_zero, List.getElem?_cons_succ, hkl', -Int.natCast_add, -getElem?_pos]
      refine SC.frz (by simp) [cv p.1 p.2] (by simp) (post := fun z => z = sv (txC p.1 p.2)) (by simpa using hnum) (by simp) ?_ (a := .mk)
      rintro z rfl
      simp -implicitDefEqProofs [f1, f4, f5, hz, hsA, hb2, hw, -Int.natCast_add]
      have hne : txs (v.l.take k) ≠ [] := by
        intro e
        have h3 : (txs (v.l.take k)).length = 0 := by rw [e]; rfl
        have h4 : (txs (v.l.take k)).length = k := by unfold txs; rw [List.length_map, List.length_take]; omega
        omega
      have hjn : Lib.join (txs (v.l.take (k + 1))) [32] = o ++ ([32] ++ txC p.1 p.2) := by rw [txs_snoc hp, join_snoc _ _ _ hne, ← ho]
      refine ⟨g - 1, by omega, k + 1, by omega, by simp [f1], ?_, by simp, .inr ⟨by omega, H.length + 2, by omega, by simp, ?_⟩⟩
      · exact h0X _ _
      · rw [hjn, List.getElem?_append_right (by simp)]
        simp [Nat.add_assoc, Nat.add_comm, byA]
  · obtain rfl : k = v.l.length := by omega
    have hjl := join_len v.l
    have htx : v.tx = [91] ++ Lib.join (txs v.l) [32] ++ [93] := by unfold Va.tx; rw [if_pos hvo, if_neg t1, if_neg t2]
    rcases hst with ⟨hk0, f4⟩ | ⟨hk0, r, hr0, f4, hr⟩
    · have hl0 : v.l = [] := List.eq_nil_of_length_eq_zero hk0
      simp -implicitDefEqProofs [f1, f4, f5, h0, hkl, bytesOf, ba_app]
      exact ⟨by simp [ByteArray.size], by simp [ByteArray.size], by rw [htx, hl0]; rfl⟩
    · rw [List.take_length] at hr
      simp -implicitDefEqProofs [f1, f4, f5, h0, hkl, hr, ba_app]
      exact ⟨by simp [ByteArray.size]; omega, by simp [ByteArray.size]; omega, by rw [htx]; rfl⟩
end Go.Proofs.YtbhkclkahblfnaaGreatDoor
/- Contracts of layer 9: the reference's Whole. -/
set_option linter.unusedVariables false
set_option linter.unusedSimpArgs false
namespace Go.Proofs.YtbhkclkahblfnaaGreatDoor
open Go.RowKit Flo Ab
def Va.whole (v u : Va) : Bool := if v.ty = 0 ∧ u.ty = 0 then cEq v.a v.b 0 0 && cEq u.a u.b 0 0 && !v.bo && !u.bo && v.l.isEmpty && u.l.isEmpty else v.same u
set_option maxHeartbeats 4000000 in
set_option maxRecDepth 100000 in
theorem rwhole_ap {G : World → Prop} (v u : Va) (hv : v.Wf) (hu : u.Wf) : AP Tryz.prog G 22 [v.av, u.av] (fun x => x = bv (v.whole u)) := by
  have c1 := rsame_ap (G := G) v u hv hu
  refine AP.go hmix F_rwhole (by simp) ?_
  unfold Va.whole
  by_cases t1 : v.ty = 0
  · by_cases t2 : u.ty = 0
    · rw [if_pos ⟨t1, t2⟩]
      cases h1 : cEq v.a v.b 0 0
      · simp -implicitDefEqProofs [c_rwhole, Va.av, t1, t2, h1]
      cases h2 : cEq u.a u.b 0 0
      · simp -implicitDefEqProofs [c_rwhole, Va.av, t1, t2, h1, h2]
      cases h3 : v.bo
      · cases h4 : u.bo
        · by_cases h5 : v.l = []
          · by_cases h6 : u.l = []
            · simp -implicitDefEqProofs [c_rwhole, Va.av, t1, t2, h1, h2, h3, h4, h5, h6]
            · have e6 : u.l.isEmpty = false := by simpa using h6
              simp -implicitDefEqProofs [c_rwhole, Va.av, t1, t2, h1, h2, h3, h4, h5, h6, e6]
          · have e5 : v.l.isEmpty = false := by simpa using h5
            simp -implicitDefEqProofs [c_rwhole, Va.av, t1, t2, h1, h2, h3, h4, h5, e5]
        · simp -implicitDefEqProofs [c_rwhole, Va.av, t1, t2, h1, h2, h3, h4]
      · simp -implicitDefEqProofs [c_rwhole, Va.av, t1, t2, h1, h2, h3]
    · rw [if_neg (fun h => t2 h.2)]
      simp -implicitDefEqProofs [c_rwhole, Va.av, t1, t2]
      refine SC.frz (by simp) [v.av, u.av] (by simp [Va.av, t1]) (post := fun x => x = bv (v.same u)) (by simpa [Va.av] using c1) (by simp [Va.av]) ?_ (a := .mk)
      rintro x rfl
      simp -implicitDefEqProofs [Va.av]
  · rw [if_neg (fun h => t1 h.1)]
    simp -implicitDefEqProofs [c_rwhole, Va.av, t1]
    refine SC.frz (by simp) [v.av, u.av] (by simp [Va.av]) (post := fun x => x = bv (v.same u)) (by simpa [Va.av] using c1) (by simp [Va.av]) ?_ (a := .mk)
    rintro x rfl
    simp -implicitDefEqProofs [Va.av]
end Go.Proofs.YtbhkclkahblfnaaGreatDoor
/- strings.Split at a blank, as a contract on abstract values. -/
set_option linter.unusedVariables false
set_option linter.unusedSimpArgs false
namespace Go.Proofs.YtbhkclkahblfnaaGreatDoor
open Go.RowKit Flo Ab
/-- the pieces between blanks (as the library's law has it) -/
def splitL (l : List UInt8) : List (List UInt8) := (Lib.splitB ⟨#[32]⟩ 0 (Lib.countB ⟨l.toArray⟩ ⟨#[32]⟩) ⟨l.toArray⟩).map (·.data.toList)
theorem split_ap (l : List UInt8) (hl : l.length ≤ 16777216) : AP Tryz.prog Gv 48 [sv l, sv [32]] (fun z => z = .sl (splitL l).length ((splitL l).map sv)) := by
  intro w0 w M vs hG hbl hM h
  obtain ⟨u, v, rfl, hr, hr'⟩ := vs2 h
  cases hr; cases hr'
  obtain ⟨m, hm⟩ := hG.tab
  have hm' : w.cell? ⟨1, 0, none⟩ = some (.int .i64 m) := (hbl.cell (p := ⟨1, 0, none⟩) hG.one).trans hm
  have hlen : (splitL l).length = Lib.countB ⟨l.toArray⟩ ⟨#[32]⟩ + 1 := by
    rw [splitL, List.length_map]
    exact Lib.splitB_all ⟨#[32]⟩ (by decide) 0 _ _ rfl
  refine (Tryz.strings_Split ⟨l.toArray⟩ ⟨[32].toArray⟩ m w (by simp [ByteArray.size]; omega) hm' (by decide)).mono ?_
  rintro e w' ⟨rfl, rfl⟩
  refine ⟨_, _, rfl, below_alloc _ _, ?_, rfl⟩
  rw [← hlen]
  have hxs : (Lib.splitB ⟨#[32]⟩ 0 (Lib.countB ⟨l.toArray⟩ ⟨#[32]⟩) ⟨l.toArray⟩).map Value.string = (splitL l).map fun x => Value.string ⟨x.toArray⟩ := by
    rw [splitL, List.map_map]
    exact List.map_congr_left fun x _ => rfl
  rw [hxs]
  refine .sl w.heap.size 0 _ _ _ ((splitL l).map fun x => Value.string ⟨x.toArray⟩) (by simp) (fun hm => absurd (hM _ hm) (by omega)) (by simp) (fun j u hu => ?_) (fun u hu => ?_) (fun j y u hy hu => ?_) (Nat.le_refl _)
  · rw [Nat.zero_add, cell_of_row _ _ _ _ _ (0, 0) (heap_alloc_new w _)]
    simpa using hu
  · obtain ⟨x, _, rfl⟩ := List.mem_map.1 hu; rfl
  · rw [List.getElem?_map, Option.map_eq_some_iff] at hy hu
    obtain ⟨a, ha, rfl⟩ := hy
    obtain ⟨b, hb, rfl⟩ := hu
    rw [ha] at hb; cases hb
    exact .v _ rfl
end Go.Proofs.YtbhkclkahblfnaaGreatDoor
/- Contracts of layer 9: value.Parse. -/
set_option linter.unusedVariables false
set_option linter.unusedSimpArgs false
namespace Go.Proofs.YtbhkclkahblfnaaGreatDoor
open Go.RowKit Flo Ab
def tru : List UInt8 := [116, 114, 117, 101]
def fals : List UInt8 := [102, 97, 108, 115, 101]
def wz : Option (Int × Int) → Nat × Nat
  | some (x, y) => (W x, W y)
  | none => (0, 0)
def vzero : Va := ⟨0, 0, 0, false, []⟩
/-- how value.Parse reads -/
def parseV (l : List UInt8) : Option Va :=
  if l = tru then some ⟨2, 0, 0, true, []⟩
  else if l = fals then some ⟨2, 0, 0, false, []⟩
  else if (Lib.hasPrefix l [91] && Lib.hasSuffix (Lib.trimPrefix l [91]) [93]) = true then
    (if Lib.trimSuffix (Lib.trimPrefix l [91]) [93] = [] then some ⟨3, 0, 0, false, []⟩
     else if (splitL (Lib.trimSuffix (Lib.trimPrefix l [91]) [93])).all (fun w => (refParse w).isSome) = true then some ⟨3, 0, 0, false, (splitL (Lib.trimSuffix (Lib.trimPrefix l [91]) [93])).map fun w => wz (refParse w)⟩ else none)
  else match refParse l with
    | some (x, y) => some ⟨1, W x, W y, false, []⟩
    | none => none
def pvA : Option Va → AV
  | some v => .tup [v.av, iv 0]
  | none => .tup [vzero.av, iv 11]
theorem trimP_len (l p : List UInt8) : (Lib.trimPrefix l p).length ≤ l.length := by unfold Lib.trimPrefix; split <;> simp
theorem trimS_len (l p : List UInt8) : (Lib.trimSuffix l p).length ≤ l.length := by unfold Lib.trimSuffix; split <;> simp
theorem arr_eq (l m : List UInt8) : ((⟨l.toArray⟩ : ByteArray).toList == (⟨m.toArray⟩ : ByteArray).toList) = decide (l = m) := by
  rw [Bool.eq_iff_iff]; simp
theorem splitB_le (sep : ByteArray) : ∀ (k : Nat) (s : ByteArray), ∀ x ∈ Lib.splitB sep 0 k s, x.size ≤ s.size
  | 0, s, x, hx => by rw [Lib.splitB_zero, List.mem_singleton] at hx; rw [hx]; exact Nat.le_refl _
  | k + 1, s, x, hx => by
    unfold Lib.splitB at hx
    split at hx
    · rw [List.mem_singleton] at hx; rw [hx]; exact Nat.le_refl _
    · rcases List.mem_cons.1 hx with rfl | hx
      · simp [ByteArray.size_extract]; omega
      · have := splitB_le sep k _ x hx
        simp only [ByteArray.size_extract] at this; omega
theorem piece_len (l : List UInt8) : ∀ w ∈ splitL l, w.length ≤ l.length := fun w hw => by
  unfold splitL at hw
  obtain ⟨x, hx, rfl⟩ := List.mem_map.1 hw
  have h := splitB_le _ _ _ x hx
  have hz : ({ data := l.toArray } : ByteArray).size = l.length := by simp [ByteArray.size]
  rw [hz] at h
  exact h
theorem pieces_len (l : List UInt8) : (splitL l).length ≤ l.length + 1 := by
  have h := Lib.splitB_all ⟨#[32]⟩ (by decide) 0 _ ⟨l.toArray⟩ rfl
  have h2 := Lib.countB_le ⟨#[32]⟩ (by decide) _ ⟨l.toArray⟩ (Nat.le_refl _)
  unfold splitL
  rw [List.length_map, h]
  have hz : ({ data := l.toArray } : ByteArray).size = l.length := by simp [ByteArray.size]
  rw [hz] at h2
  exact Nat.succ_le_succ h2
def PvI (ws : List (List UInt8)) (g : Nat) (F : Fr) (H : List Ob) : Prop := ∃ (k : Nat) (X : AV), k + g = ws.length ∧ F 2 = some (.ptr 0 0) ∧ F 9 = some (.ptr 1 0) ∧ F 54 = some (.sl ws.length (ws.map sv)) ∧ F 55 = some (iv ws.length) ∧ F 56 = some (iv k) ∧
  H[0]? = some (.var [iv 0, cv 0 0, bv false, .v (.slice none 0 0)]) ∧ H[1]? = some (.var [iv 3, cv 0 0, bv false, X]) ∧ (ws.take k).all (fun w => (refParse w).isSome) = true ∧
  ((k = 0 ∧ X = .v (.slice none 0 0)) ∨ ∃ r, 1 < r ∧ X = .row r ∧ H[r]? = some (.own 32 1 k (cvs ((ws.take k).map fun w => wz (refParse w)))))
theorem take_snoc {α : Type} {l : List α} {k : Nat} {x : α} (h : l[k]? = some x) : l.take (k + 1) = l.take k ++ [x] := by rw [List.take_add_one, h]; rfl
set_option maxHeartbeats 4000000 in
set_option maxRecDepth 100000 in
theorem vparse_ap (l : List UInt8) (hl : l.length ≤ 14000000) : AP Tryz.prog Gv 20 [sv l] (fun z => z = pvA (parseV l)) := by
  refine AP.go hmix F_vparse (by simp) ?_
  by_cases h1 : l = tru
  · subst h1
    simp -implicitDefEqProofs [c_vparse, parseV, pvA, Va.av, tru, fals, wrOb, splice, evP, fillA, cvs]
  by_cases h2 : l = fals
  · subst h2
    simp -implicitDefEqProofs [c_vparse, parseV, pvA, Va.av, tru, fals, wrOb, splice, evP, fillA, cvs]
  have h1' : (l == [116, 114, 117, 101]) = false := beq_eq_false_iff_ne.2 h1
  have h2' : (l == [102, 97, 108, 115, 101]) = false := beq_eq_false_iff_ne.2 h2
  have hp1 := trimP_len l [91]
  simp -implicitDefEqProofs [c_vparse, h1', h2']
  refine SC.frz (by simp) [sv l, sv [91]] (by simp) (post := fun z => z = .tup [sv (Lib.trimPrefix l [91]), bv (Lib.hasPrefix l [91])]) (by simpa using cutpre_ap l [91]) (by simp) ?_ (a := .mk)
  rintro z rfl
  simp -implicitDefEqProofs
  refine SC.frz (by simp) [sv (Lib.trimPrefix l [91]), sv [93]] (by simp) (post := fun z => z = .tup [sv (Lib.trimSuffix (Lib.trimPrefix l [91]) [93]), bv (Lib.hasSuffix (Lib.trimPrefix l [91]) [93])]) (by simpa using cutsuf_ap (Lib.trimPrefix l [91]) [93] (by omega)) (by simp) ?_ (a := .mk)
  rintro z rfl
  obtain ⟨b1, hb1⟩ : ∃ b, Lib.hasPrefix l [91] = b := ⟨_, rfl⟩
  obtain ⟨b2, hb2⟩ : ∃ b, Lib.hasSuffix (Lib.trimPrefix l [91]) [93] = b := ⟨_, rfl⟩
  obtain ⟨ins, hins⟩ : ∃ b, Lib.trimSuffix (Lib.trimPrefix l [91]) [93] = b := ⟨_, rfl⟩
  have hil : ins.length ≤ 14000000 := by have := trimS_len (Lib.trimPrefix l [91]) [93]; rw [hins] at this; omega
  unfold parseV
  rw [if_neg h1, if_neg h2, hb1, hb2, hins]
  have num : (b1 && b2) = false → True := fun _ => trivial
  cases hb : (b1 && b2)
  · have hbb : b1 = false ∨ (b1 = true ∧ b2 = false) := by cases b1 <;> cases b2 <;> simp_all
    have hg := gparse_ap l (by omega)
    rcases hbb with rfl | ⟨rfl, rfl⟩
    · simp -implicitDefEqProofs
      refine SC.frz (by simp) [sv l] (by simp) (post := fun z => z = pzA (refParse l)) (by simpa using hg) (by simp) ?_ (a := .mk)
      rintro z rfl
      cases hr : refParse l with
      | none => simp -implicitDefEqProofs [pzA, pvA, vzero, Va.av, wrOb, splice, evP, fillA, cvs]
      | some q => obtain ⟨x, y⟩ := q; simp -implicitDefEqProofs [pzA, pvA, vzero, Va.av, wrOb, splice, evP, fillA, cvs]
    · simp -implicitDefEqProofs
      refine SC.frz (by simp) [sv l] (by simp) (post := fun z => z = pzA (refParse l)) (by simpa using hg) (by simp) ?_ (a := .mk)
      rintro z rfl
      cases hr : refParse l with
      | none => simp -implicitDefEqProofs [pzA, pvA, vzero, Va.av, wrOb, splice, evP, fillA, cvs]
      | some q => obtain ⟨x, y⟩ := q; simp -implicitDefEqProofs [pzA, pvA, vzero, Va.av, wrOb, splice, evP, fillA, cvs]
  · obtain ⟨rfl, rfl⟩ : b1 = true ∧ b2 = true := by cases b1 <;> cases b2 <;> simp_all
    by_cases hi0 : ins = []
    · subst hi0
      simp -implicitDefEqProofs [pvA, Va.av, wrOb, splice, evP, fillA, cvs]
    · have hie : ins.isEmpty = false := by simpa using hi0
      simp -implicitDefEqProofs [hi0, hie, wrOb, splice, evP, fillA]
      refine SC.frz (by simp) [sv ins, sv [32]] (by simp) (post := fun z => z = .sl (splitL ins).length ((splitL ins).map sv)) (by simpa using split_ap ins (by omega)) (by simp) ?_ (a := .mk)
      rintro z rfl
      simp -implicitDefEqProofs
      obtain ⟨ws, hws⟩ : ∃ ws, splitL ins = ws := ⟨_, rfl⟩
      rw [hws]
      have hwl : ∀ w ∈ ws, w.length ≤ 16777216 := fun w hw => by have := piece_len ins w (by rw [hws]; exact hw); omega
      have hwn : ws.length ≤ 16777216 := by have := pieces_len ins; rw [hws] at this; omega
      refine LP.go (PvI ws) ws.length ⟨0, .v (.slice none 0 0), by omega, by simp, by simp, by simp, by simp, by simp, by simp, by simp, by simp, .inl ⟨rfl, rfl⟩⟩ ?_
      unfold c_vparse_L0
      rintro g F H ⟨k, X, hk, f2, f9, f54, f55, f56, h0, hh1, hall, hX⟩
      by_cases hkl : (k : Int) < ws.length
      · have hkl' : k < ws.length := by omega
        obtain ⟨w, hw0⟩ : ∃ w, ws[k]? = some w := ⟨_, List.getElem?_eq_getElem hkl'⟩
        have hcw : (ws.map sv)[k]? = some (sv w) := by rw [List.getElem?_map, hw0]; rfl
        have hw : IntKind.i64.wrap ((k : Int) + 1) = ((k + 1 : Nat) : Int) := by rw [wrap64 _ (by omega)]; omega
        have hg := gparse_ap w (hwl w (List.mem_of_getElem? hw0))
        simp -implicitDefEqProofs [f54, f55, f56, hkl, hkl', hcw, -Int.natCast_add, -getElem?_pos, -List.getElem?_map, List.getElem?_cons_zero, List.getElem?_cons_succ]
        refine SC.frz (by simp) [sv w] (by simp) (post := fun z => z = pzA (refParse w)) (by simpa using hg) (by simp) ?_ (a := .mk)
        rintro z rfl
        cases hr : refParse w with
        | none =>
          have hna : ws.all (fun w => (refParse w).isSome) = false := by
            rw [List.all_eq_false]; exact ⟨w, List.mem_of_getElem? hw0, by simp [hr]⟩
          have hl0 : 0 < H.length := (List.getElem?_eq_some_iff.1 h0).1
          simp -implicitDefEqProofs [pzA, f2, h0, evP, fillA, wrOb, splice, hna, pvA, vzero, Va.av, cvs, hi0, hl0, -getElem?_pos, List.getElem?_cons_zero, List.getElem?_cons_succ]
        | some q =>
          obtain ⟨x, y⟩ := q
          rcases hX with ⟨hk0, rfl⟩ | ⟨r, hr1, rfl, hrr⟩
          · subst hk0
            have hX1 : ∀ X : List Ob, (H ++ X)[1]? = some (.var [iv 3, cv 0 0, bv false, .v (.slice none 0 0)]) := fun X => by rw [List.getElem?_append_left (List.getElem?_eq_some_iff.1 hh1).1]; exact hh1
            simp -implicitDefEqProofs [pzA, f9, f56, hh1, hX1, evP, fillA, wrOb, splice, hw, -Int.natCast_add, -getElem?_pos, List.getElem?_cons_zero, List.getElem?_cons_succ]
            have hl1 : 1 < H.length := (List.getElem?_eq_some_iff.1 hh1).1
            refine ⟨g - 1, by omega, 0 + 1, .row (H.length + 1), by omega, by simp [f2], by simp [f9], by simp [f54], by simp [f55], by simp [wrap64 1 (by omega)], ?_, ?_, ?_, .inr ⟨H.length + 1, by omega, rfl, ?_⟩⟩
            · rw [List.getElem?_set_ne (by omega), List.getElem?_append_left (by omega)]; exact h0
            · rw [List.getElem?_set_self (by simp)]
            · rw [take_snoc hw0, List.all_append, hall]; simp [hr]
            · rw [List.getElem?_set_ne (by omega), List.getElem?_append_right (by omega), take_snoc hw0]; simp [cvs, hr, wz]
          · have hrl : r < H.length := (List.getElem?_eq_some_iff.1 hrr).1
            have hrX : ∀ X : List Ob, (H ++ X)[r]? = some (.own 32 1 k (cvs ((ws.take k).map fun w => wz (refParse w)))) := fun X => by rw [List.getElem?_append_left hrl]; exact hrr
            have h1X : ∀ X Y : List Ob, ((H ++ X).set r .gone ++ Y)[1]? = some (.var [iv 3, cv 0 0, bv false, .row r]) := fun X Y => by
              rw [List.getElem?_append_left (by simp; omega), List.getElem?_set_ne (by omega), List.getElem?_append_left (by omega)]; exact hh1
            have hb1 : (k + 1) * 16 ≤ 140737488355328 := by omega
            have hb2 : k + 1 ≤ 1073741824 := by omega
            have hb3 : k ≤ 1073741823 := by omega
            simp -implicitDefEqProofs [pzA, f9, f56, hh1, hrX, h1X, hb1, hb2, hb3, evP, fillA, wrOb, splice, hw, -Int.natCast_add, -getElem?_pos, List.getElem?_cons_zero, List.getElem?_cons_succ]
            refine ⟨g - 1, by omega, k + 1, .row (H.length + 1), by omega, by simp [f2], by simp [f9], by simp [f54], by simp [f55], by simp, ?_, ?_, ?_, .inr ⟨H.length + 1, by omega, rfl, ?_⟩⟩
            · rw [List.getElem?_set_ne (by omega), List.getElem?_append_left (by simp), List.getElem?_set_ne (by omega), List.getElem?_append_left (by omega)]; exact h0
            · rw [List.getElem?_set_self (by simp)]
            · rw [take_snoc hw0, List.all_append, hall]; simp [hr]
            · rw [List.getElem?_set_ne (by omega), List.getElem?_append_right (by simp), take_snoc hw0]; simp [cvs, hr, wz]
      · obtain rfl : k = ws.length := by omega
        rw [List.take_length] at hall hX
        have hl0 : 0 < H.length := (List.getElem?_eq_some_iff.1 h0).1
        rcases hX with ⟨hk0, rfl⟩ | ⟨r, hr1, rfl, hrr⟩
        · have hw0 : ws = [] := List.eq_nil_of_length_eq_zero hk0
          subst hw0
          simp -implicitDefEqProofs [f2, f9, f55, f56, h0, hh1, hl0, wrOb, splice, pvA, Va.av, hi0, cvs, -getElem?_pos, List.getElem?_cons_zero, List.getElem?_cons_succ]
        · have hr0 : (H.set 0 (.var [iv 3, cv 0 0, bv false, .row r]))[r]? = some (.own 32 1 ws.length (cvs (ws.map fun w => wz (refParse w)))) := by
            rw [List.getElem?_set_ne (by omega)]; exact hrr
          simp -implicitDefEqProofs [f2, f9, f55, f56, h0, hh1, hl0, wrOb, splice, pvA, Va.av, hi0, hall, hr0, -getElem?_pos, List.getElem?_cons_zero, List.getElem?_cons_succ]
end Go.Proofs.YtbhkclkahblfnaaGreatDoor
/- Contracts of layer 9: the reference's words. -/
set_option linter.unusedVariables false
set_option linter.unusedSimpArgs false
namespace Go.Proofs.YtbhkclkahblfnaaGreatDoor
open Go.RowKit Flo Ab
/-- the pieces between blanks that are not empty; cur: the piece under way -/
def wordsS : List UInt8 → List UInt8 → List (List UInt8)
  | [], cur => if cur = [] then [] else [cur]
  | b :: r, cur => if b = 32 then (if cur = [] then wordsS r [] else cur :: wordsS r []) else wordsS r (cur ++ [b])
def WdI (l : List UInt8) (g : Nat) (F : Fr) (H : List Ob) : Prop := ∃ (k fr : Nat) (out : List (List UInt8)), k + g = l.length + 1 ∧ fr ≤ k ∧ F 0 = some (sv l) ∧ F 5 = some (iv k) ∧ F 4 = some (iv fr) ∧
  ((k ≤ l.length ∧ out ++ wordsS (l.drop k) ((l.take k).drop fr) = wordsS l []) ∨ (k = l.length + 1 ∧ out = wordsS l [])) ∧
  ((out = [] ∧ F 3 = some (.v (.slice none 0 0))) ∨ ∃ r, F 3 = some (.row r) ∧ H[r]? = some (.own 9 1 out.length (out.map sv)))
theorem wordsS_len : ∀ (l cur : List UInt8), (wordsS l cur).length ≤ l.length + 1
  | [], cur => by unfold wordsS; split <;> simp
  | b :: r, cur => by
    unfold wordsS
    have h1 := wordsS_len r []
    have h2 := wordsS_len r (cur ++ [b])
    split
    · split
      · simp; omega
      · simp; omega
    · simp; omega
set_option maxHeartbeats 4000000 in
set_option maxRecDepth 100000 in
theorem rwords_ap {G : World → Prop} (l : List UInt8) (hl : l.length ≤ 14000000) : AP Tryz.prog G 51 [sv l] (fun z => z = .sl (wordsS l []).length ((wordsS l []).map sv)) := by
  refine AP.go hmix F_rwords (by simp) ?_
  have hz : ({ data := l.toArray } : ByteArray).size = l.length := by simp [ByteArray.size]
  simp -implicitDefEqProofs [c_rwords]
  refine LP.go (WdI l) (l.length + 1) ⟨0, 0, [], by omega, by omega, by simp, by simp, by simp, .inl ⟨by omega, by simp⟩, .inl ⟨rfl, by simp⟩⟩ ?_
  unfold c_rwords_L0
  rintro g F H ⟨k, fr, out, hk, hfk, f0, f5, f4, hw, hout⟩
  by_cases hkl : (k : Int) ≤ l.length
  · have hkl' : k ≤ l.length := by omega
    have hwr : IntKind.i64.wrap ((k : Int) + 1) = ((k + 1 : Nat) : Int) := by rw [wrap64 _ (by omega)]; omega
    rcases hw with ⟨_, hw⟩ | ⟨hk2, _⟩
    · by_cases hlt : (k : Int) < l.length
      · have hlt' : k < l.length := by omega
        obtain ⟨b, hb⟩ : ∃ b, l[k]? = some b := ⟨_, List.getElem?_eq_getElem hlt'⟩
        rw [drop_at hb, wordsS] at hw
        have hbb : ({ data := l.toArray } : ByteArray)[k]? = some b := by
          rw [getElem?_pos _ k (by show k < ByteArray.size _; rw [hz]; exact hlt')]
          obtain ⟨_, rfl⟩ := List.getElem?_eq_some_iff.1 hb
          rfl
        by_cases h32 : (b.toNat : Int) = 32
        · have hb32 : b = 32 := UInt8.toNat_inj.1 (by show b.toNat = 32; omega)
          rw [if_pos hb32] at hw
          by_cases hfk2 : fr < k
          · have hne : ¬ (l.take k).drop fr = [] := by
              intro e
              have := congrArg List.length e
              simp at this; omega
            rw [if_neg hne] at hw
            obtain ⟨cur, hcur⟩ : ∃ c, c = (l.take k).drop fr := ⟨_, rfl⟩
            have hex : ({ data := l.toArray } : ByteArray).extract fr k = ⟨cur.toArray⟩ := by
              refine ba_ext ?_
              rw [hcur]
              simp [List.drop_take]
            rw [← hcur] at hw
            have hb2 : (out.length + 1) * 16 ≤ 140737488355328 ∧ out.length + 1 ≤ 1073741824 := by
              have h1 := congrArg List.length hw
              have h2 := wordsS_len l []
              rw [List.length_append] at h1; omega
            rcases hout with ⟨h1, h2⟩ | ⟨r, h1, h2⟩
            · simp -implicitDefEqProofs [f0, f5, f4, h2, hz, hkl, hkl', hlt, hlt', hbb, byA, h32, hfk, hfk2, hex, hwr, evP, fillA, splice, -Int.natCast_add, -getElem?_pos, List.getElem?_cons_zero, List.getElem?_cons_succ]
              refine ⟨g - 1, by omega, k + 1, k + 1, [cur], by omega, by omega, by simp [f0], by simp, by simp, .inl ⟨by omega, ?_⟩, .inr ⟨H.length + 1, by simp, ?_⟩⟩
              · rw [← hw, h1]; simp
              · rw [List.getElem?_append_right (by simp)]; simp
            · have hrX : ∀ X : List Ob, (H ++ X)[r]? = some (.own 9 1 out.length (out.map sv)) := fun X => by rw [List.getElem?_append_left (List.getElem?_eq_some_iff.1 h2).1]; exact h2
              simp -implicitDefEqProofs [f0, f5, f4, h1, hrX, hb2.1, hb2.2, hz, hkl, hkl', hlt, hlt', hbb, byA, h32, hfk, hfk2, hex, hwr, evP, fillA, splice, -Int.natCast_add, -getElem?_pos, List.getElem?_cons_zero, List.getElem?_cons_succ]
              refine ⟨g - 1, by omega, k + 1, k + 1, out ++ [cur], by omega, by omega, by simp [f0], by simp, by simp, .inl ⟨by omega, ?_⟩, .inr ⟨H.length + 1, by simp, ?_⟩⟩
              · rw [← hw]; simp
              · rw [List.getElem?_append_right (by simp)]; simp
          · obtain rfl : fr = k := by omega
            rw [if_pos (by simp)] at hw
            simp -implicitDefEqProofs [f0, f5, f4, hz, hkl, hkl', hlt, hlt', hbb, byA, h32, hwr, -Int.natCast_add, -getElem?_pos, List.getElem?_cons_zero, List.getElem?_cons_succ]
            refine ⟨g - 1, by omega, fr + 1, fr + 1, out, by omega, by omega, by simp [f0], by simp, by simp, .inl ⟨by omega, by simpa using hw⟩, ?_⟩
            rcases hout with ⟨h1, h2⟩ | ⟨r, h1, h2⟩
            · exact .inl ⟨h1, by simp [h2]⟩
            · exact .inr ⟨r, by simp [h1], h2⟩
        · simp -implicitDefEqProofs [f0, f5, f4, hz, hkl, hkl', hlt, hlt', hbb, byA, h32, hwr, -Int.natCast_add, -getElem?_pos, List.getElem?_cons_zero, List.getElem?_cons_succ]
          have hb32 : ¬ b = 32 := fun e => h32 (by rw [e]; rfl)
          rw [if_neg hb32] at hw
          refine ⟨g - 1, by omega, k + 1, fr, out, by omega, by omega, by simp [f0], by simp, by simp [f4], .inl ⟨by omega, ?_⟩, ?_⟩
          · rw [take_snoc hb, List.drop_append_of_le_length (by simp; omega)]; exact hw
          · rcases hout with ⟨h1, h2⟩ | ⟨r, h1, h2⟩
            · exact .inl ⟨h1, by simp [h2]⟩
            · exact .inr ⟨r, by simp [h1], h2⟩
      · obtain rfl : k = l.length := by omega
        rw [List.drop_length, wordsS, List.take_length] at hw
        by_cases hfk2 : fr < l.length
        · have hne : ¬ l.drop fr = [] := by
            intro e
            have := congrArg List.length e
            simp at this; omega
          rw [if_neg hne] at hw
          obtain ⟨cur, hcur⟩ : ∃ c, c = l.drop fr := ⟨_, rfl⟩
          have hex : ({ data := l.toArray } : ByteArray).extract fr l.length = ⟨cur.toArray⟩ := by
            refine ba_ext ?_
            rw [hcur]
            simp [List.drop_take]
            exact List.take_of_length_le (by simp)
          rw [← hcur] at hw
          have hb2 : (out.length + 1) * 16 ≤ 140737488355328 ∧ out.length + 1 ≤ 1073741824 := by
            have h1 := congrArg List.length hw
            have h2 := wordsS_len l []
            rw [List.length_append] at h1; omega
          rcases hout with ⟨h1, h2⟩ | ⟨r, h1, h2⟩
          · simp -implicitDefEqProofs [f0, f5, f4, h2, hz, hkl, hkl', hlt, hfk, hfk2, hex, hwr, evP, fillA, splice, -Int.natCast_add, -getElem?_pos, List.getElem?_cons_zero, List.getElem?_cons_succ]
            refine ⟨g - 1, by omega, l.length + 1, l.length + 1, [cur], by omega, by omega, by simp [f0], by simp, by simp, .inr ⟨rfl, ?_⟩, .inr ⟨H.length + 1, by simp, ?_⟩⟩
            · rw [← hw, h1]; simp
            · rw [List.getElem?_append_right (by simp)]; simp
          · have hrX : ∀ X : List Ob, (H ++ X)[r]? = some (.own 9 1 out.length (out.map sv)) := fun X => by rw [List.getElem?_append_left (List.getElem?_eq_some_iff.1 h2).1]; exact h2
            simp -implicitDefEqProofs [f0, f5, f4, h1, hrX, hb2.1, hb2.2, hz, hkl, hkl', hlt, hfk, hfk2, hex, hwr, evP, fillA, splice, -Int.natCast_add, -getElem?_pos, List.getElem?_cons_zero, List.getElem?_cons_succ]
            refine ⟨g - 1, by omega, l.length + 1, l.length + 1, out ++ [cur], by omega, by omega, by simp [f0], by simp, by simp, .inr ⟨rfl, ?_⟩, .inr ⟨H.length + 1, by simp, ?_⟩⟩
            · rw [← hw]
            · rw [List.getElem?_append_right (by simp)]; simp
        · obtain rfl : fr = l.length := by omega
          rw [if_pos (by simp), List.append_nil] at hw
          simp -implicitDefEqProofs [f0, f5, f4, hz, hkl, hkl', hlt, hwr, -Int.natCast_add, -getElem?_pos, List.getElem?_cons_zero, List.getElem?_cons_succ]
          refine ⟨g - 1, by omega, l.length + 1, l.length + 1, out, by omega, by omega, by simp [f0], by simp, by simp, .inr ⟨rfl, hw⟩, ?_⟩
          rcases hout with ⟨h1, h2⟩ | ⟨r, h1, h2⟩
          · exact .inl ⟨h1, by simp [h2]⟩
          · exact .inr ⟨r, by simp [h1], h2⟩
    · omega
  · rcases hw with ⟨h, _⟩ | ⟨_, hw⟩
    · omega
    · rcases hout with ⟨h1, h2⟩ | ⟨r, h1, h2⟩
      · simp -implicitDefEqProofs [f0, f5, f4, h2, hz, hkl, ← hw, h1]
      · simp -implicitDefEqProofs [f0, f5, f4, h1, h2, hz, hkl, ← hw]
end Go.Proofs.YtbhkclkahblfnaaGreatDoor
