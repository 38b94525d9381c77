/- Layer 9: the statements' own values, turned into the api's. -/
import Derived.Test.YtbhkclkahblfnaaGreatDoorVb
set_option linter.unusedVariables false
set_option linter.unusedSimpArgs false
namespace Go.Proofs.YtbhkclkahblfnaaGreatDoor
open Go.RowKit Flo Ab
theorem numz_ap {G : World → Prop} (x y : Int) (raw : Bool) : AP Tryz.prog G 25 [.agg [iv x, iv y, bv raw]] (fun z => z = cv (zw raw x) (zw raw y)) := by
  intro w0 w M vs hG hbl hM h
  obtain ⟨u, rfl, hr⟩ := vs1 h
  have hu : u = .agg #[.int .i64 x, .int .i64 y, .bool raw] := by
    cases hr with
    | agg cs us hl h1 hr =>
      match us, hl with
      | [a, b, c], _ =>
        have e1 := hr 0 _ _ rfl rfl
        have e2 := hr 1 _ _ rfl rfl
        have e3 := hr 2 _ _ rfl rfl
        cases e1; cases e2; cases e3; rfl
  subst hu
  refine (z_any x y raw w).mono ?_
  rintro e w' ⟨rfl, hb'⟩
  exact ⟨_, _, rfl, hb', .v _ rfl, rfl⟩
/-- a number as the statements hand it in -/
structure Nx where
  x : Int
  y : Int
  raw : Bool
def Nx.cells (n : Nx) : List AV := [iv n.x, iv n.y, bv n.raw]
def Nx.num (n : Nx) : Nat × Nat := (zw n.raw n.x, zw n.raw n.y)
def nxA (l : List Nx) : List AV := l.flatMap Nx.cells
/-- a value as the statements hand it in -/
structure Vx where
  ty : Int
  n : Nx
  bo : Bool
  l : List Nx
def Vx.cells (v : Vx) : List AV := [iv v.ty, iv v.n.x, iv v.n.y, bv v.n.raw, bv v.bo, .sl v.l.length (nxA v.l)]
def Vx.av (v : Vx) : AV := .agg v.cells
def Vx.val (v : Vx) : Va := ⟨v.ty, v.n.num.1, v.n.num.2, v.bo, v.l.map Nx.num⟩
theorem nxA_len (l : List Nx) : (nxA l).length = l.length * 3 := by
  unfold nxA
  induction l with
  | nil => rfl
  | cons v vs ih => rw [List.flatMap_cons, List.length_append, ih]; simp [Nx.cells]; omega
theorem nxA_at : ∀ {vs : List Nx} {k : Nat} {v : Nx}, vs[k]? = some v → ((nxA vs).drop (k * 3)).take 3 = v.cells
  | [], k, v, h => by simp at h
  | u :: vs, 0, v, h => by cases h; simp [nxA, Nx.cells]
  | u :: vs, k + 1, v, h => by
    have := nxA_at (vs := vs) (k := k) (v := v) (by simpa using h)
    have e : nxA (u :: vs) = u.cells ++ nxA vs := rfl
    rw [e, show (k + 1) * 3 = u.cells.length + k * 3 by simp [Nx.cells]; omega, ← List.drop_drop, List.drop_left]
    exact this
def VxI (v : Vx) (g : Nat) (F : Fr) (H : List Ob) : Prop := ∃ (k : Nat) (X : AV), k + g = v.l.length ∧ F 1 = some (.ptr 0 0) ∧ F 2 = some (.ptr 1 0) ∧ F 3 = some (.ptr 2 0) ∧ F 4 = some (iv k) ∧ H[0]? = some (.var v.cells) ∧ H[1]? = some (.var vz) ∧ H[2]? = some (.var [iv v.ty, cv v.n.num.1 v.n.num.2, bv v.bo, X]) ∧
  ((k = 0 ∧ X = .v (.slice none 0 0)) ∨ ∃ r, 2 < r ∧ X = .row r ∧ H[r]? = some (.own 32 1 k (cvs ((v.l.take k).map Nx.num))))
set_option maxHeartbeats 16000000 in
set_option maxRecDepth 100000 in
theorem valv_ap {G : World → Prop} (v : Vx) (hn : v.l.length ≤ 16777216) : AP Tryz.prog G 14 [v.av] (fun z => z = v.val.av) := by
  refine AP.go hmix F_valv (by simp) ?_
  simp -implicitDefEqProofs [c_valv, Vx.av, Vx.cells]
  refine DC.go [.agg [iv v.n.x, iv v.n.y, bv v.n.raw]] (cv v.n.num.1 v.n.num.2) (by simp) (by simpa [Nx.num] using numz_ap v.n.x v.n.y v.n.raw) (by simp) (by simp) ?_ (a := .mk)
  simp -implicitDefEqProofs [wrOb, splice, evP, fillA]
  refine LP.go (VxI v) v.l.length ⟨0, .v (.slice none 0 0), by omega, by simp, by simp, by simp, by simp, by simp [Vx.cells], by simp [vz], by simp, .inl ⟨rfl, rfl⟩⟩ ?_
  unfold c_valv_L0
  rintro g F H ⟨k, X, hk, f1, f2, f3, f4, h0, h1, h2, hX⟩
  rw [Vx.cells] at h0
  by_cases hkl : (k : Int) < v.l.length
  · have hkl' : k < v.l.length := by omega
    obtain ⟨w, hw0⟩ : ∃ w, v.l[k]? = some w := ⟨_, List.getElem?_eq_getElem hkl'⟩
    have hat := nxA_at hw0
    have hvz : k * 3 + 3 ≤ (nxA v.l).length := by rw [nxA_len]; omega
    have hw : IntKind.i64.wrap ((k : Int) + 1) = ((k + 1 : Nat) : Int) := by rw [wrap64 _ (by omega)]; omega
    have hl0 : 0 < H.length := (List.getElem?_eq_some_iff.1 h0).1
    have hl1 : 1 < H.length := (List.getElem?_eq_some_iff.1 h1).1
    have hl2 : 2 < H.length := (List.getElem?_eq_some_iff.1 h2).1
    simp -implicitDefEqProofs [f1, f3, f4, h0, h2, hkl, hkl', hat, hvz, -Int.natCast_add, -getElem?_pos, List.getElem?_cons_zero, List.getElem?_cons_succ]
    refine DC.go [.agg w.cells] (cv w.num.1 w.num.2) (by simp) (by simpa [Nx.cells, Nx.num] using numz_ap w.x w.y w.raw) (by simp [Nx.cells]) (by simp [Nx.cells]) ?_ (a := .mk)
    rcases hX with ⟨hk0, rfl⟩ | ⟨r, hr1, rfl, hrr⟩
    · subst hk0
      have hX2 : ∀ Y : List Ob, (H ++ Y)[2]? = some (.var [iv v.ty, cv v.n.num.1 v.n.num.2, bv v.bo, .v (.slice none 0 0)]) := fun Y => app_at h2 Y
      simp -implicitDefEqProofs [f3, f4, hX2, evP, fillA, dz, wrOb, splice, hw, -Int.natCast_add, -getElem?_pos, List.getElem?_cons_zero, List.getElem?_cons_succ]
      refine ⟨g - 1, by omega, 0 + 1, .row H.length, by omega, by simp [f1], by simp [f2], by simp [f3], by simp [wrap64 1 (by omega)], ?_, ?_, ?_, .inr ⟨H.length, by omega, rfl, ?_⟩⟩
      · rw [List.getElem?_set_ne (by omega), Vx.cells]; exact app_at h0 _
      · rw [List.getElem?_set_ne (by omega)]; exact app_at h1 _
      · rw [List.getElem?_set_self (by simp; omega)]
      · rw [List.getElem?_set_ne (by omega), List.getElem?_append_right (by omega), take_snoc hw0]; simp [cvs]
    · have h2X : ∀ Y : List Ob, (H.set r .gone ++ Y)[2]? = some (.var [iv v.ty, cv v.n.num.1 v.n.num.2, bv v.bo, .row r]) := fun Y => by
        refine app_at ?_ Y
        rw [List.getElem?_set_ne (by omega)]; exact h2
      have hb1 : (k + 1) * 16 ≤ 140737488355328 := by omega
      have hb2 : k + 1 ≤ 1073741824 := by omega
      have hb3 : k ≤ 1073741823 := by omega
      simp -implicitDefEqProofs [f3, f4, hrr, h2X, hb1, hb2, hb3, evP, fillA, dz, wrOb, splice, hw, -Int.natCast_add, -getElem?_pos, List.getElem?_cons_zero, List.getElem?_cons_succ]
      refine ⟨g - 1, by omega, k + 1, .row H.length, by omega, by simp [f1], by simp [f2], by simp [f3], by simp, ?_, ?_, ?_, .inr ⟨H.length, by omega, rfl, ?_⟩⟩
      · rw [List.getElem?_set_ne (by omega), Vx.cells]; refine app_at ?_ _; rw [List.getElem?_set_ne (by omega)]; exact h0
      · rw [List.getElem?_set_ne (by omega)]; refine app_at ?_ _; rw [List.getElem?_set_ne (by omega)]; exact h1
      · rw [List.getElem?_set_self (by simp; omega)]
      · rw [List.getElem?_set_ne (by omega), List.getElem?_append_right (by simp), take_snoc hw0]; simp [cvs]
  · obtain rfl : k = v.l.length := by omega
    rw [List.take_length] at hX
    have hl1 : 1 < H.length := (List.getElem?_eq_some_iff.1 h1).1
    rcases hX with ⟨hk0, rfl⟩ | ⟨r, hr1, rfl, hrr⟩
    · have hw0 : v.l = [] := List.eq_nil_of_length_eq_zero hk0
      simp -implicitDefEqProofs [f1, f2, f3, f4, h0, h1, h2, hl1, vz, wrOb, splice, Va.av, Vx.val, hw0, cvs, -getElem?_pos, List.getElem?_cons_zero, List.getElem?_cons_succ]
    · have hr0 : ∀ o, (H.set 1 o)[r]? = some (.own 32 1 v.l.length (cvs (v.l.map Nx.num))) := fun o => by
        rw [List.getElem?_set_ne (by omega)]; exact hrr
      simp -implicitDefEqProofs [f1, f2, f3, f4, h0, h1, h2, hl1, vz, wrOb, splice, Va.av, Vx.val, hr0, -getElem?_pos, List.getElem?_cons_zero, List.getElem?_cons_succ]
end Go.Proofs.YtbhkclkahblfnaaGreatDoor
