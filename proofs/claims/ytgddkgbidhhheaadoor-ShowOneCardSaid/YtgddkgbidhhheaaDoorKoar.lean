/- Texts joined: Prk Prl. -/
import Derived.Test.YtgddkgbidhhheaaDoorKoaq
/- The reference parser: a definition. -/
set_option linter.unusedVariables false
set_option linter.unusedSimpArgs false
set_option maxRecDepth 100000
namespace Go.Proofs.YtgddkgbidhhheaaDoor
open Go.RowKit Flo Ab Mk Pg
section
variable {G : World → Prop} {all : List M} {l : Lim} {b : Nat} {n : Int} {Q : Res → Prop}
theorem pmsA_len (ps : List Pm) : (pmsA ps).length = ps.length * 3 := by
  unfold pmsA
  induction ps with
  | nil => rfl
  | cons v vs ih => rw [List.flatMap_cons, List.length_append, ih]; simp; omega
def psR (ps : List Pm) (H : List Ob) (X : AV) : Prop := (ps = [] ∧ X = .v (.slice none 0 0)) ∨ ∃ r, 3 < r ∧ X = .row r ∧ ps ≠ [] ∧ H[r]? = some (.own 70 3 ps.length (pmsA ps))
def fCells (m : M) (X : AV) : List AV := [sv m.text, X, iv 0, iv 0, sv [], sv [], iv 0, cv 0 0, .v (.slice none 0 0), iv 0, iv m.pos]
def DefI (l : Lim) (all : List M) (b : Nat) (Q : Res → Prop) (m : M) (g : Nat) (F : Fr) (H : List Ob) : Prop :=
  ∃ (ps : List Pm) (a : Nat) (w p n' : Int) (X : AV), PsI l all b Q ps a w p n' ∧ ((w = 0 ∧ g = all.length - a) ∨ (w ≠ 0 ∧ g = 0)) ∧ F 0 = some (.ptr 0 0) ∧ F 4 = some (.ptr 1 0) ∧ F 6 = some (.ptr 3 0) ∧ H[0]? = some (.var (rdr all l a w p n')) ∧
    H[1]? = some (.var [sv [], .v (.slice none 0 0), iv 0, iv 0, sv [], sv [], iv 0, cv 0 0, .v (.slice none 0 0), iv 0, iv 0]) ∧ H[3]? = some (.var (fCells m X)) ∧ psR ps H X
def DefOut (l : Lim) (all : List M) (b : Nat) (k : Int) (x : AV) (cs : List AV) : Prop :=
  (∃ (vs : List Vl) (f : Pg.Fd) (a' : Nat), P l (.seq 0 (defIts l k) (all.drop b)) (.ok vs (all.drop a')) ∧ defEx vs = some f ∧ x = .agg (fdA f) ∧ b < a' ∧ a' < all.length ∧ cs = rdr all l a' 0 0 0) ∨ (∃ (w p : Int) (f : Pg.Fd) (a' : Nat) (n' : Int), P l (.seq 0 (defIts l k) (all.drop b)) (.bad w p) ∧ w ≠ 0 ∧ x = .agg (fdA f) ∧ a' < all.length ∧ cs = rdr all l a' w p n')
noncomputable def defA : ACode := match c_pdef with | .seq a _ => a | x => x
noncomputable def defB : ACode := match c_pdef with | .seq _ (.seq b _) => b | x => x
noncomputable def defRest : ACode := match c_pdef with | .seq _ (.seq _ r) => r | x => x
theorem pdef_split : c_pdef = .seq defA (.seq defB defRest) := rfl
noncomputable def dlA : ACode := match c_pdef_L0 with | .seq a _ => a | x => x
noncomputable def dlB : ACode := match c_pdef_L0 with | .seq _ (.block _ (.seq b _)) => b | x => x
noncomputable def dlC : ACode := match c_pdef_L0 with | .seq _ (.block _ (.seq _ (.seq c _))) => c | x => x
noncomputable def dlRest : ACode := match c_pdef_L0 with | .seq _ (.block _ (.seq _ (.seq _ r))) => r | x => x
theorem pdefL_split : c_pdef_L0 = .seq dlA (.block 1 (.seq dlB (.seq dlC dlRest))) := rfl
theorem pmsA_snoc (ps : List Pm) (p : Pm) : pmsA (ps ++ [p]) = pmsA ps ++ [sv p.name, iv p.ty, iv p.pos] := by unfold pmsA; rw [List.flatMap_append]; simp
/-- behind the count: a parameter is read and put to the others -/
theorem dl_rest (hm : Mks all) {m : M} {ps : List Pm} {a0 a : Nat} {w p n' : Int} {X' : AV} {F : Fr} {H : List Ob} {K : Exit → Fr → List Ob → Prop} (g : Nat)
    (hN : AM Tryd.prog G 51 [.ptr 0 0] (rdr all l a w p n') (fun x cs => ∃ m : M, x = .agg (mcells m) ∧ ∃ (a : Nat) (w p n' : Int), cs = rdr all l a w p n' ∧ Sq l all a0 0 (PmQ l Q ps) ([] ++ [.nm m]) [.ty] a w p n'))
    (hb : b < a0) (hp : ps.length ≤ a0) (ha0 : a0 < all.length) (hg : all.length - a0 ≤ g ∧ 0 < g) (f0 : F 0 = some (.ptr 0 0)) (f4 : F 4 = some (.ptr 1 0)) (f6 : F 6 = some (.ptr 3 0)) (hH0 : H[0]? = some (.var (rdr all l a w p n')))
    (hH1 : H[1]? = some (.var [sv [], .v (.slice none 0 0), iv 0, iv 0, sv [], sv [], iv 0, cv 0 0, .v (.slice none 0 0), iv 0, iv 0])) (hH3 : H[3]? = some (.var (fCells m X'))) (hR : psR ps H X')
    (hK : ∀ F' H', (∃ g', g' < g ∧ DefI l all b Q m g' F' H') → K .normal F' H') : aw Tryd.prog G 103 dlRest K F H := by
  have hlen := hm.len
  have hl0 : 0 < H.length := (List.getElem?_eq_some_iff.1 hH0).1
  have hl3 : 3 < H.length := (List.getElem?_eq_some_iff.1 hH3).1
  unfold fCells at hH3
  simp -implicitDefEqProofs [dlRest, c_pdef_L0, f0]
  refine SC.rd (by simp) [.ptr 0 0] (by simp) (all := all) (l := l) (a := a) (why := w) (wh := p) (n := n') (by simp -implicitDefEqProofs [hH0]) (hN) (by simp [toO]) ⟨0, by simp⟩ (by simp [lentO]) ?_ (tg := .mk)
  rintro x cs - ⟨mx, rfl, a1, w1, p1, n1, rfl, hS1⟩
  simp -implicitDefEqProofs [mcells, wrOb, splice, f0]
  refine SC.rd (by simp) [.ptr 0 0] (by simp) (all := all) (l := l) (a := a1) (why := w1) (wh := p1) (n := n1) (by simp -implicitDefEqProofs [hl0]) (typ_sq hm hS1) (by simp [toO]) ⟨0, by simp⟩ (by simp [lentO]) ?_ (tg := .mk)
  rintro x cs - ⟨t, rfl, a2, w2, p2, n2, rfl, hS2⟩
  obtain ⟨hP2, hlt2⟩ := PrI.end (by simpa using hS2) hb hp
  have gb : ∀ (X : List Ob) (o : Ob), ((H.set 0 o) ++ X)[0]? = some o := fun X o => by rw [List.getElem?_append_left (by simpa using hl0), List.getElem?_set_self hl0]
  have fin : ∀ g', g' = (if w2 = 0 then all.length - a2 else 0) → g' < g ∧ ((w2 = 0 ∧ g' = all.length - a2) ∨ (w2 ≠ 0 ∧ g' = 0)) := fun g' hg' => by
    subst hg'
    by_cases hw : w2 = 0
    · rw [if_pos hw]; have := hlt2 hw; exact ⟨by omega, .inl ⟨hw, rfl⟩⟩
    · rw [if_neg hw]; exact ⟨by omega, .inr ⟨hw, rfl⟩⟩
  have hss : ∀ (X : List Ob) (o o' : Ob), (H.set 0 o ++ X).set 0 o' = H.set 0 o' ++ X := fun X o o' => by rw [List.set_append_left _ _ (by simpa using hl0), List.set_set]
  have h3X : ∀ (X : List Ob) (o : Ob), (H.set 0 o ++ X)[3]? = some (.var [sv m.text, X', iv 0, iv 0, sv [], sv [], iv 0, cv 0 0, .v (.slice none 0 0), iv 0, iv m.pos]) := fun X o => by
    rw [List.getElem?_append_left (by simpa using hl3), List.getElem?_set_ne (by omega)]; exact hH3
  have h0X : ∀ (X : List Ob) (o : Ob), (H.set 0 o ++ X)[0]? = some o := gb
  have h1X : ∀ (X : List Ob) (o : Ob), (H.set 0 o ++ X)[1]? = some (.var [sv [], .v (.slice none 0 0), iv 0, iv 0, sv [], sv [], iv 0, cv 0 0, .v (.slice none 0 0), iv 0, iv 0]) := fun X o => by
    rw [List.getElem?_append_left (by simp; omega), List.getElem?_set_ne (by omega)]; exact hH1
  rcases hR with ⟨rfl, rfl⟩ | ⟨r, hr3, rfl, hne, hr⟩
  · simp -implicitDefEqProofs [wrOb, splice, f0, f6, hss, h3X, evP, fillA, -getElem?_pos, List.getElem?_cons_zero, List.getElem?_cons_succ]
    refine hK _ _ ⟨_, (fin _ rfl).1, [⟨mx.text, t, mx.pos⟩], a2, w2, p2, n2, .row (H.length + 2), hP2, (fin _ rfl).2, by simp [f0], by simp [f4], by simp [f6], ?_, ?_, ?_, .inr ⟨H.length + 2, by omega, rfl, by simp, ?_⟩⟩
    · rw [List.getElem?_set_ne (by omega)]; exact gb _ _
    · rw [List.getElem?_set_ne (by omega)]; exact h1X _ _
    · rw [List.getElem?_set_self (by simp; omega)]; rfl
    · rw [List.getElem?_set_ne (by omega), List.getElem?_append_right (by simp)]; simp [pmsA]
  · have hrl : r < H.length := (List.getElem?_eq_some_iff.1 hr).1
    have hrX : ∀ (X : List Ob) (o : Ob), (H.set 0 o ++ X)[r]? = some (.own 70 3 ps.length (pmsA ps)) := fun X o => by
      rw [List.getElem?_append_left (by simpa using hrl), List.getElem?_set_ne (by omega)]; exact hr
    have h3Y : ∀ (X Y : List Ob) (o : Ob), ((H.set 0 o ++ X).set r .gone ++ Y)[3]? = some (.var [sv m.text, .row r, iv 0, iv 0, sv [], sv [], iv 0, cv 0 0, .v (.slice none 0 0), iv 0, iv m.pos]) := fun X Y o => by
      rw [List.getElem?_append_left (by simp; omega), List.getElem?_set_ne (by omega)]; exact h3X X o
    have hb1 : (ps.length + 1) * 32 ≤ 140737488355328 := by omega
    have hb2 : ps.length + 1 ≤ 1073741824 := by omega
    have hb3 : ps.length ≤ 1073741823 := by omega
    simp -implicitDefEqProofs [wrOb, splice, f0, f6, hss, h3X, hrX, h3Y, hb1, hb2, hb3, evP, fillA, -getElem?_pos, List.getElem?_cons_zero, List.getElem?_cons_succ]
    refine hK _ _ ⟨_, (fin _ rfl).1, ps ++ [⟨mx.text, t, mx.pos⟩], a2, w2, p2, n2, .row (H.length + 2), hP2, (fin _ rfl).2, by simp [f0], by simp [f4], by simp [f6], ?_, ?_, ?_, .inr ⟨H.length + 2, by omega, rfl, by simp, ?_⟩⟩
    · rw [List.getElem?_set_ne (by omega), List.getElem?_append_left (by simp), List.getElem?_set_ne (by omega)]; exact gb _ _
    · rw [List.getElem?_set_ne (by omega), List.getElem?_append_left (by simp), List.getElem?_set_ne (by omega)]; exact h1X _ _
    · rw [List.getElem?_set_self (by simp; omega)]; rfl
    · rw [List.getElem?_set_ne (by omega), List.getElem?_append_right (by simp)]; simp [pmsA_snoc]
theorem dl_mid (hm : Mks all) {m : M} {ps : List Pm} {a0 a : Nat} {w p n' : Int} {X' : AV} {F : Fr} {H : List Ob} {K : Exit → Fr → List Ob → Prop} (g : Nat) (hP : PrI l all b Q ps a w p n') (hle : w = 0 → a0 ≤ a)
    (hb : b < a0) (hp : ps.length ≤ a0) (ha0 : a0 < all.length) (hg : all.length - a0 ≤ g ∧ 0 < g) (f0 : F 0 = some (.ptr 0 0)) (f4 : F 4 = some (.ptr 1 0)) (f6 : F 6 = some (.ptr 3 0)) (hH0 : H[0]? = some (.var (rdr all l a w p n')))
    (hH1 : H[1]? = some (.var [sv [], .v (.slice none 0 0), iv 0, iv 0, sv [], sv [], iv 0, cv 0 0, .v (.slice none 0 0), iv 0, iv 0])) (hH3 : H[3]? = some (.var (fCells m X'))) (hR : psR ps H X')
    (hK : ∀ F' H', (∃ g', g' < g ∧ DefI l all b Q m g' F' H') → K .normal F' H') : aw Tryd.prog G 103 dlC (thenA (aw Tryd.prog G 103 dlRest K) K) F H := by
  have hlen := hm.len
  have ha := hP.1
  obtain ⟨m2, h1⟩ : ∃ m, all[a]? = some m := ⟨_, List.getElem?_eq_getElem ha⟩
  by_cases hw : w = 0
  · subst hw
    have hr0 : (rdr all l a 0 p n')[2]? = some (iv 0) := rfl
    have hr1 : (rdr all l a 0 p n')[6]? = some (iv l.arity) := rfl
    have hle := hle rfl
    obtain ⟨_, ⟨_, rfl, rfl, hb1, hl1, hQ⟩ | ⟨hw, _⟩⟩ := hP
    · simp -implicitDefEqProofs [dlC, c_pdef_L0, f0, hH0, hr0]
      refine DC.go [.ptr 0 0] (.agg (mcells m2)) (by simp) (by simpa [hH0, rdr_deep] using rnext_ep a 0 0 0 h1) (by simp [hH0, rdr_deep]) (by simp [mcells]) ?_ (a := .mk)
      by_cases k0 : m2.kind = 0
      · have k0' : (m2.kind : Int) = 0 := by omega
        by_cases hbig : l.arity ≤ (ps.length : Int)
        · have hl0 : 0 < H.length := (List.getElem?_eq_some_iff.1 hH0).1
          have hf0 : (frzT H [.ptr 0 0, iv 22]).1 = H := by simp
          have s0 : ∀ o : Ob, (H.set 0 o)[0]? = some o := fun o => by rw [List.getElem?_set_self hl0]
          have hbad := name_sq (G := G) hm (cn_big (b := a0) (n' := 0) (Q := PmQ l Q ps) (vs := []) (its := [.ty]) h1 k0 hbig hQ [] [.nm, .ty])
          have hfail := rfail_ap (G := G) all l a 0 0 0 22 h1
          rw [if_pos rfl] at hfail
          unfold fCells at hH3
          rcases hR with ⟨rfl, rfl⟩ | ⟨r, hr3, rfl, hne, hr⟩
          · have hbig' : l.arity ≤ 0 := by simpa using hbig
            simp -implicitDefEqProofs [mcells, k0', f0, f6, hH0, hH3, hr1, hbig']
            refine SC.rd (by simp) [.ptr 0 0, iv 22] (by simp) (all := all) (l := l) (a := a) (why := 0) (wh := 0) (n := 0) (by simp -implicitDefEqProofs [hH0]) (hfail) (by simp [toO]) ⟨0, by simp⟩ (by simp [lentO]) ?_ (tg := .mk)
            rintro x cs - ⟨rfl, rfl⟩
            rw [hf0]
            simp -implicitDefEqProofs
            exact dl_rest hm g hbad hb hp ha0 hg (by simp [f0]) (by simp [f4]) (by simp [f6]) (s0 _) (by rw [List.getElem?_set_ne (by omega)]; exact hH1) (by rw [List.getElem?_set_ne (by omega)]; exact hH3) (.inl ⟨rfl, rfl⟩) hK
          · simp -implicitDefEqProofs [mcells, k0', f0, f6, hH0, hH3, hr, hr1, hbig]
            refine SC.rd (by simp) [.ptr 0 0, iv 22] (by simp) (all := all) (l := l) (a := a) (why := 0) (wh := 0) (n := 0) (by simp -implicitDefEqProofs [hH0]) (hfail) (by simp [toO]) ⟨0, by simp⟩ (by simp [lentO]) ?_ (tg := .mk)
            rintro x cs - ⟨rfl, rfl⟩
            rw [hf0]
            simp -implicitDefEqProofs
            exact dl_rest hm g hbad hb hp ha0 hg (by simp [f0]) (by simp [f4]) (by simp [f6]) (s0 _) (by rw [List.getElem?_set_ne (by omega)]; exact hH1) (by rw [List.getElem?_set_ne (by omega)]; exact hH3) (.inr ⟨r, hr3, rfl, hne, by rw [List.getElem?_set_ne (by omega)]; exact hr⟩) hK
        · have hgood := cn_good (G := G) hm h1 (vs := []) (its := [.ty]) (Q := PmQ l Q ps) (k := ps.length) (most := l.arity) (fun _ => by omega) hle hQ
          unfold fCells at hH3
          rcases hR with ⟨rfl, rfl⟩ | ⟨r, hr3, rfl, hne, hr⟩
          · have hbig' : ¬ l.arity ≤ 0 := by simpa using hbig
            have hbig'' : 0 < l.arity := by omega
            simp -implicitDefEqProofs [mcells, k0', f0, f6, hH0, hH3, hr1, hbig', hbig'']
            exact dl_rest hm g hgood hb hp ha0 hg (by simp [f0]) (by simp [f4]) (by simp [f6]) hH0 hH1 hH3 (.inl ⟨rfl, rfl⟩) hK
          · have hbig'' : (ps.length : Int) < l.arity := by omega
            simp -implicitDefEqProofs [mcells, k0', f0, f6, hH0, hH3, hr, hr1, hbig, hbig'']
            exact dl_rest hm g hgood hb hp ha0 hg (by simp [f0]) (by simp [f4]) (by simp [f6]) hH0 hH1 hH3 (.inr ⟨r, hr3, rfl, hne, hr⟩) hK
      · have k0' : ¬ (m2.kind : Int) = 0 := by omega
        simp -implicitDefEqProofs [mcells, k0, k0']
        exact dl_rest hm g (cn_good hm h1 (fun h => absurd h k0) hle hQ) hb hp ha0 hg (by simp [f0]) (by simp [f4]) (by simp [f6]) hH0 hH1 hH3 hR hK
    · exact absurd rfl hw
  · have hr0 : (rdr all l a w p n')[2]? = some (iv w) := rfl
    obtain ⟨_, ⟨hw', _⟩ | ⟨_, hQ⟩⟩ := hP
    · exact absurd hw' hw
    · simp -implicitDefEqProofs [dlC, c_pdef_L0, f0, hH0, hr0, hw]
      exact dl_rest hm g (name_sq hm ⟨ha, .inr ⟨hw, hQ⟩⟩) hb hp ha0 hg (by simp [f0]) (by simp [f4]) (by simp [f6]) hH0 hH1 hH3 hR hK
noncomputable def dEnd : ACode := match c_pdef with | .seq _ (.seq _ (.seq _ (.seq _ (.seq _ (.seq _ r))))) => r | x => x
noncomputable def dN1 : ACode := match c_pdef with | .seq _ (.seq _ (.seq x _)) => x | x => x
noncomputable def dN2 : ACode := match c_pdef with | .seq _ (.seq _ (.seq _ (.seq x _))) => x | x => x
noncomputable def dN3 : ACode := match c_pdef with | .seq _ (.seq _ (.seq _ (.seq _ (.seq x _)))) => x | x => x
theorem defRest_is : defRest = .seq dN1 (.seq dN2 (.seq dN3 (.seq (.block 0 (.loop c_pdef_L0)) dEnd))) := rfl
/-- behind the parameters -/
theorem d_end (hm : Mks all) {m : M} {k : Int} {ps : List Pm} {a : Nat} {w p n' : Int} {X : AV} {F : Fr} {H : List Ob}
    (hP : PsI l all b (PsQ l (P l (.seq 0 (defIts l k) (all.drop b))) [.nm m, .u] [.w sColon, .ty, .w sEq, .e, .w sSemi]) ps a w p n') (hc : w = 0 → ∃ m, all[a]? = some m ∧ isW m sClose = true)
    (f0 : F 0 = some (.ptr 0 0)) (f4 : F 4 = some (.ptr 1 0)) (f6 : F 6 = some (.ptr 3 0)) (hH0 : H[0]? = some (.var (rdr all l a w p n')))
    (hH1 : H[1]? = some (.var [sv [], .v (.slice none 0 0), iv 0, iv 0, sv [], sv [], iv 0, cv 0 0, .v (.slice none 0 0), iv 0, iv 0])) (hH3 : H[3]? = some (.var (fCells m X))) (hR : psR ps H X) :
    aw Tryd.prog G 103 dEnd (retQ [(.cell 4 true 11)] (finM (DefOut l all b k))) F H := by
  have hlen := hm.len
  have hX : HX G all l b := HX_all hm
  have hl0 : 0 < H.length := (List.getElem?_eq_some_iff.1 hH0).1
  have hl3 : 3 < H.length := (List.getElem?_eq_some_iff.1 hH3).1
  unfold fCells at hH3
  have g0 : ∀ o : Ob, (H.set 0 o)[0]? = some o := fun o => by rw [List.getElem?_set_self hl0]
  have g3 : ∀ o : Ob, (H.set 0 o)[3]? = H[3]? := fun o => by rw [List.getElem?_set_ne (by omega)]
  have c30 : ∀ (o o' c : Ob), ((H.set 0 o).set 3 c).set 0 o' = (H.set 0 o').set 3 c := fun o o' c => by rw [List.set_comm _ _ (by omega), List.set_set]
  have k0 : ∀ (o c : Ob), ((H.set 0 o).set 3 c)[0]? = some o := fun o c => by rw [List.getElem?_set_ne (by omega)]; exact g0 o
  have k3 : ∀ (o c : Ob), ((H.set 0 o).set 3 c)[3]? = some c := fun o c => by rw [List.getElem?_set_self (by simpa using hl3)]
  have k1 : ∀ (o c : Ob), ((H.set 0 o).set 3 c)[1]? = H[1]? := fun o c => by rw [List.getElem?_set_ne (by omega), List.getElem?_set_ne (by omega)]
  simp -implicitDefEqProofs [dEnd, c_pdef, f0]
  refine SC.rd (by simp) [.ptr 0 0, sv sClose] (by simp) (all := all) (l := l) (a := a) (why := w) (wh := p) (n := n') (by simp -implicitDefEqProofs [hH0]) (pars_close hm hP hc) (by simp [toO]) ⟨0, by simp⟩ (by simp [lentO]) ?_ (tg := .mk)
  rintro x cs - ⟨rfl, a1, w1, p1, n1, rfl, hS1⟩
  simp -implicitDefEqProofs [f0]
  refine SC.rd (by simp) [.ptr 0 0, sv sColon] (by simp) (all := all) (l := l) (a := a1) (why := w1) (wh := p1) (n := n1) (by simp -implicitDefEqProofs [g0]) (want_sq hm hS1) (by simp [toO]) ⟨0, by simp⟩ (by simp [lentO]) ?_ (tg := .mk)
  rintro x cs - ⟨rfl, a2, w2, p2, n2, rfl, hS2⟩
  simp -implicitDefEqProofs [f0]
  refine SC.rd (by simp) [.ptr 0 0] (by simp) (all := all) (l := l) (a := a2) (why := w2) (wh := p2) (n := n2) (by simp -implicitDefEqProofs [g0]) (typ_sq hm hS2) (by simp [toO]) ⟨0, by simp⟩ (by simp [lentO]) ?_ (tg := .mk)
  rintro x cs - ⟨t, rfl, a3, w3, p3, n3, rfl, hS3⟩
  simp -implicitDefEqProofs [f0, f6, g3, hH3, wrOb, splice]
  refine SC.rd (by simp) [.ptr 0 0, sv sEq] (by simp) (all := all) (l := l) (a := a3) (why := w3) (wh := p3) (n := n3) (by simp -implicitDefEqProofs [k0]) (want_sq hm hS3) (by simp [toO]) ⟨0, by simp⟩ (by simp [lentO]) ?_ (tg := .mk)
  rintro x cs - ⟨rfl, a4, w4, p4, n4, rfl, hS4⟩
  simp -implicitDefEqProofs [f0, c30]
  refine SC.rd (by simp) [.ptr 0 0] (by simp) (all := all) (l := l) (a := a4) (why := w4) (wh := p4) (n := n4) (by simp -implicitDefEqProofs [k0]) (expr_sq hm hX (by omega) hS4) (by simp [toO]) ⟨0, by simp⟩ (by simp [lentO]) ?_ (tg := .mk)
  rintro x cs - ⟨e, rfl, a5, w5, p5, n5, rfl, hS5⟩
  obtain ⟨o, nm, tl, ty, num, args, pos⟩ := e
  simp -implicitDefEqProofs [exA, Ex.cells, f0, f6, c30, k3, wrOb, splice]
  refine SC.rd (by simp) [.ptr 0 0, sv sSemi] (by simp) (all := all) (l := l) (a := a5) (why := w5) (wh := p5) (n := n5) (by simp -implicitDefEqProofs [k0]) (want_sq hm hS5) (by simp [toO]) ⟨0, by simp⟩ (by simp [lentO]) ?_ (tg := .mk)
  rintro x cs - ⟨rfl, a6, w6, p6, n6, rfl, hS6⟩
  have hfin : DefOut l all b k (.agg (fdA ⟨m.text, ps, t, .mk o nm tl ty num args pos, m.pos⟩)) (rdr all l a6 w6 p6 n6) := by
    rcases hS6.end with ⟨rfl, rfl, rfl, hb2, hl2, hP⟩ | ⟨hw2, hl2, hP⟩
    · exact .inl ⟨_, ⟨m.text, ps, t, .mk o nm tl ty num args pos, m.pos⟩, a6, hP, rfl, rfl, hb2, hl2, rfl⟩
    · exact .inr ⟨w6, p6, _, a6, n6, hP, hw2, rfl, hl2, rfl⟩
  simp only [fdA, Ex.cells] at hfin
  have q1 : ∀ (o c d : Ob), (((H.set 0 o).set 3 c).set 1 d)[1]? = some d := fun o c d => by rw [List.getElem?_set_self (by simp; omega)]
  have q0 : ∀ (o c d : Ob), (((H.set 0 o).set 3 c).set 1 d)[0]? = some o := fun o c d => by rw [List.getElem?_set_ne (by omega)]; exact k0 o c
  rcases hR with ⟨rfl, rfl⟩ | ⟨r, hr3, rfl, hne, hr⟩
  · simp -implicitDefEqProofs [f4, f6, c30, k3, k1, hH1, q1, q0, wrOb, splice, finM, rdr_deep]
    exact ⟨by simp [rdr], by simpa [pmsA] using hfin⟩
  · have qr : ∀ (o c d : Ob), (((H.set 0 o).set 3 c).set 1 d)[r]? = some (.own 70 3 ps.length (pmsA ps)) := fun o c d => by rw [List.getElem?_set_ne (by omega), List.getElem?_set_ne (by omega), List.getElem?_set_ne (by omega)]; exact hr
    have qr0 : ∀ (o c d e : Ob), ((((H.set 0 o).set 3 c).set 1 d).set r e)[0]? = some o := fun o c d e => by rw [List.getElem?_set_ne (by omega)]; exact q0 o c d
    simp -implicitDefEqProofs [f4, f6, c30, k3, k1, hH1, q1, q0, qr, qr0, wrOb, splice, finM, rdr_deep]
    exact ⟨by simp [rdr], by simpa using hfin⟩
theorem def_ok (hm : Mks all) (hb : b < all.length) (k : Nat) (hk : k ≤ 40000) : AM Tryd.prog G 39 [.ptr 0 0, iv k] (rdr all l b 0 0 0) (DefOut l all b k) := by
  have hlen := hm.len
  have hX : HX G all l b := HX_all hm
  obtain ⟨m, h0⟩ : ∃ m, all[b]? = some m := ⟨_, List.getElem?_eq_getElem hb⟩
  have hfail := rfail_ap (G := G) all l b 0 0 0 22 h0
  have hQ0 : ∀ r, P l (.seq 0 (.cn k l.funcs :: [.w sOpen, .ps, .w sColon, .ty, .w sEq, .e, .w sSemi]) (all.drop b)) r → P l (.seq 0 (defIts l k) (all.drop b)) (Res.pre [] r) := fun r hr => hr
  have rest : ∀ (F : Fr) (H : List Ob) (a : Nat) (w p n' : Int), F 0 = some (.ptr 0 0) → F 4 = some (.ptr 1 0) → H = [.var (rdr all l a w p n'), .var [sv [], .v (.slice none 0 0), iv 0, iv 0, sv [], sv [], iv 0, cv 0 0, .v (.slice none 0 0), iv 0, iv 0]] →
      AM Tryd.prog G 51 [.ptr 0 0] (rdr all l a w p n') (fun x cs => ∃ m : M, x = .agg (mcells m) ∧ ∃ (a : Nat) (w p n' : Int), cs = rdr all l a w p n' ∧ Sq l all b 0 (P l (.seq 0 (defIts l k) (all.drop b))) ([] ++ [.nm m]) [.w sOpen, .ps, .w sColon, .ty, .w sEq, .e, .w sSemi] a w p n') →
      aw Tryd.prog G 103 defRest (retQ [(.cell 4 true 11)] (finM (DefOut l all b k))) F H := by
    rintro F H a w p n' f0 f4 rfl hN
    rw [defRest_is]
    simp -implicitDefEqProofs [dN1, c_pdef, f0]
    refine SC.rd (by simp) [.ptr 0 0] (by simp) (all := all) (l := l) (a := a) (why := w) (wh := p) (n := n') (by simp) (hN) (by simp [toO]) ⟨0, by simp⟩ (by simp [lentO]) ?_ (tg := .mk)
    rintro x cs - ⟨mx, rfl, a1, w1, p1, n1, rfl, hS1⟩
    simp -implicitDefEqProofs [dN2, dN3, c_pdef, mcells, wrOb, splice, f0, evP, fillA]
    refine SC.rd (by simp) [.ptr 0 0, sv sOpen] (by simp) (all := all) (l := l) (a := a1) (why := w1) (wh := p1) (n := n1) (by simp) (want_sq hm hS1) (by simp [toO]) ⟨0, by simp⟩ (by simp [lentO]) ?_ (tg := .mk)
    rintro x cs - ⟨rfl, a2, w2, p2, n2, rfl, hS2⟩
    have hP2 := hS2.new_ps
    simp -implicitDefEqProofs [f0]
    refine LP.go (DefI l all b (PsQ l (P l (.seq 0 (defIts l k) (all.drop b))) [.nm mx, .u] [.w sColon, .ty, .w sEq, .e, .w sSemi]) mx) (if w2 = 0 then all.length - a2 else 0) ⟨[], a2, w2, p2, n2, .v (.slice none 0 0), hP2, ?_, by simp [f0], by simp [f4], by simp, by simp, by simp, by simp [fCells], .inl ⟨rfl, rfl⟩⟩ ?_
    · by_cases hw1 : w2 = 0
      · exact .inl ⟨hw1, by rw [if_pos hw1]⟩
      · exact .inr ⟨hw1, by rw [if_neg hw1]⟩
    clear hP2 hS1 hS2 hN f0 f4
    rw [pdefL_split]
    rintro g F H ⟨ps, a, w, p, n', X, hP, hg, f0, f4, f6, hH0, hH1, hH3, hR⟩
    have ha := hP.1
    obtain ⟨m2, h1⟩ : ∃ m, all[a]? = some m := ⟨_, List.getElem?_eq_getElem ha⟩
    by_cases hw : w = 0
    · subst hw
      have his := ris_ap (G := G) all l a 0 p n' sClose h1
      obtain ⟨q', hq'⟩ : ∃ q, isW m2 sClose = q := ⟨_, rfl⟩
      rw [hq'] at his
      have hr0 : (rdr all l a 0 p n')[2]? = some (iv 0) := rfl
      have hf0 : (frzT H [.ptr 0 0, sv sClose]).1 = H := by simp
      simp -implicitDefEqProofs [dlA, c_pdef_L0, f0, hH0, hr0]
      refine SC.rd (by simp) [.ptr 0 0, sv sClose] (by simp) (all := all) (l := l) (a := a) (why := 0) (wh := p) (n := n') (by simp -implicitDefEqProofs [hH0]) (his) (by simp [toO]) ⟨0, by simp⟩ (by simp [lentO]) ?_ (tg := .mk)
      rintro x cs - ⟨rfl, rfl⟩
      rw [hf0, set_same hH0]
      cases q'
      · have gsplit : PsI l all b (PsQ l (P l (.seq 0 (defIts l k) (all.drop b))) [.nm mx, .u] [.w sColon, .ty, .w sEq, .e, .w sSemi]) ps a 0 p n' := hP
        obtain ⟨q, hqq⟩ : ∃ Q' : Res → Prop, PsQ l (P l (.seq 0 (defIts l k) (all.drop b))) [.nm mx, .u] [.w sColon, .ty, .w sEq, .e, .w sSemi] = Q' := ⟨_, rfl⟩
        rw [hqq] at hP
        have hg' : g = all.length - a := by
          rcases hg with ⟨_, hg⟩ | ⟨h, _⟩
          · exact hg
          · exact absurd rfl h
        obtain ⟨_, ⟨_, rfl, rfl, hb1, hl1, _⟩ | ⟨hw, _⟩⟩ := id hP
        · have hl0 : 0 < H.length := (List.getElem?_eq_some_iff.1 hH0).1
          simp -implicitDefEqProofs [hqq]
          rcases hR with ⟨rfl, rfl⟩ | ⟨r, hr3, rfl, hne, hr⟩
          · have hH3' := hH3
            unfold fCells at hH3'
            simp -implicitDefEqProofs [dlB, c_pdef_L0, f6, hH3']
            exact dl_mid hm g (PrI.zero hP h1 hq') (fun _ => Nat.le_refl _) hb1 (by simp) ha (by omega) (by simp [f0]) (by simp [f4]) (by simp [f6]) hH0 hH1 hH3 (.inl ⟨rfl, rfl⟩) (fun F' H' h => by simp only [inBlockA, thenA_normal]; exact h)
          · have hul : 0 < ps.length := List.length_pos_iff.2 hne
            have hH3' := hH3
            unfold fCells at hH3'
            simp -implicitDefEqProofs [dlB, c_pdef_L0, f0, f6, hH3', hr, hul]
            refine SC.rd (by simp) [.ptr 0 0, sv sComma] (by simp) (all := all) (l := l) (a := a) (why := 0) (wh := 0) (n := 0) (by simp -implicitDefEqProofs [hH0]) (pars_comma hm hP hne h1 hq') (by simp [toO]) ⟨0, by simp⟩ (by simp [lentO]) ?_ (tg := .mk)
            rintro x cs - ⟨rfl, a3, w3, p3, n3, rfl, hP3, hlt⟩
            have hf1 : (frzT H [.ptr 0 0, sv sComma]).1 = H := by simp
            rw [hf1]
            simp -implicitDefEqProofs
            exact dl_mid hm g hP3 (fun h => by have := hlt h; omega) hb1 hl1 ha (by omega) (by simp [f0]) (by simp [f4]) (by simp [f6]) (by rw [List.getElem?_set_self hl0]) (by rw [List.getElem?_set_ne (by omega)]; exact hH1) (by rw [List.getElem?_set_ne (by omega)]; exact hH3) (.inr ⟨r, hr3, rfl, hne, by rw [List.getElem?_set_ne (by omega)]; exact hr⟩) (fun F' H' h => by simp only [inBlockA, thenA_normal]; exact h)
        · exact absurd rfl hw
      · simp -implicitDefEqProofs
        exact d_end hm hP (fun _ => ⟨m2, h1, hq'⟩) (by simp [f0]) (by simp [f4]) (by simp [f6]) hH0 hH1 hH3 hR
    · have hr0 : (rdr all l a w p n')[2]? = some (iv w) := rfl
      simp -implicitDefEqProofs [dlA, c_pdef_L0, f0, hH0, hr0, hw]
      exact d_end hm hP (fun h => absurd h hw) (by simp [f0]) (by simp [f4]) (by simp [f6]) hH0 hH1 hH3 hR
  refine AM.go hmix F_pdef (by simp) ?_
  rw [pdef_split]
  simp -implicitDefEqProofs [defA, defB, c_pdef]
  refine SC.rd (by simp) [.ptr 0 0] (by simp) (all := all) (l := l) (a := b) (why := 0) (wh := 0) (n := 0) (by simp) (rnext_ap all l b 0 0 0 h0) (by simp [toO]) ⟨0, by simp⟩ (by simp [lentO]) ?_ (tg := .mk)
  rintro x cs - ⟨rfl, rfl⟩
  by_cases k0 : m.kind = 0
  · have k0' : (m.kind : Int) = 0 := by omega
    by_cases hbig : l.funcs ≤ (k : Int)
    · rw [if_pos rfl] at hfail
      simp -implicitDefEqProofs [mcells, k0', hbig, rdr, wrOb, splice]
      refine SC.rd (by simp) [.ptr 0 0, iv 22] (by simp) (all := all) (l := l) (a := b) (why := 0) (wh := 0) (n := 0) (by simp -implicitDefEqProofs [rdr]) (hfail) (by simp [toO]) ⟨0, by simp⟩ (by simp [lentO]) ?_ (tg := .mk)
      rintro x cs - ⟨rfl, rfl⟩
      simp -implicitDefEqProofs
      exact rest _ _ b 22 m.pos 0 (by simp) (by simp) rfl (name_sq hm (cn_big (n' := 0) h0 k0 hbig hQ0 [] (.nm :: [.w sOpen, .ps, .w sColon, .ty, .w sEq, .e, .w sSemi])))
    · have hbig' : (k : Int) < l.funcs := by omega
      simp -implicitDefEqProofs [mcells, k0', hbig, rdr, wrOb, splice]
      exact rest _ _ b 0 0 0 (by simp) (by simp) rfl (cn_good hm h0 (fun _ => hbig') (Nat.le_refl _) hQ0)
  · have k0' : ¬ (m.kind : Int) = 0 := by omega
    simp -implicitDefEqProofs [mcells, k0, k0', rdr, wrOb, splice]
    exact rest _ _ b 0 0 0 (by simp) (by simp) rfl (cn_good hm h0 (fun h => absurd h k0) (Nat.le_refl _) hQ0)
end
end Go.Proofs.YtgddkgbidhhheaaDoor
/- The reference parser: a program. -/
set_option linter.unusedVariables false
set_option linter.unusedSimpArgs false
set_option maxRecDepth 100000
namespace Go.Proofs.YtgddkgbidhhheaaDoor
open Go.RowKit Flo Ab Mk Pg
section
variable {G : World → Prop} {all : List M} {l : Lim}
def fdsA (fs : List Pg.Fd) : List AV := fs.flatMap fdA
theorem cells_len (e : Ex) : e.cells.length = 7 := by obtain ⟨o, nm, tl, ty, num, args, pos⟩ := e; simp [Ex.cells]
theorem fdA_len (f : Pg.Fd) : (fdA f).length = 11 := by simp [fdA, cells_len]
theorem fdsA_len (fs : List Pg.Fd) : (fdsA fs).length = fs.length * 11 := by
  unfold fdsA
  induction fs with
  | nil => rfl
  | cons v vs ih => rw [List.flatMap_cons, List.length_append, ih, fdA_len]; simp; omega
theorem fdsA_snoc (fs : List Pg.Fd) (f : Pg.Fd) : fdsA (fs ++ [f]) = fdsA fs ++ fdA f := by unfold fdsA; rw [List.flatMap_append]; simp
/-- a program that is read in part -/
def PgI (l : Lim) (all : List M) (fs : List Pg.Fd) (a : Nat) (w p n' : Int) : Prop :=
  a < all.length ∧ ((w = 0 ∧ p = 0 ∧ n' = 0 ∧ fs.length ≤ a ∧ ∀ r, P l (.prog fs (all.drop a)) r → P l (.prog [] all) r) ∨ (w ≠ 0 ∧ P l (.prog [] all) (.bad w p)))
def fsR (fs : List Pg.Fd) (H : List Ob) (X : AV) : Prop := (fs = [] ∧ X = .v (.slice none 0 0)) ∨ ∃ r, 2 < r ∧ X = .row r ∧ fs ≠ [] ∧ H[r]? = some (.own 38 11 fs.length (fdsA fs))
def PrgL (l : Lim) (all : List M) (g : Nat) (F : Fr) (H : List Ob) : Prop :=
  ∃ (fs : List Pg.Fd) (a : Nat) (w p n' : Int) (X : AV), PgI l all fs a w p n' ∧ ((w = 0 ∧ g = all.length - a) ∨ (w ≠ 0 ∧ g = 0)) ∧ F 0 = some (.ptr 0 0) ∧ F 2 = some (.ptr 1 0) ∧ F 3 = some (.ptr 2 0) ∧ H[0]? = some (.var (rdr all l a w p n')) ∧
    H[1]? = some (.var [.v (.slice none 0 0)]) ∧ H[2]? = some (.var [X]) ∧ fsR fs H X
def PrgOut (l : Lim) (all : List M) (x : AV) (cs : List AV) : Prop :=
  (∃ (fs : List Pg.Fd) (a : Nat), P l (.prog [] all) (.ok [.fs fs] (all.drop a)) ∧ x = .agg [.sl fs.length (fdsA fs)] ∧ cs = rdr all l a 0 0 0) ∨ (∃ (w p : Int) (fs : List Pg.Fd) (a : Nat) (n' : Int), P l (.prog [] all) (.bad w p) ∧ w ≠ 0 ∧ x = .agg [.sl fs.length (fdsA fs)] ∧ cs = rdr all l a w p n')
theorem prg_step {fs : List Pg.Fd} {a : Nat} {m : M} (h0 : all[a]? = some m) (hl : fs.length ≤ a) (hP : ∀ r, P l (.prog fs (all.drop a)) r → P l (.prog [] all) r) (hg : m.kind ≠ 4 ∨ fs = []) {x : AV} {cs : List AV} (hO : DefOut l all a fs.length x cs) :
    ∃ (f : Pg.Fd) (a2 : Nat) (w2 p2 n2 : Int), x = .agg (fdA f) ∧ cs = rdr all l a2 w2 p2 n2 ∧ PgI l all (fs ++ [f]) a2 w2 p2 n2 ∧ (w2 = 0 → a < a2) := by
  rcases hO with ⟨vs, f, a', h1, h2, rfl, h4, h5, rfl⟩ | ⟨w, p, f, a', n', h1, h2, rfl, h4, rfl⟩
  · refine ⟨f, a', 0, 0, 0, rfl, rfl, ⟨h5, .inl ⟨rfl, rfl, rfl, by simp; omega, fun r hr => hP r ?_⟩⟩, fun _ => h4⟩
    rw [drop_at h0] at h1 ⊢
    exact .prog hg h1 h2 hr
  · refine ⟨f, a', w, p, n', rfl, rfl, ⟨h4, .inr ⟨h2, hP _ ?_⟩⟩, fun h => absurd h h2⟩
    rw [drop_at h0] at h1 ⊢
    exact .progBad hg h1
theorem prog_ok (hm : Mks all) (hb : 0 < all.length) : AM Tryd.prog G 26 [.ptr 0 0] (rdr all l 0 0 0 0) (PrgOut l all) := by
  have hlen := hm.len
  refine AM.go hmix F_pprog (by simp) ?_
  simp -implicitDefEqProofs [c_pprog]
  refine LP.go (PrgL l all) all.length ⟨[], 0, 0, 0, 0, .v (.slice none 0 0), ⟨hb, .inl ⟨rfl, rfl, rfl, by simp, fun r hr => hr⟩⟩, .inl ⟨rfl, by omega⟩, by simp, by simp, by simp, by simp, by simp, by simp, .inl ⟨rfl, rfl⟩⟩ ?_
  unfold c_pprog_L0
  rintro g F H ⟨fs, a, w, p, n', X, hP, hg, f0, f2, f3, hH0, hH1, hH2, hR⟩
  have ha := hP.1
  obtain ⟨m, h1⟩ : ∃ m, all[a]? = some m := ⟨_, List.getElem?_eq_getElem ha⟩
  have hl0 : 0 < H.length := (List.getElem?_eq_some_iff.1 hH0).1
  have hl2 : 2 < H.length := (List.getElem?_eq_some_iff.1 hH2).1
  have hr0 : (rdr all l a w p n')[2]? = some (iv w) := rfl
  have s0 : ∀ o : Ob, (H.set 0 o)[0]? = some o := fun o => by rw [List.getElem?_set_self hl0]
  have s1 : ∀ (X : List Ob) (o : Ob), (H.set 0 o ++ X)[1]? = some (.var [.v (.slice none 0 0)]) := fun X o => by
    rw [List.getElem?_append_left (by simp; omega), List.getElem?_set_ne (by omega)]; exact hH1
  have s2 : ∀ (X : List Ob) (o : Ob), (H.set 0 o ++ X)[2]? = H[2]? := fun X o => by
    rw [List.getElem?_append_left (by simp; omega), List.getElem?_set_ne (by omega)]
  have s00 : ∀ (X : List Ob) (o : Ob), (H.set 0 o ++ X)[0]? = some o := fun X o => by
    rw [List.getElem?_append_left (by simp; omega)]; exact s0 o
  by_cases hw : w = 0
  · subst hw
    have hg' : g = all.length - a := by
      rcases hg with ⟨_, hg⟩ | ⟨h, _⟩
      · exact hg
      · exact absurd rfl h
    obtain ⟨_, ⟨_, rfl, rfl, hl1, hQ⟩ | ⟨hw, _⟩⟩ := hP
    · have fin : ∀ (a2 : Nat) (w2 : Int), (w2 = 0 → a < a2) → (if w2 = 0 then all.length - a2 else 0) < g ∧ ((w2 = 0 ∧ (if w2 = 0 then all.length - a2 else 0) = all.length - a2) ∨ (w2 ≠ 0 ∧ (if w2 = 0 then all.length - a2 else 0) = 0)) := fun a2 w2 hlt => by
        by_cases hw : w2 = 0
        · rw [if_pos hw]; have := hlt hw; exact ⟨by omega, .inl ⟨hw, rfl⟩⟩
        · rw [if_neg hw]; exact ⟨by omega, .inr ⟨hw, rfl⟩⟩
      have hdef := def_ok (G := G) (l := l) hm ha fs.length (by omega)
      rcases hR with ⟨rfl, rfl⟩ | ⟨r, hr3, rfl, hne, hr⟩
      · simp -implicitDefEqProofs [f0, f3, hH0, hH2, hr0]
        refine SC.rd (by simp) [.ptr 0 0, iv 0] (by simp) (all := all) (l := l) (a := a) (why := 0) (wh := 0) (n := 0) (by simp -implicitDefEqProofs [hH0]) (hdef) (by simp [toO]) ⟨0, by simp⟩ (by simp [lentO]) ?_ (tg := .mk)
        rintro x cs - hO
        obtain ⟨f, a2, w2, p2, n2, rfl, rfl, hP2, hlt⟩ := prg_step h1 hl1 hQ (.inr rfl) hO
        have hf0 : (frzT H [.ptr 0 0, iv 0]).1 = H := by simp
        rw [hf0]
        obtain ⟨fn, fps, fty, ⟨o, nm, tl, ty, num, args, pos⟩, fpos⟩ := f
        simp -implicitDefEqProofs [fdA, Ex.cells, wrOb, splice, f3, s2, hH2, evP, fillA, -getElem?_pos, List.getElem?_cons_zero, List.getElem?_cons_succ]
        refine ⟨_, (fin a2 w2 hlt).1, [⟨fn, fps, fty, .mk o nm tl ty num args pos, fpos⟩], a2, w2, p2, n2, .row (H.length + 2), hP2, (fin a2 w2 hlt).2, by simp [f0], by simp [f2], by simp [f3], ?_, ?_, ?_, .inr ⟨H.length + 2, by omega, rfl, by simp, ?_⟩⟩
        · rw [List.getElem?_set_ne (by omega)]; exact s00 _ _
        · rw [List.getElem?_set_ne (by omega)]; exact s1 _ _
        · rw [List.getElem?_set_self (by simp)]
        · rw [List.getElem?_set_ne (by omega), List.getElem?_append_right (by simp)]; simp [fdsA, fdA, Ex.cells]
      · have hul : 0 < fs.length := List.length_pos_iff.2 hne
        have hul' : ¬ fs.length = 0 := by omega
        simp -implicitDefEqProofs [f0, f3, hH0, hH2, hr0, hr, hul', hne]
        refine SC.rd (by simp) [.ptr 0 0] (by simp) (all := all) (l := l) (a := a) (why := 0) (wh := 0) (n := 0) (by simp -implicitDefEqProofs [hH0]) (rnext_ap all l a 0 0 0 h1) (by simp [toO]) ⟨0, by simp⟩ (by simp [lentO]) ?_ (tg := .mk)
        rintro x cs - ⟨rfl, rfl⟩
        have hf0 : (frzT H [.ptr 0 0]).1 = H := by simp
        rw [hf0, set_same hH0]
        by_cases k4 : m.kind = 4
        · have k4' : (m.kind : Int) = 4 := by omega
          simp -implicitDefEqProofs [mcells, k4']
          have q1 : ∀ o : Ob, (H.set 1 o)[1]? = some o := fun o => by rw [List.getElem?_set_self (by omega)]
          have qr : ∀ o : Ob, (H.set 1 o)[r]? = some (.own 38 11 fs.length (fdsA fs)) := fun o => by rw [List.getElem?_set_ne (by omega)]; exact hr
          have q0r : ∀ o o' : Ob, ((H.set 1 o).set r o')[0]? = some (.var (rdr all l a 0 0 0)) := fun o o' => by rw [List.getElem?_set_ne (by omega), List.getElem?_set_ne (by omega)]; exact hH0
          simp -implicitDefEqProofs [f2, f3, hH1, hH2, q1, qr, q0r, wrOb, splice, finM, rdr_deep]
          refine ⟨by simp [rdr], .inl ⟨fs, a, hQ _ ?_, rfl, rfl⟩⟩
          rw [drop_at h1]
          exact .progEnd _ k4 hne
        · have k4' : ¬ (m.kind : Int) = 4 := by omega
          simp -implicitDefEqProofs [mcells, k4, k4', f0, f3, hH2, hr]
          refine SC.rd (by simp) [.ptr 0 0, iv fs.length] (by simp) (all := all) (l := l) (a := a) (why := 0) (wh := 0) (n := 0) (by simp -implicitDefEqProofs [hH0]) (hdef) (by simp [toO]) ⟨0, by simp⟩ (by simp [lentO]) ?_ (tg := .mk)
          rintro x cs - hO
          obtain ⟨f, a2, w2, p2, n2, rfl, rfl, hP2, hlt⟩ := prg_step h1 hl1 hQ (.inl k4) hO
          have hf1 : (frzT H [.ptr 0 0, iv fs.length]).1 = H := by simp
          rw [hf1]
          have hrl : r < H.length := (List.getElem?_eq_some_iff.1 hr).1
          have hrX : ∀ (X : List Ob) (o : Ob), (H.set 0 o ++ X)[r]? = some (.own 38 11 fs.length (fdsA fs)) := fun X o => by
            rw [List.getElem?_append_left (by simpa using hrl), List.getElem?_set_ne (by omega)]; exact hr
          have h2Y : ∀ (X Y : List Ob) (o : Ob), ((H.set 0 o ++ X).set r .gone ++ Y)[2]? = some (.var [.row r]) := fun X Y o => by
            rw [List.getElem?_append_left (by simp; omega), List.getElem?_set_ne (by omega), s2]; exact hH2
          have hb1 : (fs.length + 1) * 152 ≤ 140737488355328 := by omega
          have hb2 : fs.length + 1 ≤ 1073741824 := by omega
          have hb3 : fs.length ≤ 1073741823 := by omega
          obtain ⟨fn, fps, fty, ⟨o, nm, tl, ty, num, args, pos⟩, fpos⟩ := f
          simp -implicitDefEqProofs [fdA, Ex.cells, wrOb, splice, f3, s2, hH2, hrX, h2Y, hb1, hb2, hb3, evP, fillA, -getElem?_pos, List.getElem?_cons_zero, List.getElem?_cons_succ]
          refine ⟨_, (fin a2 w2 hlt).1, fs ++ [⟨fn, fps, fty, .mk o nm tl ty num args pos, fpos⟩], a2, w2, p2, n2, .row (H.length + 2), hP2, (fin a2 w2 hlt).2, by simp [f0], by simp [f2], by simp [f3], ?_, ?_, ?_, .inr ⟨H.length + 2, by omega, rfl, by simp, ?_⟩⟩
          · rw [List.getElem?_set_ne (by omega), List.getElem?_append_left (by simp), List.getElem?_set_ne (by omega)]; exact s00 _ _
          · rw [List.getElem?_set_ne (by omega), List.getElem?_append_left (by simp), List.getElem?_set_ne (by omega)]; exact s1 _ _
          · rw [List.getElem?_set_self (by simp)]
          · rw [List.getElem?_set_ne (by omega), List.getElem?_append_right (by simp)]; simp [fdsA_snoc, fdA, Ex.cells]
    · exact absurd rfl hw
  · obtain ⟨_, ⟨hw', _⟩ | ⟨_, hQ⟩⟩ := hP
    · exact absurd hw' hw
    · have q1 : ∀ o : Ob, (H.set 1 o)[1]? = some o := fun o => by rw [List.getElem?_set_self (by omega)]
      have q0 : ∀ o : Ob, (H.set 1 o)[0]? = some (.var (rdr all l a w p n')) := fun o => by rw [List.getElem?_set_ne (by omega)]; exact hH0
      rcases hR with ⟨rfl, rfl⟩ | ⟨r, hr3, rfl, hne, hr⟩
      · simp -implicitDefEqProofs [f0, f2, f3, hH0, hH1, hH2, hr0, hw, q1, q0, wrOb, splice, finM, rdr_deep]
        exact ⟨by simp [rdr], .inr ⟨w, p, [], a, n', hQ, hw, by simp [fdsA], rfl⟩⟩
      · have qr : ∀ o : Ob, (H.set 1 o)[r]? = some (.own 38 11 fs.length (fdsA fs)) := fun o => by rw [List.getElem?_set_ne (by omega)]; exact hr
        have q0r : ∀ o o' : Ob, ((H.set 1 o).set r o')[0]? = some (.var (rdr all l a w p n')) := fun o o' => by rw [List.getElem?_set_ne (by omega)]; exact q0 o
        simp -implicitDefEqProofs [f0, f2, f3, hH0, hH1, hH2, hr0, hw, q1, q0, qr, q0r, wrOb, splice, finM, rdr_deep]
        exact ⟨by simp [rdr], .inr ⟨w, p, fs, a, n', hQ, hw, rfl, rfl⟩⟩
end
end Go.Proofs.YtgddkgbidhhheaaDoor
