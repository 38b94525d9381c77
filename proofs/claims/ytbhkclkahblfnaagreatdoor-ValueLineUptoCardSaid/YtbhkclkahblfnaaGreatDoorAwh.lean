/- The statement ValueLine as a contract. -/
import Derived.Test.YtbhkclkahblfnaaGreatDoorAwg
set_option linter.unusedVariables false
set_option linter.unusedSimpArgs false
namespace Go.Proofs.YtbhkclkahblfnaaGreatDoor
open Go.RowKit Flo Ab
def vxA (l : List Vx) : List AV := l.flatMap Vx.cells
theorem vxA_len (l : List Vx) : (vxA l).length = l.length * 6 := by
  unfold vxA
  induction l with
  | nil => rfl
  | cons v vs ih => rw [List.flatMap_cons, List.length_append, ih]; simp [Vx.cells]; omega
theorem vxA_at : ∀ {vs : List Vx} {k : Nat} {v : Vx}, vs[k]? = some v → ((vxA vs).drop (k * 6)).take 6 = v.cells
  | [], k, v, h => by simp at h
  | u :: vs, 0, v, h => by cases h; simp [vxA, Vx.cells]
  | u :: vs, k + 1, v, h => by
    have := vxA_at (vs := vs) (k := k) (v := v) (by simpa using h)
    have e : vxA (u :: vs) = u.cells ++ vxA vs := rfl
    rw [e, show (k + 1) * 6 = u.cells.length + k * 6 by simp [Vx.cells]; omega, ← List.drop_drop, List.drop_left]
    exact this
def LineI (line : List UInt8) (X : AV) (H : List Ob) : Prop := (line = [] ∧ X = .v (.slice none 0 0)) ∨ ∃ r, X = .row r ∧ H[r]? = some (.own 5 1 line.length (line.map byA))
theorem OutI.keep {out : List Va} {Y : AV} {H H' : List Ob} (h : OutI out Y H) (hk : ∀ r : Nat, H[r]? = some (Ob.own 35 4 out.length (vsA out)) → H'[r]? = some (Ob.own 35 4 out.length (vsA out))) : OutI out Y H' := by
  rcases h with h | ⟨r, h1, h2⟩
  · exact .inl h
  · exact .inr ⟨r, h1, hk r h2⟩
theorem LineI.keep {line : List UInt8} {X : AV} {H H' : List Ob} (h : LineI line X H) (hk : ∀ r : Nat, H[r]? = some (Ob.own 5 1 line.length (line.map byA)) → H'[r]? = some (Ob.own 5 1 line.length (line.map byA))) : LineI line X H' := by
  rcases h with h | ⟨r, h1, h2⟩
  · exact .inl h
  · exact .inr ⟨r, h1, hk r h2⟩
def LnJ (gaps : List UInt8) (l : List Vx) (i n : Nat) (tx line : List UInt8) (want : List Va) (g : Nat) (F : Fr) (H : List Ob) : Prop := ∃ (k : Nat) (X Y : AV), k + g = n ∧ F 0 = some (.sl l.length (vxA l)) ∧ F 1 = some (.sl gaps.length (gaps.map byA)) ∧ F 7 = some (iv i) ∧ F 8 = some (sv tx) ∧ F 10 = some (iv n) ∧ F 11 = some (iv k) ∧
  F 5 = some X ∧ F 6 = some Y ∧ LineI (line ++ List.replicate k 32) X H ∧ OutI want Y H
set_option maxHeartbeats 8000000 in
set_option maxRecDepth 100000 in
theorem lline_in {G : World → Prop} (gaps : List UInt8) (l : List Vx) (i n : Nat) (tx line : List UInt8) (want : List Va) (hb : line.length + n ≤ 14000000) (Q : Exit → Fr → List Ob → Prop)
    (hQ : ∀ (F : Fr) (H : List Ob) (X Y : AV), F 0 = some (.sl l.length (vxA l)) → F 1 = some (.sl gaps.length (gaps.map byA)) → F 7 = some (iv i) → F 8 = some (sv tx) → F 5 = some X → F 6 = some Y → LineI (line ++ List.replicate n 32) X H → OutI want Y H → Q (.exit 2) F H) :
    ∀ (g : Nat) (F : Fr) (H : List Ob), LnJ gaps l i n tx line want g F H → aw Tryz.prog G 96 c_lline_L0 (thenA (fun F' H' => ∃ m, m < g ∧ LnJ gaps l i n tx line want m F' H') Q) F H := by
  unfold c_lline_L0
  rintro g F H ⟨k, X, Y, hk, f0, f1, f7, f8, f10, f11, f5, f6, hX, hY⟩
  by_cases hkn : (k : Int) < n
  · have hw : IntKind.i64.wrap ((k : Int) + 1) = ((k + 1 : Nat) : Int) := by rw [wrap64 _ (by omega)]; omega
    have hrep : line ++ List.replicate (k + 1) (32 : UInt8) = (line ++ List.replicate k 32) ++ [32] := by rw [List.replicate_succ']; simp
    rcases hX with ⟨h1, rfl⟩ | ⟨r, rfl, hr⟩
    · simp -implicitDefEqProofs [f5, f10, f11, hkn, hw, evP, fillA, splice, -Int.natCast_add]
      refine ⟨g - 1, by omega, k + 1, .row (H.length + 1), Y, by omega, by simp [f0], by simp [f1], by simp [f7], by simp [f8], by simp [f10], by simp, by simp, by simp [f6], .inr ⟨_, rfl, ?_⟩, hY.keep fun r hr => ?_⟩
      · rw [hrep, h1, List.getElem?_append_right (by simp)]; simp [byA]
      · exact app_at hr _
    · have hrX : ∀ Y : List Ob, (H ++ Y)[r]? = some (.own 5 1 (line ++ List.replicate k 32).length ((line ++ List.replicate k 32).map byA)) := fun Y => app_at hr Y
      obtain ⟨o, ho⟩ : ∃ o, o = line ++ List.replicate k (32 : UInt8) := ⟨_, rfl⟩
      have hol : o.length = line.length + k := by rw [ho]; simp
      rw [← ho] at hrX hr hrep
      have hb1 : o.length ≤ 140737488355327 := by omega
      have hb2 : o.length ≤ 1073741823 := by omega
      simp -implicitDefEqProofs [f5, f10, f11, hkn, hw, hrX, hb1, hb2, evP, fillA, splice, -Int.natCast_add, -getElem?_pos, List.getElem?_cons_zero, List.getElem?_cons_succ]
      refine ⟨g - 1, by omega, k + 1, .row (H.length + 1), Y, by omega, by simp [f0], by simp [f1], by simp [f7], by simp [f8], by simp [f10], by simp, by simp, by simp [f6], .inr ⟨_, rfl, ?_⟩, hY.keep fun q hq => ?_⟩
      · rw [hrep, List.getElem?_append_right (by simp)]; simp [byA]
      · have hne : q ≠ r := fun e => by
          rw [e, hr] at hq
          have := Option.some.inj hq
          injection this with e1
          exact absurd e1 (by decide)
        refine app_at ?_ _
        rw [List.getElem?_set_ne (Ne.symm hne)]; exact app_at hq _
  · obtain rfl : k = n := by omega
    simp -implicitDefEqProofs [f10, f11]
    exact hQ _ _ X Y (by simp [f0]) (by simp [f1]) (by simp [f7]) (by simp [f8]) (by simp [f5]) (by simp [f6]) hX hY
def LnI (gaps : List UInt8) (l : List Vx) (g : Nat) (F : Fr) (H : List Ob) : Prop := ∃ (i : Nat) (D : List (Nat × Va)) (X Y : AV), i + g = l.length ∧ F 0 = some (.sl l.length (vxA l)) ∧ F 1 = some (.sl gaps.length (gaps.map byA)) ∧ F 7 = some (iv i) ∧ F 5 = some X ∧ F 6 = some Y ∧
  LineI (lnB D) X H ∧ OutI (D.map (·.2)) Y H ∧ D ++ lnS gaps i (l.drop i) = lnS gaps 0 l
theorem lnB_app (a b : List (Nat × Va)) : lnB (a ++ b) = lnB a ++ lnB b := by simp [lnB]
theorem lnS_len (gaps : List UInt8) : ∀ (i : Nat) (l : List Vx), (lnS gaps i l).length ≤ l.length
  | _, [] => by simp [lnS]
  | i, a :: r => by
    have := lnS_len gaps (i + 1) r
    unfold lnS
    split
    · simp; omega
    · simp; omega
theorem lnS_at (gaps : List UInt8) {l : List Vx} {i : Nat} {a : Vx} (h : l[i]? = some a) : lnS gaps i (l.drop i) = if a.val.ok = true then (gapN gaps i, a.val) :: lnS gaps (i + 1) (l.drop (i + 1)) else lnS gaps (i + 1) (l.drop (i + 1)) := by
  rw [drop_at h]; rfl
def LnK (vs : List Va) (g : Nat) (F : Fr) (H : List Ob) : Prop := ∃ (k : Nat) (Y : AV), k + g = vs.length ∧ F 12 = some (.sl vs.length (vsA vs)) ∧ F 6 = some Y ∧ F 14 = some (iv k) ∧ OutI vs Y H
theorem lnS_wf (gaps : List UInt8) : ∀ (i : Nat) (l : List Vx), (∀ a ∈ l, a.l.length ≤ 16777216) → ∀ p ∈ lnS gaps i l, p.2.Wf
  | _, [], _, p, h => by simp [lnS] at h
  | i, a :: r, hl, p, h => by
    unfold lnS at h
    split at h
    · rcases List.mem_cons.1 h with rfl | h
      · exact Vx.wf (hl a (by simp))
      · exact lnS_wf gaps _ r (fun a ha => hl a (by simp [ha])) p h
    · exact lnS_wf gaps _ r (fun a ha => hl a (by simp [ha])) p h
set_option maxHeartbeats 8000000 in
set_option maxRecDepth 100000 in
theorem lline_cmp {G : World → Prop} (vs : List Va) (hn : vs.length ≤ 16777216) (hok : ∀ v ∈ vs, v.ok = true) (hwf : ∀ v ∈ vs, v.Wf) (Q : Exit → Fr → List Ob → Prop) (hQ : ∀ F H, Q (.exit 4) F H) :
    ∀ (g : Nat) (F : Fr) (H : List Ob), LnK vs g F H → aw Tryz.prog G 96 c_lline_L2 (thenA (fun F' H' => ∃ m, m < g ∧ LnK vs m F' H') Q) F H := by
  unfold c_lline_L2
  rintro g F H ⟨k, Y, hk, f12, f6, f14, hY⟩
  by_cases hkl : (k : Int) < vs.length
  · have hkl' : k < vs.length := by omega
    obtain ⟨u, hu⟩ : ∃ u, vs[k]? = some u := ⟨_, List.getElem?_eq_getElem hkl'⟩
    have hat := vsA_at hu
    have hvz : k * 4 + 4 ≤ (vsA vs).length := by rw [vsA_len]; omega
    have hw : IntKind.i64.wrap ((k : Int) + 1) = ((k + 1 : Nat) : Int) := by rw [wrap64 _ (by omega)]; omega
    have o1 := hok u (List.mem_of_getElem? hu)
    have o2 := hwf u (List.mem_of_getElem? hu)
    have hs := vsame_ap (G := G) u u o2 o2
    rw [same_refl o1] at hs
    rcases hY with ⟨h2, rfl⟩ | ⟨q, rfl, hq⟩
    · subst h2; simp at hkl'
    · simp -implicitDefEqProofs [f12, f6, f14, hkl, hkl', hat, hvz, hq, -Int.natCast_add]
      refine DC.go [u.av, u.av] (bv true) (by simp [Va.av, Va.cells]) (by simpa [Va.av] using hs) (by simp [Va.av]) (by simp [Va.av]) ?_ (a := .mk)
      simp -implicitDefEqProofs [f14, hw, -Int.natCast_add]
      exact ⟨g - 1, by omega, k + 1, .row q, by omega, by simp [f12], by simp [f6], by simp, .inr ⟨q, rfl, hq⟩⟩
  · simp -implicitDefEqProofs [f12, f14, hkl]
    exact hQ _ _
set_option maxHeartbeats 32000000 in
set_option maxRecDepth 100000 in
theorem lline_ap (gaps : List UInt8) (l : List Vx) (hn : l.length ≤ 262144) (hl : ∀ a ∈ l, a.l.length ≤ 262144) (hg : gaps.length ≤ 14000000) (hb : (lnB (lnS gaps 0 l)).length ≤ 13999998) :
    AP Tryz.prog Gv 6 [.sl l.length (vxA l), .sl gaps.length (gaps.map byA)] (fun x => x = bv true) := by
  refine AP.go hmix F_lline (by simp) ?_
  simp -implicitDefEqProofs [c_lline]
  refine SC.frz (by simp) [] (by simp) (post := fun z => z = bv true) (by simpa using awake_ap) (by simp) ?_ (a := .mk)
  rintro z rfl
  simp -implicitDefEqProofs
  refine LP.go (LnI gaps l) l.length ⟨0, [], .v (.slice none 0 0), .v (.slice none 0 0), by omega, by simp, by simp, by simp, by simp, by simp, .inl ⟨rfl, rfl⟩, .inl ⟨rfl, rfl⟩, by simp⟩ ?_
  unfold c_lline_L1
  rintro g F H ⟨i, D, X, Y, hi, f0, f1, f7, f5, f6, hX, hY, hD⟩
  by_cases hil : (i : Int) < l.length
  · have hil' : i < l.length := by omega
    obtain ⟨a, ha0⟩ : ∃ a, l[i]? = some a := ⟨_, List.getElem?_eq_getElem hil'⟩
    have hat := vxA_at ha0
    have hvz : i * 6 + 6 ≤ (vxA l).length := by rw [vxA_len]; omega
    have hw : IntKind.i64.wrap ((i : Int) + 1) = ((i + 1 : Nat) : Int) := by rw [wrap64 _ (by omega)]; omega
    have hal := hl a (List.mem_of_getElem? ha0)
    have ha := valv_ap (G := Gv) a (by omega)
    have ht := vtext_ap a.val (Vx.wf (by omega))
    rw [lnS_at gaps ha0] at hD
    simp -implicitDefEqProofs [f0, f7, hil, hil', hat, hvz, -Int.natCast_add]
    refine SC.frz (by simp) [a.av] (by simp [Vx.av]) (post := fun z => z = a.val.av) (by simpa [Vx.av, Vx.cells] using ha) (by simp [Vx.av, Vx.cells]) ?_ (a := .mk)
    rintro z rfl
    simp -implicitDefEqProofs [Va.av, Vx.av, Vx.cells]
    refine SC.frz (by simp) [a.val.av] (by simp [Va.av]) (post := fun z => z = .tup [sv a.val.tx, iv (if a.val.ok then 0 else 3)]) (by simpa [Va.av] using ht) (by simp [Va.av]) ?_ (a := .mk)
    rintro z rfl
    cases hok : a.val.ok
    · rw [hok] at hD
      simp -implicitDefEqProofs [f7, hw, Va.av, Vx.av, Vx.cells, -Int.natCast_add]
      exact ⟨g - 1, by omega, i + 1, D, X, Y, by omega, by simp [f0], by simp [f1], by simp, by simp [f5], by simp [f6], hX, hY, by simpa using hD⟩
    · rw [hok, if_pos rfl] at hD
      obtain ⟨n, hgn⟩ : ∃ n, gapN gaps i = n := ⟨_, rfl⟩
      obtain ⟨tx, htx⟩ : ∃ t, a.val.tx = t := ⟨_, rfl⟩
      have hn1 := gapN_pos gaps i
      rw [hgn] at hD hn1
      have hlen : (lnB D).length + n + tx.length ≤ 13999998 := by
        have h1 : lnB (lnS gaps 0 l) = lnB D ++ (List.replicate n 32 ++ tx) ++ lnB (lnS gaps (i + 1) (l.drop (i + 1))) := by
          rw [← hD, lnB_app]; simp [lnB, htx]
        rw [h1] at hb
        simp only [List.length_append, List.length_replicate] at hb
        omega
      have hDl : D.length ≤ l.length := by
        have h1 := lnS_len gaps 0 l
        rw [← hD] at h1
        simp at h1; omega
      have hD' : (D ++ [(n, a.val)]) ++ lnS gaps (i + 1) (l.drop (i + 1)) = lnS gaps 0 l := by rw [← hD]; simp
      have hlB : lnB (D ++ [(n, a.val)]) = (lnB D ++ List.replicate n 32) ++ tx := by rw [lnB_app]; simp [lnB, htx]
      have done : ∀ (F : Fr) (H : List Ob) (X Y : AV), F 0 = some (.sl l.length (vxA l)) → F 1 = some (.sl gaps.length (gaps.map byA)) → F 7 = some (iv i) → F 8 = some (sv tx) → F 5 = some X → F 6 = some Y → LineI (lnB D ++ List.replicate n 32) X H → OutI (D.map (·.2)) Y H →
          True := fun _ _ _ _ _ _ _ _ _ _ _ _ => trivial
      have hz : ({ data := tx.toArray } : ByteArray).size = tx.length := by simp [ByteArray.size]
      have hsA : strA ⟨tx.toArray⟩ = tx.map byA := by simp [strA]
      by_cases hig : (i : Int) < gaps.length
      · have hig' : i < gaps.length := by omega
        obtain ⟨b, hb0⟩ : ∃ b, gaps[i]? = some b := ⟨_, List.getElem?_eq_getElem hig'⟩
        have hcb : (gaps.map byA)[i]? = some (byA b) := by rw [List.getElem?_map, hb0]; rfl
        have hnb : n = b.toNat % 3 + 1 := by rw [← hgn]; unfold gapN; rw [hb0]
        have hr1 : IntKind.i64.wrap ((b.toNat : Int).tmod 3) = ((b.toNat % 3 : Nat) : Int) := by
          have : (b.toNat : Int).tmod 3 = ((b.toNat % 3 : Nat) : Int) := by rw [Int.tmod_eq_emod_of_nonneg (by omega)]; omega
          rw [this, wrap64 _ (by omega)]
        have hr2 : IntKind.i64.wrap (((b.toNat % 3 : Nat) : Int) + 1) = ((b.toNat % 3 + 1 : Nat) : Int) := by rw [wrap64 _ (by omega)]; omega
        simp -implicitDefEqProofs [f0, f1, f7, hig, hig', hcb, byA, htx, hr1, hr2, Va.av, Vx.av, Vx.cells, -Int.natCast_add, -Int.natCast_emod, -getElem?_pos, -List.getElem?_map, List.getElem?_cons_zero, List.getElem?_cons_succ]
        refine LP.go (LnJ gaps l i n tx (lnB D) (D.map (·.2))) n ⟨0, X, Y, by omega, by simp [f0], by simp [f1], by simp [f7], by simp, by simp [hnb], by simp, by simp [f5], by simp [f6], by simpa using hX, hY⟩ ?_
        refine lline_in gaps l i n tx (lnB D) (D.map (·.2)) (by omega) _ (fun F' H' X' Y' g0 g1 g7 g8 g5 g6 hX' hY' => ?_)
        rcases hX' with ⟨h1, _⟩ | ⟨r, rfl, hr⟩
        · exfalso
          have := congrArg List.length h1
          simp at this; omega
        obtain ⟨o, ho⟩ : ∃ o, o = lnB D ++ List.replicate n (32 : UInt8) := ⟨_, rfl⟩
        have hol : o.length = (lnB D).length + n := by rw [ho]; simp
        rw [← ho] at hr hlB
        have hb1 : o.length + tx.length ≤ 1073741824 := by omega
        have hrl : r < H'.length := (List.getElem?_eq_some_iff.1 hr).1
        have gx : ∀ (L : List Ob) (k : Nat), (H'.set r Ob.gone ++ L)[H'.length + k]? = L[k]? := fun L k => by
          rw [List.getElem?_append_right (by simp)]; congr 1; simp
        simp -implicitDefEqProofs [g0, g6, g7, g5, g8, hr, hz, hsA, hb1, hil, hil', hat, hvz, -Int.natCast_add, -getElem?_pos, List.getElem?_cons_zero, List.getElem?_cons_succ]
        refine SC.frz (by simp) [a.av] (by simp [Vx.av]) (post := fun z => z = a.val.av) (by simpa [Vx.av, Vx.cells] using ha) (by simp [Vx.av, Vx.cells]) ?_ (a := .mk)
        rintro z rfl
        have fin2 : ∀ m : Nat, m = H'.length → ((H'.set r Ob.gone ++ [Ob.own 5 1 (o.length + tx.length) (o.map byA ++ tx.map byA)]))[m]? = some (Ob.own 5 1 (lnB (D ++ [(n, a.val)])).length ((lnB (D ++ [(n, a.val)])).map byA)) := fun m hm => by
          subst hm
          rw [List.getElem?_append_right (by simp), hlB]; simp
        rcases hY' with ⟨h2, rfl⟩ | ⟨q, rfl, hq⟩
        · have hD0 : D = [] := by simpa using h2
          subst hD0
          simp -implicitDefEqProofs [g6, g7, hw, gx, Va.av, Vx.av, Vx.cells, evP, fillA, splice, -Int.natCast_add, -getElem?_pos, List.getElem?_cons_zero, List.getElem?_cons_succ]
          refine ⟨g - 1, by omega, i + 1, [] ++ [(n, a.val)], .row H'.length, .row (H'.length + 2), by omega, by simp [g0], by simp [g1], by simp, by simp, by simp, .inr ⟨_, rfl, ?_⟩, .inr ⟨_, rfl, ?_⟩, hD'⟩
          · have := fin2 _ rfl
            rw [List.getElem?_append_right (by simp)] at this ⊢
            simpa using this
          · rw [List.getElem?_append_right (by simp)]; simp [vsA, Va.cells]
        · have hne : q ≠ r := fun e => by
            rw [e, hr] at hq
            have := Option.some.inj hq
            injection this with e1
            exact absurd e1 (by decide)
          have hqX : ∀ Z : List Ob, (H'.set r Ob.gone ++ Z)[q]? = some (Ob.own 35 4 (D.map (·.2)).length (vsA (D.map (·.2)))) := fun Z => by
            refine app_at ?_ Z
            rw [List.getElem?_set_ne (Ne.symm hne)]; exact hq
          obtain ⟨wt, hwt⟩ : ∃ w, w = D.map (·.2) := ⟨_, rfl⟩
          have hwl : wt.length = D.length := by rw [hwt]; simp
          rw [← hwt] at hqX hq
          have hb3 : (wt.length + 1) * 56 ≤ 140737488355328 := by omega
          have hb4 : wt.length + 1 ≤ 1073741824 := by omega
          have hb5 : wt.length ≤ 1073741823 := by omega
          have hql : q < H'.length := (List.getElem?_eq_some_iff.1 hq).1
          simp -implicitDefEqProofs [g6, g7, hw, gx, hqX, hb3, hb4, hb5, Va.av, Vx.av, Vx.cells, evP, fillA, splice, -Int.natCast_add, -getElem?_pos, List.getElem?_cons_zero, List.getElem?_cons_succ]
          refine ⟨g - 1, by omega, i + 1, D ++ [(n, a.val)], .row H'.length, .row (H'.length + 2), by omega, by simp [g0], by simp [g1], by simp, by simp, by simp, .inr ⟨_, rfl, ?_⟩, .inr ⟨_, rfl, ?_⟩, hD'⟩
          · have := fin2 _ rfl
            refine app_at ?_ _
            rw [List.getElem?_set_ne (by omega)]
            rw [List.getElem?_append_right (by simp)] at this ⊢
            simpa using this
          · rw [List.getElem?_append_right (by simp)]
            rw [List.map_append, ← hwt]
            simp [vsA, Va.cells, Nat.add_assoc]
      · have hnb : n = 1 := by
          rw [← hgn]; unfold gapN
          rw [List.getElem?_eq_none (by omega)]
        simp -implicitDefEqProofs [f0, f1, f7, hig, htx, Va.av, Vx.av, Vx.cells, -Int.natCast_add, -getElem?_pos, -List.getElem?_map, List.getElem?_cons_zero, List.getElem?_cons_succ]
        refine LP.go (LnJ gaps l i n tx (lnB D) (D.map (·.2))) n ⟨0, X, Y, by omega, by simp [f0], by simp [f1], by simp [f7], by simp, by simp [hnb], by simp, by simp [f5], by simp [f6], by simpa using hX, hY⟩ ?_
        refine lline_in gaps l i n tx (lnB D) (D.map (·.2)) (by omega) _ (fun F' H' X' Y' g0 g1 g7 g8 g5 g6 hX' hY' => ?_)
        rcases hX' with ⟨h1, _⟩ | ⟨r, rfl, hr⟩
        · exfalso
          have := congrArg List.length h1
          simp at this; omega
        obtain ⟨o, ho⟩ : ∃ o, o = lnB D ++ List.replicate n (32 : UInt8) := ⟨_, rfl⟩
        have hol : o.length = (lnB D).length + n := by rw [ho]; simp
        rw [← ho] at hr hlB
        have hb1 : o.length + tx.length ≤ 1073741824 := by omega
        have hrl : r < H'.length := (List.getElem?_eq_some_iff.1 hr).1
        have gx : ∀ (L : List Ob) (k : Nat), (H'.set r Ob.gone ++ L)[H'.length + k]? = L[k]? := fun L k => by
          rw [List.getElem?_append_right (by simp)]; congr 1; simp
        simp -implicitDefEqProofs [g0, g6, g7, g5, g8, hr, hz, hsA, hb1, hil, hil', hat, hvz, -Int.natCast_add, -getElem?_pos, List.getElem?_cons_zero, List.getElem?_cons_succ]
        refine SC.frz (by simp) [a.av] (by simp [Vx.av]) (post := fun z => z = a.val.av) (by simpa [Vx.av, Vx.cells] using ha) (by simp [Vx.av, Vx.cells]) ?_ (a := .mk)
        rintro z rfl
        have fin2 : ∀ m : Nat, m = H'.length → ((H'.set r Ob.gone ++ [Ob.own 5 1 (o.length + tx.length) (o.map byA ++ tx.map byA)]))[m]? = some (Ob.own 5 1 (lnB (D ++ [(n, a.val)])).length ((lnB (D ++ [(n, a.val)])).map byA)) := fun m hm => by
          subst hm
          rw [List.getElem?_append_right (by simp), hlB]; simp
        rcases hY' with ⟨h2, rfl⟩ | ⟨q, rfl, hq⟩
        · have hD0 : D = [] := by simpa using h2
          subst hD0
          simp -implicitDefEqProofs [g6, g7, hw, gx, Va.av, Vx.av, Vx.cells, evP, fillA, splice, -Int.natCast_add, -getElem?_pos, List.getElem?_cons_zero, List.getElem?_cons_succ]
          refine ⟨g - 1, by omega, i + 1, [] ++ [(n, a.val)], .row H'.length, .row (H'.length + 2), by omega, by simp [g0], by simp [g1], by simp, by simp, by simp, .inr ⟨_, rfl, ?_⟩, .inr ⟨_, rfl, ?_⟩, hD'⟩
          · have := fin2 _ rfl
            rw [List.getElem?_append_right (by simp)] at this ⊢
            simpa using this
          · rw [List.getElem?_append_right (by simp)]; simp [vsA, Va.cells]
        · have hne : q ≠ r := fun e => by
            rw [e, hr] at hq
            have := Option.some.inj hq
            injection this with e1
            exact absurd e1 (by decide)
          have hqX : ∀ Z : List Ob, (H'.set r Ob.gone ++ Z)[q]? = some (Ob.own 35 4 (D.map (·.2)).length (vsA (D.map (·.2)))) := fun Z => by
            refine app_at ?_ Z
            rw [List.getElem?_set_ne (Ne.symm hne)]; exact hq
          obtain ⟨wt, hwt⟩ : ∃ w, w = D.map (·.2) := ⟨_, rfl⟩
          have hwl : wt.length = D.length := by rw [hwt]; simp
          rw [← hwt] at hqX hq
          have hb3 : (wt.length + 1) * 56 ≤ 140737488355328 := by omega
          have hb4 : wt.length + 1 ≤ 1073741824 := by omega
          have hb5 : wt.length ≤ 1073741823 := by omega
          have hql : q < H'.length := (List.getElem?_eq_some_iff.1 hq).1
          simp -implicitDefEqProofs [g6, g7, hw, gx, hqX, hb3, hb4, hb5, Va.av, Vx.av, Vx.cells, evP, fillA, splice, -Int.natCast_add, -getElem?_pos, List.getElem?_cons_zero, List.getElem?_cons_succ]
          refine ⟨g - 1, by omega, i + 1, D ++ [(n, a.val)], .row H'.length, .row (H'.length + 2), by omega, by simp [g0], by simp [g1], by simp, by simp, by simp, .inr ⟨_, rfl, ?_⟩, .inr ⟨_, rfl, ?_⟩, hD'⟩
          · have := fin2 _ rfl
            refine app_at ?_ _
            rw [List.getElem?_set_ne (by omega)]
            rw [List.getElem?_append_right (by simp)] at this ⊢
            simpa using this
          · rw [List.getElem?_append_right (by simp)]
            rw [List.map_append, ← hwt]
            simp [vsA, Va.cells, Nat.add_assoc]
  · obtain rfl : i = l.length := by omega
    rw [List.drop_length] at hD
    have hDe : D = lnS gaps 0 l := by rw [← hD]; simp [lnS]
    have hok := lnS_ok gaps 0 l
    rw [← hDe] at hb hok
    obtain ⟨vs, hvs⟩ : ∃ vs, vs = D.map (·.2) := ⟨_, rfl⟩
    rw [← hvs] at hY
    have hvok : ∀ v ∈ vs, v.ok = true := fun v hv => by
      rw [hvs] at hv
      obtain ⟨p, hp, rfl⟩ := List.mem_map.1 hv
      exact (hok p hp).2
    have hvl : vs.length ≤ l.length := by rw [hvs, List.length_map, hDe]; exact lnS_len gaps 0 l
    have hvw : ∀ v ∈ vs, v.Wf := fun v hv => by
      rw [hvs, hDe] at hv
      obtain ⟨p, hp, rfl⟩ := List.mem_map.1 hv
      exact lnS_wf gaps 0 l (fun a ha => by have := hl a ha; omega) p hp
    have hsp := vsplit_ap (lnB D ++ [32, 32]) (by simp; omega)
    rw [goS_line D hok, ← hvs] at hsp
    have hlo : (lnB D).length + 2 ≤ 9223372036854775807 := by omega
    have loop : ∀ (F : Fr) (H : List Ob), True := fun _ _ => trivial
    rcases hX with ⟨h1, rfl⟩ | ⟨r, rfl, hr⟩
    · rw [h1] at hsp
      simp -implicitDefEqProofs [f0, f7, f5, f6, -getElem?_pos, List.getElem?_cons_zero, List.getElem?_cons_succ, ba_app]
      refine ⟨by simp [ByteArray.size], by simp [ByteArray.size], ?_⟩
      rw [List.nil_append] at hsp ⊢
      refine SC.frz (by simp) [sv [32, 32]] (by simp) (post := fun z => z = spA (some vs)) (by simpa using hsp) (by simp) ?_ (a := .mk)
      rintro z rfl
      rcases hY with ⟨h2, rfl⟩ | ⟨q, rfl, hq⟩
      · subst h2
        simp -implicitDefEqProofs [spA, vsA, f6, -getElem?_pos, List.getElem?_cons_zero, List.getElem?_cons_succ]
        refine LP.go (LnK []) 0 ⟨0, .v (.slice none 0 0), rfl, by simp [vsA], by simp [f6], by simp, .inl ⟨rfl, rfl⟩⟩ (lline_cmp [] (by simp) (by simp) (by simp) _ (fun F H => by simp -implicitDefEqProofs))
      · simp -implicitDefEqProofs [spA, f6, hq, -getElem?_pos, List.getElem?_cons_zero, List.getElem?_cons_succ]
        refine LP.go (LnK vs) vs.length ⟨0, .row q, by omega, by simp, by simp [f6], by simp, .inr ⟨q, rfl, hq⟩⟩ (lline_cmp vs (by omega) hvok hvw _ (fun F H => by simp -implicitDefEqProofs))
    · simp -implicitDefEqProofs [f0, f7, f5, f6, hr, -getElem?_pos, List.getElem?_cons_zero, List.getElem?_cons_succ, ba_app]
      refine ⟨by simp [ByteArray.size]; omega, ?_⟩
      refine SC.frz (by simp) [sv (lnB D ++ [32, 32])] (by simp) (post := fun z => z = spA (some vs)) (by simpa using hsp) (by simp) ?_ (a := .mk)
      rintro z rfl
      rcases hY with ⟨h2, rfl⟩ | ⟨q, rfl, hq⟩
      · subst h2
        simp -implicitDefEqProofs [spA, vsA, f6, -getElem?_pos, List.getElem?_cons_zero, List.getElem?_cons_succ]
        refine LP.go (LnK []) 0 ⟨0, .v (.slice none 0 0), rfl, by simp [vsA], by simp [f6], by simp, .inl ⟨rfl, rfl⟩⟩ (lline_cmp [] (by simp) (by simp) (by simp) _ (fun F H => by simp -implicitDefEqProofs))
      · simp -implicitDefEqProofs [spA, f6, hq, -getElem?_pos, List.getElem?_cons_zero, List.getElem?_cons_succ]
        refine LP.go (LnK vs) vs.length ⟨0, .row q, by omega, by simp, by simp [f6], by simp, .inr ⟨q, rfl, hq⟩⟩ (lline_cmp vs (by omega) hvok hvw _ (fun F H => by simp -implicitDefEqProofs))
end Go.Proofs.YtbhkclkahblfnaaGreatDoor
