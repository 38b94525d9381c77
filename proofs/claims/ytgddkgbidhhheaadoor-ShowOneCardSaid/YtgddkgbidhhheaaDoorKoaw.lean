/- Texts joined: Shg Shh. -/
import Derived.Test.YtgddkgbidhhheaaDoorKoam
import Derived.Test.YtgddkgbidhhheaaDoorKoav
/- Layer 5: the text of an expression and of a program. -/
set_option linter.unusedVariables false
set_option linter.unusedSimpArgs false
set_option maxRecDepth 100000
namespace Go.Proofs.YtgddkgbidhhheaaDoor
open Go.RowKit Flo Ab Mk Pg
theorem SC.addI {N : Nat} {F : Fr} {H : List Ob} {K : Fr → List Ob → Prop} {d : Option Nat} {i : Nat} (hdN : ∀ t, d = some t → t < N) {args : List Opd} (k : Nat) (hx : evA F args = some [.ptr i 0, .row k]) (ps : List Pc) (hk : H[k]? = some (.own 20 1 ps.length (ps.map Pc.av)))
    {l : List UInt8} (hP : PgAt (H.set k (.fro ps.length (ps.map Pc.av))) i l) (t : List UInt8) (ht : ps.flatMap Pc.tx = t) (hok : ∀ p ∈ ps, p.ok) (hlen : ps.length ≤ 1000) (hnz : t ≠ []) (hsz : l.length + t.length ≤ 1073741824)
    (hK : ∀ (x : AV) (H' : List Ob), PgAt H' i (l ++ t) → (∀ (j : Nat) (cs : List AV), H[j]? = some (.var cs) → H'[j]? = some (.var cs)) → H.length ≤ H'.length → K (putF F d x) H') {a : Tag K} : SC Tryd.prog (.np Gv) N d 23 args F H K a := by
  subst ht
  refine SC.pgf hdN [.row k] hx [.sl ps.length (ps.map Pc.av)] (H.set k (.fro ps.length (ps.map Pc.av))) (by simp [hk]) hP _ (sadd_pg ps hlen hok) hnz hsz (by simp) (fun x H' h1 h2 h3 => hK x H' h1 (fun j cs hj => h2 j cs ?_) (by simpa using h3))
  have : k ≠ j := fun e => by subst e; rw [hk] at hj; cases hj
  rw [List.getElem?_set_ne this]; exact hj
/-- the page's text is taken -/
theorem SC.str {N : Nat} {F : Fr} {H : List Ob} {K : Fr → List Ob → Prop} {d : Option Nat} (hdN : ∀ t, d = some t → t < N) {args : List Opd} {i : Nat} (hx : evA F args = some [.ptr i 0]) {l : List UInt8} (hP : PgAt H i l) (hsz : l.length ≤ 1073741824)
    (hK : ∀ H', K (putF F d (sv l)) H') {a : Tag K} : SC Tryd.prog (.np Gv) N d 16 args F H K a := by
  have ren1 : ∀ r : Nat → Nat, ren r (sv l) = sv l := fun r => rfl
  rcases hP with ⟨rfl, a', ha, h1⟩ | ⟨hl, k, hk, h1, h2⟩
  · have hi : i < H.length := (List.getElem?_eq_some_iff.1 h1).1
    refine SC.own hdN [.ptr i 0] hx [i] (by simp) (fun j hj => by rw [List.mem_singleton.1 hj]; exact hi) (fun j hj o ho => ?_) (by simp) (Gc := Gs.np Gv) (fun w h => h) (post := fun x os' => x = sv []) ?_ (fun x os h => h.elim) ?_
    · rw [List.mem_singleton.1 hj, h1] at ho
      cases ho
      rcases ha with rfl | rfl <;> simp [okO, okL, Ab.okR]
    · have he : [AV.ptr i 0].map (ren (fun k => [i].idxOf k)) = [.ptr 0 0] := by simp [ren]
      rw [he]
      refine bstr_ac [] _ (.inl ⟨rfl, ren (fun k => [i].idxOf k) a', ?_, ?_⟩) (by simp)
      · rcases ha with rfl | rfl <;> simp [ren]
      · simp [objsOf, h1, renO, renL, ren]
    · rintro x os rfl
      exact hK _
  · have hi : i < H.length := (List.getElem?_eq_some_iff.1 h1).1
    have hkl : k < H.length := (List.getElem?_eq_some_iff.1 h2).1
    have hlt : ∀ j ∈ [i, k], j < H.length := fun j hj => by
      simp only [List.mem_cons, List.not_mem_nil, or_false] at hj
      rcases hj with rfl | rfl <;> assumption
    refine SC.own hdN [.ptr i 0] hx [i, k] (by simp [Ne.symm hk]) hlt (fun j hj o ho => ?_) (by simp) (Gc := Gs.np Gv) (fun w h => h) (post := fun x os' => x = sv l) ?_ (fun x os h => h.elim) ?_
    · simp only [List.mem_cons, List.not_mem_nil, or_false] at hj
      rcases hj with rfl | rfl
      · rw [h1] at ho; cases ho; simp [okO, okL, Ab.okR]
      · rw [h2] at ho; cases ho; rfl
    · have he : [AV.ptr i 0].map (ren (fun j => [i, k].idxOf j)) = [.ptr 0 0] := by simp [ren]
      have hix : [i, k].idxOf k = 1 := by
        have : (i == k) = false := beq_false_of_ne (Ne.symm hk)
        simp [List.idxOf_cons, this]
      rw [he]
      refine bstr_ac l _ (.inr ⟨hl, ?_⟩) hsz
      simp [objsOf, h1, h2, renO, renL, ren, hix]
    · rintro x os rfl
      exact hK _
theorem sexpr0_ap (e : Ex) (hw : wfX e) (hsz : (exT e).length ≤ 1073741824) : AP Tryd.prog Gv 8 [exA e] (fun x => x = sv (exT e)) := by
  have hX := sexpr_all e hw 0
  rw [exTw0] at hX
  have hne := exT_ne hw
  obtain ⟨op, nm, tl, ty, num, us, pos⟩ := e
  refine AP.go hmix F_sexpr0 (by simp) ?_
  simp -implicitDefEqProofs [c_sexpr0, exA, Ex.cells, evP, fillA, splice]
  refine SC.pg (i := 1) (by simp) [exA (.mk op nm tl ty num us pos), iv 0] (by simp [exA, Ex.cells]) (l := []) (.inl ⟨rfl, _, .inl rfl, rfl⟩) _ hX hne (by simpa using hsz) (by simp [exA, Ex.cells]) ?_
  rintro x H1 hp1 hv1 hl1
  simp -implicitDefEqProofs
  refine SC.str (i := 1) (by simp) (by simp) hp1 (by simpa using hsz) ?_
  intro H2
  simp -implicitDefEqProofs
/-! programs -/
def pmT (p : Pm) : List UInt8 := p.name ++ [32] ++ letter p.ty
theorem pmsT_commas : ∀ ps : List Pm, pmsT ps = commas (ps.map pmT)
  | [] => rfl
  | [p] => rfl
  | p :: q :: r => by
    have := pmsT_commas (q :: r)
    simp only [pmsT, List.map_cons, commas] at this ⊢
    rw [this]
    simp [pmT]
def wfF (f : Pg.Fd) : Prop := f.name ≠ [] ∧ (∀ p ∈ f.params, p.name ≠ [] ∧ tyW p.ty) ∧ tyW f.ty ∧ wfX f.body ∧ f.params.length ≤ 1000000
theorem commas_le2 (us : List (List UInt8)) (j : Nat) (hj : j ≤ us.length) : (commas (us.take j)).length ≤ (commas us).length := by
  induction us generalizing j with
  | nil => simp
  | cons u r ih =>
    cases j with
    | zero => simp [commas]
    | succ j =>
      have := ih j (by simpa using hj)
      simp only [List.take_succ_cons]
      cases r with
      | nil => simp [commas]
      | cons v r =>
        cases j with
        | zero => simp [commas]
        | succ j =>
          simp only [List.take_succ_cons, commas, List.length_append] at this ⊢
          omega
theorem pmsA_at3 : ∀ {ps : List Pm} {k : Nat} {p : Pm}, ps[k]? = some p → ((pmsA ps).drop (k * 3)).take 3 = [sv p.name, iv p.ty, iv p.pos]
  | [], k, p, h => by simp at h
  | u :: r, 0, p, h => by cases h; simp [pmsA]
  | u :: r, k + 1, p, h => by
    have := pmsA_at3 (ps := r) (k := k) (p := p) (by simpa using h)
    have e : pmsA (u :: r) = [sv u.name, iv u.ty, iv u.pos] ++ pmsA r := rfl
    rw [e, show (k + 1) * 3 = [sv u.name, iv u.ty, iv u.pos].length + k * 3 by simp; omega, ← List.drop_drop, List.drop_left]
    exact this
theorem pmsA_len3 (ps : List Pm) : (pmsA ps).length = ps.length * 3 := by
  induction ps with
  | nil => rfl
  | cons p r ih =>
    have e : pmsA (p :: r) = [sv p.name, iv p.ty, iv p.pos] ++ pmsA r := rfl
    rw [e, List.length_append, ih]; simp; omega
theorem fdsA_at11 : ∀ {fs : List Pg.Fd} {k : Nat} {f : Pg.Fd}, fs[k]? = some f → ((fdsA fs).drop (k * 11)).take 11 = fdA f
  | [], k, f, h => by simp at h
  | u :: r, 0, f, h => by
    cases h
    have e : fdsA (u :: r) = fdA u ++ fdsA r := rfl
    have hl := fdA_len u
    rw [e, Nat.zero_mul, List.drop_zero, List.take_append_of_le_length (by omega), List.take_of_length_le (by omega)]
  | u :: r, k + 1, f, h => by
    have := fdsA_at11 (fs := r) (k := k) (f := f) (by simpa using h)
    have e : fdsA (u :: r) = fdA u ++ fdsA r := rfl
    have hl := fdA_len u
    rw [e, show (k + 1) * 11 = (fdA u).length + k * 11 by rw [hl]; omega, ← List.drop_drop, List.drop_left]
    exact this
structure InvP (q : Nat) (n : Nat) (j : Nat) (f : Pg.Fd) (fds : List AV) (l : List UInt8) (g : Nat) (F : Fr) (H : List Ob) : Prop where
  k : ∃ k : Nat, k ≤ f.params.length ∧ g = f.params.length - k ∧ F 27 = some (iv k) ∧ PgAt H 1 (l ++ commas ((f.params.map pmT).take k))
  f3 : F 3 = some (.ptr 1 0)
  f5 : F 5 = some (.ptr q 0)
  f11 : F 11 = some (.sl n fds)
  f12 : F 12 = some (iv n)
  f13 : F 13 = some (iv j)
  f25 : F 25 = some (.sl f.params.length (pmsA f.params))
  f26 : F 26 = some (iv f.params.length)
  hq : H[q]? = some (.var (fdA f))
structure InvQ (fs : List Pg.Fd) (g : Nat) (F : Fr) (H : List Ob) : Prop where
  k : ∃ j : Nat, j ≤ fs.length ∧ g = fs.length - j ∧ F 13 = some (iv j) ∧ PgAt H 1 ((fs.take j).flatMap fdT)
  f3 : F 3 = some (.ptr 1 0)
  f11 : F 11 = some (.sl fs.length (fdsA fs))
  f12 : F 12 = some (iv fs.length)
set_option maxHeartbeats 8000000 in
theorem sprog_ap (fs : List Pg.Fd) (hw : ∀ f ∈ fs, wfF f) (hlen : fs.length ≤ 1000000) (hsz : (fdsT fs).length ≤ 1073741824) : AP Tryd.prog Gv 10 [.agg [.sl fs.length (fdsA fs)]] (fun x => x = sv (fdsT fs)) := by
  refine AP.go hmix F_sprog (by simp) ?_
  simp -implicitDefEqProofs [c_sprog, evP, fillA, splice]
  refine LP.go (InvQ fs) fs.length ⟨⟨0, Nat.zero_le _, rfl, by simp, .inl ⟨rfl, _, .inl rfl, rfl⟩⟩, by simp, by simp, by simp⟩ ?_
  unfold c_sprog_L1
  rintro g F H ⟨⟨j, hj, rfl, h13, hp⟩, h3, h11, h12⟩
  by_cases hjl : j < fs.length
  · obtain ⟨f, hfj⟩ : ∃ f, fs[j]? = some f := ⟨_, List.getElem?_eq_getElem hjl⟩
    have hwf := hw f (List.mem_of_getElem? hfj)
    have hjl' : (j : Int) < fs.length := by omega
    have hat := fdsA_at11 hfj
    have hvz : j * 11 + 11 ≤ (fdsA fs).length := by rw [fdsA_len]; omega
    have hw1 : IntKind.i64.wrap ((j : Int) + 1) = ((j + 1 : Nat) : Int) := by rw [wrap64 _ (by omega)]; omega
    have hft : (fs.take (j + 1)).flatMap fdT = (fs.take j).flatMap fdT ++ fdT f := by rw [List.take_add_one, hfj, List.flatMap_append]; simp
    have hfl : ((fs.take (j + 1)).flatMap fdT).length ≤ (fdsT fs).length := by
      have : fdsT fs = (fs.take (j + 1)).flatMap fdT ++ (fs.drop (j + 1)).flatMap fdT := by unfold fdsT; rw [← List.flatMap_append, List.take_append_drop]
      rw [this, List.length_append]; omega
    rw [hft, List.length_append] at hfl
    obtain ⟨L, hL⟩ : ∃ L, (fs.take j).flatMap fdT = L := ⟨_, rfl⟩
    rw [hL] at hp hfl hft
    obtain ⟨name, params, ty, body, pos⟩ := f
    obtain ⟨w1, w2, w3, w4, w5⟩ := hwf
    dsimp only at w1 w2 w3 w4 w5
    have hfdT : fdT ⟨name, params, ty, body, pos⟩ = name ++ [40] ++ commas (params.map pmT) ++ [41, 58, 32] ++ letter ty ++ [32, 61, 32] ++ exT body ++ [59, 10] := by
      simp only [fdT, pmsT_commas]
    rw [hfdT] at hft hfl
    simp only [List.length_append, List.length_cons, List.length_nil] at hfl
    have hXb := (sexpr_all body w4).pc w4
    have hcle := commas_le2 (params.map pmT)
    have hca : fdA ⟨name, params, ty, body, pos⟩ = fdA ⟨name, params, ty, body, pos⟩ := rfl
    obtain ⟨bop, bnm, btl, bty, bnum, bus, bpos⟩ := body
    simp -implicitDefEqProofs [-Int.natCast_add, h3, h11, h12, h13, hjl, hjl', hat, hvz, fdA, Ex.cells, evP, fillA, splice, wrOb]
    refine SC.addI (i := 1) (by simp) (H.length + 1) (by simp) [.s name, .s [40]] (by simp [Pc.av]) (by simp; exact hp.app _) (name ++ [40]) (by simp [Pc.tx]) (by simp [Pc.ok, w1]) (by simp) (by simp) (by simp only [List.length_append, List.length_cons, List.length_nil]; omega) ?_
    rintro x H1 hp1 hv1 hl1
    have hv := hv1 H.length _ (by simp; rfl)
    simp -implicitDefEqProofs [-Int.natCast_add, h3, h11, h12, h13, hv]
    refine LP.go (InvP H.length fs.length j ⟨name, params, ty, .mk bop bnm btl bty bnum bus bpos, pos⟩ (fdsA fs) (L ++ (name ++ [40]))) params.length ⟨⟨0, Nat.zero_le _, rfl, by simp, by simpa [commas] using hp1⟩, by simp [h3], by simp, by simp [h11], by simp [h12], by simp [h13], by simp, by simp, by simpa [fdA, Ex.cells] using hv⟩ ?_
    unfold c_sprog_L0
    rintro g F2 H2 ⟨⟨k, hk, rfl, g27, hp⟩, g3, g5, g11, g12, g13, g25, g26, gq⟩
    dsimp only at hk g25 g26 hp
    by_cases hkl : k < params.length
    · obtain ⟨p, hpk⟩ : ∃ p, params[k]? = some p := ⟨_, List.getElem?_eq_getElem hkl⟩
      obtain ⟨v1, v2⟩ := w2 p (List.mem_of_getElem? hpk)
      have hkl' : (k : Int) < params.length := by omega
      have hatp := pmsA_at3 hpk
      have hvp : k * 3 + 3 ≤ (pmsA params).length := by rw [pmsA_len3]; omega
      have hwk : IntKind.i64.wrap ((k : Int) + 1) = ((k + 1 : Nat) : Int) := by rw [wrap64 _ (by omega)]; omega
      have hw0 : IntKind.i64.wrap 1 = 1 := wrap64 _ (by omega)
      have hmk : (params.map pmT)[k]? = some (pmT p) := by rw [List.getElem?_map, hpk]; rfl
      have hct : commas ((params.map pmT).take (k + 1)) = bif k == 0 then pmT p else commas ((params.map pmT).take k) ++ [44, 32] ++ pmT p := by
        rw [List.take_add_one, hmk]
        simp only [Option.toList_some]
        rw [commas_snoc]
        cases k with
        | zero => simp
        | succ k =>
          have : ((params.map pmT).take (k + 1)).isEmpty = false := by
            cases params with
            | nil => simp at hkl
            | cons => simp
          rw [this]; rfl
      have hle := hcle (k + 1) (by simp; omega)
      have fin : ∀ (F' : Fr) (H' : List Ob), F' 27 = some (iv ((k + 1 : Nat) : Int)) → F' 3 = some (.ptr 1 0) → F' 5 = some (.ptr H.length 0) → F' 11 = some (.sl fs.length (fdsA fs)) → F' 12 = some (iv fs.length) → F' 13 = some (iv j) → F' 25 = some (.sl params.length (pmsA params)) → F' 26 = some (iv params.length) →
          PgAt H' 1 (L ++ (name ++ [40]) ++ commas ((params.map pmT).take (k + 1))) → H'[H.length]? = some (.var (fdA ⟨name, params, ty, .mk bop bnm btl bty bnum bus bpos, pos⟩)) →
          ∃ m, m < params.length - k ∧ InvP H.length fs.length j ⟨name, params, ty, .mk bop bnm btl bty bnum bus bpos, pos⟩ (fdsA fs) (L ++ (name ++ [40])) m F' H' := fun F' H' a b c d e f g h i q =>
        ⟨params.length - (k + 1), by omega, ⟨⟨k + 1, by show k + 1 ≤ params.length; omega, rfl, a, i⟩, b, c, d, e, f, g, h, q⟩⟩
      have hpmT : pmT p = p.name ++ [32] ++ letter p.ty := rfl
      have hgl : H.length < H2.length := (List.getElem?_eq_some_iff.1 gq).1
      cases k with
      | zero =>
        rw [hct] at hle
        simp only [BEq.rfl, cond_true, hpmT, List.length_append, List.length_cons, List.length_nil] at hle
        have hat0 : (pmsA params).take 3 = [sv p.name, iv p.ty, iv p.pos] := by simpa using hatp
        have hvz0 : 3 ≤ (pmsA params).length := by simpa using hvp
        have h0l : 0 < params.length := hkl
        simp -implicitDefEqProofs [-Int.natCast_add, g3, g5, g11, g12, g13, g25, g26, g27, h0l, hat0, hvz0, evP, fillA, splice, wrOb]
        refine SC.addI (i := 1) (by simp) (H2.length + 1) (by simp) [.s p.name, .s [32], .ty p.ty] (by simp [Pc.av]) (by simp; exact hp.app _) (pmT p) (by simp [Pc.tx, hpmT]) (by
          intro q hq
          simp only [List.mem_cons, List.not_mem_nil, or_false] at hq
          rcases hq with rfl | rfl | rfl
          · exact v1
          · simp [Pc.ok]
          · exact v2) (by simp) (by simp [hpmT]) (by simp only [hpmT, commas, List.take_zero, List.length_append, List.length_cons, List.length_nil]; omega) ?_
        rintro x H3 hp3 hv3 hl3
        have hq3 := hv3 H.length _ (by rw [List.getElem?_append_left hgl]; exact gq)
        simp -implicitDefEqProofs [-Int.natCast_add, g3, g5, g11, g12, g13, g25, g26, g27, hw0]
        exact fin _ _ (by simp) (by simp [g3]) (by simp [g5]) (by simp [g11]) (by simp [g12]) (by simp [g13]) (by simp [g25]) (by simp [g26]) (by rw [hct]; simpa [commas] using hp3) hq3
      | succ k =>
        rw [hct] at hle
        simp only [show (k + 1 == 0) = false from rfl, cond_false, hpmT, List.length_append, List.length_cons, List.length_nil] at hle
        have hk0 : (0 : Int) < ((k + 1 : Nat) : Int) := by omega
        simp -implicitDefEqProofs [-Int.natCast_add, g3, g5, g11, g12, g13, g25, g26, g27, hkl, hkl', hk0, hatp, hvp, evP, fillA, splice, wrOb]
        refine SC.addI (i := 1) (by simp) (H2.length + 1) (by simp) [.s [44, 32]] (by simp [Pc.av]) (by simp; exact hp.app _) [44, 32] (by simp [Pc.tx]) (by simp [Pc.ok]) (by simp) (by simp) (by simp only [List.length_append, List.length_cons, List.length_nil]; omega) ?_
        rintro x H3 hp3 hv3 hl3
        have hq3 := hv3 H.length _ (by rw [List.getElem?_append_left hgl]; exact gq)
        have hx3 := hv3 H2.length _ (by simp; rfl)
        have hgl3 : H.length < H3.length := (List.getElem?_eq_some_iff.1 hq3).1
        simp -implicitDefEqProofs [-Int.natCast_add, g3, g5, g11, g12, g13, g25, g26, g27, hx3, evP, fillA, splice, wrOb]
        refine SC.addI (i := 1) (by simp) H3.length (by simp) [.s p.name, .s [32], .ty p.ty] (by simp [Pc.av]) (by simp; exact hp3.app _) (pmT p) (by simp [Pc.tx, hpmT]) (by
          intro q hq
          simp only [List.mem_cons, List.not_mem_nil, or_false] at hq
          rcases hq with rfl | rfl | rfl
          · exact v1
          · simp [Pc.ok]
          · exact v2) (by simp) (by simp [hpmT]) (by simp only [hpmT, List.length_append, List.length_cons, List.length_nil]; omega) ?_
        rintro x H4 hp4 hv4 hl4
        have hq4 := hv4 H.length _ (by rw [List.getElem?_append_left hgl3]; exact hq3)
        simp -implicitDefEqProofs [-Int.natCast_add, g3, g5, g11, g12, g13, g25, g26, g27, hwk]
        exact fin _ _ (by simp [hwk]) (by simp [g3]) (by simp [g5]) (by simp [g11]) (by simp [g12]) (by simp [g13]) (by simp [g25]) (by simp [g26]) (by rw [hct]; simpa using hp4) hq4
    · have hke : k = params.length := by omega
      subst hke
      have hp' : PgAt H2 1 (L ++ (name ++ [40]) ++ commas (params.map pmT)) := by rw [List.take_of_length_le (by simp)] at hp; exact hp
      simp only [fdA, Ex.cells, List.cons_append, List.nil_append] at gq
      simp -implicitDefEqProofs [-Int.natCast_add, g3, g5, g11, g12, g13, g25, g26, g27, gq, evP, fillA, splice, wrOb]
      refine SC.addI (i := 1) (by simp) H2.length (by simp) [.s [41, 58, 32], .ty ty, .s [32, 61, 32], .x (.mk bop bnm btl bty bnum bus bpos), .s [59, 10]] (by simp [Pc.av, exA, Ex.cells]) (by simp; exact hp'.app _) ([41, 58, 32] ++ letter ty ++ [32, 61, 32] ++ exT (.mk bop bnm btl bty bnum bus bpos) ++ [59, 10]) (by simp [Pc.tx]) (by
        intro p hp
        simp only [List.mem_cons, List.not_mem_nil, or_false] at hp
        rcases hp with rfl | rfl | rfl | rfl | rfl
        · simp [Pc.ok]
        · exact w3
        · simp [Pc.ok]
        · exact hXb
        · simp [Pc.ok]) (by simp) (by simp) (by simp only [List.length_append, List.length_cons, List.length_nil]; omega) ?_
      rintro x H3 hp3 hv3 hl3
      simp -implicitDefEqProofs [-Int.natCast_add, g3, g5, g11, g12, g13, hw1]
      refine ⟨fs.length - (j + 1), by omega, ⟨⟨j + 1, by omega, rfl, by simp [hw1], ?_⟩, by simp [g3], by simp [g11], by simp [g12]⟩⟩
      rw [hft]
      simpa using hp3
  · have hje : j = fs.length := by omega
    subst hje
    have hp' : PgAt H 1 (fdsT fs) := by simpa [fdsT] using hp
    simp -implicitDefEqProofs [h3, h11, h12, h13]
    refine SC.str (i := 1) (by simp) (by simp [h3]) hp' hsz ?_
    intro H2
    simp -implicitDefEqProofs
end Go.Proofs.YtgddkgbidhhheaaDoor
/- What the grammar reads has all that its text shows, and no long text. No program in sight. -/
set_option linter.unusedVariables false
set_option linter.unusedSimpArgs false
namespace Go.Proofs.YtgddkgbidhhheaaDoor
namespace Pg
open Mk Flo
/-! how long a text is -/
def exL (e : Ex) : Nat := (exT e).length + 2
def exLs (us : List Ex) : Nat := (us.map exL).sum
theorem brack_len (b : Bool) (s : List UInt8) : (brack b s).length ≤ s.length + 2 := by
  cases b <;> simp [brack]
theorem commas_len : ∀ ss : List (List UInt8), (commas ss).length ≤ (ss.map fun s => s.length + 2).sum
  | [] => by simp [commas]
  | [s] => by simp [commas]
  | s :: u :: r => by
    have := commas_len (u :: r)
    simp only [commas, List.length_append, List.map_cons, List.sum_cons, List.length_cons, List.length_nil] at this ⊢
    omega
theorem letter_len (t : Int) : (letter t).length ≤ 1 := by
  unfold letter
  repeat' split
  all_goals simp
theorem part_len (l : List (Int × List UInt8)) (i : Nat) (n : Int) : (match l[i]? with | some (o, s) => brack (decide (levelN o < n)) s | none => []).length ≤ match l[i]? with | some p => p.2.length + 2 | none => 0 := by
  cases h : l[i]? with
  | none => simp
  | some p => obtain ⟨o, s⟩ := p; exact brack_len _ _
theorem three_len (l : List (Int × List UInt8)) : (match l[0]? with | some p => p.2.length + 2 | none => 0) + (match l[1]? with | some p => p.2.length + 2 | none => 0) + (match l[2]? with | some p => p.2.length + 2 | none => 0) ≤ (l.map fun p => p.2.length + 2).sum := by
  match l with
  | [] => simp
  | [a] => simp
  | [a, b] => simp
  | a :: b :: c :: r =>
    show a.2.length + 2 + (b.2.length + 2) + (c.2.length + 2) ≤ _
    simp only [List.map_cons, List.sum_cons]; omega
theorem sign_len (op : Int) : (signT op).1.length ≤ 4 := by
  unfold signT
  repeat' split
  all_goals simp
def nodeP (op : Int) (name tail : List UInt8) (ty : Int) (num : List UInt8) (sg : List UInt8 × Int × Int) (part : Nat → Int → List UInt8) (lst : List UInt8) : List UInt8 :=
  if sg.1 ≠ [] then part 0 sg.2.1 ++ sg.1 ++ part 1 sg.2.2
  else if op = 1 then num
  else if op = 2 then tTrue else if op = 3 then tFalse else if op = 4 then tNil
  else if op = 5 then tFail ++ [32] ++ letter ty
  else if op = 6 then name
  else if op = 7 then name ++ lst
  else if op = 14 then tNot ++ lst else if op = 15 then tRe ++ lst else if op = 16 then tIm ++ lst else if op = 17 then tConj ++ lst
  else if op = 19 then [105, 102, 32] ++ part 0 0 ++ [32, 116, 104, 101, 110, 32] ++ part 1 0 ++ [32, 101, 108, 115, 101, 32] ++ part 2 0
  else if op = 20 then [99, 97, 115, 101, 32] ++ part 0 0 ++ [32, 111, 102, 32, 110, 105, 108, 32, 45, 62, 32] ++ part 1 0 ++ [32, 124, 32] ++ name ++ [58] ++ tail ++ [32, 45, 62, 32] ++ part 2 0
  else if op = 21 then [108, 101, 116, 32] ++ name ++ [32] ++ letter ty ++ [32, 61, 32] ++ part 0 0 ++ [32, 105, 110, 32] ++ part 1 0
  else if op = 22 then [115, 116, 114, 105, 99, 116, 32] ++ name ++ [32] ++ letter ty ++ [32, 61, 32] ++ part 0 0 ++ [32, 105, 110, 32] ++ part 1 0
  else []
theorem nodeT_is (op : Int) (name tail : List UInt8) (ty : Int) (num : List UInt8) (l : List (Int × List UInt8)) : nodeT op name tail ty num l = nodeP op name tail ty num (signT op) (fun i n => match l[i]? with | some (o, s) => brack (decide (levelN o < n)) s | none => []) ([40] ++ commas (l.map Prod.snd) ++ [41]) := rfl
theorem len_ite {c : Prop} [Decidable c] {a b : List UInt8} {B : Nat} (ha : a.length ≤ B) (hb : b.length ≤ B) : (if c then a else b).length ≤ B := by split <;> assumption
theorem nodeP_len (op : Int) (name tail : List UInt8) (ty : Int) (num : List UInt8) (sg : List UInt8 × Int × Int) (part : Nat → Int → List UInt8) (lst : List UInt8) (q : Nat → Nat) (S : Nat) (hp : ∀ i n, (part i n).length ≤ q i) (hq : q 0 + q 1 + q 2 ≤ S) (hl : lst.length ≤ S + 2) (hs : sg.1.length ≤ 4) :
    (nodeP op name tail ty num sg part lst).length ≤ name.length + tail.length + num.length + 40 + S := by
  have hle := letter_len ty
  have a := hp 0 0
  have b := hp 1 0
  have c := hp 2 0
  have a' := hp 0 sg.2.1
  have b' := hp 1 sg.2.2
  unfold nodeP
  repeat' (refine len_ite ?_ ?_)
  all_goals try simp only [List.length_append, List.length_cons, List.length_nil]
  all_goals omega
theorem node_len (op : Int) (name tail : List UInt8) (ty : Int) (num : List UInt8) (l : List (Int × List UInt8)) : (nodeT op name tail ty num l).length ≤ name.length + tail.length + num.length + 40 + (l.map fun p => p.2.length + 2).sum := by
  have hc := commas_len (l.map Prod.snd)
  rw [List.map_map] at hc
  have hc' : (commas (l.map Prod.snd)).length ≤ (l.map fun p => p.2.length + 2).sum := hc
  rw [nodeT_is]
  exact nodeP_len op name tail ty num (signT op) _ _ (fun i => match l[i]? with | some p => p.2.length + 2 | none => 0) _ (fun i n => part_len l i n) (three_len l) (by simp only [List.length_append, List.length_cons, List.length_nil]; omega) (sign_len op)
theorem exTs_sum : ∀ us : List Ex, ((exTs us).map fun p => p.2.length + 2).sum = exLs us
  | [] => rfl
  | e :: r => by
    have := exTs_sum r
    simp only [exTs, List.map_cons, List.sum_cons, this, exLs, exL]
theorem mk_len (op : Int) (name tail : List UInt8) (ty : Int) (num : Int × Int) (us : List Ex) (pos : Int) : exL (.mk op name tail ty num us pos) ≤ name.length + tail.length + (textL num.1 num.2).length + 42 + exLs us := by
  have := node_len op name tail ty (textL num.1 num.2) (exTs us)
  rw [exTs_sum] at this
  simp only [exL, exT]; omega
theorem exLs_snoc (us : List Ex) (e : Ex) : exLs (us ++ [e]) = exLs us + exL e := by simp [exLs]
theorem exLs_cons (e : Ex) (us : List Ex) : exLs (e :: us) = exL e + exLs us := by simp [exLs]
theorem exLs_nil : exLs [] = 0 := rfl
theorem text00 : (textL 0 0).length = 1 := by
  unfold textL Lib.itoa
  rw [if_pos rfl, if_neg (by decide), Lib.decDigits]
  rfl
/-- what a mark weighs -/
def cM (m : M) : Nat := m.text.length + (textL m.num.1 m.num.2).length + 64
def cMs (ms : List M) : Nat := (ms.map cM).sum
theorem cMs_cons (m : M) (ms : List M) : cMs (m :: ms) = m.text.length + (textL m.num.1 m.num.2).length + 64 + cMs ms := by simp [cMs, cM]
def pL (p : Pm) : Nat := p.name.length + 8
def psL (ps : List Pm) : Nat := (ps.map pL).sum
def fL (f : Pg.Fd) : Nat := (fdT f).length
def vL : Vl → Nat
  | .u => 0
  | .e x => exL x
  | .nm m => m.text.length + 10
  | .ty _ => 0
  | .asx xs => exLs xs
  | .ps ps => psL ps
  | .fs fs => (fs.map fL).sum
def vLs (vs : List Vl) : Nat := (vs.map vL).sum
theorem vLs_cons (v : Vl) (vs : List Vl) : vLs (v :: vs) = vL v + vLs vs := by simp [vLs]
theorem vLs_nil : vLs [] = 0 := rfl
def szL : Job → Nat
  | .seq _ _ ms => cMs ms
  | .expr _ ms => cMs ms
  | .row _ _ ms => cMs ms
  | .tail _ _ e ms => exL e + cMs ms
  | .unit _ ms => cMs ms
  | .args _ us ms => exLs us + cMs ms
  | .pars ps ms => psL ps + cMs ms
  | .prog fs ms => (fs.map fL).sum + cMs ms
theorem bind_l (m : M) (vs : List Vl) : vLs (bindEx m vs) ≤ 50 + vLs vs := by
  unfold bindEx
  split
  · rename_i x t _ a _ b
    have := mk_len (if isW m tStrict then 22 else 21) x.text [] t (0, 0) [a, b] m.pos
    simp only [vLs_cons, vLs_nil, vL, exLs_cons, exLs_nil, text00, List.length_nil] at this ⊢
    omega
  · rename_i x _ _ _ a _ h _ t _ b
    have := mk_len 20 h.text t.text 0 (0, 0) [x, a, b] m.pos
    simp only [vLs_cons, vLs_nil, vL, exLs_cons, exLs_nil, text00, List.length_nil] at this ⊢
    omega
  · simp [vLs_nil]
theorem if_l (m : M) (vs : List Vl) : vLs (ifEx m vs) ≤ 50 + vLs vs := by
  unfold ifEx
  split
  · rename_i x _ a _ b
    have := mk_len 19 [] [] 0 (0, 0) [x, a, b] m.pos
    simp only [vLs_cons, vLs_nil, vL, exLs_cons, exLs_nil, text00, List.length_nil] at this ⊢
    omega
  · simp [vLs_nil]
theorem call_l (m : M) (vs : List Vl) : vLs (callEx m vs) ≤ m.text.length + 50 + vLs vs := by
  unfold callEx
  split
  · rename_i xs
    have := mk_len 7 m.text [] 0 (0, 0) xs m.pos
    simp only [vLs_cons, vLs_nil, vL, text00, List.length_nil] at this ⊢
    omega
  · simp [vLs_nil]
theorem par_l (vs : List Vl) : vLs (parEx vs) ≤ 50 + vLs vs := by
  unfold parEx
  split
  · simp only [vLs_cons, vLs_nil, vL]; omega
  · simp [vLs_nil]
theorem fail_l (m : M) (vs : List Vl) : vLs (failEx m vs) ≤ 50 + vLs vs := by
  unfold failEx
  split
  · rename_i t
    have := mk_len 5 [] [] t (0, 0) [] m.pos
    simp only [vLs_cons, vLs_nil, vL, exLs_nil, text00, List.length_nil] at this ⊢
    omega
  · simp [vLs_nil]
theorem one_l (op : Int) (m : M) (vs : List Vl) : vLs (oneEx op m vs) ≤ 50 + vLs vs := by
  unfold oneEx
  split
  · rename_i _ x _
    have := mk_len op [] [] 0 (0, 0) [x] m.pos
    simp only [vLs_cons, vLs_nil, vL, exLs_cons, exLs_nil, text00, List.length_nil] at this ⊢
    omega
  · simp [vLs_nil]
theorem two_l (op : Int) (a b : Ex) (pos : Int) : exL (two op a b pos) ≤ 50 + exL a + exL b := by
  have := mk_len op [] [] 0 (0, 0) [a, b] pos
  simp only [exLs_cons, exLs_nil, text00, List.length_nil] at this
  unfold two
  omega
theorem pms_len : ∀ ps : List Pm, (pmsT ps).length ≤ psL ps
  | [] => by simp [pmsT]
  | [p] => by
    have := letter_len p.ty
    simp [pmsT, psL, pL]; omega
  | p :: q :: r => by
    have h := pms_len (q :: r)
    have := letter_len p.ty
    simp only [pmsT, List.length_append, List.length_cons, List.length_nil, psL, List.map_cons, List.sum_cons, pL] at h ⊢
    omega
theorem def_l {vs : List Vl} {f : Pg.Fd} (h : defEx vs = some f) : fL f ≤ vLs vs := by
  unfold defEx at h
  split at h
  · rename_i m _ ps _ t _ b _
    cases h
    have h1 := pms_len ps
    have h2 := letter_len t
    simp only [vLs_cons, vLs_nil, vL, fL, fdT, exL, List.length_append, List.length_cons, List.length_nil]; omega
  · cases h
theorem len_le {l : Lim} {j : Job} {r : Res} (h : P l j r) : ∀ {vs : List Vl} {ms' : List M}, r = .ok vs ms' → vLs vs + cMs ms' ≤ szL j := by
  induction h with
  | nil n ms => intro vs ms' e; cases e; simp [vLs, szL]
  | w h hr ih => intro vs ms' e; obtain ⟨us, rfl, eq⟩ := cons_ok e; have := ih eq; simp only [szL, vLs_cons, vL, cMs_cons] at *; omega
  | nm h hr ih => intro vs ms' e; obtain ⟨us, rfl, eq⟩ := cons_ok e; have := ih eq; simp only [szL, vLs_cons, vL, cMs_cons] at *; omega
  | cn h hk hr ih => intro vs ms' e; obtain ⟨us, rfl, eq⟩ := cons_ok e; have := ih eq; simp only [szL, vLs_cons, vL, cMs_cons] at *; omega
  | ty h hr ih => intro vs ms' e; obtain ⟨us, rfl, eq⟩ := cons_ok e; have := ih eq; simp only [szL, vLs_cons, vL, cMs_cons] at *; omega
  | e h hr ih1 ih2 => intro vs ms' e; obtain ⟨us, rfl, eq⟩ := cons_ok e; have h1 := ih1 rfl; have h2 := ih2 eq; simp only [szL, vLs_cons, vLs_nil, vL] at *; omega
  | ps h hr ih1 ih2 => intro vs ms' e; obtain ⟨us, rfl, eq⟩ := cons_ok e; have h1 := ih1 rfl; have h2 := ih2 eq; simp only [szL, vLs_cons, vLs_nil, vL, psL, List.map_nil, List.sum_nil] at *; omega
  | bind h hn hr ih => intro vs ms' e; obtain ⟨us, rfl, eq⟩ := map_ok e; have h1 := ih eq; have h2 := bind_l ‹M› us; simp only [szL, cMs_cons] at *; omega
  | cond h hr ih => intro vs ms' e; obtain ⟨us, rfl, eq⟩ := map_ok e; have h1 := ih eq; have h2 := if_l ‹M› us; simp only [szL, cMs_cons] at *; omega
  | expr h h' hr ih => intro vs ms' e; exact ih e
  | row4 hr ih => intro vs ms' e; exact ih e
  | row h h1 hr ih1 ih2 => intro vs ms' e; have h1 := ih1 rfl; have h2 := ih2 e; simp only [szL, vLs_cons, vLs_nil, vL] at *; omega
  | stop n e ms h => intro vs ms' e; cases e; simp [szL, vLs_cons, vLs_nil, vL]
  | @tail1 n lv op e b m ms ms'' h hl hr ih => intro vs ms' eq; cases eq; have h1 := ih rfl; have h2 := two_l op e b m.pos; simp only [szL, vLs_cons, vLs_nil, vL, cMs_cons] at *; omega
  | @tail2 n lv op e b m ms ms'' r h hl h1 hr ih1 ih2 => intro vs ms' eq; have h1 := ih1 rfl; have h2 := ih2 eq; have h3 := two_l op e b m.pos; simp only [szL, vLs_cons, vLs_nil, vL, cMs_cons] at *; omega
  | @num n m ms h => intro vs ms' e; cases e; have := mk_len 1 [] [] 0 m.num [] m.pos; simp only [szL, vLs_cons, vLs_nil, vL, cMs_cons, exLs_nil, List.length_nil] at *; omega
  | @var n m k ms h hk => intro vs ms' e; cases e; have := mk_len 6 m.text [] 0 (0, 0) [] m.pos; simp only [szL, vLs_cons, vLs_nil, vL, cMs_cons, exLs_nil, text00, List.length_nil] at *; omega
  | @call n m k ms r h hk hr ih => intro vs ms' e; obtain ⟨us, rfl, eq⟩ := map_ok e; have h1 := ih eq; have h2 := call_l m us; simp only [szL, cMs_cons, exLs_nil] at *; omega
  | par h hr ih => intro vs ms' e; obtain ⟨us, rfl, eq⟩ := map_ok e; have h1 := ih eq; have h2 := par_l us; simp only [szL, cMs_cons] at *; omega
  | @word0 n op m ms h => intro vs ms' e; cases e; have := mk_len op [] [] 0 (0, 0) [] m.pos; simp only [szL, vLs_cons, vLs_nil, vL, cMs_cons, exLs_nil, text00, List.length_nil] at *; omega
  | @fail n m ms r h hr ih => intro vs ms' e; obtain ⟨us, rfl, eq⟩ := map_ok e; have h1 := ih eq; have h2 := fail_l m us; simp only [szL, cMs_cons] at *; omega
  | @word1 n op m ms r h hr ih => intro vs ms' e; obtain ⟨us, rfl, eq⟩ := map_ok e; have h1 := ih eq; have h2 := one_l op m us; simp only [szL, cMs_cons] at *; omega
  | aStop n us ms h => intro vs ms' e; cases e; simp only [szL, vLs_cons, vLs_nil, vL, cMs_cons]; omega
  | aNext0 h h1 hr ih1 ih2 => intro vs ms' e; have h1 := ih1 rfl; have h2 := ih2 e; simp only [szL, vLs_cons, vLs_nil, vL, exLs_cons, exLs_nil, cMs_cons] at *; omega
  | aNext ha hc h1 hr ih1 ih2 => intro vs ms' e; have h1 := ih1 rfl; have h2 := ih2 e; simp only [szL, vLs_cons, vLs_nil, vL, exLs_snoc, cMs_cons] at *; omega
  | pStop ps ms h => intro vs ms' e; cases e; simp only [szL, vLs_cons, vLs_nil, vL, cMs_cons]; omega
  | pNext0 h h1 hr ih1 ih2 => intro vs ms' e; have h1 := ih1 rfl; have h2 := ih2 e; simp only [szL, vLs_cons, vLs_nil, vL, psL, pL, List.map_cons, List.map_nil, List.sum_cons, List.sum_nil, cMs_cons] at *; omega
  | pNext ha hc h1 hr ih1 ih2 => intro vs ms' e; have h1 := ih1 rfl; have h2 := ih2 e; simp only [szL, vLs_cons, vLs_nil, vL, psL, pL, List.map_append, List.map_cons, List.map_nil, List.sum_append, List.sum_cons, List.sum_nil, cMs_cons] at *; omega
  | progEnd ms h hf => intro vs ms' e; cases e; simp only [szL, vLs_cons, vLs_nil, vL, cMs_cons]; omega
  | prog h h1 hd hr ih1 ih2 => intro vs ms' e; have h1 := ih1 rfl; have h2 := ih2 e; have h3 := def_l hd; simp only [szL, List.map_append, List.map_cons, List.map_nil, List.sum_append, List.sum_cons, List.sum_nil, cMs_cons] at *; omega
  | _ => intro vs ms' e; cases e
end Pg
end Go.Proofs.YtgddkgbidhhheaaDoor
