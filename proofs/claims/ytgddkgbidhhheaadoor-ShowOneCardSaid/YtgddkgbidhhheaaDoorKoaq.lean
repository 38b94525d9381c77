/- Texts joined: Pri Prj. -/
import Derived.Test.YtgddkgbidhhheaaDoorKoap
/- The reference parser: expressions. -/
set_option linter.unusedVariables false
set_option linter.unusedSimpArgs false
set_option maxRecDepth 100000
namespace Go.Proofs.YtgddkgbidhhheaaDoor
open Go.RowKit Flo Ab Mk Pg
section
variable {G : World → Prop} {all : List M} {l : Lim} {b : Nat} {n : Int}
theorem isB_cases {m : M} (h : isB m = true) : isW m tLet = true ∨ isW m tStrict = true ∨ isW m tCase = true := by
  unfold isB at h
  simp only [Bool.or_eq_true] at h
  rcases h with (h | h) | h
  · exact .inl h
  · exact .inr (.inl h)
  · exact .inr (.inr h)
theorem isB_not {m : M} (h : isB m = false) : isW m tLet = false ∧ isW m tStrict = false ∧ isW m tCase = false := by
  unfold isB at h
  simp only [Bool.or_eq_false_iff] at h
  exact ⟨h.1.1, h.1.2, h.2⟩
theorem isB_let {m : M} (h : isW m tLet = true) : isB m = true := by unfold isB; rw [h]; rfl
theorem isB_strict {m : M} (h : isW m tStrict = true) : isB m = true := by unfold isB; rw [h]; simp
theorem isB_case {m : M} (h : isW m tCase = true) : isB m = true := by unfold isB; rw [h]; simp
theorem two_of {es : List Ex} (h : es.length = 2) : ∃ x y, es = [x, y] := by
  match es, h with
  | [x, y], _ => exact ⟨x, y, rfl⟩
theorem three_of {es : List Ex} (h : es.length = 3) : ∃ x y z, es = [x, y, z] := by
  match es, h with
  | [x, y, z], _ => exact ⟨x, y, z, rfl⟩
theorem expr_ok (hm : Mks all) (hX : HX G all l b) (hC : GC G 64 all l (Lv 0) b) (hb : b < all.length) : GC G 55 all l .expr b := by
  intro n hn0 hn1
  have hlen := hm.len
  obtain ⟨m, h0⟩ : ∃ m, all[b]? = some m := ⟨_, List.getElem?_eq_getElem hb⟩
  have hdr := drop_at h0
  have hw : IntKind.i64.wrap ((b : Int) + 1) = ((b + 1 : Nat) : Int) := by rw [wrap64 _ (by omega)]; omega
  have hwn : IntKind.i64.wrap (n + 1) = n + 1 := by rw [wrap64 _ (by omega)]
  have hwn' : IntKind.i64.wrap n = n := by rw [wrap64 _ (by omega)]
  refine AM.go hmix F_pexpr (by simp) ?_
  simp -implicitDefEqProofs [c_pexpr]
  refine SC.rd (by simp) [.ptr 0 0] (by simp) (all := all) (l := l) (a := b) (why := 0) (wh := 0) (n := n) (by simp) (rnext_ap all l b 0 0 n h0) (by simp [toO]) ⟨0, by simp⟩ (by simp [lentO]) ?_ (tg := .mk)
  rintro x cs - ⟨rfl, rfl⟩
  have s1 := ris_ap (G := G) all l b 0 0 n tLet h0
  have s2 := ris_ap (G := G) all l b 0 0 n tStrict h0
  have s3 := ris_ap (G := G) all l b 0 0 n tCase h0
  have s4 := ris_ap (G := G) all l b 0 0 n tIf h0
  have hfail := rfail_ap (G := G) all l b 0 0 n 23 h0
  simp -implicitDefEqProofs [mcells, wrOb, splice]
  by_cases hB : isB m = true
  · rcases isB_cases hB with hs | hs | hs
    · have hB := isB_let hs
      have hlt := hm.fin b m h0 (isW_kind hs).2.2
      have htx := isW_text hs
      rw [hs] at s1
      refine SC.rd (by simp) [.ptr 0 0, sv tLet] (by simp) (all := all) (l := l) (a := b) (why := 0) (wh := 0) (n := n) (by simp) (s1) (by simp [toO]) ⟨0, by simp⟩ (by simp [lentO]) ?_ (tg := .mk)
      rintro x cs - ⟨rfl, rfl⟩
      by_cases hnest : l.nest ≤ n
      · simp -implicitDefEqProofs [hnest, rdr]
        refine SC.rd (by simp) [.ptr 0 0, iv 23] (by simp) (all := all) (l := l) (a := b) (why := 0) (wh := 0) (n := n) (by simp -implicitDefEqProofs [rdr]) (hfail) (by simp [toO]) ⟨0, by simp⟩ (by simp [lentO]) ?_ (tg := .mk)
        rintro x cs - ⟨rfl, rfl⟩
        simp -implicitDefEqProofs [rdr, wrOb, splice, evP, fillA, finM]
        refine .inr ⟨23, m.pos, Ex.zero, b, n, ?_, by omega, by rw [exA, zeroE_cells], hb, by simp [rdr]⟩
        rw [hdr]; exact .deep _ hB hnest
      · have hnl : n < l.nest := by omega
        simp -implicitDefEqProofs [hnest, hnl, rdr, hw, hwn, htx, wrOb, splice, evP, fillA, -Int.natCast_add]
        have hbi : bindIts m = [.nm, .ty, .w sEq, .e, .w tIn, .e] := by unfold bindIts; rw [isW_other hs (by decide)]; rfl
        have hS := Sq.new (l := l) (n := n + 1) hlt (show b < b + 1 by omega) (bindIts m)
        have hPb : ∀ r, P l (.seq (n + 1) (bindIts m) (all.drop (b + 1))) r → P l (.expr n (all.drop b)) (r.map (bindEx m)) := fun r hr => by rw [hdr]; exact .bind hB hnl hr
        have hop : (if isW m tStrict = true then (22 : Int) else 21) = 21 := by rw [isW_other hs (show tLet ≠ tStrict by decide)]; rfl
        obtain ⟨its0, hi0⟩ : ∃ its0, bindIts m = its0 := ⟨_, rfl⟩
        rw [hi0] at hS hPb hbi
        have hS0 := hS
        rw [hbi] at hS0
        rw [← hbi] at hS0
        rw [show its0 = [.nm, .ty, .w sEq, .e, .w tIn, .e] from hbi] at hS
        refine SC.rd (by simp) [.ptr 0 0] (by simp) (all := all) (l := l) (a := b + 1) (why := 0) (wh := 0) (n := n + 1) (by simp -implicitDefEqProofs [rdr]) (name_sq hm hS) (by simp [toO]) ⟨0, by simp⟩ (by simp [lentO]) ?_ (tg := .mk)
        rintro x cs - ⟨mx, rfl, a1, w1, p1, n1, rfl, hS1⟩
        simp -implicitDefEqProofs [mcells, wrOb, splice]
        refine SC.rd (by simp) [.ptr 0 0] (by simp) (all := all) (l := l) (a := a1) (why := w1) (wh := p1) (n := n1) (by simp) (typ_sq hm hS1) (by simp [toO]) ⟨0, by simp⟩ (by simp [lentO]) ?_ (tg := .mk)
        rintro x cs - ⟨ty, rfl, a2, w2, p2, n2, rfl, hS2⟩
        have hS2' : Sq l all b (n + 1) (P l (.seq (n + 1) [.nm, .ty, .w sEq, .e, .w tIn, .e] (all.drop (b + 1)))) [.nm mx, .ty ty] (itsP [sEq, tIn]) a2 w2 p2 n2 := by simpa [itsP] using hS2
        simp -implicitDefEqProofs [wrOb, splice, evP, fillA]
        refine SC.rd (by simp) [.ptr 0 0, .row 5] (by simp) (all := all) (l := l) (a := a2) (why := w2) (wh := p2) (n := n2) (by simp) (parts_ok hm hX (by omega) (by simp) hS2') (by simp [toO]) ⟨0, by simp⟩ (by simp [lentO]) ?_ (tg := .mk)
        rintro x cs - ⟨es, rfl, hel, a3, w3, p3, n3, rfl, hS3⟩
        obtain ⟨y, z, rfl⟩ := two_of hel
        simp -implicitDefEqProofs [rdr, wrOb, splice, evP, fillA, finM, -Int.natCast_add]
        have hS4 : Sq l all b (n + 1) (P l (.seq (n + 1) its0 (all.drop (b + 1)))) [.nm mx, .ty ty, .u, .e y, .u, .e z] [] a3 w3 p3 n3 := by rw [hbi]; simpa [partsV, partV] using hS3
        rcases hS4.end with ⟨rfl, rfl, rfl, hb2, hl2, hP⟩ | ⟨hw2, hl2, hP⟩
        · refine .inl ⟨.mk 21 mx.text [] ty (0, 0) [y, z] m.pos, a3, ?_, by simp [exA, Ex.cells, W0], hb2, hl2, by simp [rdr, hwn']⟩
          have := hPb _ hP
          simpa [Res.map, bindEx, hop] using this
        · exact .inr ⟨w3, p3, .mk 21 mx.text [] ty (0, 0) [y, z] m.pos, a3, _, hPb _ hP, hw2, by simp [exA, Ex.cells, W0], hl2, rfl⟩
    · have hB := isB_strict hs
      have hlt := hm.fin b m h0 (isW_kind hs).2.2
      have htx := isW_text hs
      rw [isW_other hs (show tStrict ≠ tLet by decide)] at s1
      rw [hs] at s2
      refine SC.rd (by simp) [.ptr 0 0, sv tLet] (by simp) (all := all) (l := l) (a := b) (why := 0) (wh := 0) (n := n) (by simp) (s1) (by simp [toO]) ⟨0, by simp⟩ (by simp [lentO]) ?_ (tg := .mk)
      rintro x cs - ⟨rfl, rfl⟩
      simp -implicitDefEqProofs
      refine SC.rd (by simp) [.ptr 0 0, sv tStrict] (by simp) (all := all) (l := l) (a := b) (why := 0) (wh := 0) (n := n) (by simp) (s2) (by simp [toO]) ⟨0, by simp⟩ (by simp [lentO]) ?_ (tg := .mk)
      rintro x cs - ⟨rfl, rfl⟩
      by_cases hnest : l.nest ≤ n
      · simp -implicitDefEqProofs [hnest, rdr]
        refine SC.rd (by simp) [.ptr 0 0, iv 23] (by simp) (all := all) (l := l) (a := b) (why := 0) (wh := 0) (n := n) (by simp -implicitDefEqProofs [rdr]) (hfail) (by simp [toO]) ⟨0, by simp⟩ (by simp [lentO]) ?_ (tg := .mk)
        rintro x cs - ⟨rfl, rfl⟩
        simp -implicitDefEqProofs [rdr, wrOb, splice, evP, fillA, finM]
        refine .inr ⟨23, m.pos, Ex.zero, b, n, ?_, by omega, by rw [exA, zeroE_cells], hb, by simp [rdr]⟩
        rw [hdr]; exact .deep _ hB hnest
      · have hnl : n < l.nest := by omega
        simp -implicitDefEqProofs [hnest, hnl, rdr, hw, hwn, htx, wrOb, splice, evP, fillA, -Int.natCast_add]
        have hbi : bindIts m = [.nm, .ty, .w sEq, .e, .w tIn, .e] := by unfold bindIts; rw [isW_other hs (by decide)]; rfl
        have hS := Sq.new (l := l) (n := n + 1) hlt (show b < b + 1 by omega) (bindIts m)
        have hPb : ∀ r, P l (.seq (n + 1) (bindIts m) (all.drop (b + 1))) r → P l (.expr n (all.drop b)) (r.map (bindEx m)) := fun r hr => by rw [hdr]; exact .bind hB hnl hr
        have hop : (if isW m tStrict = true then (22 : Int) else 21) = 22 := by rw [hs]; rfl
        obtain ⟨its0, hi0⟩ : ∃ its0, bindIts m = its0 := ⟨_, rfl⟩
        rw [hi0] at hS hPb hbi
        have hS0 := hS
        rw [hbi] at hS0
        rw [← hbi] at hS0
        rw [show its0 = [.nm, .ty, .w sEq, .e, .w tIn, .e] from hbi] at hS
        refine SC.rd (by simp) [.ptr 0 0] (by simp) (all := all) (l := l) (a := b + 1) (why := 0) (wh := 0) (n := n + 1) (by simp -implicitDefEqProofs [rdr]) (name_sq hm hS) (by simp [toO]) ⟨0, by simp⟩ (by simp [lentO]) ?_ (tg := .mk)
        rintro x cs - ⟨mx, rfl, a1, w1, p1, n1, rfl, hS1⟩
        simp -implicitDefEqProofs [mcells, wrOb, splice]
        refine SC.rd (by simp) [.ptr 0 0] (by simp) (all := all) (l := l) (a := a1) (why := w1) (wh := p1) (n := n1) (by simp) (typ_sq hm hS1) (by simp [toO]) ⟨0, by simp⟩ (by simp [lentO]) ?_ (tg := .mk)
        rintro x cs - ⟨ty, rfl, a2, w2, p2, n2, rfl, hS2⟩
        have hS2' : Sq l all b (n + 1) (P l (.seq (n + 1) [.nm, .ty, .w sEq, .e, .w tIn, .e] (all.drop (b + 1)))) [.nm mx, .ty ty] (itsP [sEq, tIn]) a2 w2 p2 n2 := by simpa [itsP] using hS2
        simp -implicitDefEqProofs [wrOb, splice, evP, fillA]
        refine SC.rd (by simp) [.ptr 0 0, .row 5] (by simp) (all := all) (l := l) (a := a2) (why := w2) (wh := p2) (n := n2) (by simp) (parts_ok hm hX (by omega) (by simp) hS2') (by simp [toO]) ⟨0, by simp⟩ (by simp [lentO]) ?_ (tg := .mk)
        rintro x cs - ⟨es, rfl, hel, a3, w3, p3, n3, rfl, hS3⟩
        obtain ⟨y, z, rfl⟩ := two_of hel
        simp -implicitDefEqProofs [rdr, wrOb, splice, evP, fillA, finM, -Int.natCast_add]
        have hS4 : Sq l all b (n + 1) (P l (.seq (n + 1) its0 (all.drop (b + 1)))) [.nm mx, .ty ty, .u, .e y, .u, .e z] [] a3 w3 p3 n3 := by rw [hbi]; simpa [partsV, partV] using hS3
        rcases hS4.end with ⟨rfl, rfl, rfl, hb2, hl2, hP⟩ | ⟨hw2, hl2, hP⟩
        · refine .inl ⟨.mk 22 mx.text [] ty (0, 0) [y, z] m.pos, a3, ?_, by simp [exA, Ex.cells, W0], hb2, hl2, by simp [rdr, hwn']⟩
          have := hPb _ hP
          simpa [Res.map, bindEx, hop] using this
        · exact .inr ⟨w3, p3, .mk 22 mx.text [] ty (0, 0) [y, z] m.pos, a3, _, hPb _ hP, hw2, by simp [exA, Ex.cells, W0], hl2, rfl⟩
    · have hB := isB_case hs
      have hlt := hm.fin b m h0 (isW_kind hs).2.2
      have htx := isW_text hs
      rw [isW_other hs (show tCase ≠ tLet by decide)] at s1
      rw [isW_other hs (show tCase ≠ tStrict by decide)] at s2
      rw [hs] at s3
      refine SC.rd (by simp) [.ptr 0 0, sv tLet] (by simp) (all := all) (l := l) (a := b) (why := 0) (wh := 0) (n := n) (by simp) (s1) (by simp [toO]) ⟨0, by simp⟩ (by simp [lentO]) ?_ (tg := .mk)
      rintro x cs - ⟨rfl, rfl⟩
      simp -implicitDefEqProofs
      refine SC.rd (by simp) [.ptr 0 0, sv tStrict] (by simp) (all := all) (l := l) (a := b) (why := 0) (wh := 0) (n := n) (by simp) (s2) (by simp [toO]) ⟨0, by simp⟩ (by simp [lentO]) ?_ (tg := .mk)
      rintro x cs - ⟨rfl, rfl⟩
      simp -implicitDefEqProofs
      refine SC.rd (by simp) [.ptr 0 0, sv tCase] (by simp) (all := all) (l := l) (a := b) (why := 0) (wh := 0) (n := n) (by simp) (s3) (by simp [toO]) ⟨0, by simp⟩ (by simp [lentO]) ?_ (tg := .mk)
      rintro x cs - ⟨rfl, rfl⟩
      by_cases hnest : l.nest ≤ n
      · simp -implicitDefEqProofs [hnest, rdr]
        refine SC.rd (by simp) [.ptr 0 0, iv 23] (by simp) (all := all) (l := l) (a := b) (why := 0) (wh := 0) (n := n) (by simp -implicitDefEqProofs [rdr]) (hfail) (by simp [toO]) ⟨0, by simp⟩ (by simp [lentO]) ?_ (tg := .mk)
        rintro x cs - ⟨rfl, rfl⟩
        simp -implicitDefEqProofs [rdr, wrOb, splice, evP, fillA, finM]
        refine .inr ⟨23, m.pos, Ex.zero, b, n, ?_, by omega, by rw [exA, zeroE_cells], hb, by simp [rdr]⟩
        rw [hdr]; exact .deep _ hB hnest
      · have hnl : n < l.nest := by omega
        simp -implicitDefEqProofs [hnest, hnl, rdr, hw, hwn, htx, wrOb, splice, evP, fillA, -Int.natCast_add]
        have hbi : bindIts m = caseIts := by unfold bindIts; rw [if_pos hs]; rfl
        have hS := Sq.new (l := l) (n := n + 1) hlt (show b < b + 1 by omega) caseIts
        have hPb : ∀ r, P l (.seq (n + 1) caseIts (all.drop (b + 1))) r → P l (.expr n (all.drop b)) (r.map (bindEx m)) := fun r hr => by rw [hdr]; rw [← hbi] at hr; exact .bind hB hnl hr
        have hbr := branches_ok (G := G) hm hX (by omega) hS m.pos
        refine SC.lent2 (by simp) [.ptr 0 0, .ptr 3 0] (by simp) 0 3 (by omega) (rdr all l (b + 1) 0 0 (n + 1)) [iv 0, sv [], sv [], iv 0, cv 0 0, .v (.slice none 0 0), iv m.pos] (by simp [rdr]) (by simp) (by simp [rdr]) (by simp) (by simpa [toO, show List.idxOf 3 [0, 3] = 1 by decide] using hbr) ⟨0, by simp⟩ ⟨0, by simp⟩ (by simp [lentO]) ?_ (a := .mk)
        rintro x cs ds - - ⟨rfl, ex, ey, ez, mh, mt, rfl, a3, w3, p3, n3, rfl, hS4⟩
        simp -implicitDefEqProofs [rdr, Ex.cells, wrOb, splice, evP, fillA, finM, -Int.natCast_add]
        rcases hS4.end with ⟨rfl, rfl, rfl, hb2, hl2, hP⟩ | ⟨hw2, hl2, hP⟩
        · refine .inl ⟨.mk 20 mh.text mt.text 0 (0, 0) [ex, ey, ez] m.pos, a3, ?_, by simp [exA, Ex.cells, W0], hb2, hl2, by simp [rdr, hwn']⟩
          have := hPb _ hP
          simpa [Res.map, bindEx] using this
        · exact .inr ⟨w3, p3, .mk 20 mh.text mt.text 0 (0, 0) [ex, ey, ez] m.pos, a3, _, hPb _ hP, hw2, by simp [exA, Ex.cells, W0], hl2, rfl⟩
  · have hB' : isB m = false := by simpa using hB
    obtain ⟨e1, e2, e3⟩ := isB_not hB'
    rw [e1] at s1
    rw [e2] at s2
    rw [e3] at s3
    refine SC.rd (by simp) [.ptr 0 0, sv tLet] (by simp) (all := all) (l := l) (a := b) (why := 0) (wh := 0) (n := n) (by simp) (s1) (by simp [toO]) ⟨0, by simp⟩ (by simp [lentO]) ?_ (tg := .mk)
    rintro x cs - ⟨rfl, rfl⟩
    simp -implicitDefEqProofs
    refine SC.rd (by simp) [.ptr 0 0, sv tStrict] (by simp) (all := all) (l := l) (a := b) (why := 0) (wh := 0) (n := n) (by simp) (s2) (by simp [toO]) ⟨0, by simp⟩ (by simp [lentO]) ?_ (tg := .mk)
    rintro x cs - ⟨rfl, rfl⟩
    simp -implicitDefEqProofs
    refine SC.rd (by simp) [.ptr 0 0, sv tCase] (by simp) (all := all) (l := l) (a := b) (why := 0) (wh := 0) (n := n) (by simp) (s3) (by simp [toO]) ⟨0, by simp⟩ (by simp [lentO]) ?_ (tg := .mk)
    rintro x cs - ⟨rfl, rfl⟩
    simp -implicitDefEqProofs [rdr]
    cases hif : isW m tIf
    · rw [hif] at s4
      refine SC.rd (by simp) [.ptr 0 0, sv tIf] (by simp) (all := all) (l := l) (a := b) (why := 0) (wh := 0) (n := n) (by simp -implicitDefEqProofs [rdr]) (s4) (by simp [toO]) ⟨0, by simp⟩ (by simp [lentO]) ?_ (tg := .mk)
      rintro x cs - ⟨rfl, rfl⟩
      simp -implicitDefEqProofs
      refine SC.rd (by simp) [.ptr 0 0] (by simp) (all := all) (l := l) (a := b) (why := 0) (wh := 0) (n := n) (by simp) (hC n hn0 hn1) (by simp [toO]) ⟨0, by simp⟩ (by simp [lentO]) ?_ (tg := .mk)
      rintro x cs hcs hO
      have hO' : Out (P l (.expr n (all.drop b))) all l b n x cs := hO.mono fun r hr => by
        rw [hdr]
        unfold Lv at hr
        rw [hdr] at hr
        exact .expr hB' hif hr
      rcases hO with ⟨e, a', hP, rfl, ha1, ha2, rfl⟩ | ⟨w, p, e, a', n1, hP, hw, rfl, ha2, rfl⟩
      · obtain ⟨o, nm, tl, ty, num, args, pos⟩ := e
        simp -implicitDefEqProofs [exA, Ex.cells, wrOb, splice, finM]
        exact ⟨by simp [rdr], hO'⟩
      · obtain ⟨o, nm, tl, ty, num, args, pos⟩ := e
        simp -implicitDefEqProofs [exA, Ex.cells, wrOb, splice, finM]
        exact ⟨by simp [rdr], hO'⟩
    · rw [hif] at s4
      have hlt := hm.fin b m h0 (isW_kind hif).2.2
      have htx := isW_text hif
      refine SC.rd (by simp) [.ptr 0 0, sv tIf] (by simp) (all := all) (l := l) (a := b) (why := 0) (wh := 0) (n := n) (by simp -implicitDefEqProofs [rdr]) (s4) (by simp [toO]) ⟨0, by simp⟩ (by simp [lentO]) ?_ (tg := .mk)
      rintro x cs - ⟨rfl, rfl⟩
      have hS := Sq.new (l := l) (n := n) hlt (show b < b + 1 by omega) ifIts
      have hS' : Sq l all b n (P l (.seq n ifIts (all.drop (b + 1)))) [] (itsP [[], tThen, tElse]) (b + 1) 0 0 n := by simpa [itsP, ifIts] using hS
      simp -implicitDefEqProofs [rdr, hw, htx, wrOb, splice, evP, fillA, -Int.natCast_add]
      refine SC.rd (by simp) [.ptr 0 0, .row 4] (by simp) (all := all) (l := l) (a := b + 1) (why := 0) (wh := 0) (n := n) (by simp -implicitDefEqProofs [rdr]) (parts_ok hm hX (by omega) (by simp) hS') (by simp [toO]) ⟨0, by simp⟩ (by simp [lentO]) ?_ (tg := .mk)
      rintro x cs - ⟨es, rfl, hel, a3, w3, p3, n3, rfl, hS3⟩
      obtain ⟨y, z, u, rfl⟩ := three_of hel
      simp -implicitDefEqProofs [wrOb, splice, evP, fillA, finM]
      refine ⟨by simp [rdr], ?_⟩
      rcases hS3.end with ⟨rfl, rfl, rfl, hb2, hl2, hP⟩ | ⟨hw2, hl2, hP⟩
      · refine .inl ⟨.mk 19 [] [] 0 (0, 0) [y, z, u] m.pos, a3, ?_, by simp [exA, Ex.cells, W0], hb2, hl2, rfl⟩
        have := P.cond hif hP
        rw [hdr]
        simpa [Res.map, ifEx, partsV, partV] using this
      · refine .inr ⟨w3, p3, .mk 19 [] [] 0 (0, 0) [y, z, u] m.pos, a3, n3, ?_, hw2, by simp [exA, Ex.cells, W0], hl2, rfl⟩
        rw [hdr]
        exact P.cond hif hP
end
end Go.Proofs.YtgddkgbidhhheaaDoor
/- The reference parser: definitions. -/
set_option linter.unusedVariables false
set_option linter.unusedSimpArgs false
set_option maxRecDepth 100000
namespace Go.Proofs.YtgddkgbidhhheaaDoor
open Go.RowKit Flo Ab Mk Pg
section
variable {G : World → Prop} {all : List M} {l : Lim} {b : Nat} {n : Int} {Q : Res → Prop}
/-- every expression -/
theorem expr_all (hm : Mks all) : ∀ (d b : Nat), all.length - b ≤ d → b < all.length → GC G 55 all l .expr b ∧ GC G 64 all l (Lv 0) b
  | 0, b, h, hb => by omega
  | d + 1, b, h, hb => by
    have ih := expr_all hm d
    have hX : ∀ a, b ≤ a → HX G all l a := fun a ha a' h1 h2 => (ih a' (by omega) h2).1
    have hU : ∀ a, b ≤ a → a < all.length → GC G 88 all l .unit a := fun a h1 h2 => unit_ok hm (hX a h1) h2
    have hT : ∀ a, b ≤ a → a < all.length → GC G 80 all l (Lv 3) a := fun a h1 h2 => term_ok hm (fun a' h3 h4 => hU a' (by omega) h4) h2
    have hS : ∀ a, b ≤ a → a < all.length → GC G 73 all l (Lv 2) a := fun a h1 h2 => sum_ok hm (fun a' h3 h4 => hT a' (by omega) h4) h2
    have hK : ∀ a, b ≤ a → a < all.length → GC G 69 all l (Lv 1) a := fun a h1 h2 => comp_ok hm (fun a' h3 h4 => hS a' (by omega) h4) h2
    have hc := cons_ok hm hK (fun a h1 h2 => (ih a (by omega) h2).2) hb
    exact ⟨expr_ok hm (hX b (by omega)) hc hb, hc⟩
theorem HX_all (hm : Mks all) : HX G all l b := fun a _ ha => (expr_all hm _ a (Nat.le_refl _) ha).1
/-! names that are counted -/
theorem cn_good (hm : Mks all) {a : Nat} {m : M} (h0 : all[a]? = some m) {k most : Int} (hk : m.kind = 0 → k < most) {vs : List Vl} {its : List It} (hb : b ≤ a) (hQ : ∀ r, P l (.seq 0 (.cn k most :: its) (all.drop a)) r → Q (Res.pre vs r)) :
    AM Tryd.prog G 51 [.ptr 0 0] (rdr all l a 0 0 0) (fun x cs => ∃ m : M, x = .agg (mcells m) ∧ ∃ (a : Nat) (w p n' : Int), cs = rdr all l a w p n' ∧ Sq l all b 0 Q (vs ++ [.nm m]) its a w p n') := by
  have hlen := hm.len
  have ha := (List.getElem?_eq_some_iff.1 h0).1
  refine AM.mono (rname_ap all l a 0 0 0 h0 (by omega)) ?_
  intro x cs hx
  rw [if_pos rfl] at hx
  by_cases hk0 : m.kind = 0
  · rw [if_pos hk0] at hx
    obtain ⟨rfl, rfl⟩ := hx
    refine ⟨_, rfl, a + 1, 0, 0, _, rfl, hm.fin a _ h0 (by omega), .inl ⟨rfl, rfl, rfl, by omega, fun r hr => ?_⟩⟩
    rw [pre_snoc]
    refine hQ _ ?_
    rw [drop_at h0]; exact .cn hk0 (hk hk0) hr
  · rw [if_neg hk0] at hx
    obtain ⟨rfl, rfl⟩ := hx
    refine ⟨_, rfl, a, 21, _, _, rfl, ha, .inr ⟨by omega, ?_⟩⟩
    have := hQ (.bad 21 m.pos) (by rw [drop_at h0]; exact .cnBad _ _ _ _ _ hk0)
    rwa [pre_bad] at this
theorem cn_big {a : Nat} {m : M} (h0 : all[a]? = some m) {k most : Int} (hk : m.kind = 0) (hk' : most ≤ k) {vs : List Vl} {its : List It} (hQ : ∀ r, P l (.seq 0 (.cn k most :: its) (all.drop a)) r → Q (Res.pre vs r)) (vs' : List Vl) (its' : List It) (n' : Int) : Sq l all b 0 Q vs' its' a 22 m.pos n' := by
  have ha := (List.getElem?_eq_some_iff.1 h0).1
  refine ⟨ha, .inr ⟨by omega, ?_⟩⟩
  have := hQ (.bad 22 m.pos) (by rw [drop_at h0]; exact .cnBig _ _ _ hk hk')
  rwa [pre_bad] at this
theorem rnext_ep (a : Nat) (why wh n : Int) {m : M} (h : all[a]? = some m) : AP Tryd.prog G 38 [.ep (rdr all l a why wh n) 0] (fun x => x = .agg (mcells m)) := by
  have hat := mksA_at h
  have hal : a < all.length := (List.getElem?_eq_some_iff.1 h).1
  have hal' : (a : Int) < all.length := by omega
  have hvz : a * 4 + 4 ≤ (mksA all).length := by rw [mksA_len]; omega
  refine AP.go hmix F_pnext (by simp) ?_
  simp -implicitDefEqProofs [c_pnext, rdr, hal, hal', hat, hvz, wrOb, splice, mcells]
def pmsA (ps : List Pm) : List AV := ps.flatMap fun p => [sv p.name, iv p.ty, iv p.pos]
def fdA (f : Pg.Fd) : List AV := [sv f.name, .sl f.params.length (pmsA f.params), iv f.ty] ++ f.body.cells ++ [iv f.pos]
def PsQ (l : Lim) (Q : Res → Prop) (vs : List Vl) (its : List It) (r : Res) : Prop :=
  match r with
  | .ok [.ps xs] ms' => ∀ r', P l (.seq 0 its ms') r' → Q (Res.pre vs (r'.cons (.ps xs)))
  | .bad w p => Q (.bad w p)
  | _ => True
def PmQ (l : Lim) (Q : Res → Prop) (ps : List Pm) (r : Res) : Prop :=
  match r with
  | .ok [.nm x, .ty t] ms' => ∀ r', P l (.pars (ps ++ [⟨x.text, t, x.pos⟩]) ms') r' → Q r'
  | .bad w p => Q (.bad w p)
  | _ => True
/-- parameters that are read in part; Q: what is known of what is read -/
def PsI (l : Lim) (all : List M) (b : Nat) (Q : Res → Prop) (ps : List Pm) (a : Nat) (w p n' : Int) : Prop :=
  a < all.length ∧ ((w = 0 ∧ p = 0 ∧ n' = 0 ∧ b < a ∧ ps.length ≤ a ∧ ∀ r, P l (.pars ps (all.drop a)) r → Q r) ∨ (w ≠ 0 ∧ Q (.bad w p)))
/-- .. the next one is about to be read -/
def PrI (l : Lim) (all : List M) (b : Nat) (Q : Res → Prop) (ps : List Pm) (a : Nat) (w p n' : Int) : Prop :=
  a < all.length ∧ ((w = 0 ∧ p = 0 ∧ n' = 0 ∧ b < a ∧ ps.length ≤ a ∧ ∀ r, P l (.seq 0 [.cn ps.length l.arity, .ty] (all.drop a)) r → PmQ l Q ps r) ∨ (w ≠ 0 ∧ Q (.bad w p)))
theorem PsI.new {vs : List Vl} {its : List It} {a : Nat} {w p n' : Int} (h : Sq l all b 0 Q vs (.ps :: its) a w p n') : PsI l all b (PsQ l Q vs its) [] a w p n' := by
  obtain ⟨ha, ⟨h1, h2, h3, h4, h5⟩ | ⟨h1, h2⟩⟩ := h
  · refine ⟨ha, .inl ⟨h1, h2, h3, h4, by simp, fun r hr => ?_⟩⟩
    unfold PsQ
    split
    · intro r' hr'; exact h5 _ (.ps hr hr')
    · have := h5 _ (.psBad _ hr); rwa [pre_bad] at this
    · trivial
  · exact ⟨ha, .inr ⟨h1, h2⟩⟩
theorem Sq.new_ps {vs : List Vl} {its : List It} {a : Nat} {w p n' : Int} (h : Sq l all b 0 Q vs (.ps :: its) a w p n') : PsI l all b (PsQ l Q vs its) [] a w p n' := PsI.new h
theorem PrI.zero {a : Nat} {p n' : Int} (h : PsI l all b Q [] a 0 p n') {m : M} (h0 : all[a]? = some m) (hc : isW m sClose = false) : PrI l all b Q [] a 0 p n' := by
  obtain ⟨ha, ⟨_, rfl, rfl, hb, hl, h1⟩ | ⟨hw, hP⟩⟩ := h
  · refine ⟨ha, .inl ⟨rfl, rfl, rfl, hb, hl, fun r hr => ?_⟩⟩
    rw [drop_at h0] at hr
    unfold PmQ
    split
    · intro r' hr'; exact h1 _ (by rw [drop_at h0]; exact .pNext0 hc hr hr')
    · exact h1 _ (by rw [drop_at h0]; exact .pBad0 hc hr)
    · trivial
  · exact absurd rfl hw
theorem pars_comma (hm : Mks all) {ps : List Pm} {a : Nat} {p n' : Int} (h : PsI l all b Q ps a 0 p n') (hu : ps ≠ []) {m : M} (h0 : all[a]? = some m) (hc : isW m sClose = false) : AM Tryd.prog G 52 [.ptr 0 0, sv sComma] (rdr all l a 0 p n')
    (fun x cs => x = .tup [] ∧ ∃ (a1 : Nat) (w p n' : Int), cs = rdr all l a1 w p n' ∧ PrI l all b Q ps a1 w p n' ∧ (w = 0 → a < a1)) := by
  have hlen := hm.len
  obtain ⟨ha, ⟨_, rfl, rfl, hb, hl, h1⟩ | ⟨hw, hP⟩⟩ := h
  · refine AM.mono (rwant_ap all l a 0 0 0 sComma h0 (by omega)) ?_
    rintro x cs ⟨rfl, rfl⟩
    refine ⟨rfl, ?_⟩
    unfold wantS
    rw [if_pos rfl]
    cases hq : isW m sComma
    · refine ⟨a, 21, m.pos, 0, by simp [hq], ⟨ha, .inr ⟨by omega, h1 _ ?_⟩⟩, by omega⟩
      rw [drop_at h0]; exact .pSep _ hc hu hq
    · obtain ⟨hk0, hk2, hk4⟩ := isW_kind hq
      refine ⟨a + 1, 0, 0, 0, by simp [hq], ⟨hm.fin a _ h0 hk4, .inl ⟨rfl, rfl, rfl, by omega, by omega, fun r hr => ?_⟩⟩, by omega⟩
      unfold PmQ
      split
      · intro r' hr'; exact h1 _ (by rw [drop_at h0]; exact .pNext hu hq hr hr')
      · exact h1 _ (by rw [drop_at h0]; exact .pBad hu hq hr)
      · trivial
  · exact absurd rfl hw
theorem pars_close (hm : Mks all) {vs : List Vl} {its : List It} {ps : List Pm} {a : Nat} {w p n' : Int} (h : PsI l all b (PsQ l Q vs its) ps a w p n') (hc : w = 0 → ∃ m, all[a]? = some m ∧ isW m sClose = true) : AM Tryd.prog G 52 [.ptr 0 0, sv sClose] (rdr all l a w p n')
    (fun x cs => x = .tup [] ∧ ∃ (a1 : Nat) (w p n' : Int), cs = rdr all l a1 w p n' ∧ Sq l all b 0 Q (vs ++ [.ps ps]) its a1 w p n') := by
  have hlen := hm.len
  have ha := h.1
  refine AM.mono (rwant_ap all l a w p n' sClose (List.getElem?_eq_getElem ha) (by omega)) ?_
  rintro x cs ⟨rfl, rfl⟩
  refine ⟨rfl, ?_⟩
  unfold wantS
  obtain ⟨ha, ⟨rfl, rfl, rfl, hb, hl, h1⟩ | ⟨hw, hP⟩⟩ := h
  · obtain ⟨m, h0, hq⟩ := hc rfl
    obtain ⟨_, rfl⟩ := List.getElem?_eq_some_iff.1 h0
    obtain ⟨hk0, hk2, hk4⟩ := isW_kind hq
    rw [if_pos rfl, if_pos hq]
    refine ⟨a + 1, 0, 0, 0, rfl, hm.fin a _ h0 hk4, .inl ⟨rfl, rfl, rfl, by omega, fun r hr => ?_⟩⟩
    rw [pre_snoc]
    have := h1 (.ok [.ps ps] (all.drop (a + 1))) (by rw [drop_at h0]; exact .pStop _ _ hq)
    exact this r hr
  · rw [if_neg hw]
    exact ⟨a, w, p, n', rfl, ha, .inr ⟨hw, hP⟩⟩
theorem PrI.end {ps : List Pm} {x : M} {t : Int} {a0 a : Nat} {w p n' : Int} (h : Sq l all a0 0 (PmQ l Q ps) [.nm x, .ty t] [] a w p n') (hb : b < a0) (hp : ps.length ≤ a0) : PsI l all b Q (ps ++ [⟨x.text, t, x.pos⟩]) a w p n' ∧ (w = 0 → a0 < a) := by
  rcases h.end with ⟨h1, h2, h3, h4, h5, h6⟩ | ⟨h1, h2, h3⟩
  · exact ⟨⟨h5, .inl ⟨h1, h2, h3, by omega, by simp; omega, fun r hr => h6 r hr⟩⟩, fun _ => h4⟩
  · exact ⟨⟨h2, .inr ⟨h1, h3⟩⟩, fun h => absurd h h1⟩
end
end Go.Proofs.YtgddkgbidhhheaaDoor
