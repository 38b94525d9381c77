/- Texts joined: Pre Prf. -/
import Derived.Test.YtgddkgbidhhheaaDoorKoan
/- The reference parser: units. -/
set_option linter.unusedVariables false
set_option linter.unusedSimpArgs false
set_option maxRecDepth 100000
namespace Go.Proofs.YtgddkgbidhhheaaDoor
open Go.RowKit Flo Ab Mk Pg
section
variable {G : World → Prop} {all : List M} {l : Lim} {b : Nat} {n : Int}
theorem isW_of {m : M} {s : List UInt8} (hk : m.kind = 1) (ht : m.text = s) : isW m s = true := by unfold isW; rw [hk, ht]; simp
theorem isW_not {m : M} {s : List UInt8} (ht : m.text ≠ s) : isW m s = false := by
  unfold isW
  rw [beq_eq_false_iff_ne.2 ht, Bool.and_false]
theorem wordN_cases {m : M} (hk : m.kind = 1) (h : wordN m.text ≠ 0) : (∃ op, word0 m = some op ∧ wordN m.text = op ∧ (op = 2 ∨ op = 3 ∨ op = 4)) ∨ (isW m tFail = true ∧ wordN m.text = 5) ∨ (∃ op, word1 m = some op ∧ wordN m.text = op ∧ (op = 14 ∨ op = 15 ∨ op = 16 ∨ op = 17)) := by
  by_cases h1 : m.text = tTrue
  · exact .inl ⟨2, by unfold word0; rw [if_pos (isW_of hk h1)], by rw [h1]; decide, by simp⟩
  by_cases h2 : m.text = tFalse
  · exact .inl ⟨3, by unfold word0; rw [isW_not h1, isW_of hk h2]; rfl, by rw [h2]; decide, by simp⟩
  by_cases h3 : m.text = tNil
  · exact .inl ⟨4, by unfold word0; rw [isW_not h1, isW_not h2, isW_of hk h3]; rfl, by rw [h3]; decide, by simp⟩
  by_cases h4 : m.text = tFail
  · exact .inr (.inl ⟨isW_of hk h4, by rw [h4]; decide⟩)
  by_cases h5 : m.text = tNot
  · exact .inr (.inr ⟨14, by unfold word1; rw [if_pos (isW_of hk h5)], by rw [h5]; decide, by simp⟩)
  by_cases h6 : m.text = tRe
  · exact .inr (.inr ⟨15, by unfold word1; rw [isW_not h5, isW_of hk h6]; rfl, by rw [h6]; decide, by simp⟩)
  by_cases h7 : m.text = tIm
  · exact .inr (.inr ⟨16, by unfold word1; rw [isW_not h5, isW_not h6, isW_of hk h7]; rfl, by rw [h7]; decide, by simp⟩)
  by_cases h8 : m.text = tConj
  · exact .inr (.inr ⟨17, by unfold word1; rw [isW_not h5, isW_not h6, isW_not h7, isW_of hk h8]; rfl, by rw [h8]; decide, by simp⟩)
  · exact absurd (by unfold wordN; rw [if_neg h1, if_neg h2, if_neg h3, if_neg h4, if_neg h5, if_neg h6, if_neg h7, if_neg h8]) h
theorem wordN_none {m : M} (h : (m.kind ≠ 1 ∧ m.kind ≠ 3) ∨ wordN m.text = 0) : word0 m = none ∧ isW m tFail = false ∧ word1 m = none := by
  have key : ∀ s ∈ [tTrue, tFalse, tNil, tFail, tNot, tRe, tIm, tConj], isW m s = false := by
    intro s hs
    rcases h with ⟨h1, h3⟩ | h
    · unfold isW
      rw [beq_eq_false_iff_ne.2 h1, beq_eq_false_iff_ne.2 h3]; rfl
    · apply isW_not
      rintro rfl
      simp only [List.mem_cons, List.not_mem_nil, or_false] at hs
      rcases hs with hs | hs | hs | hs | hs | hs | hs | hs <;> rw [hs] at h <;> exact absurd h (by decide)
  unfold word0 word1
  rw [key tTrue (by simp), key tFalse (by simp), key tNil (by simp), key tFail (by simp), key tNot (by simp), key tRe (by simp), key tIm (by simp), key tConj (by simp)]
  exact ⟨rfl, rfl, rfl⟩
theorem unit_ok (hm : Mks all) (hX : HX G all l b) (hb : b < all.length) : GC G 88 all l .unit b := by
  intro n hn0 hn1
  have hlen := hm.len
  obtain ⟨m, h0⟩ : ∃ m, all[b]? = some m := ⟨_, List.getElem?_eq_getElem hb⟩
  rw [drop_at h0]
  have hw : IntKind.i64.wrap ((b : Int) + 1) = ((b + 1 : Nat) : Int) := by rw [wrap64 _ (by omega)]; omega
  have fold : ∀ (a : Nat) (w p n : Int), [AV.sl all.length (mksA all), iv (a : Int), iv w, iv p, iv l.text, iv l.funcs, iv l.arity, iv l.nest, iv n] = rdr all l a w p n := fun _ _ _ _ => rfl
  refine AM.go hmix F_punit (by simp) ?_
  simp -implicitDefEqProofs [c_punit]
  refine SC.rd (by simp) [.ptr 0 0] (by simp) (all := all) (l := l) (a := b) (why := 0) (wh := 0) (n := n) (by simp) (rnext_ap all l b 0 0 n h0) (by simp [toO]) ⟨0, by simp⟩ (by simp [lentO]) ?_ (tg := .mk)
  rintro x cs - ⟨rfl, rfl⟩
  by_cases k2 : m.kind = 2
  · have k2' : (m.kind : Int) = 2 := by omega
    simp -implicitDefEqProofs [rdr, mcells, wrOb, splice, k2', hw, evP, fillA, finM, -Int.natCast_add]
    refine .inl ⟨.mk 1 [] [] 0 m.num [] m.pos, b + 1, .num _ _ k2, ?_, by omega, hm.fin _ _ h0 (by omega), rfl⟩
    simp [exA, Ex.cells, exsA]
  have k2' : ¬ (m.kind : Int) = 2 := by omega
  by_cases k0 : m.kind = 0
  · have k0' : (m.kind : Int) = 0 := by omega
    have hna := named_ok (G := G) hm hX hn0 (by omega) k0 (hm.fin _ _ h0 (by omega))
    have hmc : mcells m = [iv 0, sv m.text, cv (W m.num.1) (W m.num.2), iv m.pos] := by simp [mcells, k0']
    rw [hmc] at hna
    simp -implicitDefEqProofs [rdr, mcells, wrOb, splice, k0', hw, evP, fillA, finM, -Int.natCast_add]
    refine SC.rd (by simp) [.ptr 0 0, .agg [iv 0, sv m.text, cv (W m.num.1) (W m.num.2), iv m.pos]] (by simp) (all := all) (l := l) (a := b + 1) (why := 0) (wh := 0) (n := n) (by simp -implicitDefEqProofs [rdr]) (hna) (by simp [toO]) ⟨0, by simp⟩ (by simp [lentO]) ?_ (tg := .mk)
    rintro x cs hcs hO
    have hO' := hO
    rcases hO with ⟨e, a', hP, rfl, ha1, ha2, rfl⟩ | ⟨w, p, e, a', n1, hP, hw, rfl, ha2, rfl⟩
    · obtain ⟨o, nm, tl, ty, num, args, pos⟩ := e
      simp -implicitDefEqProofs [exA, Ex.cells, wrOb, splice, finM]
      exact ⟨by simp [rdr], hO'⟩
    · obtain ⟨o, nm, tl, ty, num, args, pos⟩ := e
      simp -implicitDefEqProofs [exA, Ex.cells, wrOb, splice, finM]
      exact ⟨by simp [rdr], hO'⟩
  have k0' : ¬ (m.kind : Int) = 0 := by omega
  have htake := rtake_ap (G := G) all l b 0 0 n sOpen h0 (by omega)
  obtain ⟨q, hq⟩ : ∃ q, isW m sOpen = q := ⟨_, rfl⟩
  rw [hq] at htake
  simp -implicitDefEqProofs [rdr, mcells, wrOb, splice, k0, k2, k0', k2', evP, fillA, finM]
  refine SC.rd (by simp) [.ptr 0 0, sv sOpen] (by simp) (all := all) (l := l) (a := b) (why := 0) (wh := 0) (n := n) (by simp -implicitDefEqProofs [rdr]) (htake) (by simp [toO]) ⟨0, by simp⟩ (by simp [lentO]) ?_ (tg := .mk)
  rintro x cs - ⟨rfl, rfl⟩
  cases q
  · have hbad : (m.kind ≠ 1 ∧ m.kind ≠ 3) ∨ wordN m.text = 0 → Out (P l (.unit n (m :: all.drop (b + 1)))) all l b n (exA Ex.zero) (rdr all l b 21 m.pos n) := by
      intro hcase
      obtain ⟨hw0, hwf, hw1⟩ := wordN_none hcase
      exact .inr ⟨21, m.pos, _, b, n, .unitBad _ _ k2 k0 hq hw0 hwf hw1, by omega, rfl, hb, rfl⟩
    have hfail := rfail_ap (G := G) all l b 0 0 n 21 h0
    by_cases k1 : m.kind = 1
    · have k1' : (m.kind : Int) = 1 := by omega
      simp -implicitDefEqProofs [k1']
      refine SC.frz (by simp) [sv m.text] (by simp) (post := fun x => x = iv (wordN m.text)) (by simpa using pword_ap m.text) (by simp) ?_ (a := .mk)
      rintro x rfl
      by_cases hwn : wordN m.text = 0
      · simp -implicitDefEqProofs [hwn]
        refine SC.rd (by simp) [.ptr 0 0, iv 21] (by simp) (all := all) (l := l) (a := b) (why := 0) (wh := 0) (n := n) (by simp -implicitDefEqProofs [rdr]) (hfail) (by simp [toO]) ⟨0, by simp⟩ (by simp [lentO]) ?_ (tg := .mk)
        rintro x cs - ⟨rfl, rfl⟩
        simp -implicitDefEqProofs [wrOb, splice, evP, fillA, finM]
        refine ⟨by simp [rdr], ?_⟩
        have := hbad (.inr hwn)
        rw [exA, zeroE_cells] at this
        exact this
      · simp -implicitDefEqProofs [hwn, hw, rdr, wrOb, splice, -Int.natCast_add]
        refine DC.go [sv m.text] (iv (wordN m.text)) (by simp) (by simpa using pword_ap m.text) (by simp) (by simp) ?_ (a := .mk)
        have hk4 : m.kind ≠ 4 := by omega
        have hb1 := hm.fin _ _ h0 hk4
        rcases wordN_cases k1 hwn with ⟨op, hop, he, hc⟩ | ⟨hf, he⟩ | ⟨op, hop, he, hc⟩
        · rw [he]
          have h5 : ¬ op = 5 := by omega
          have h14 : ¬ op = 14 := by omega
          have h15 : ¬ op = 15 := by omega
          have h16 : ¬ op = 16 := by omega
          have h17 : ¬ op = 17 := by omega
          simp -implicitDefEqProofs [h5, h14, h15, h16, h17, wrOb, splice, evP, fillA, finM, -Int.natCast_add]
          refine .inl ⟨.mk op [] [] 0 (0, 0) [] m.pos, b + 1, .word0 _ _ hop, ?_, by omega, hb1, rfl⟩
          simp [exA, Ex.cells, exsA, W0]
        · rw [he]
          have hS := Sq.new (l := l) (n := n) hb1 (show b < b + 1 by omega) [.ty]
          simp -implicitDefEqProofs [wrOb, splice, evP, fillA, -Int.natCast_add]
          refine SC.rd (by simp) [.ptr 0 0] (by simp) (all := all) (l := l) (a := b + 1) (why := 0) (wh := 0) (n := n) (by simp -implicitDefEqProofs [rdr]) (typ_sq hm hS) (by simp [toO]) ⟨0, by simp⟩ (by simp [lentO]) ?_ (tg := .mk)
          rintro x cs - ⟨t, rfl, a1, w1, p1, n1, rfl, hS1⟩
          simp -implicitDefEqProofs [wrOb, splice, evP, fillA, finM]
          refine ⟨by simp [rdr], ?_⟩
          rcases hS1.end with ⟨rfl, rfl, rfl, hb2, hl2, hP⟩ | ⟨hw2, hl2, hP⟩
          · exact .inl ⟨.mk 5 [] [] t (0, 0) [] m.pos, a1, .fail hf hP, by simp [exA, Ex.cells, exsA, W0], by omega, hl2, rfl⟩
          · exact .inr ⟨w1, p1, .mk 5 [] [] t (0, 0) [] m.pos, a1, n1, .fail hf hP, hw2, by simp [exA, Ex.cells, exsA, W0], hl2, rfl⟩
        · rw [he]
          have hS := Sq.new (l := l) (n := n) hb1 (show b < b + 1 by omega) [.w sOpen, .e, .w sClose]
          have h5 : ¬ op = 5 := by omega
          rcases hc with rfl | rfl | rfl | rfl
          all_goals
            simp -implicitDefEqProofs [wrOb, splice, evP, fillA, -Int.natCast_add]
            refine SC.rd (by simp) [.ptr 0 0, sv sOpen] (by simp) (all := all) (l := l) (a := b + 1) (why := 0) (wh := 0) (n := n) (by simp -implicitDefEqProofs [rdr]) (want_sq hm hS) (by simp [toO]) ⟨0, by simp⟩ (by simp [lentO]) ?_ (tg := .mk)
            rintro x cs - ⟨rfl, a1, w1, p1, n1, rfl, hS1⟩
            simp -implicitDefEqProofs
            refine SC.rd (by simp) [.ptr 0 0] (by simp) (all := all) (l := l) (a := a1) (why := w1) (wh := p1) (n := n1) (by simp) (expr_sq hm hX ⟨hn0, by omega⟩ hS1) (by simp [toO]) ⟨0, by simp⟩ (by simp [lentO]) ?_ (tg := .mk)
            rintro x cs - ⟨e, rfl, a2, w2, p2, n2, rfl, hS2⟩
            obtain ⟨o, nm, tl, ty, num, args, pos⟩ := e
            simp -implicitDefEqProofs [exA, Ex.cells, wrOb, splice]
            refine SC.rd (by simp) [.ptr 0 0, sv sClose] (by simp) (all := all) (l := l) (a := a2) (why := w2) (wh := p2) (n := n2) (by simp) (want_sq hm hS2) (by simp [toO]) ⟨0, by simp⟩ (by simp [lentO]) ?_ (tg := .mk)
            rintro x cs - ⟨rfl, a3, w3, p3, n3, rfl, hS3⟩
            simp -implicitDefEqProofs [exA, Ex.cells, wrOb, splice, evP, fillA, finM]
            refine ⟨by simp [rdr], ?_⟩
            rcases hS3.end with ⟨rfl, rfl, rfl, hb2, hl2, hP⟩ | ⟨hw2, hl2, hP⟩
            · exact .inl ⟨.mk _ [] [] 0 (0, 0) [.mk o nm tl ty num args pos] m.pos, a3, .word1 hop hP, by simp [exA, Ex.cells, exsA, W0], by omega, hl2, rfl⟩
            · exact .inr ⟨w3, p3, .mk _ [] [] 0 (0, 0) [.mk o nm tl ty num args pos] m.pos, a3, n3, .word1 hop hP, hw2, by simp [exA, Ex.cells, exsA, W0]; rfl, hl2, rfl⟩
    · have k1' : ¬ (m.kind : Int) = 1 := by omega
      simp -implicitDefEqProofs [k1', k1]
      refine SC.rd (by simp) [.ptr 0 0, iv 21] (by simp) (all := all) (l := l) (a := b) (why := 0) (wh := 0) (n := n) (by simp -implicitDefEqProofs [rdr]) (hfail) (by simp [toO]) ⟨0, by simp⟩ (by simp [lentO]) ?_ (tg := .mk)
      rintro x cs - ⟨rfl, rfl⟩
      simp -implicitDefEqProofs [wrOb, splice, evP, fillA, finM]
      refine ⟨by simp [rdr], ?_⟩
      have := hbad (by
        by_cases k3 : m.kind = 3
        · exact .inr (hm.sign m (at_mem h0) k3)
        · exact .inl ⟨k1, k3⟩)
      rw [exA, zeroE_cells] at this
      exact this
  · have hk4 := (isW_kind hq).2.2
    have hS := Sq.new (l := l) (n := n) (hm.fin _ _ h0 hk4) (show b < b + 1 by omega) [.e, .w sClose]
    simp -implicitDefEqProofs
    refine SC.rd (by simp) [.ptr 0 0] (by simp) (all := all) (l := l) (a := b + 1) (why := 0) (wh := 0) (n := n) (by simp) (expr_sq hm hX ⟨hn0, by omega⟩ hS) (by simp [toO]) ⟨0, by simp⟩ (by simp [lentO]) ?_ (tg := .mk)
    rintro x cs - ⟨e, rfl, a1, w1, p1, n1, rfl, hS1⟩
    obtain ⟨o, nm, tl, ty, num, args, pos⟩ := e
    simp -implicitDefEqProofs [exA, Ex.cells, wrOb, splice]
    refine SC.rd (by simp) [.ptr 0 0, sv sClose] (by simp) (all := all) (l := l) (a := a1) (why := w1) (wh := p1) (n := n1) (by simp) (want_sq hm hS1) (by simp [toO]) ⟨0, by simp⟩ (by simp [lentO]) ?_ (tg := .mk)
    rintro x cs - ⟨rfl, a2, w2, p2, n2, rfl, hS2⟩
    simp -implicitDefEqProofs [exA, Ex.cells, wrOb, splice, finM]
    refine ⟨by simp [rdr], ?_⟩
    rcases hS2.end with ⟨rfl, rfl, rfl, hb2, hl2, hP⟩ | ⟨hw2, hl2, hP⟩
    · exact .inl ⟨.mk o nm tl ty num args pos, a2, .par hq hP, by simp [exA, Ex.cells], by omega, hl2, rfl⟩
    · exact .inr ⟨w2, p2, .mk o nm tl ty num args pos, a2, n2, .par hq hP, hw2, by simp [exA, Ex.cells], hl2, rfl⟩
end
end Go.Proofs.YtgddkgbidhhheaaDoor
/- The reference parser: rows of operands. -/
set_option linter.unusedVariables false
set_option linter.unusedSimpArgs false
set_option maxRecDepth 100000
namespace Go.Proofs.YtgddkgbidhhheaaDoor
open Go.RowKit Flo Ab Mk Pg
section
variable {G : World → Prop} {all : List M} {l : Lim} {b : Nat} {n : Int}
theorem strOf_at {m : M} {s : List UInt8} (h : isW m s = true) : strOf m = (if s = sColon then some (0, 18) else if s = sEqEq then some (1, 12) else if s = sLess then some (1, 13) else if s = sPlus then some (2, 8) else if s = sMinus then some (2, 9) else if s = sStar then some (3, 10) else if s = sSlash then some (3, 11) else none) := by
  have e : ∀ t, isW m t = decide (s = t) := fun t => by
    by_cases ht : s = t
    · subst ht; simpa using h
    · rw [isW_other h ht]; simp [ht]
  unfold strOf
  simp only [e, decide_eq_true_eq]
theorem strOf_lv {m : M} {lv : Nat} {op : Int} (h : strOf m = some (lv, op)) : (lv = 0 → isW m sColon = true) ∧ (lv = 1 → isW m sEqEq = true ∨ isW m sLess = true) ∧ (lv = 2 → isW m sPlus = true ∨ isW m sMinus = true) ∧ (lv = 3 → isW m sStar = true ∨ isW m sSlash = true) := by
  unfold strOf at h
  repeat' split at h
  all_goals (cases h <;> simp_all)
theorem str_not {m : M} {lv : Nat} (h : ∀ op, strOf m ≠ some (lv, op)) : (strOf m).map (·.1) ≠ some lv := by
  cases hs : strOf m with
  | none => simp
  | some q => obtain ⟨a, op⟩ := q; simp only [Option.map_some, ne_eq, Option.some.injEq]; rintro rfl; exact h op hs
/-- a row that is read in part -/
def TmI (l : Lim) (all : List M) (b : Nat) (n : Int) (lv : Nat) (e : Ex) (a : Nat) (w p n' : Int) : Prop :=
  a < all.length ∧ ((w = 0 ∧ p = 0 ∧ n' = n ∧ b < a ∧ ∀ r, P l (.tail n lv e (all.drop a)) r → P l (.row n lv (all.drop b)) r) ∨ (w ≠ 0 ∧ P l (.row n lv (all.drop b)) (.bad w p)))
def TmL (l : Lim) (all : List M) (b : Nat) (n : Int) (lv : Nat) (g : Nat) (F : Fr) (H : List Ob) : Prop :=
  ∃ (e : Ex) (a : Nat) (w p n' : Int), TmI l all b n lv e a w p n' ∧ ((w = 0 ∧ g = all.length - a) ∨ (w ≠ 0 ∧ g = 0)) ∧ F 0 = some (.ptr 0 0) ∧ F 2 = some (.ptr 1 0) ∧ F 3 = some (.ptr 2 0) ∧ H[0]? = some (.var (rdr all l a w p n')) ∧
    H[1]? = some (.var [iv 0, sv [], sv [], iv 0, cv 0 0, .v (.slice none 0 0), iv 0]) ∧ H[2]? = some (.var e.cells)
def Lv (lv : Nat) (n : Int) (ms : List M) : Job := .row n lv ms
theorem Out.mono {Q Q' : Res → Prop} {a : Nat} {x : AV} {cs : List AV} (h : Out Q all l a n x cs) (hq : ∀ r, Q r → Q' r) : Out Q' all l a n x cs := by
  rcases h with ⟨e, a', hP, h⟩ | ⟨w, p, e, a', n', hP, h⟩
  · exact .inl ⟨e, a', hq _ hP, h⟩
  · exact .inr ⟨w, p, e, a', n', hq _ hP, h⟩
theorem TmI.good {lv : Nat} {e : Ex} {a : Nat} {p n' : Int} (h : TmI l all b n lv e a 0 p n') : p = 0 ∧ n' = n ∧ b < a ∧ ∀ r, P l (.tail n lv e (all.drop a)) r → P l (.row n lv (all.drop b)) r := by
  obtain ⟨_, ⟨_, h1, h2, h3, h4⟩ | ⟨hw, _⟩⟩ := h
  · exact ⟨h1, h2, h3, h4⟩
  · exact absurd rfl hw
theorem tm_step {a lv : Nat} {op : Int} {e : Ex} {m : M} (h1 : all[a]? = some m) (hs : strOf m = some (lv, op)) (h2 : 2 ≤ lv) (hP : ∀ r, P l (.tail n lv e (all.drop a)) r → P l (.row n lv (all.drop b)) r) (hb : b < a) {x : AV} {cs : List AV}
    (hO : Out (P l (.row n (right lv) (all.drop (a + 1)))) all l (a + 1) n x cs) : ∃ (e2 : Ex) (a2 : Nat) (w2 p2 n2 : Int), x = exA e2 ∧ cs = rdr all l a2 w2 p2 n2 ∧ TmI l all b n lv (two op e e2 m.pos) a2 w2 p2 n2 ∧ (w2 = 0 → a < a2) := by
  rcases hO with ⟨e2, a2, hP2, rfl, ha1, ha2, rfl⟩ | ⟨w, p, e2, a2, n2, hP2, hw, rfl, ha2, rfl⟩
  · refine ⟨e2, a2, 0, 0, n, rfl, rfl, ⟨ha2, .inl ⟨rfl, rfl, rfl, by omega, fun r hr => hP _ ?_⟩⟩, fun _ => by omega⟩
    rw [drop_at h1]; exact .tail2 hs h2 hP2 hr
  · refine ⟨e2, a2, w, p, n2, rfl, rfl, ⟨ha2, .inr ⟨hw, hP _ ?_⟩⟩, fun h => absurd h hw⟩
    rw [drop_at h1]; exact .tailBad _ hs hP2
theorem term_ok (hm : Mks all) (hU : ∀ a, b ≤ a → a < all.length → GC G 88 all l .unit a) (hb : b < all.length) : GC G 80 all l (Lv 3) b := by
  intro n hn0 hn1
  have hlen := hm.len
  refine AM.go hmix F_pterm (by simp) ?_
  simp -implicitDefEqProofs [c_pterm]
  refine SC.rd (by simp) [.ptr 0 0] (by simp) (all := all) (l := l) (a := b) (why := 0) (wh := 0) (n := n) (by simp) (hU b (by omega) hb n hn0 hn1) (by simp [toO]) ⟨0, by simp⟩ (by simp [lentO]) ?_ (tg := .mk)
  rintro x cs - hO
  have hst : ∃ (e : Ex) (a : Nat) (w p n' : Int), x = exA e ∧ cs = rdr all l a w p n' ∧ TmI l all b n 3 e a w p n' := by
    rcases hO with ⟨e, a', hP, rfl, ha1, ha2, rfl⟩ | ⟨w, p, e, a', n1, hP, hw, rfl, ha2, rfl⟩
    · exact ⟨e, a', 0, 0, n, rfl, rfl, ha2, .inl ⟨rfl, rfl, rfl, ha1, fun r hr => .row (by decide) (.row4 hP) hr⟩⟩
    · exact ⟨e, a', w, p, n1, rfl, rfl, ha2, .inr ⟨hw, .rowBad (by decide) (.row4 hP)⟩⟩
  clear hO
  obtain ⟨e, a, w, p, n', rfl, rfl, hT⟩ := hst
  obtain ⟨o, nm, tl, ty, num, args, pos⟩ := e
  simp -implicitDefEqProofs [exA, Ex.cells, wrOb, splice]
  refine LP.go (TmL l all b n 3) (if w = 0 then all.length - a else 0) ⟨_, a, w, p, n', hT, ?_, by simp, by simp, by simp, by simp, by simp, by simp [Ex.cells]⟩ ?_
  · by_cases hw1 : w = 0
    · exact .inl ⟨hw1, by rw [if_pos hw1]⟩
    · exact .inr ⟨hw1, by rw [if_neg hw1]⟩
  clear hT
  unfold c_pterm_L0
  rintro g F H ⟨e, a, w, p, n', hT, hg, f0, f2, f3, hH0, hH1, hH2⟩
  obtain ⟨o, nm, tl, ty, num, args, pos⟩ := e
  rw [Ex.cells] at hH2
  have ha := hT.1
  obtain ⟨m, h1⟩ : ∃ m, all[a]? = some m := ⟨_, List.getElem?_eq_getElem ha⟩
  have hl0 : 0 < H.length := (List.getElem?_eq_some_iff.1 hH0).1
  have hl2 : 2 < H.length := (List.getElem?_eq_some_iff.1 hH2).1
  have s1 := ris_ap (G := G) all l a w p n' sStar h1
  have s2 := ris_ap (G := G) all l a w p n' sSlash h1
  obtain ⟨q1, hq1⟩ : ∃ q, (decide (w = 0) && isW m sStar) = q := ⟨_, rfl⟩
  obtain ⟨q2, hq2⟩ : ∃ q, (decide (w = 0) && isW m sSlash) = q := ⟨_, rfl⟩
  rw [hq1] at s1
  rw [hq2] at s2
  have hf1 : (frzT H [.ptr 0 0, sv sStar]).1 = H := by simp
  have hf2 : (frzT H [.ptr 0 0, sv sSlash]).1 = H := by simp
  have hw : IntKind.i64.wrap ((a : Int) + 1) = ((a + 1 : Nat) : Int) := by rw [wrap64 _ (by omega)]; omega
  have gs0 : ∀ (X : List Ob) (o : Ob), ((H ++ X).set 0 o)[0]? = some o := fun X o => by rw [List.getElem?_set_self (by simp; omega)]
  have gs0' : ∀ (X Y : List Ob) (o : Ob), ((H ++ X).set 0 o ++ Y)[0]? = some o := fun X Y o => by rw [List.getElem?_append_left (by simp; omega)]; exact gs0 X o
  have gs1 : ∀ (X Y : List Ob) (o' : Ob), ((H ++ X).set 0 o' ++ Y)[1]? = some (.var [iv 0, sv [], sv [], iv 0, cv 0 0, .v (.slice none 0 0), iv 0]) := fun X Y o' => by
    rw [List.getElem?_append_left (by simp; omega), List.getElem?_set_ne (by omega), List.getElem?_append_left (by omega)]; exact hH1
  have gs2 : ∀ (X Y : List Ob) (o' : Ob), ((H ++ X).set 0 o' ++ Y)[2]? = some (.var [iv o, sv nm, sv tl, iv ty, cv (W num.1) (W num.2), .sl args.length (exsA args), iv pos]) := fun X Y o' => by
    rw [List.getElem?_append_left (by simp; omega), List.getElem?_set_ne (by omega), List.getElem?_append_left (by omega)]; exact hH2
  have gsm : ∀ (y : Ob) (Y : List Ob) (o' : Ob), ((H ++ [y]).set 0 o' ++ Y)[H.length]? = some y := fun y Y o' => by
    rw [List.getElem?_append_left (by simp), List.getElem?_set_ne (by omega), List.getElem?_append_right (by omega)]; simp
  have gse : ∀ (y z : Ob) (o' : Ob), ((H ++ [y]).set 0 o' ++ [z])[H.length + 1]? = some z := fun y z o' => by
    rw [List.getElem?_append_right (by simp)]; simp
  simp -implicitDefEqProofs [f0]
  refine SC.rd (by simp) [.ptr 0 0, sv sStar] (by simp) (all := all) (l := l) (a := a) (why := w) (wh := p) (n := n') (by simp -implicitDefEqProofs [hH0]) (s1) (by simp [toO]) ⟨0, by simp⟩ (by simp [lentO]) ?_ (tg := .mk)
  rintro x cs - ⟨rfl, rfl⟩
  rw [hf1, set_same hH0]
  cases q1
  · simp -implicitDefEqProofs [f0]
    refine SC.rd (by simp) [.ptr 0 0, sv sSlash] (by simp) (all := all) (l := l) (a := a) (why := w) (wh := p) (n := n') (by simp -implicitDefEqProofs [hH0]) (s2) (by simp [toO]) ⟨0, by simp⟩ (by simp [lentO]) ?_ (tg := .mk)
    rintro x cs - ⟨rfl, rfl⟩
    rw [hf2, set_same hH0]
    cases q2
    · have q1 : ∀ (o : Ob), (H.set 1 o)[1]? = some o := fun o => by rw [List.getElem?_set_self (by omega)]
      have q0 : ∀ (o : Ob), (H.set 1 o)[0]? = some (.var (rdr all l a w p n')) := fun o => by rw [List.getElem?_set_ne (by omega)]; exact hH0
      simp -implicitDefEqProofs [f2, f3, hH1, hH2, q0, q1, wrOb, splice, finM, rdr_deep]
      refine ⟨by simp [rdr], ?_⟩
      obtain ⟨ha, ⟨rfl, rfl, rfl, hb1, hP⟩ | ⟨hw, hP⟩⟩ := hT
      · refine .inl ⟨.mk o nm tl ty num args pos, a, hP _ ?_, by simp [exA, Ex.cells], hb1, ha, rfl⟩
        rw [drop_at h1]
        refine .stop _ _ _ (str_not fun op hs => ?_)
        rcases (strOf_lv hs).2.2.2 rfl with h | h
        · simp [h] at hq1
        · simp [h] at hq2
      · exact .inr ⟨w, p, .mk o nm tl ty num args pos, a, n', hP, hw, by simp [exA, Ex.cells], ha, rfl⟩
    · simp only [Bool.and_eq_true, decide_eq_true_eq] at hq2
      obtain ⟨rfl, hsg⟩ := hq2
      have hst : strOf m = some (3, 11) := by rw [strOf_at hsg]; decide
      have hlt := hm.fin a _ h1 (isW_kind hsg).2.2
      obtain ⟨rfl, rfl, hb1, hP⟩ := hT.good
      have g0 : ∀ X : List Ob, (H ++ X)[0]? = some (.var (rdr all l a 0 0 n')) := fun X => by rw [List.getElem?_append_left hl0]; exact hH0
      simp -implicitDefEqProofs [f0]
      refine SC.rd (by simp) [.ptr 0 0] (by simp) (all := all) (l := l) (a := a) (why := 0) (wh := 0) (n := n') (by simp -implicitDefEqProofs [hH0]) (rnext_ap all l a 0 0 n' h1) (by simp [toO]) ⟨0, by simp⟩ (by simp [lentO]) ?_ (tg := .mk)
      rintro x cs - ⟨rfl, rfl⟩
      have hf3 : (frzT H [.ptr 0 0]).1 = H := by simp
      rw [hf3, set_same hH0]
      have htx : m.text = sSlash := isW_text hsg
      simp -implicitDefEqProofs [mcells, wrOb, splice, f0, g0, hw, -getElem?_pos, -Int.natCast_add, List.getElem?_cons_zero, List.getElem?_cons_succ, rdr]
      refine SC.rd (by simp) [.ptr 0 0] (by simp) (all := all) (l := l) (a := a + 1) (why := 0) (wh := 0) (n := n') (by simp -implicitDefEqProofs [gs0, rdr]) (hU (a + 1) (by omega) hlt n' hn0 (by omega)) (by simp [toO]) ⟨0, by simp⟩ (by simp [lentO]) ?_ (tg := .mk)
      rintro x cs - hO
      obtain ⟨e2, a2, w2, p2, n2, rfl, rfl, hT2, hlt2⟩ := tm_step (e := .mk o nm tl ty num args pos) h1 hst (by decide) hP hb1 (hO.mono fun r hr => .row4 hr)
      obtain ⟨o2, nm2, tl2, ty2, num2, args2, pos2⟩ := e2
      simp -implicitDefEqProofs [exA, Ex.cells, wrOb, splice, htx, f3, gs2, gsm, gse, -getElem?_pos, List.getElem?_cons_zero, List.getElem?_cons_succ]
      refine SC.frz (by simp) [iv 11, .agg [iv o, sv nm, sv tl, iv ty, cv (W num.1) (W num.2), .sl args.length (exsA args), iv pos], .agg [iv o2, sv nm2, sv tl2, iv ty2, cv (W num2.1) (W num2.2), .sl args2.length (exsA args2), iv pos2], .agg [iv m.kind, sv sSlash, cv (W m.num.1) (W m.num.2), iv m.pos]] (by simp) (post := fun x => x = exA (two 11 (.mk o nm tl ty num args pos) (.mk o2 nm2 tl2 ty2 num2 args2 pos2) m.pos)) (by simpa [exA, Ex.cells, mcells, htx] using ptwo_ap 11 (.mk o nm tl ty num args pos) (.mk o2 nm2 tl2 ty2 num2 args2 pos2) m) (by simp) ?_ (a := .mk)
      rintro x rfl
      simp -implicitDefEqProofs [exA, two, Ex.cells, wrOb, splice, f3, gs2, -getElem?_pos, List.getElem?_cons_zero, List.getElem?_cons_succ]
      refine ⟨if w2 = 0 then all.length - a2 else 0, ?_, _, a2, w2, p2, n2, hT2, ?_, by simp [f0], by simp [f2], by simp [f3], ?_, ?_, ?_⟩
      · rcases hg with ⟨_, hg⟩ | ⟨h, _⟩
        · split
          · rename_i hw1; have := hlt2 hw1; omega
          · omega
        · exact absurd rfl h
      · by_cases hw1 : w2 = 0
        · exact .inl ⟨hw1, by rw [if_pos hw1]⟩
        · exact .inr ⟨hw1, by rw [if_neg hw1]⟩
      · rw [List.getElem?_set_ne (by omega)]; exact gs0' _ _ _
      · rw [List.getElem?_set_ne (by omega)]; exact gs1 _ _ _
      · rw [List.getElem?_set_self (by simp; omega)]; rw [two, Ex.cells]; simp
  · simp only [Bool.and_eq_true, decide_eq_true_eq] at hq1
    obtain ⟨rfl, hsg⟩ := hq1
    have hst : strOf m = some (3, 10) := by rw [strOf_at hsg]; decide
    have hlt := hm.fin a _ h1 (isW_kind hsg).2.2
    obtain ⟨rfl, rfl, hb1, hP⟩ := hT.good
    have g0 : ∀ X : List Ob, (H ++ X)[0]? = some (.var (rdr all l a 0 0 n')) := fun X => by rw [List.getElem?_append_left hl0]; exact hH0
    simp -implicitDefEqProofs [f0]
    refine SC.rd (by simp) [.ptr 0 0] (by simp) (all := all) (l := l) (a := a) (why := 0) (wh := 0) (n := n') (by simp -implicitDefEqProofs [hH0]) (rnext_ap all l a 0 0 n' h1) (by simp [toO]) ⟨0, by simp⟩ (by simp [lentO]) ?_ (tg := .mk)
    rintro x cs - ⟨rfl, rfl⟩
    have hf3 : (frzT H [.ptr 0 0]).1 = H := by simp
    rw [hf3, set_same hH0]
    have htx : m.text = sStar := isW_text hsg
    simp -implicitDefEqProofs [mcells, wrOb, splice, f0, g0, hw, -getElem?_pos, -Int.natCast_add, List.getElem?_cons_zero, List.getElem?_cons_succ, rdr]
    refine SC.rd (by simp) [.ptr 0 0] (by simp) (all := all) (l := l) (a := a + 1) (why := 0) (wh := 0) (n := n') (by simp -implicitDefEqProofs [gs0, rdr]) (hU (a + 1) (by omega) hlt n' hn0 (by omega)) (by simp [toO]) ⟨0, by simp⟩ (by simp [lentO]) ?_ (tg := .mk)
    rintro x cs - hO
    obtain ⟨e2, a2, w2, p2, n2, rfl, rfl, hT2, hlt2⟩ := tm_step (e := .mk o nm tl ty num args pos) h1 hst (by decide) hP hb1 (hO.mono fun r hr => .row4 hr)
    obtain ⟨o2, nm2, tl2, ty2, num2, args2, pos2⟩ := e2
    simp -implicitDefEqProofs [exA, Ex.cells, wrOb, splice, htx, f3, gs2, gsm, gse, -getElem?_pos, List.getElem?_cons_zero, List.getElem?_cons_succ]
    refine SC.frz (by simp) [iv 10, .agg [iv o, sv nm, sv tl, iv ty, cv (W num.1) (W num.2), .sl args.length (exsA args), iv pos], .agg [iv o2, sv nm2, sv tl2, iv ty2, cv (W num2.1) (W num2.2), .sl args2.length (exsA args2), iv pos2], .agg [iv m.kind, sv sStar, cv (W m.num.1) (W m.num.2), iv m.pos]] (by simp) (post := fun x => x = exA (two 10 (.mk o nm tl ty num args pos) (.mk o2 nm2 tl2 ty2 num2 args2 pos2) m.pos)) (by simpa [exA, Ex.cells, mcells, htx] using ptwo_ap 10 (.mk o nm tl ty num args pos) (.mk o2 nm2 tl2 ty2 num2 args2 pos2) m) (by simp) ?_ (a := .mk)
    rintro x rfl
    simp -implicitDefEqProofs [exA, two, Ex.cells, wrOb, splice, f3, gs2, -getElem?_pos, List.getElem?_cons_zero, List.getElem?_cons_succ]
    refine ⟨if w2 = 0 then all.length - a2 else 0, ?_, _, a2, w2, p2, n2, hT2, ?_, by simp [f0], by simp [f2], by simp [f3], ?_, ?_, ?_⟩
    · rcases hg with ⟨_, hg⟩ | ⟨h, _⟩
      · split
        · rename_i hw1; have := hlt2 hw1; omega
        · omega
      · exact absurd rfl h
    · by_cases hw1 : w2 = 0
      · exact .inl ⟨hw1, by rw [if_pos hw1]⟩
      · exact .inr ⟨hw1, by rw [if_neg hw1]⟩
    · rw [List.getElem?_set_ne (by omega)]; exact gs0' _ _ _
    · rw [List.getElem?_set_ne (by omega)]; exact gs1 _ _ _
    · rw [List.getElem?_set_self (by simp; omega)]; rw [two, Ex.cells]; simp
theorem sum_ok (hm : Mks all) (hU : ∀ a, b ≤ a → a < all.length → GC G 80 all l (Lv 3) a) (hb : b < all.length) : GC G 73 all l (Lv 2) b := by
  intro n hn0 hn1
  have hlen := hm.len
  refine AM.go hmix F_psum (by simp) ?_
  simp -implicitDefEqProofs [c_psum]
  refine SC.rd (by simp) [.ptr 0 0] (by simp) (all := all) (l := l) (a := b) (why := 0) (wh := 0) (n := n) (by simp) (hU b (by omega) hb n hn0 hn1) (by simp [toO]) ⟨0, by simp⟩ (by simp [lentO]) ?_ (tg := .mk)
  rintro x cs - hO
  have hst : ∃ (e : Ex) (a : Nat) (w p n' : Int), x = exA e ∧ cs = rdr all l a w p n' ∧ TmI l all b n 2 e a w p n' := by
    rcases hO with ⟨e, a', hP, rfl, ha1, ha2, rfl⟩ | ⟨w, p, e, a', n1, hP, hw, rfl, ha2, rfl⟩
    · exact ⟨e, a', 0, 0, n, rfl, rfl, ha2, .inl ⟨rfl, rfl, rfl, ha1, fun r hr => .row (by decide) (hP) hr⟩⟩
    · exact ⟨e, a', w, p, n1, rfl, rfl, ha2, .inr ⟨hw, .rowBad (by decide) (hP)⟩⟩
  clear hO
  obtain ⟨e, a, w, p, n', rfl, rfl, hT⟩ := hst
  obtain ⟨o, nm, tl, ty, num, args, pos⟩ := e
  simp -implicitDefEqProofs [exA, Ex.cells, wrOb, splice]
  refine LP.go (TmL l all b n 2) (if w = 0 then all.length - a else 0) ⟨_, a, w, p, n', hT, ?_, by simp, by simp, by simp, by simp, by simp, by simp [Ex.cells]⟩ ?_
  · by_cases hw1 : w = 0
    · exact .inl ⟨hw1, by rw [if_pos hw1]⟩
    · exact .inr ⟨hw1, by rw [if_neg hw1]⟩
  clear hT
  unfold c_psum_L0
  rintro g F H ⟨e, a, w, p, n', hT, hg, f0, f2, f3, hH0, hH1, hH2⟩
  obtain ⟨o, nm, tl, ty, num, args, pos⟩ := e
  rw [Ex.cells] at hH2
  have ha := hT.1
  obtain ⟨m, h1⟩ : ∃ m, all[a]? = some m := ⟨_, List.getElem?_eq_getElem ha⟩
  have hl0 : 0 < H.length := (List.getElem?_eq_some_iff.1 hH0).1
  have hl2 : 2 < H.length := (List.getElem?_eq_some_iff.1 hH2).1
  have s1 := ris_ap (G := G) all l a w p n' sPlus h1
  have s2 := ris_ap (G := G) all l a w p n' sMinus h1
  obtain ⟨q1, hq1⟩ : ∃ q, (decide (w = 0) && isW m sPlus) = q := ⟨_, rfl⟩
  obtain ⟨q2, hq2⟩ : ∃ q, (decide (w = 0) && isW m sMinus) = q := ⟨_, rfl⟩
  rw [hq1] at s1
  rw [hq2] at s2
  have hf1 : (frzT H [.ptr 0 0, sv sPlus]).1 = H := by simp
  have hf2 : (frzT H [.ptr 0 0, sv sMinus]).1 = H := by simp
  have hw : IntKind.i64.wrap ((a : Int) + 1) = ((a + 1 : Nat) : Int) := by rw [wrap64 _ (by omega)]; omega
  have gs0 : ∀ (X : List Ob) (o : Ob), ((H ++ X).set 0 o)[0]? = some o := fun X o => by rw [List.getElem?_set_self (by simp; omega)]
  have gs0' : ∀ (X Y : List Ob) (o : Ob), ((H ++ X).set 0 o ++ Y)[0]? = some o := fun X Y o => by rw [List.getElem?_append_left (by simp; omega)]; exact gs0 X o
  have gs1 : ∀ (X Y : List Ob) (o' : Ob), ((H ++ X).set 0 o' ++ Y)[1]? = some (.var [iv 0, sv [], sv [], iv 0, cv 0 0, .v (.slice none 0 0), iv 0]) := fun X Y o' => by
    rw [List.getElem?_append_left (by simp; omega), List.getElem?_set_ne (by omega), List.getElem?_append_left (by omega)]; exact hH1
  have gs2 : ∀ (X Y : List Ob) (o' : Ob), ((H ++ X).set 0 o' ++ Y)[2]? = some (.var [iv o, sv nm, sv tl, iv ty, cv (W num.1) (W num.2), .sl args.length (exsA args), iv pos]) := fun X Y o' => by
    rw [List.getElem?_append_left (by simp; omega), List.getElem?_set_ne (by omega), List.getElem?_append_left (by omega)]; exact hH2
  have gsm : ∀ (y : Ob) (Y : List Ob) (o' : Ob), ((H ++ [y]).set 0 o' ++ Y)[H.length]? = some y := fun y Y o' => by
    rw [List.getElem?_append_left (by simp), List.getElem?_set_ne (by omega), List.getElem?_append_right (by omega)]; simp
  have gse : ∀ (y z : Ob) (o' : Ob), ((H ++ [y]).set 0 o' ++ [z])[H.length + 1]? = some z := fun y z o' => by
    rw [List.getElem?_append_right (by simp)]; simp
  simp -implicitDefEqProofs [f0]
  refine SC.rd (by simp) [.ptr 0 0, sv sPlus] (by simp) (all := all) (l := l) (a := a) (why := w) (wh := p) (n := n') (by simp -implicitDefEqProofs [hH0]) (s1) (by simp [toO]) ⟨0, by simp⟩ (by simp [lentO]) ?_ (tg := .mk)
  rintro x cs - ⟨rfl, rfl⟩
  rw [hf1, set_same hH0]
  cases q1
  · simp -implicitDefEqProofs [f0]
    refine SC.rd (by simp) [.ptr 0 0, sv sMinus] (by simp) (all := all) (l := l) (a := a) (why := w) (wh := p) (n := n') (by simp -implicitDefEqProofs [hH0]) (s2) (by simp [toO]) ⟨0, by simp⟩ (by simp [lentO]) ?_ (tg := .mk)
    rintro x cs - ⟨rfl, rfl⟩
    rw [hf2, set_same hH0]
    cases q2
    · have q1 : ∀ (o : Ob), (H.set 1 o)[1]? = some o := fun o => by rw [List.getElem?_set_self (by omega)]
      have q0 : ∀ (o : Ob), (H.set 1 o)[0]? = some (.var (rdr all l a w p n')) := fun o => by rw [List.getElem?_set_ne (by omega)]; exact hH0
      simp -implicitDefEqProofs [f2, f3, hH1, hH2, q0, q1, wrOb, splice, finM, rdr_deep]
      refine ⟨by simp [rdr], ?_⟩
      obtain ⟨ha, ⟨rfl, rfl, rfl, hb1, hP⟩ | ⟨hw, hP⟩⟩ := hT
      · refine .inl ⟨.mk o nm tl ty num args pos, a, hP _ ?_, by simp [exA, Ex.cells], hb1, ha, rfl⟩
        rw [drop_at h1]
        refine .stop _ _ _ (str_not fun op hs => ?_)
        rcases (strOf_lv hs).2.2.1 rfl with h | h
        · simp [h] at hq1
        · simp [h] at hq2
      · exact .inr ⟨w, p, .mk o nm tl ty num args pos, a, n', hP, hw, by simp [exA, Ex.cells], ha, rfl⟩
    · simp only [Bool.and_eq_true, decide_eq_true_eq] at hq2
      obtain ⟨rfl, hsg⟩ := hq2
      have hst : strOf m = some (2, 9) := by rw [strOf_at hsg]; decide
      have hlt := hm.fin a _ h1 (isW_kind hsg).2.2
      obtain ⟨rfl, rfl, hb1, hP⟩ := hT.good
      have g0 : ∀ X : List Ob, (H ++ X)[0]? = some (.var (rdr all l a 0 0 n')) := fun X => by rw [List.getElem?_append_left hl0]; exact hH0
      simp -implicitDefEqProofs [f0]
      refine SC.rd (by simp) [.ptr 0 0] (by simp) (all := all) (l := l) (a := a) (why := 0) (wh := 0) (n := n') (by simp -implicitDefEqProofs [hH0]) (rnext_ap all l a 0 0 n' h1) (by simp [toO]) ⟨0, by simp⟩ (by simp [lentO]) ?_ (tg := .mk)
      rintro x cs - ⟨rfl, rfl⟩
      have hf3 : (frzT H [.ptr 0 0]).1 = H := by simp
      rw [hf3, set_same hH0]
      have htx : m.text = sMinus := isW_text hsg
      simp -implicitDefEqProofs [mcells, wrOb, splice, f0, g0, hw, -getElem?_pos, -Int.natCast_add, List.getElem?_cons_zero, List.getElem?_cons_succ, rdr]
      refine SC.rd (by simp) [.ptr 0 0] (by simp) (all := all) (l := l) (a := a + 1) (why := 0) (wh := 0) (n := n') (by simp -implicitDefEqProofs [gs0, rdr]) (hU (a + 1) (by omega) hlt n' hn0 (by omega)) (by simp [toO]) ⟨0, by simp⟩ (by simp [lentO]) ?_ (tg := .mk)
      rintro x cs - hO
      obtain ⟨e2, a2, w2, p2, n2, rfl, rfl, hT2, hlt2⟩ := tm_step (e := .mk o nm tl ty num args pos) h1 hst (by decide) hP hb1 hO
      obtain ⟨o2, nm2, tl2, ty2, num2, args2, pos2⟩ := e2
      simp -implicitDefEqProofs [exA, Ex.cells, wrOb, splice, htx, f3, gs2, gsm, gse, -getElem?_pos, List.getElem?_cons_zero, List.getElem?_cons_succ]
      refine SC.frz (by simp) [iv 9, .agg [iv o, sv nm, sv tl, iv ty, cv (W num.1) (W num.2), .sl args.length (exsA args), iv pos], .agg [iv o2, sv nm2, sv tl2, iv ty2, cv (W num2.1) (W num2.2), .sl args2.length (exsA args2), iv pos2], .agg [iv m.kind, sv sMinus, cv (W m.num.1) (W m.num.2), iv m.pos]] (by simp) (post := fun x => x = exA (two 9 (.mk o nm tl ty num args pos) (.mk o2 nm2 tl2 ty2 num2 args2 pos2) m.pos)) (by simpa [exA, Ex.cells, mcells, htx] using ptwo_ap 9 (.mk o nm tl ty num args pos) (.mk o2 nm2 tl2 ty2 num2 args2 pos2) m) (by simp) ?_ (a := .mk)
      rintro x rfl
      simp -implicitDefEqProofs [exA, two, Ex.cells, wrOb, splice, f3, gs2, -getElem?_pos, List.getElem?_cons_zero, List.getElem?_cons_succ]
      refine ⟨if w2 = 0 then all.length - a2 else 0, ?_, _, a2, w2, p2, n2, hT2, ?_, by simp [f0], by simp [f2], by simp [f3], ?_, ?_, ?_⟩
      · rcases hg with ⟨_, hg⟩ | ⟨h, _⟩
        · split
          · rename_i hw1; have := hlt2 hw1; omega
          · omega
        · exact absurd rfl h
      · by_cases hw1 : w2 = 0
        · exact .inl ⟨hw1, by rw [if_pos hw1]⟩
        · exact .inr ⟨hw1, by rw [if_neg hw1]⟩
      · rw [List.getElem?_set_ne (by omega)]; exact gs0' _ _ _
      · rw [List.getElem?_set_ne (by omega)]; exact gs1 _ _ _
      · rw [List.getElem?_set_self (by simp; omega)]; rw [two, Ex.cells]; simp
  · simp only [Bool.and_eq_true, decide_eq_true_eq] at hq1
    obtain ⟨rfl, hsg⟩ := hq1
    have hst : strOf m = some (2, 8) := by rw [strOf_at hsg]; decide
    have hlt := hm.fin a _ h1 (isW_kind hsg).2.2
    obtain ⟨rfl, rfl, hb1, hP⟩ := hT.good
    have g0 : ∀ X : List Ob, (H ++ X)[0]? = some (.var (rdr all l a 0 0 n')) := fun X => by rw [List.getElem?_append_left hl0]; exact hH0
    simp -implicitDefEqProofs [f0]
    refine SC.rd (by simp) [.ptr 0 0] (by simp) (all := all) (l := l) (a := a) (why := 0) (wh := 0) (n := n') (by simp -implicitDefEqProofs [hH0]) (rnext_ap all l a 0 0 n' h1) (by simp [toO]) ⟨0, by simp⟩ (by simp [lentO]) ?_ (tg := .mk)
    rintro x cs - ⟨rfl, rfl⟩
    have hf3 : (frzT H [.ptr 0 0]).1 = H := by simp
    rw [hf3, set_same hH0]
    have htx : m.text = sPlus := isW_text hsg
    simp -implicitDefEqProofs [mcells, wrOb, splice, f0, g0, hw, -getElem?_pos, -Int.natCast_add, List.getElem?_cons_zero, List.getElem?_cons_succ, rdr]
    refine SC.rd (by simp) [.ptr 0 0] (by simp) (all := all) (l := l) (a := a + 1) (why := 0) (wh := 0) (n := n') (by simp -implicitDefEqProofs [gs0, rdr]) (hU (a + 1) (by omega) hlt n' hn0 (by omega)) (by simp [toO]) ⟨0, by simp⟩ (by simp [lentO]) ?_ (tg := .mk)
    rintro x cs - hO
    obtain ⟨e2, a2, w2, p2, n2, rfl, rfl, hT2, hlt2⟩ := tm_step (e := .mk o nm tl ty num args pos) h1 hst (by decide) hP hb1 hO
    obtain ⟨o2, nm2, tl2, ty2, num2, args2, pos2⟩ := e2
    simp -implicitDefEqProofs [exA, Ex.cells, wrOb, splice, htx, f3, gs2, gsm, gse, -getElem?_pos, List.getElem?_cons_zero, List.getElem?_cons_succ]
    refine SC.frz (by simp) [iv 8, .agg [iv o, sv nm, sv tl, iv ty, cv (W num.1) (W num.2), .sl args.length (exsA args), iv pos], .agg [iv o2, sv nm2, sv tl2, iv ty2, cv (W num2.1) (W num2.2), .sl args2.length (exsA args2), iv pos2], .agg [iv m.kind, sv sPlus, cv (W m.num.1) (W m.num.2), iv m.pos]] (by simp) (post := fun x => x = exA (two 8 (.mk o nm tl ty num args pos) (.mk o2 nm2 tl2 ty2 num2 args2 pos2) m.pos)) (by simpa [exA, Ex.cells, mcells, htx] using ptwo_ap 8 (.mk o nm tl ty num args pos) (.mk o2 nm2 tl2 ty2 num2 args2 pos2) m) (by simp) ?_ (a := .mk)
    rintro x rfl
    simp -implicitDefEqProofs [exA, two, Ex.cells, wrOb, splice, f3, gs2, -getElem?_pos, List.getElem?_cons_zero, List.getElem?_cons_succ]
    refine ⟨if w2 = 0 then all.length - a2 else 0, ?_, _, a2, w2, p2, n2, hT2, ?_, by simp [f0], by simp [f2], by simp [f3], ?_, ?_, ?_⟩
    · rcases hg with ⟨_, hg⟩ | ⟨h, _⟩
      · split
        · rename_i hw1; have := hlt2 hw1; omega
        · omega
      · exact absurd rfl h
    · by_cases hw1 : w2 = 0
      · exact .inl ⟨hw1, by rw [if_pos hw1]⟩
      · exact .inr ⟨hw1, by rw [if_neg hw1]⟩
    · rw [List.getElem?_set_ne (by omega)]; exact gs0' _ _ _
    · rw [List.getElem?_set_ne (by omega)]; exact gs1 _ _ _
    · rw [List.getElem?_set_self (by simp; omega)]; rw [two, Ex.cells]; simp
end
end Go.Proofs.YtgddkgbidhhheaaDoor
