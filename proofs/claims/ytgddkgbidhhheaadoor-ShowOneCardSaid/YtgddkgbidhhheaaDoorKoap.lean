/- Texts joined: Prg Prh. -/
import Derived.Test.YtgddkgbidhhheaaDoorKoao
/- The reference parser: comparisons and lists. -/
set_option linter.unusedVariables false
set_option linter.unusedSimpArgs false
set_option maxRecDepth 100000
namespace Go.Proofs.YtgddkgbidhhheaaDoor
open Go.RowKit Flo Ab Mk Pg
section
variable {G : World → Prop} {all : List M} {l : Lim} {b : Nat} {n : Int}
theorem tm_last {a lv : Nat} {op : Int} {e : Ex} {m : M} (h1 : all[a]? = some m) (hs : strOf m = some (lv, op)) (h2 : lv < 2) (hP : ∀ r, P l (.tail n lv e (all.drop a)) r → P l (.row n lv (all.drop b)) r) (hb : b < a) {x : AV} {cs : List AV}
    (hO : Out (P l (.row n (right lv) (all.drop (a + 1)))) all l (a + 1) n x cs) : ∃ (e2 : Ex) (a2 : Nat) (w2 p2 n2 : Int), x = exA e2 ∧ cs = rdr all l a2 w2 p2 n2 ∧ Out (P l (.row n lv (all.drop b))) all l b n (exA (two op e e2 m.pos)) (rdr all l a2 w2 p2 n2) := by
  rcases hO with ⟨e2, a2, hP2, rfl, ha1, ha2, rfl⟩ | ⟨w, p, e2, a2, n2, hP2, hw, rfl, ha2, rfl⟩
  · refine ⟨e2, a2, 0, 0, n, rfl, rfl, .inl ⟨_, a2, hP _ ?_, rfl, by omega, ha2, rfl⟩⟩
    rw [drop_at h1]; exact .tail1 hs h2 hP2
  · refine ⟨e2, a2, w, p, n2, rfl, rfl, .inr ⟨w, p, _, a2, n2, hP _ ?_, hw, rfl, ha2, rfl⟩⟩
    rw [drop_at h1]; exact .tailBad _ hs hP2
theorem tm_stop {a lv : Nat} {e : Ex} {m : M} {w p n' : Int} (h1 : all[a]? = some m) (h : TmI l all b n lv e a w p n') (hs : w = 0 → ∀ op, strOf m ≠ some (lv, op)) : Out (P l (.row n lv (all.drop b))) all l b n (exA e) (rdr all l a w p n') := by
  obtain ⟨ha, ⟨rfl, rfl, rfl, hb1, hP⟩ | ⟨hw, hP⟩⟩ := h
  · refine .inl ⟨e, a, hP _ ?_, rfl, hb1, ha, rfl⟩
    rw [drop_at h1]
    exact .stop _ _ _ (str_not (hs rfl))
  · exact .inr ⟨w, p, e, a, n', hP, hw, rfl, ha, rfl⟩
theorem tm_new {lv : Nat} (h : lv < 4) {x : AV} {cs : List AV} (hO : Out (P l (.row n (lv + 1) (all.drop b))) all l b n x cs) : ∃ (e : Ex) (a : Nat) (w p n' : Int), x = exA e ∧ cs = rdr all l a w p n' ∧ TmI l all b n lv e a w p n' := by
  rcases hO with ⟨e, a', hP, rfl, ha1, ha2, rfl⟩ | ⟨w, p, e, a', n1, hP, hw, rfl, ha2, rfl⟩
  · exact ⟨e, a', 0, 0, n, rfl, rfl, ha2, .inl ⟨rfl, rfl, rfl, ha1, fun r hr => .row h hP hr⟩⟩
  · exact ⟨e, a', w, p, n1, rfl, rfl, ha2, .inr ⟨hw, .rowBad h hP⟩⟩
theorem comp_ok (hm : Mks all) (hU : ∀ a, b ≤ a → a < all.length → GC G 73 all l (Lv 2) a) (hb : b < all.length) : GC G 69 all l (Lv 1) b := by
  intro n hn0 hn1
  have hlen := hm.len
  refine AM.go hmix F_pcomp (by simp) ?_
  simp -implicitDefEqProofs [c_pcomp]
  refine SC.rd (by simp) [.ptr 0 0] (by simp) (all := all) (l := l) (a := b) (why := 0) (wh := 0) (n := n) (by simp) (hU b (by omega) hb n hn0 hn1) (by simp [toO]) ⟨0, by simp⟩ (by simp [lentO]) ?_ (tg := .mk)
  rintro x cs - hO
  obtain ⟨e, a, w, p, n', rfl, rfl, hT⟩ := tm_new (by decide) hO
  clear hO
  obtain ⟨o, nm, tl, ty, num, args, pos⟩ := e
  have ha := hT.1
  obtain ⟨m, h1⟩ : ∃ m, all[a]? = some m := ⟨_, List.getElem?_eq_getElem ha⟩
  simp -implicitDefEqProofs [exA, Ex.cells, wrOb, splice]
  refine SC.rd (by simp) [.ptr 0 0] (by simp) (all := all) (l := l) (a := a) (why := w) (wh := p) (n := n') (by simp) (rnext_ap all l a w p n' h1) (by simp [toO]) ⟨0, by simp⟩ (by simp [lentO]) ?_ (tg := .mk)
  rintro x cs - ⟨rfl, rfl⟩
  have s1 := ris_ap (G := G) all l a w p n' sLess h1
  have t1 := rtake_ap (G := G) all l a w p n' sEqEq h1 (by omega)
  have t2 := rtake_ap (G := G) all l a w p n' sLess h1 (by omega)
  obtain ⟨q1, hq1⟩ : ∃ q, (decide (w = 0) && isW m sLess) = q := ⟨_, rfl⟩
  obtain ⟨q2, hq2⟩ : ∃ q, (decide (w = 0) && isW m sEqEq) = q := ⟨_, rfl⟩
  rw [hq1] at s1 t2
  rw [hq2] at t1
  simp -implicitDefEqProofs [mcells, wrOb, splice]
  refine SC.rd (by simp) [.ptr 0 0, sv sLess] (by simp) (all := all) (l := l) (a := a) (why := w) (wh := p) (n := n') (by simp) (s1) (by simp [toO]) ⟨0, by simp⟩ (by simp [lentO]) ?_ (tg := .mk)
  rintro x cs - ⟨rfl, rfl⟩
  cases q1
  · cases q2
    · simp -implicitDefEqProofs
      refine SC.rd (by simp) [.ptr 0 0, sv sEqEq] (by simp) (all := all) (l := l) (a := a) (why := w) (wh := p) (n := n') (by simp) (t1) (by simp [toO]) ⟨0, by simp⟩ (by simp [lentO]) ?_ (tg := .mk)
      rintro x cs - ⟨rfl, rfl⟩
      simp -implicitDefEqProofs
      refine SC.rd (by simp) [.ptr 0 0, sv sLess] (by simp) (all := all) (l := l) (a := a) (why := w) (wh := p) (n := n') (by simp) (t2) (by simp [toO]) ⟨0, by simp⟩ (by simp [lentO]) ?_ (tg := .mk)
      rintro x cs - ⟨rfl, rfl⟩
      simp -implicitDefEqProofs [wrOb, splice, finM]
      refine ⟨by simp [rdr], ?_⟩
      have := tm_stop (e := .mk o nm tl ty num args pos) h1 hT (fun h0 op hs => by
        subst h0
        rcases (strOf_lv hs).2.1 rfl with h | h
        · simp [h] at hq2
        · simp [h] at hq1)
      simpa [exA, Ex.cells, Lv] using this
    · simp only [Bool.and_eq_true, decide_eq_true_eq] at hq2
      obtain ⟨rfl, hsg⟩ := hq2
      have hst : strOf m = some (1, 12) := by rw [strOf_at hsg]; decide
      have hlt := hm.fin a _ h1 (isW_kind hsg).2.2
      obtain ⟨rfl, rfl, hb1, hP⟩ := hT.good
      simp -implicitDefEqProofs
      refine SC.rd (by simp) [.ptr 0 0, sv sEqEq] (by simp) (all := all) (l := l) (a := a) (why := 0) (wh := 0) (n := n') (by simp) (t1) (by simp [toO]) ⟨0, by simp⟩ (by simp [lentO]) ?_ (tg := .mk)
      rintro x cs - ⟨rfl, rfl⟩
      simp -implicitDefEqProofs
      refine SC.rd (by simp) [.ptr 0 0] (by simp) (all := all) (l := l) (a := a + 1) (why := 0) (wh := 0) (n := n') (by simp) (hU (a + 1) (by omega) hlt n' hn0 (by omega)) (by simp [toO]) ⟨0, by simp⟩ (by simp [lentO]) ?_ (tg := .mk)
      rintro x cs - hO
      obtain ⟨e2, a2, w2, p2, n2, rfl, rfl, hT2⟩ := tm_last (e := .mk o nm tl ty num args pos) h1 hst (by decide) hP hb1 hO
      obtain ⟨o2, nm2, tl2, ty2, num2, args2, pos2⟩ := e2
      simp -implicitDefEqProofs [exA, Ex.cells, wrOb, splice]
      refine SC.frz (by simp) [iv 12, .agg [iv o, sv nm, sv tl, iv ty, cv (W num.1) (W num.2), .sl args.length (exsA args), iv pos], .agg [iv o2, sv nm2, sv tl2, iv ty2, cv (W num2.1) (W num2.2), .sl args2.length (exsA args2), iv pos2], .agg [iv m.kind, sv m.text, cv (W m.num.1) (W m.num.2), iv m.pos]] (by simp) (post := fun x => x = exA (two 12 (.mk o nm tl ty num args pos) (.mk o2 nm2 tl2 ty2 num2 args2 pos2) m.pos)) (by simpa [exA, Ex.cells, mcells] using ptwo_ap 12 (.mk o nm tl ty num args pos) (.mk o2 nm2 tl2 ty2 num2 args2 pos2) m) (by simp) ?_ (a := .mk)
      rintro x rfl
      simp -implicitDefEqProofs [exA, two, Ex.cells, wrOb, splice, finM]
      refine ⟨by simp [rdr], ?_⟩
      simpa [exA, two, Ex.cells, exsA, Lv, W0] using hT2
  · simp only [Bool.and_eq_true, decide_eq_true_eq] at hq1
    obtain ⟨rfl, hsg⟩ := hq1
    have hst : strOf m = some (1, 13) := by rw [strOf_at hsg]; decide
    have hlt := hm.fin a _ h1 (isW_kind hsg).2.2
    obtain ⟨rfl, rfl, hb1, hP⟩ := hT.good
    have hne : isW m sEqEq = false := isW_other hsg (by decide)
    rw [hne] at hq2
    subst hq2
    simp -implicitDefEqProofs
    refine SC.rd (by simp) [.ptr 0 0, sv sEqEq] (by simp) (all := all) (l := l) (a := a) (why := 0) (wh := 0) (n := n') (by simp) (t1) (by simp [toO]) ⟨0, by simp⟩ (by simp [lentO]) ?_ (tg := .mk)
    rintro x cs - ⟨rfl, rfl⟩
    simp -implicitDefEqProofs
    refine SC.rd (by simp) [.ptr 0 0, sv sLess] (by simp) (all := all) (l := l) (a := a) (why := 0) (wh := 0) (n := n') (by simp) (t2) (by simp [toO]) ⟨0, by simp⟩ (by simp [lentO]) ?_ (tg := .mk)
    rintro x cs - ⟨rfl, rfl⟩
    simp -implicitDefEqProofs
    refine SC.rd (by simp) [.ptr 0 0] (by simp) (all := all) (l := l) (a := a + 1) (why := 0) (wh := 0) (n := n') (by simp) (hU (a + 1) (by omega) hlt n' hn0 (by omega)) (by simp [toO]) ⟨0, by simp⟩ (by simp [lentO]) ?_ (tg := .mk)
    rintro x cs - hO
    obtain ⟨e2, a2, w2, p2, n2, rfl, rfl, hT2⟩ := tm_last (e := .mk o nm tl ty num args pos) h1 hst (by decide) hP hb1 hO
    obtain ⟨o2, nm2, tl2, ty2, num2, args2, pos2⟩ := e2
    simp -implicitDefEqProofs [exA, Ex.cells, wrOb, splice]
    refine SC.frz (by simp) [iv 13, .agg [iv o, sv nm, sv tl, iv ty, cv (W num.1) (W num.2), .sl args.length (exsA args), iv pos], .agg [iv o2, sv nm2, sv tl2, iv ty2, cv (W num2.1) (W num2.2), .sl args2.length (exsA args2), iv pos2], .agg [iv m.kind, sv m.text, cv (W m.num.1) (W m.num.2), iv m.pos]] (by simp) (post := fun x => x = exA (two 13 (.mk o nm tl ty num args pos) (.mk o2 nm2 tl2 ty2 num2 args2 pos2) m.pos)) (by simpa [exA, Ex.cells, mcells] using ptwo_ap 13 (.mk o nm tl ty num args pos) (.mk o2 nm2 tl2 ty2 num2 args2 pos2) m) (by simp) ?_ (a := .mk)
    rintro x rfl
    simp -implicitDefEqProofs [exA, two, Ex.cells, wrOb, splice, finM]
    refine ⟨by simp [rdr], ?_⟩
    simpa [exA, two, Ex.cells, exsA, Lv, W0] using hT2
theorem cons_ok (hm : Mks all) (hU : ∀ a, b ≤ a → a < all.length → GC G 69 all l (Lv 1) a) (hC : ∀ a, b < a → a < all.length → GC G 64 all l (Lv 0) a) (hb : b < all.length) : GC G 64 all l (Lv 0) b := by
  intro n hn0 hn1
  have hlen := hm.len
  refine AM.go hmix F_pcons (by simp) ?_
  simp -implicitDefEqProofs [c_pcons]
  refine SC.rd (by simp) [.ptr 0 0] (by simp) (all := all) (l := l) (a := b) (why := 0) (wh := 0) (n := n) (by simp) (hU b (by omega) hb n hn0 hn1) (by simp [toO]) ⟨0, by simp⟩ (by simp [lentO]) ?_ (tg := .mk)
  rintro x cs - hO
  obtain ⟨e, a, w, p, n', rfl, rfl, hT⟩ := tm_new (by decide) hO
  clear hO
  obtain ⟨o, nm, tl, ty, num, args, pos⟩ := e
  have ha := hT.1
  obtain ⟨m, h1⟩ : ∃ m, all[a]? = some m := ⟨_, List.getElem?_eq_getElem ha⟩
  simp -implicitDefEqProofs [exA, Ex.cells, wrOb, splice]
  refine SC.rd (by simp) [.ptr 0 0] (by simp) (all := all) (l := l) (a := a) (why := w) (wh := p) (n := n') (by simp) (rnext_ap all l a w p n' h1) (by simp [toO]) ⟨0, by simp⟩ (by simp [lentO]) ?_ (tg := .mk)
  rintro x cs - ⟨rfl, rfl⟩
  have t1 := rtake_ap (G := G) all l a w p n' sColon h1 (by omega)
  obtain ⟨q1, hq1⟩ : ∃ q, (decide (w = 0) && isW m sColon) = q := ⟨_, rfl⟩
  rw [hq1] at t1
  simp -implicitDefEqProofs [mcells, wrOb, splice]
  refine SC.rd (by simp) [.ptr 0 0, sv sColon] (by simp) (all := all) (l := l) (a := a) (why := w) (wh := p) (n := n') (by simp) (t1) (by simp [toO]) ⟨0, by simp⟩ (by simp [lentO]) ?_ (tg := .mk)
  rintro x cs - ⟨rfl, rfl⟩
  cases q1
  · simp -implicitDefEqProofs [wrOb, splice, finM]
    refine ⟨by simp [rdr], ?_⟩
    have := tm_stop (e := .mk o nm tl ty num args pos) h1 hT (fun h0 op hs => by
      subst h0
      have h := (strOf_lv hs).1 rfl
      simp [h] at hq1)
    simpa [exA, Ex.cells, Lv] using this
  · simp only [Bool.and_eq_true, decide_eq_true_eq] at hq1
    obtain ⟨rfl, hsg⟩ := hq1
    have hst : strOf m = some (0, 18) := by rw [strOf_at hsg]; decide
    have hlt := hm.fin a _ h1 (isW_kind hsg).2.2
    obtain ⟨rfl, rfl, hb1, hP⟩ := hT.good
    simp -implicitDefEqProofs
    refine SC.rd (by simp) [.ptr 0 0] (by simp) (all := all) (l := l) (a := a + 1) (why := 0) (wh := 0) (n := n') (by simp) (hC (a + 1) (by omega) hlt n' hn0 (by omega)) (by simp [toO]) ⟨0, by simp⟩ (by simp [lentO]) ?_ (tg := .mk)
    rintro x cs - hO
    obtain ⟨e2, a2, w2, p2, n2, rfl, rfl, hT2⟩ := tm_last (e := .mk o nm tl ty num args pos) h1 hst (by decide) hP hb1 hO
    obtain ⟨o2, nm2, tl2, ty2, num2, args2, pos2⟩ := e2
    simp -implicitDefEqProofs [exA, Ex.cells, wrOb, splice]
    refine SC.frz (by simp) [iv 18, .agg [iv o, sv nm, sv tl, iv ty, cv (W num.1) (W num.2), .sl args.length (exsA args), iv pos], .agg [iv o2, sv nm2, sv tl2, iv ty2, cv (W num2.1) (W num2.2), .sl args2.length (exsA args2), iv pos2], .agg [iv m.kind, sv m.text, cv (W m.num.1) (W m.num.2), iv m.pos]] (by simp) (post := fun x => x = exA (two 18 (.mk o nm tl ty num args pos) (.mk o2 nm2 tl2 ty2 num2 args2 pos2) m.pos)) (by simpa [exA, Ex.cells, mcells] using ptwo_ap 18 (.mk o nm tl ty num args pos) (.mk o2 nm2 tl2 ty2 num2 args2 pos2) m) (by simp) ?_ (a := .mk)
    rintro x rfl
    simp -implicitDefEqProofs [exA, two, Ex.cells, wrOb, splice, finM]
    refine ⟨by simp [rdr], ?_⟩
    simpa [exA, two, Ex.cells, exsA, Lv, W0] using hT2
end
end Go.Proofs.YtgddkgbidhhheaaDoor
/- The reference parser: parts and branches. -/
set_option linter.unusedVariables false
set_option linter.unusedSimpArgs false
set_option maxRecDepth 100000
namespace Go.Proofs.YtgddkgbidhhheaaDoor
open Go.RowKit Flo Ab Mk Pg
namespace Ab
section
variable {P : Program} {G : World → Prop}
/-! a variable's rows are frozen where a function ends -/
theorem AC.dzv {f : FuncId} {args : List AV} {objs : List Ob} {post : AV → List Ob → Prop} (j : Nat) (hp : ∃ off, AV.ptr j off ∈ args)
    (h : AC P G f args objs (fun x H => ∃ cs, H[j]? = some (.var cs) ∧ post x ((frzL H cs).1.set j (.var (frzL H cs).2)))) : AC P G f args objs post := by
  intro w0 c vs hG hS ⟨hl, ha⟩
  obtain ⟨off, hm⟩ := hp
  obtain ⟨q, hq⟩ := List.getElem?_of_mem hm
  obtain ⟨u0, _, hr0⟩ := ha q _ hq
  have hbn : c.born j := hr0.inv_ptr.2
  refine (h w0 c vs hG hS ⟨hl, ha⟩).mono ?_
  rintro e w' (⟨c1, u, x, H, e1, rfl, t1, s1, v1, cs, hj, hpost⟩ | ⟨_, _, _, _, _, _, _, _, _, _, _, hpan⟩)
  case inr => exact hpan.elim
  have hb1 : c1.born j := t1.le.born j hbn
  obtain ⟨us, T, b1, b2, b3⟩ : ∃ (us : List Value) (T : TypeId), c1.w.heap[c1.β j]? = some (.cells us.toArray T (0, 0)) ∧ RL c1 cs us ∧ c1.M (c1.β j) := by
    rcases s1.ob j _ hj with ⟨_, h⟩ | ⟨hn, _⟩
    · exact h
    · exact absurd hb1 hn
  obtain ⟨c2, e2, s2, t2, r2⟩ := frzL_ok cs s1 b2
  have hj2 : (frzL H cs).1[j]? = some (.var cs) := frzL_var cs hj
  have hb2 := t2.le.born j hb1
  obtain ⟨H2, hH2⟩ : ∃ H2, (frzL H cs).1 = H2 := ⟨_, rfl⟩
  obtain ⟨cs', hcs'⟩ : ∃ cs', (frzL H cs).2 = cs' := ⟨_, rfl⟩
  rw [hH2] at hj2 s2 t2 hpost
  rw [hcs'] at r2 hpost
  have hlt : j < H2.length := (List.getElem?_eq_some_iff.1 hj2).1
  obtain ⟨us', T', d1, d2, d3⟩ : ∃ (us : List Value) (T : TypeId), c2.w.heap[c2.β j]? = some (.cells us.toArray T (0, 0)) ∧ RL c2 cs us ∧ c2.M (c2.β j) := by
    rcases s2.ob j _ hj2 with ⟨_, h⟩ | ⟨hn, _⟩
    · exact h
    · exact absurd hb2 hn
  have hβ : c2.β j = c1.β j := t2.le.β j hb1
  have hus : us' = us := by
    rw [e2, hβ, b1] at d1
    simp only [Option.some.injEq, Obj.cells.injEq] at d1
    exact (Array.toList_inj.2 d1.1).symm
  subst hus
  have hob : ∀ (i : Nat) (o : Ob), (H2.set j (.var cs'))[i]? = some o → o.live = true → ∃ o1, H2[i]? = some o1 ∧ o1.live = true := fun i o ho hlv => by
    by_cases hij : j = i
    · subst hij; exact ⟨_, hj2, rfl⟩
    · rw [List.getElem?_set_ne hij] at ho; exact ⟨o, ho, hlv⟩
  have hwr : ∀ b, Wr c2 (H2.set j (.var cs')) b → Wr c2 H2 b := fun b ⟨i, o, ho, hlv, hb, he⟩ => by
    obtain ⟨o1, h1, h2⟩ := hob i o ho hlv
    exact ⟨i, o1, h1, h2, hb, he⟩
  have hst : Step c2 H2 c2 (H2.set j (.var cs')) := ⟨.refl c2, rfl, rfl, rfl, fun _ _ _ => rfl, fun _ _ h => h, fun _ _ _ h => h, fun b hb => .inl (hwr b hb), Nat.le_refl _, fun _ _ h => h⟩
  refine .inl ⟨c2, u, x, _, e2.trans e1, rfl, t1.trans (t2.trans hst), ⟨by rw [List.length_set]; exact s2.k, s2.bl, fun i o ho => ?_, fun i k oi ok hi hk li lk ni nk he => ?_, fun b hb => s2.base b (hwr b hb), s2.mlt, s2.below⟩, v1.le t2.le, hpost⟩
  · by_cases hij : j = i
    · subst hij
      rw [List.getElem?_set_self hlt] at ho
      cases ho
      exact .inl ⟨hb2, us', T', d1, r2, d3⟩
    · rw [List.getElem?_set_ne hij] at ho
      exact s2.ob i o ho
  · obtain ⟨o1, a1, a2⟩ := hob i oi hi li
    obtain ⟨o2, b1, b2⟩ := hob k ok hk lk
    exact s2.inj i k o1 o2 a1 b1 a2 b2 ni nk he
/-! a function that is handed pointers to two variables -/
def AM2 (P : Program) (G : World → Prop) (f : FuncId) (args : List AV) (cs ds : List AV) (post : AV → List AV → List AV → Prop) : Prop := AMs P G f args [cs, ds] (fun x css => ∃ cs' ds', css = [cs', ds'] ∧ post x cs' ds')
def finN (post : AV → List AV → List AV → Prop) (x : AV) (H : List Ob) : Prop := deepV (frzV H x).2 = true ∧ ∃ cs ds, (frzV H x).1[0]? = some (.var cs) ∧ (frzV H x).1[1]? = some (.var ds) ∧ cs.all deep1 = true ∧ ds.all deep1 = true ∧ post (frzV H x).2 cs ds
def finM2 (post : AV → List AV → List AV → Prop) (x : AV) (H : List Ob) : Prop := ∃ cs, H[1]? = some (.var cs) ∧ finN post x ((frzL H cs).1.set 1 (.var (frzL H cs).2))
theorem AM2.go (hmix : P.follows .mixedOrders = true) {f : FuncId} {N : Nat} {ac : ACode} {sl : List RSlot} (hf : Fun P f N ac sl) {args : List AV} {cs ds : List AV} {post : AV → List AV → List AV → Prop} (hN : args.length ≤ N) (h1 : ∃ off, AV.ptr 1 off ∈ args)
    (h : aw P G N ac (retQ sl (finM2 post)) (argF args) [.var cs, .var ds]) : AM2 P G f args cs ds post := by
  rw [aw_is] at h
  refine AC.mono (AC.dzv (post := finN post) 1 h1 (AC.mono (AC.of hmix hf hN h) (fun x H hq => hq))) (fun x H hq => ?_)
  obtain ⟨h1, cs', ds', h2, h3, h4, h5, h6⟩ := hq
  exact ⟨h1, [cs', ds'], rfl, fun j cs0 hj => by
    match j with
    | 0 => cases hj; exact ⟨h2, h4⟩
    | 1 => cases hj; exact ⟨h3, h5⟩
    | j + 2 => simp at hj, cs', ds', rfl, h6⟩
theorem SC.lent2 {N : Nat} {F : Fr} {H : List Ob} {K : Fr → List Ob → Prop} {d : Option Nat} (hdN : ∀ t, d = some t → t < N) {f : FuncId} {args : List Opd} (xs : List AV) (hx : evA F args = some xs) (i j : Nat) (hij : i ≠ j) (cs ds : List AV) {post : AV → List AV → List AV → Prop}
    (hi : (frzT H xs).1[i]? = some (.var cs)) (hj : (frzT H xs).1[j]? = some (.var ds)) (hcs : cs.all deep1 = true) (hds : ds.all deep1 = true) (hA : AM2 P G f ((frzT H xs).2.map (toO [i, j])) cs ds post) (hp : ∃ off, AV.ptr i off ∈ (frzT H xs).2) (hq : ∃ off, AV.ptr j off ∈ (frzT H xs).2)
    (hd : (frzT H xs).2.all (lentO [i, j]) = true) (hK : ∀ x cs' ds', cs'.all deep1 = true → ds'.all deep1 = true → post x cs' ds' → K (putF F d x) (((frzT H xs).1.set i (.var cs')).set j (.var ds'))) {a : Tag K} : SC P G N d f args F H K a := by
  refine SCall.lendM hdN hx (ids := [i, j]) (css := [cs, ds]) rfl (by simp [hij]) (fun k k' cs0 hk hc => ?_) (fun cs0 h0 => ?_) (fun k hk => ?_) hA hd (fun x css' hl hall hpost => ?_)
  · match k with
    | 0 => cases hk; cases hc; exact hi
    | 1 => cases hk; cases hc; exact hj
    | k + 2 => simp at hk
  · simp only [List.mem_cons, List.not_mem_nil, or_false] at h0
    rcases h0 with rfl | rfl
    · exact hcs
    · exact hds
  · simp only [List.mem_cons, List.not_mem_nil, or_false] at hk
    rcases hk with rfl | rfl
    · exact hp
    · exact hq
  · obtain ⟨cs', ds', rfl, hpost⟩ := hpost
    exact hK x cs' ds' (hall cs' (by simp)) (hall ds' (by simp)) hpost
end
end Ab
section
variable {G : World → Prop} {all : List M} {l : Lim} {b : Nat} {n : Int} {Q : Res → Prop}
def itsP : List (List UInt8) → List It
  | [] => []
  | w :: ws => if w = [] then .e :: itsP ws else .w w :: .e :: itsP ws
def partV (w : List UInt8) (e : Ex) : List Vl := if w = [] then [.e e] else [.u, .e e]
def partsV : List (List UInt8) → List Ex → List Vl
  | w :: ws, e :: es => partV w e ++ partsV ws es
  | _, _ => []
theorem partsV_snoc : ∀ (ws : List (List UInt8)) (es : List Ex) (w : List UInt8) (e : Ex), ws.length = es.length → partsV (ws ++ [w]) (es ++ [e]) = partsV ws es ++ partV w e
  | [], [], w, e, _ => by simp [partsV]
  | w0 :: ws, e0 :: es, w, e, h => by
    rw [List.cons_append, List.cons_append, partsV, partsV_snoc ws es w e (by simpa using h), partsV, List.append_assoc]
  | [], e0 :: es, w, e, h => by simp at h
  | w0 :: ws, [], w, e, h => by simp at h
def partR (es : List Ex) (H : List Ob) (X : AV) : Prop := (es = [] ∧ X = .v (.slice none 0 0)) ∨ ∃ r, 0 < r ∧ X = .row r ∧ es ≠ [] ∧ H[r]? = some (.own 36 7 es.length (exsA es))
def PrtI (l : Lim) (all : List M) (b : Nat) (n : Int) (Q : Res → Prop) (vs : List Vl) (ws : List (List UInt8)) (g : Nat) (F : Fr) (H : List Ob) : Prop :=
  ∃ (k : Nat) (es : List Ex) (a : Nat) (w p n' : Int) (X : AV), k + g = ws.length ∧ es.length = k ∧ Sq l all b n Q (vs ++ partsV (ws.take k) es) (itsP (ws.drop k)) a w p n' ∧ F 0 = some (.ptr 0 0) ∧ F 1 = some (.sl ws.length (ws.map sv)) ∧ F 5 = some X ∧ F 6 = some (iv k) ∧ H[0]? = some (.var (rdr all l a w p n')) ∧ partR es H X
theorem parts_ok (hm : Mks all) (hX : HX G all l b) (hn : 0 ≤ n ∧ n ≤ b + 1) {vs : List Vl} {ws : List (List UInt8)} (hws : ws.length ≤ 10) {a : Nat} {w p n' : Int} (h : Sq l all b n Q vs (itsP ws) a w p n') :
    AM Tryd.prog G 65 [.ptr 0 0, .sl ws.length (ws.map sv)] (rdr all l a w p n') (fun x cs => ∃ es : List Ex, x = .sl es.length (exsA es) ∧ es.length = ws.length ∧ ∃ (a : Nat) (w p n' : Int), cs = rdr all l a w p n' ∧ Sq l all b n Q (vs ++ partsV ws es) [] a w p n') := by
  refine AM.go hmix F_pparts (by simp) ?_
  simp -implicitDefEqProofs [c_pparts]
  refine LP.go (PrtI l all b n Q vs ws) ws.length ⟨0, [], a, w, p, n', .v (.slice none 0 0), by omega, rfl, by simpa [partsV] using h, by simp, by simp, by simp, by simp, by simp, .inl ⟨rfl, rfl⟩⟩ ?_
  unfold c_pparts_L0
  rintro g F H ⟨k, es, a, w, p, n', X, hk, hel, hS, f0, f1, f5, f6, hH0, hR⟩
  have hl0 : 0 < H.length := (List.getElem?_eq_some_iff.1 hH0).1
  by_cases hkl : (k : Int) < ws.length
  · have hkl' : k < ws.length := by omega
    obtain ⟨s, hs⟩ : ∃ s, ws[k]? = some s := ⟨_, List.getElem?_eq_getElem hkl'⟩
    have hcs : (ws.map sv)[k]? = some (sv s) := by rw [List.getElem?_map, hs]; rfl
    have hdr : ws.drop k = s :: ws.drop (k + 1) := by
      obtain ⟨_, rfl⟩ := List.getElem?_eq_some_iff.1 hs
      exact List.drop_eq_getElem_cons hkl'
    have htk : ws.take (k + 1) = ws.take k ++ [s] := by
      rw [List.take_add_one, hs]; rfl
    have hw : IntKind.i64.wrap ((k : Int) + 1) = ((k + 1 : Nat) : Int) := by rw [wrap64 _ (by omega)]; omega
    have hsn : ∀ e, partsV (ws.take (k + 1)) (es ++ [e]) = partsV (ws.take k) es ++ partV s e := fun e => by
      rw [htk, partsV_snoc _ _ _ _ (by rw [List.length_take]; omega)]
    rw [hdr, itsP] at hS
    by_cases hse : s = []
    · rw [if_pos hse] at hS
      simp -implicitDefEqProofs [f0, f1, f6, hkl, hkl', hcs, hse, -getElem?_pos, -List.getElem?_map, List.getElem?_cons_zero, List.getElem?_cons_succ]
      refine SC.rd (by simp) [.ptr 0 0] (by simp) (all := all) (l := l) (a := a) (why := w) (wh := p) (n := n') (by simp -implicitDefEqProofs [hH0]) (expr_sq hm hX hn hS) (by simp [toO]) ⟨0, by simp⟩ (by simp [lentO]) ?_ (tg := .mk)
      rintro x cs - ⟨e, rfl, a2, w2, p2, n2, rfl, hS2⟩
      obtain ⟨o, nm, tl, ty, num, args, pos⟩ := e
      have hS3 : Sq l all b n Q (vs ++ partsV (ws.take (k + 1)) (es ++ [.mk o nm tl ty num args pos])) (itsP (ws.drop (k + 1))) a2 w2 p2 n2 := by
        rw [hsn]; simpa [partV, hse] using hS2
      rcases hR with ⟨rfl, rfl⟩ | ⟨r, hr3, rfl, hne, hr⟩
      · simp -implicitDefEqProofs [exA, Ex.cells, wrOb, splice, f0, f1, f5, f6, evP, fillA, hw, -Int.natCast_add]
        refine ⟨g - 1, by omega, k + 1, [.mk o nm tl ty num args pos], a2, w2, p2, n2, .row (H.length + 2), by omega, by simp at hel; simp [← hel], hS3, by simp [f0], by simp [f1], by simp [f5], by simp, ?_, .inr ⟨H.length + 2, by omega, rfl, by simp, ?_⟩⟩
        · rw [List.getElem?_append_left (by simpa using hl0), List.getElem?_set_self hl0]
        · rw [List.getElem?_append_right (by simp)]; simp [exsA, Ex.cells]
      · have hrl : r < H.length := (List.getElem?_eq_some_iff.1 hr).1
        have hrX : ∀ (o : Ob) (X : List Ob), (H.set 0 o ++ X)[r]? = some (.own 36 7 es.length (exsA es)) := fun o X => by
          rw [List.getElem?_append_left (by simpa using hrl), List.getElem?_set_ne (by omega)]; exact hr
        have hb1 : (es.length + 1) * 96 ≤ 140737488355328 := by omega
        have hb2 : es.length + 1 ≤ 1073741824 := by omega
        have hb3 : es.length ≤ 1073741823 := by omega
        simp -implicitDefEqProofs [exA, Ex.cells, wrOb, splice, f0, f1, f5, f6, hrX, hb1, hb2, hb3, evP, fillA, hw, -Int.natCast_add]
        refine ⟨g - 1, by omega, k + 1, es ++ [.mk o nm tl ty num args pos], a2, w2, p2, n2, .row (H.length + 2), by omega, by simp [hel], hS3, by simp [f0], by simp [f1], by simp [f5], by simp, ?_, .inr ⟨H.length + 2, by omega, rfl, by simp, ?_⟩⟩
        · rw [List.getElem?_append_left (by simp), List.getElem?_set_ne (by omega), List.getElem?_append_left (by simpa using hl0), List.getElem?_set_self hl0]
        · rw [List.getElem?_append_right (by simp)]; simp [exsA_snoc, Ex.cells]
    · rw [if_neg hse] at hS
      have hse' : (s == []) = false := beq_eq_false_iff_ne.2 hse
      simp -implicitDefEqProofs [f0, f1, f6, hkl, hkl', hcs, hse, hse', -getElem?_pos, -List.getElem?_map, List.getElem?_cons_zero, List.getElem?_cons_succ]
      refine SC.rd (by simp) [.ptr 0 0, sv s] (by simp) (all := all) (l := l) (a := a) (why := w) (wh := p) (n := n') (by simp -implicitDefEqProofs [hH0]) (want_sq hm hS) (by simp [toO]) ⟨0, by simp⟩ (by simp [lentO]) ?_ (tg := .mk)
      rintro x cs - ⟨rfl, a1, w1, p1, n1, rfl, hS1⟩
      simp -implicitDefEqProofs [f0]
      refine SC.rd (by simp) [.ptr 0 0] (by simp) (all := all) (l := l) (a := a1) (why := w1) (wh := p1) (n := n1) (by simp -implicitDefEqProofs [hl0]) (expr_sq hm hX hn hS1) (by simp [toO]) ⟨0, by simp⟩ (by simp [lentO]) ?_ (tg := .mk)
      rintro x cs - ⟨e, rfl, a2, w2, p2, n2, rfl, hS2⟩
      obtain ⟨o, nm, tl, ty, num, args, pos⟩ := e
      have hS3 : Sq l all b n Q (vs ++ partsV (ws.take (k + 1)) (es ++ [.mk o nm tl ty num args pos])) (itsP (ws.drop (k + 1))) a2 w2 p2 n2 := by
        rw [hsn]; simpa [partV, hse] using hS2
      rcases hR with ⟨rfl, rfl⟩ | ⟨r, hr3, rfl, hne, hr⟩
      · simp -implicitDefEqProofs [exA, Ex.cells, wrOb, splice, f0, f1, f5, f6, evP, fillA, hw, -Int.natCast_add]
        refine ⟨g - 1, by omega, k + 1, [.mk o nm tl ty num args pos], a2, w2, p2, n2, .row (H.length + 2), by omega, by simp at hel; simp [← hel], hS3, by simp [f0], by simp [f1], by simp [f5], by simp, ?_, .inr ⟨H.length + 2, by omega, rfl, by simp, ?_⟩⟩
        · rw [List.getElem?_append_left (by simpa using hl0), List.getElem?_set_self hl0]
        · rw [List.getElem?_append_right (by simp)]; simp [exsA, Ex.cells]
      · have hrl : r < H.length := (List.getElem?_eq_some_iff.1 hr).1
        have hrX : ∀ (o : Ob) (X : List Ob), (H.set 0 o ++ X)[r]? = some (.own 36 7 es.length (exsA es)) := fun o X => by
          rw [List.getElem?_append_left (by simpa using hrl), List.getElem?_set_ne (by omega)]; exact hr
        have hb1 : (es.length + 1) * 96 ≤ 140737488355328 := by omega
        have hb2 : es.length + 1 ≤ 1073741824 := by omega
        have hb3 : es.length ≤ 1073741823 := by omega
        simp -implicitDefEqProofs [exA, Ex.cells, wrOb, splice, f0, f1, f5, f6, hrX, hb1, hb2, hb3, evP, fillA, hw, -Int.natCast_add]
        refine ⟨g - 1, by omega, k + 1, es ++ [.mk o nm tl ty num args pos], a2, w2, p2, n2, .row (H.length + 2), by omega, by simp [hel], hS3, by simp [f0], by simp [f1], by simp [f5], by simp, ?_, .inr ⟨H.length + 2, by omega, rfl, by simp, ?_⟩⟩
        · rw [List.getElem?_append_left (by simp), List.getElem?_set_ne (by omega), List.getElem?_append_left (by simpa using hl0), List.getElem?_set_self hl0]
        · rw [List.getElem?_append_right (by simp)]; simp [exsA_snoc, Ex.cells]
  · obtain rfl : k = ws.length := by omega
    have hS' := hS
    rw [List.drop_length, List.take_length, itsP] at hS'
    rcases hR with ⟨rfl, rfl⟩ | ⟨r, hr3, rfl, hne, hr⟩
    · simp -implicitDefEqProofs [f0, f1, f5, f6, finM, hH0, rdr_deep]
      exact ⟨by simp [rdr], [], by simp [exsA], by simpa using hel, a, w, p, n', rfl, hS'⟩
    · have h0r : ∀ o : Ob, (H.set r o)[0]? = some (.var (rdr all l a w p n')) := fun o => by rw [List.getElem?_set_ne (by omega)]; exact hH0
      simp -implicitDefEqProofs [f0, f1, f5, f6, finM, hr, h0r, hH0, rdr_deep]
      exact ⟨by simp [rdr], es, ⟨rfl, rfl⟩, hel, a, w, p, n', rfl, hS'⟩
def caseIts : List It := [.e, .w tOf, .w tNil, .w sArrow, .e, .w sBar, .nm, .w sColon, .nm, .w sArrow, .e]
theorem branches_ok (hm : Mks all) (hX : HX G all l b) (hn : 0 ≤ n ∧ n ≤ b + 1) {a0 : Nat} {w0 p0 n0 : Int} (hS0 : Sq l all b n Q [] caseIts a0 w0 p0 n0) (pos : Int) :
    AM2 Tryd.prog G 66 [.ptr 0 0, .ptr 1 0] (rdr all l a0 w0 p0 n0) [iv 0, sv [], sv [], iv 0, cv 0 0, .v (.slice none 0 0), iv pos] (fun x cs ds => x = .tup [] ∧ ∃ (x y z : Ex) (h t : M), ds = (Ex.mk 20 h.text t.text 0 (0, 0) [x, y, z] pos).cells ∧ ∃ (a : Nat) (w p n' : Int), cs = rdr all l a w p n' ∧ Sq l all b n Q [.e x, .u, .u, .u, .e y, .u, .nm h, .u, .nm t, .u, .e z] [] a w p n') := by
  refine AM2.go hmix F_pbranches (by simp) ⟨0, by simp⟩ ?_
  unfold caseIts at hS0
  simp -implicitDefEqProofs [c_pbranches, wrOb, splice]
  refine SC.rd (by simp) [.ptr 0 0] (by simp) (all := all) (l := l) (a := a0) (why := w0) (wh := p0) (n := n0) (by simp) (expr_sq hm hX hn hS0) (by simp [toO]) ⟨0, by simp⟩ (by simp [lentO]) ?_ (tg := .mk)
  rintro x cs - ⟨x, rfl, a1, w1, p1, n1, rfl, hS1⟩
  obtain ⟨ox, nmx, tlx, tyx, numx, argsx, posx⟩ := x
  simp -implicitDefEqProofs [exA, Ex.cells, mcells, wrOb, splice]
  refine SC.rd (by simp) [.ptr 0 0, sv tOf] (by simp) (all := all) (l := l) (a := a1) (why := w1) (wh := p1) (n := n1) (by simp) (want_sq hm hS1) (by simp [toO]) ⟨0, by simp⟩ (by simp [lentO]) ?_ (tg := .mk)
  rintro x cs - ⟨rfl, a2, w2, p2, n2, rfl, hS2⟩
  simp -implicitDefEqProofs [exA, Ex.cells, mcells, wrOb, splice]
  refine SC.rd (by simp) [.ptr 0 0, sv tNil] (by simp) (all := all) (l := l) (a := a2) (why := w2) (wh := p2) (n := n2) (by simp) (want_sq hm hS2) (by simp [toO]) ⟨0, by simp⟩ (by simp [lentO]) ?_ (tg := .mk)
  rintro x cs - ⟨rfl, a3, w3, p3, n3, rfl, hS3⟩
  simp -implicitDefEqProofs [exA, Ex.cells, mcells, wrOb, splice]
  refine SC.rd (by simp) [.ptr 0 0, sv sArrow] (by simp) (all := all) (l := l) (a := a3) (why := w3) (wh := p3) (n := n3) (by simp) (want_sq hm hS3) (by simp [toO]) ⟨0, by simp⟩ (by simp [lentO]) ?_ (tg := .mk)
  rintro x cs - ⟨rfl, a4, w4, p4, n4, rfl, hS4⟩
  simp -implicitDefEqProofs [exA, Ex.cells, mcells, wrOb, splice]
  refine SC.rd (by simp) [.ptr 0 0] (by simp) (all := all) (l := l) (a := a4) (why := w4) (wh := p4) (n := n4) (by simp) (expr_sq hm hX hn hS4) (by simp [toO]) ⟨0, by simp⟩ (by simp [lentO]) ?_ (tg := .mk)
  rintro x cs - ⟨y, rfl, a5, w5, p5, n5, rfl, hS5⟩
  obtain ⟨oy, nmy, tly, tyy, numy, argsy, posy⟩ := y
  simp -implicitDefEqProofs [exA, Ex.cells, mcells, wrOb, splice]
  refine SC.rd (by simp) [.ptr 0 0, sv sBar] (by simp) (all := all) (l := l) (a := a5) (why := w5) (wh := p5) (n := n5) (by simp) (want_sq hm hS5) (by simp [toO]) ⟨0, by simp⟩ (by simp [lentO]) ?_ (tg := .mk)
  rintro x cs - ⟨rfl, a6, w6, p6, n6, rfl, hS6⟩
  simp -implicitDefEqProofs [exA, Ex.cells, mcells, wrOb, splice]
  refine SC.rd (by simp) [.ptr 0 0] (by simp) (all := all) (l := l) (a := a6) (why := w6) (wh := p6) (n := n6) (by simp) (name_sq hm hS6) (by simp [toO]) ⟨0, by simp⟩ (by simp [lentO]) ?_ (tg := .mk)
  rintro x cs - ⟨h, rfl, a7, w7, p7, n7, rfl, hS7⟩
  simp -implicitDefEqProofs [exA, Ex.cells, mcells, wrOb, splice]
  refine SC.rd (by simp) [.ptr 0 0, sv sColon] (by simp) (all := all) (l := l) (a := a7) (why := w7) (wh := p7) (n := n7) (by simp) (want_sq hm hS7) (by simp [toO]) ⟨0, by simp⟩ (by simp [lentO]) ?_ (tg := .mk)
  rintro x cs - ⟨rfl, a8, w8, p8, n8, rfl, hS8⟩
  simp -implicitDefEqProofs [exA, Ex.cells, mcells, wrOb, splice]
  refine SC.rd (by simp) [.ptr 0 0] (by simp) (all := all) (l := l) (a := a8) (why := w8) (wh := p8) (n := n8) (by simp) (name_sq hm hS8) (by simp [toO]) ⟨0, by simp⟩ (by simp [lentO]) ?_ (tg := .mk)
  rintro x cs - ⟨t, rfl, a9, w9, p9, n9, rfl, hS9⟩
  simp -implicitDefEqProofs [exA, Ex.cells, mcells, wrOb, splice]
  refine SC.rd (by simp) [.ptr 0 0, sv sArrow] (by simp) (all := all) (l := l) (a := a9) (why := w9) (wh := p9) (n := n9) (by simp) (want_sq hm hS9) (by simp [toO]) ⟨0, by simp⟩ (by simp [lentO]) ?_ (tg := .mk)
  rintro x cs - ⟨rfl, a10, w10, p10, n10, rfl, hS10⟩
  simp -implicitDefEqProofs [exA, Ex.cells, mcells, wrOb, splice]
  refine SC.rd (by simp) [.ptr 0 0] (by simp) (all := all) (l := l) (a := a10) (why := w10) (wh := p10) (n := n10) (by simp) (expr_sq hm hX hn hS10) (by simp [toO]) ⟨0, by simp⟩ (by simp [lentO]) ?_ (tg := .mk)
  rintro x cs - ⟨z, rfl, a11, w11, p11, n11, rfl, hS11⟩
  obtain ⟨oz, nmz, tlz, tyz, numz, argsz, posz⟩ := z
  simp -implicitDefEqProofs [exA, Ex.cells, mcells, wrOb, splice, evP, fillA, finM2, finN, rdr_deep]
  refine ⟨by simp [rdr], .mk ox nmx tlx tyx numx argsx posx, .mk oy nmy tly tyy numy argsy posy, .mk oz nmz tlz tyz numz argsz posz, h, t, ?_, a11, w11, p11, n11, rfl, by simpa using hS11⟩
  simp [exsA, Ex.cells, W0]
end
end Go.Proofs.YtgddkgbidhhheaaDoor
