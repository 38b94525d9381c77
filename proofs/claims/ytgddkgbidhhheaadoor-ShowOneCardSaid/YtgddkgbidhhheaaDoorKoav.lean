/- Texts joined: Prm Prp Pgs Pgr Pgw. -/
import Derived.Test.YtgddkgbidhhheaaDoorKoar
import Derived.Test.YtgddkgbidhhheaaDoorKoau
import Derived.Test.YtgddkgbidhhheaaDoorKoas
import Derived.Test.YtgddkgbidhhheaaDoorKoak
/- The reference parser: Parse. -/
set_option linter.unusedVariables false
set_option linter.unusedSimpArgs false
set_option maxRecDepth 100000
namespace Go.Proofs.YtgddkgbidhhheaaDoor
open Go.RowKit Flo Ab Mk Pg
section
variable {G : World → Prop}
theorem resv_word : ∀ s ∈ [tTrue, tFalse, tNil, tFail, tNot, tRe, tIm, tConj], s ∈ resv := by decide
theorem wordN_resv {s : List UInt8} (h : s ∉ resv) : wordN s = 0 := by
  have key : ∀ u ∈ [tTrue, tFalse, tNil, tFail, tNot, tRe, tIm, tConj], s ≠ u := fun u hu e => h (e ▸ resv_word u hu)
  unfold wordN
  rw [if_neg (key _ (by simp)), if_neg (key _ (by simp)), if_neg (key _ (by simp)), if_neg (key _ (by simp)), if_neg (key _ (by simp)), if_neg (key _ (by simp)), if_neg (key _ (by simp)), if_neg (key _ (by simp))]
/-- the marks of a text are as the parser wants them -/
theorem Mks.scan {t : List UInt8} {ms : List M} (ht : t.length ≤ 32768) (h : scan t 0 = .ok ms) : Mks ms ∧ 0 < ms.length := by
  have hlen := scan_len _ t 0 ms (Nat.lt_succ_self _) h
  obtain ⟨ts, e, rfl, hT⟩ := scan_toks _ t 0 ms (Nat.lt_succ_self _) h
  refine ⟨⟨by omega, fun a m ha hk => ?_, fun m hm hk => ?_⟩, by simp⟩
  · rw [List.getElem?_append] at ha
    split at ha
    · rename_i hlt; simp; omega
    · rename_i hlt
      have hlt' := (List.getElem?_eq_some_iff.1 ha).1
      simp only [List.length_cons, List.length_nil] at hlt'
      have he : a - ts.length = 0 := by omega
      rw [he] at ha
      cases ha
      exact absurd rfl hk
  · rcases List.mem_append.1 hm with h1 | h1
    · obtain ⟨c, r, a, ho, _, _⟩ := hT m h1
      have := (one_kind ho).2.1
      exact wordN_resv (fun hr => by have := this.2 hr; omega)
    · rw [List.mem_singleton.1 h1] at hk; cases hk
theorem _root_.Go.Proofs.YtgddkgbidhhheaaDoor.Ab.RD.txt {w : World} {M : Nat → Prop} {n : Nat} {cs : List AV} {u : Value} {t : List UInt8} (h : RD w M (.sl n cs) u) (hn : n = t.length) (hc : cs = t.map byA) :
    ∃ p c, u = .slice p t.length c ∧ t.length ≤ c ∧ Txt w p t := by
  cases h with
  | sl0 p cap =>
    have : t = [] := by cases t with | nil => rfl | cons a b => simp at hc
    subst this
    exact ⟨p, cap, rfl, Nat.zero_le _, Txt.nil _ _⟩
  | sl b o n cap cs us hl hb hs hcell h1 hr hle =>
    subst hn; subst hc
    refine ⟨_, cap, rfl, hle, fun _ => ⟨b, o, rfl, fun j x hx => ?_⟩⟩
    have hj : (t.map byA)[j]? = some (byA x) := by rw [List.getElem?_map, hx]; rfl
    have hjl : j < us.length := by rw [hl]; exact (List.getElem?_eq_some_iff.1 hj).1
    have hu := hr j _ us[j] hj (List.getElem?_eq_getElem hjl)
    have he : us[j] = .int .u8 (x.toNat : Int) := by
      revert hu; generalize us[j] = y; intro hu; cases hu; rfl
    rw [hcell j us[j] (List.getElem?_eq_getElem hjl), he]
theorem mksA_row (ms : List M) : mksA ms = (rowM ms).map AV.v := by
  unfold mksA rowM
  induction ms with
  | nil => rfl
  | cons m ms ih => rw [List.flatMap_cons, List.flatMap_cons, List.map_append, ih]; rfl
theorem rowM_flat (ms : List M) : ∀ u ∈ rowM ms, flat u = true := by
  intro u hu
  obtain ⟨m, _, hm⟩ := List.mem_flatMap.1 hu
  simp only [cellsM, List.mem_cons, List.not_mem_nil, or_false] at hm
  rcases hm with rfl | rfl | rfl | rfl <;> rfl
theorem rd_marks {w w' : World} {L : Nat → Prop} {e : TypeId} {v : Value} {ms : List M} (hM : ∀ b, L b → b < w.heap.size) (h : w'.ownsRow w.heap.size e 4 v ms.length (rowM ms)) : RD w' L (.sl ms.length (mksA ms)) v := by
  rcases h.2 with ⟨rfl, h2⟩ | ⟨g, cap, cur, rfl, h2, h3, h4, h5, h6, h7⟩
  · obtain rfl := List.eq_nil_of_length_eq_zero h2
    exact .sl0 _ _
  · have hc := h.cells (g := g) rfl
    rw [mksA_row]
    refine .sl g 0 _ cap _ (rowM ms) (by simp) (fun hm => absurd (hM g hm) (by omega)) (Array.getElem?_eq_some_iff.1 h3).1 (fun j u hu => ?_) (fun u hu => flat_one (rowM_flat ms u hu)) (fun j y u hy hu => ?_) h4
    · have := hc j u hu
      rw [Go.WideShapes.add_plain] at this
      simpa using this
    · rw [List.getElem?_map, hu] at hy
      cases hy
      exact .v _ (rowM_flat ms u (List.mem_of_getElem? hu))
def RMarks (R : Except Nat (List M)) (x : AV) : Prop := (∃ ms, R = .ok ms ∧ x = .tup [.sl ms.length (mksA ms), iv (-1)]) ∨ ∃ a : Nat, R = .error a ∧ x = .tup [.v (.slice none 0 0), iv a]
theorem refmarks_ap (t : List UInt8) (ht : t.length ≤ 16777216) : AP Tryd.prog G 25 [.sl t.length (t.map byA)] (RMarks (scan t 0)) := by
  intro w0 w M vs hG hb hM h
  obtain ⟨u, rfl, hr⟩ := vs1 h
  obtain ⟨p, c, rfl, hc, hT⟩ := hr.txt rfl rfl
  refine (refmarks_any p c t hc ht w hT).mono ?_
  rintro e w' ⟨hR, hb'⟩
  rcases hR with ⟨ms, v, hR, rfl, hown⟩ | ⟨a, hR, rfl⟩
  · exact ⟨_, _, rfl, hb', rd_two (rd_marks hM hown) (.v _ rfl), .inl ⟨ms, hR, rfl⟩⟩
  · exact ⟨_, _, rfl, hb', rd_two (.v _ rfl) (.v _ rfl), .inr ⟨a, hR, rfl⟩⟩
def limT (L : Lim) : Int := min (max L.text 0) 32768
def ParseR (t : List UInt8) (L : Lim) (x : AV) : Prop :=
  (limT L < t.length ∧ x = .tup [.agg [.sl 0 []], .agg [iv 22, iv (limT L)]]) ∨ (t.length ≤ limT L ∧ ((∃ a : Nat, scan t 0 = .error a ∧ x = .tup [.agg [.sl 0 []], .agg [iv 20, iv a]]) ∨ ∃ ms, scan t 0 = .ok ms ∧
    ((∃ fs a, P { L with text := limT L } (.prog [] ms) (.ok [.fs fs] (ms.drop a)) ∧ x = .tup [.agg [.sl fs.length (fdsA fs)], .agg [iv 0, iv 0]]) ∨ ∃ w p, w ≠ 0 ∧ P { L with text := limT L } (.prog [] ms) (.bad w p) ∧ x = .tup [.agg [.sl 0 []], .agg [iv w, iv p]])))
theorem pparse_ap (t : List UInt8) (L : Lim) : AP Tryd.prog G 13 [.sl t.length (t.map byA), .agg [iv L.text, iv L.funcs, iv L.arity, iv L.nest]] (ParseR t L) := by
  have hl : ∀ (i1 i2 : Decidable (L.text < 0)) (i3 : Decidable ((32768 : Int) < @ite Int (L.text < 0) i1 0 L.text)), @ite Int ((32768 : Int) < @ite Int (L.text < 0) i1 0 L.text) i3 32768 (@ite Int (L.text < 0) i2 0 L.text) = limT L := by
    intro i1 i2 i3
    unfold limT
    split <;> split <;> omega
  have hl2 : 0 ≤ limT L ∧ limT L ≤ 32768 := by unfold limT; omega
  refine AP.go hmix F_pParse (by simp) ?_
  simp -implicitDefEqProofs [c_pParse, wrOb, splice, evL, mmF, hl]
  by_cases hbig : limT L < t.length
  · simp -implicitDefEqProofs [hbig, wrOb, splice, evP, fillA, farP, sLdd]
    exact .inl ⟨hbig, rfl⟩
  · have hsm : (t.length : Int) ≤ limT L := by omega
    have hsm' : ¬ limT L < t.length := hbig
    simp -implicitDefEqProofs [hbig]
    refine SC.frz (by simp) [.sl t.length (t.map byA)] (by simp) (post := RMarks (scan t 0)) (by simpa using refmarks_ap t (by omega)) (by simp) ?_ (a := .mk)
    rintro x (⟨ms, hms, rfl⟩ | ⟨a, hms, rfl⟩)
    · obtain ⟨hm, hpos⟩ := Mks.scan (by omega) hms
      simp -implicitDefEqProofs [wrOb, splice, evP, fillA]
      have hprog := prog_ok (G := G) (l := { L with text := limT L }) hm hpos
      refine SC.lent (by simp) [.ptr 3 0] (by simp) 3 (rdr ms { L with text := limT L } 0 0 0 0) (by simp [rdr]) (rdr_deep _ _ _ _ _ _) (by simpa [toO] using hprog) ⟨0, by simp⟩ (by simp [lentO]) ?_ (a := .mk)
      rintro x cs - (⟨fs, a, hP, rfl, rfl⟩ | ⟨w, p, fs, a, n', hP, hw, rfl, rfl⟩)
      · simp -implicitDefEqProofs [rdr, wrOb, splice, evP, fillA, farP, sLdd]
        exact .inr ⟨hsm, .inr ⟨ms, hms, .inl ⟨fs, a, hP, rfl⟩⟩⟩
      · simp -implicitDefEqProofs [rdr, hw, wrOb, splice, evP, fillA, farP, sLdd]
        exact .inr ⟨hsm, .inr ⟨ms, hms, .inr ⟨w, p, hw, hP, rfl⟩⟩⟩
    · have ha : (0 : Int) ≤ a := by omega
      simp -implicitDefEqProofs [wrOb, splice, evP, fillA, ha]
      exact .inr ⟨hsm, .inl ⟨a, hms, rfl⟩⟩
end
end Go.Proofs.YtgddkgbidhhheaaDoor
/- The reference's Same: programs. -/
set_option linter.unusedVariables false
set_option linter.unusedSimpArgs false
set_option maxRecDepth 100000
namespace Go.Proofs.YtgddkgbidhhheaaDoor
open Go.RowKit Flo Ab Mk Pg
def sameFs (pl : Bool) : List Pg.Fd → List Pg.Fd → Bool
  | x :: r, y :: r' => sameF pl x y && sameFs pl r r'
  | _, _ => true
def sameG (pl : Bool) (a b : List Pg.Fd) : Bool := decide (a.length = b.length) && sameFs pl a b
theorem fdsA_at : ∀ {ps : List Pg.Fd} {k : Nat} {p : Pg.Fd}, ps[k]? = some p → ((fdsA ps).drop (k * 11)).take 11 = fdA p
  | [], k, v, h => by simp at h
  | u :: vs, 0, v, h => by cases h; rw [show fdsA (u :: vs) = fdA u ++ fdsA vs from rfl, Nat.zero_mul, List.drop_zero, List.take_left' (fdA_len _)]
  | u :: vs, k + 1, v, h => by
    have := fdsA_at (ps := vs) (k := k) (p := v) (by simpa using h)
    rw [show fdsA (u :: vs) = fdA u ++ fdsA vs from rfl, show (k + 1) * 11 = (fdA u).length + k * 11 by rw [fdA_len]; omega, ← List.drop_drop, List.drop_left]
    exact this
theorem sameFs_drop (pl : Bool) {us vs : List Pg.Fd} {k : Nat} {e e' : Pg.Fd} (h : us[k]? = some e) (h' : vs[k]? = some e') : sameFs pl (us.drop k) (vs.drop k) = (sameF pl e e' && sameFs pl (us.drop (k + 1)) (vs.drop (k + 1))) := by
  obtain ⟨h1, rfl⟩ := List.getElem?_eq_some_iff.1 h
  obtain ⟨h2, rfl⟩ := List.getElem?_eq_some_iff.1 h'
  rw [List.drop_eq_getElem_cons h1, List.drop_eq_getElem_cons h2, sameFs]
theorem fdA_deep (f : Pg.Fd) : (fdA f).all deep1 = true := by obtain ⟨n, us, ty, ⟨o, nm, tl, t2, num, as1, p2⟩, p⟩ := f; rfl
/-- sizes within which Same is known to work -/
structure Small (fs : List Pg.Fd) : Prop where
  len : fs.length ≤ 1000000
  par : ∀ f ∈ fs, f.params.length ≤ 1000000
  cnt : ∀ f ∈ fs, cntX f.body ≤ 1000000
section
variable {G : World → Prop}
def SgI (pl : Bool) (us vs : List Pg.Fd) (g : Nat) (F : Fr) (H : List Ob) : Prop :=
  ∃ k : Nat, k + g = us.length ∧ F 2 = some (bv pl) ∧ F 3 = some (.ptr 0 0) ∧ F 4 = some (.ptr 1 0) ∧ F 7 = some (iv k) ∧ H[0]? = some (.var [.sl us.length (fdsA us)]) ∧ H[1]? = some (.var [.sl vs.length (fdsA vs)]) ∧ sameFs pl us vs = sameFs pl (us.drop k) (vs.drop k)
theorem psame_ap (pl : Bool) (us vs : List Pg.Fd) (hs : Small us) : AP Tryd.prog G 12 [.agg [.sl us.length (fdsA us)], .agg [.sl vs.length (fdsA vs)], bv pl] (fun x => x = bv (sameG pl us vs)) := by
  have hul := hs.len
  refine AP.go hmix F_psame (by simp) ?_
  by_cases h6 : us.length = vs.length
  · have h6' : (us.length : Int) = vs.length := by omega
    have hRR : sameG pl us vs = sameFs pl us vs := by unfold sameG; rw [decide_eq_true h6, Bool.true_and]
    simp -implicitDefEqProofs [c_psame, eq_true h6, eq_true h6', hRR]
    refine LP.go (SgI pl us vs) us.length ⟨0, by omega, by simp, by simp, by simp, by simp, by simp, by simp, rfl⟩ ?_
    unfold c_psame_L0
    rintro g F H ⟨k, hk, f2, f3, f4, f7, hH0, hH1, he⟩
    by_cases hkl : (k : Int) < us.length
    · have hkl' : k < us.length := by omega
      obtain ⟨e, hu⟩ : ∃ e, us[k]? = some e := ⟨_, List.getElem?_eq_getElem hkl'⟩
      obtain ⟨e', hv⟩ : ∃ e, vs[k]? = some e := ⟨_, List.getElem?_eq_getElem (by omega)⟩
      have hcu := fdsA_at hu
      have hcv := fdsA_at hv
      have hw : IntKind.i64.wrap ((k : Int) + 1) = ((k + 1 : Nat) : Int) := by rw [wrap64 _ (by omega)]; omega
      have hz1 : k * 11 + 11 ≤ (fdsA us).length := by rw [fdsA_len]; omega
      have hz2 : k * 11 + 11 ≤ (fdsA vs).length := by rw [fdsA_len]; omega
      have hkv : k < vs.length := by omega
      rw [sameFs_drop _ hu hv] at he
      have hih := psamef_ap (G := G) pl e e' (hs.cnt e (List.mem_of_getElem? hu)) (hs.par e (List.mem_of_getElem? hu))
      simp -implicitDefEqProofs [f2, f3, f4, f7, hH0, hH1, hkl, hcu, hcv, hz1, hz2, hkv]
      refine DC.go [.agg (fdA e), .agg (fdA e'), bv pl] (bv (sameF pl e e')) (by simp) (by simpa using hih) (by simp [fdA_deep]) (by simp) ?_ (a := .mk)
      cases hq : sameF pl e e'
      · have he2 : sameFs pl us vs = false := by rw [he, hq]; rfl
        simp -implicitDefEqProofs [he2]
      · rw [hq, Bool.true_and] at he
        simp -implicitDefEqProofs [f7, hw, -Int.natCast_add]
        exact ⟨g - 1, by omega, k + 1, by omega, by simp [f2], by simp [f3], by simp [f4], by simp, hH0, hH1, he⟩
    · obtain rfl : k = us.length := by omega
      rw [List.drop_length] at he
      have he2 : sameFs pl us vs = true := by rw [he]; simp [sameFs]
      simp -implicitDefEqProofs [f2, f3, f4, f7, hH0, hH1, hkl, he2]
  · have h6' : ¬ (us.length : Int) = vs.length := by omega
    have hRR : sameG pl us vs = false := by unfold sameG; rw [decide_eq_false h6]; rfl
    simp -implicitDefEqProofs [c_psame, h6, h6', hRR]
end
end Go.Proofs.YtgddkgbidhhheaaDoor
/- The grammar of layer 4: what is read is no greater than what it is read from. No program in sight. -/
set_option linter.unusedVariables false
set_option linter.unusedSimpArgs false
namespace Go.Proofs.YtgddkgbidhhheaaDoor
namespace Pg
open Mk
def wF (f : Pg.Fd) : Nat := 1 + f.params.length + cntX f.body
def wV : Vl → Nat
  | .u => 1
  | .e x => cntX x
  | .nm _ => 1
  | .ty _ => 1
  | .asx xs => cntXs xs
  | .ps ps => ps.length
  | .fs fs => (fs.map wF).sum
def wVs (vs : List Vl) : Nat := (vs.map wV).sum
def szJ : Job → Nat
  | .seq _ _ ms => ms.length
  | .expr _ ms => ms.length
  | .row _ _ ms => ms.length
  | .tail _ _ e ms => cntX e + ms.length
  | .unit _ ms => ms.length
  | .args _ us ms => cntXs us + ms.length
  | .pars ps ms => ps.length + ms.length
  | .prog fs ms => (fs.map wF).sum + ms.length
theorem cons_ok {v : Vl} {r : Res} {vs : List Vl} {ms : List M} (h : r.cons v = .ok vs ms) : ∃ us, vs = v :: us ∧ r = .ok us ms := by
  cases r with
  | ok us ms' => cases h; exact ⟨us, rfl, rfl⟩
  | bad w p => cases h
theorem map_ok {f : List Vl → List Vl} {r : Res} {vs : List Vl} {ms : List M} (h : r.map f = .ok vs ms) : ∃ us, vs = f us ∧ r = .ok us ms := by
  cases r with
  | ok us ms' => cases h; exact ⟨us, rfl, rfl⟩
  | bad w p => cases h
theorem wVs_cons (v : Vl) (vs : List Vl) : wVs (v :: vs) = wV v + wVs vs := by simp [wVs]
theorem wVs_nil : wVs [] = 0 := rfl
theorem cntXs_snoc (us : List Ex) (e : Ex) : cntXs (us ++ [e]) = cntXs us + cntX e := by
  induction us with
  | nil => simp [cntXs]
  | cons u r ih => rw [List.cons_append, cntXs, ih, cntXs]; omega
theorem bind_w (m : M) (vs : List Vl) : wVs (bindEx m vs) ≤ 1 + wVs vs := by
  unfold bindEx
  split <;> simp only [wVs_cons, wVs_nil, wV, cntX, cntXs] <;> omega
theorem if_w (m : M) (vs : List Vl) : wVs (ifEx m vs) ≤ 1 + wVs vs := by
  unfold ifEx
  split <;> simp only [wVs_cons, wVs_nil, wV, cntX, cntXs] <;> omega
theorem call_w (m : M) (vs : List Vl) : wVs (callEx m vs) ≤ 1 + wVs vs := by
  unfold callEx
  split <;> simp only [wVs_cons, wVs_nil, wV, cntX, cntXs] <;> omega
theorem par_w (vs : List Vl) : wVs (parEx vs) ≤ 1 + wVs vs := by
  unfold parEx
  split <;> simp only [wVs_cons, wVs_nil, wV, cntX, cntXs] <;> omega
theorem fail_w (m : M) (vs : List Vl) : wVs (failEx m vs) ≤ 1 + wVs vs := by
  unfold failEx
  split <;> simp only [wVs_cons, wVs_nil, wV, cntX, cntXs] <;> omega
theorem one_w (op : Int) (m : M) (vs : List Vl) : wVs (oneEx op m vs) ≤ 1 + wVs vs := by
  unfold oneEx
  split <;> simp only [wVs_cons, wVs_nil, wV, cntX, cntXs] <;> omega
theorem def_w {vs : List Vl} {f : Pg.Fd} (h : defEx vs = some f) : wF f ≤ wVs vs := by
  unfold defEx at h
  split at h
  · cases h
    simp only [wVs_cons, wVs_nil, wV, wF]; omega
  · cases h
theorem size_le {l : Lim} {j : Job} {r : Res} (h : P l j r) : ∀ {vs : List Vl} {ms' : List M}, r = .ok vs ms' → wVs vs + ms'.length ≤ szJ j := by
  induction h with
  | nil n ms => intro vs ms' e; cases e; simp [wVs, szJ]
  | w h hr ih => intro vs ms' e; obtain ⟨us, rfl, eq⟩ := cons_ok e; have := ih eq; simp only [szJ, wVs_cons, wV, List.length_cons] at *; omega
  | nm h hr ih => intro vs ms' e; obtain ⟨us, rfl, eq⟩ := cons_ok e; have := ih eq; simp only [szJ, wVs_cons, wV, List.length_cons] at *; omega
  | cn h hk hr ih => intro vs ms' e; obtain ⟨us, rfl, eq⟩ := cons_ok e; have := ih eq; simp only [szJ, wVs_cons, wV, List.length_cons] at *; omega
  | ty h hr ih => intro vs ms' e; obtain ⟨us, rfl, eq⟩ := cons_ok e; have := ih eq; simp only [szJ, wVs_cons, wV, List.length_cons] at *; omega
  | e h hr ih1 ih2 => intro vs ms' e; obtain ⟨us, rfl, eq⟩ := cons_ok e; have h1 := ih1 rfl; have h2 := ih2 eq; simp only [szJ, wVs_cons, wVs_nil, wV] at *; omega
  | ps h hr ih1 ih2 => intro vs ms' e; obtain ⟨us, rfl, eq⟩ := cons_ok e; have h1 := ih1 rfl; have h2 := ih2 eq; simp only [szJ, wVs_cons, wVs_nil, wV, List.length_nil] at *; omega
  | bind h hn hr ih => intro vs ms' e; obtain ⟨us, rfl, eq⟩ := map_ok e; have h1 := ih eq; simp only [szJ, List.length_cons] at *; exact Nat.le_trans (Nat.add_le_add_right (bind_w _ us) _) (by omega)
  | cond h hr ih => intro vs ms' e; obtain ⟨us, rfl, eq⟩ := map_ok e; have h1 := ih eq; simp only [szJ, List.length_cons] at *; exact Nat.le_trans (Nat.add_le_add_right (if_w _ us) _) (by omega)
  | expr h h' hr ih => intro vs ms' e; exact ih e
  | row4 hr ih => intro vs ms' e; exact ih e
  | row h h1 hr ih1 ih2 => intro vs ms' e; have h1 := ih1 rfl; have h2 := ih2 e; simp only [szJ, wVs_cons, wVs_nil, wV] at *; omega
  | stop n e ms h => intro vs ms' e; cases e; simp [szJ, wVs_cons, wVs_nil, wV]
  | tail1 h hl hr ih => intro vs ms' e; cases e; have h1 := ih rfl; simp only [szJ, wVs_cons, wVs_nil, wV, two, cntX, cntXs, List.length_cons] at *; omega
  | tail2 h hl h1 hr ih1 ih2 => intro vs ms' e; have h1 := ih1 rfl; have h2 := ih2 e; simp only [szJ, wVs_cons, wVs_nil, wV, two, cntX, cntXs, List.length_cons] at *; omega
  | num n ms h => intro vs ms' e; cases e; simp only [szJ, wVs_cons, wVs_nil, wV, cntX, cntXs, List.length_cons]; omega
  | var n ms h hk => intro vs ms' e; cases e; simp only [szJ, wVs_cons, wVs_nil, wV, cntX, cntXs, List.length_cons]; omega
  | call h hk hr ih => intro vs ms' e; obtain ⟨us, rfl, eq⟩ := map_ok e; have h1 := ih eq; simp only [szJ, List.length_cons, cntXs] at *; exact Nat.le_trans (Nat.add_le_add_right (call_w _ us) _) (by omega)
  | par h hr ih => intro vs ms' e; obtain ⟨us, rfl, eq⟩ := map_ok e; have h1 := ih eq; simp only [szJ, List.length_cons] at *; exact Nat.le_trans (Nat.add_le_add_right (par_w us) _) (by omega)
  | word0 n ms h => intro vs ms' e; cases e; simp only [szJ, wVs_cons, wVs_nil, wV, cntX, cntXs, List.length_cons]; omega
  | fail h hr ih => intro vs ms' e; obtain ⟨us, rfl, eq⟩ := map_ok e; have h1 := ih eq; simp only [szJ, List.length_cons] at *; exact Nat.le_trans (Nat.add_le_add_right (fail_w _ us) _) (by omega)
  | word1 h hr ih => intro vs ms' e; obtain ⟨us, rfl, eq⟩ := map_ok e; have h1 := ih eq; simp only [szJ, List.length_cons] at *; exact Nat.le_trans (Nat.add_le_add_right (one_w _ _ us) _) (by omega)
  | aStop n us ms h => intro vs ms' e; cases e; simp only [szJ, wVs_cons, wVs_nil, wV, List.length_cons]; omega
  | aNext0 h h1 hr ih1 ih2 => intro vs ms' e; have h1 := ih1 rfl; have h2 := ih2 e; simp only [szJ, wVs_cons, wVs_nil, wV, cntXs, List.length_cons] at *; omega
  | aNext ha hc h1 hr ih1 ih2 => intro vs ms' e; have h1 := ih1 rfl; have h2 := ih2 e; simp only [szJ, wVs_cons, wVs_nil, wV, cntXs_snoc, List.length_cons] at *; omega
  | pStop ps ms h => intro vs ms' e; cases e; simp only [szJ, wVs_cons, wVs_nil, wV, List.length_cons]; omega
  | pNext0 h h1 hr ih1 ih2 => intro vs ms' e; have h1 := ih1 rfl; have h2 := ih2 e; simp only [szJ, wVs_cons, wVs_nil, wV, List.length_cons, List.length_nil] at *; omega
  | pNext ha hc h1 hr ih1 ih2 => intro vs ms' e; have h1 := ih1 rfl; have h2 := ih2 e; simp only [szJ, wVs_cons, wVs_nil, wV, List.length_cons, List.length_append, List.length_nil] at *; omega
  | progEnd ms h hf => intro vs ms' e; cases e; simp only [szJ, wVs_cons, wVs_nil, wV, List.length_cons]; omega
  | prog h h1 hd hr ih1 ih2 => intro vs ms' e; have h1 := ih1 rfl; have h2 := ih2 e; have h3 := def_w hd; simp only [szJ, List.length_cons, List.map_append, List.map_cons, List.map_nil, List.sum_append, List.sum_cons, List.sum_nil] at *; omega
  | _ => intro vs ms' e; cases e
end Pg
open Pg Mk
theorem sum_mem : ∀ {fs : List Pg.Fd} {f : Pg.Fd}, f ∈ fs → wF f ≤ (fs.map wF).sum
  | u :: r, f, h => by
    rw [List.map_cons, List.sum_cons]
    rcases List.mem_cons.1 h with rfl | h
    · omega
    · have := sum_mem h; omega
theorem sum_len : ∀ fs : List Pg.Fd, fs.length ≤ (fs.map wF).sum
  | [] => Nat.zero_le _
  | f :: r => by
    have := sum_len r
    have h2 : 1 ≤ wF f := by unfold wF; omega
    rw [List.map_cons, List.sum_cons, List.length_cons]; omega
theorem small_of {l : Lim} {ms rest : List M} {fs : List Pg.Fd} (h : P l (.prog [] ms) (.ok [.fs fs] rest)) (hl : ms.length ≤ 1000000) : Small fs := by
  have h1 := size_le h rfl
  simp only [szJ, wVs_cons, wVs_nil, wV, List.map_nil, List.sum_nil] at h1
  have h2 := sum_len fs
  refine ⟨by omega, fun f hf => ?_, fun f hf => ?_⟩
  · have := sum_mem hf; have h3 : f.params.length ≤ wF f := (by unfold wF; omega); omega
  · have := sum_mem hf; have h3 : cntX f.body ≤ wF f := (by unfold wF; omega); omega
end Go.Proofs.YtgddkgbidhhheaaDoor
/- The grammar of layer 4, run: for texts that are fixed. No program in sight. -/
set_option linter.unusedVariables false
set_option linter.unusedSimpArgs false
namespace Go.Proofs.YtgddkgbidhhheaaDoor
namespace Pg
open Mk
def runP (l : Lim) : Nat → Job → Option Res
  | 0, _ => none
  | k + 1, .seq n [] ms => some (.ok [] ms)
  | k + 1, .seq n (.w s :: is) (m :: ms) => bif isW m s then (runP l k (.seq n is ms)).map (Res.cons .u) else some (.bad 21 m.pos)
  | k + 1, .seq n (.nm :: is) (m :: ms) => if m.kind = 0 then (runP l k (.seq n is ms)).map (Res.cons (.nm m)) else some (.bad 21 m.pos)
  | k + 1, .seq n (.cn c most :: is) (m :: ms) => if m.kind = 0 then (if c < most then (runP l k (.seq n is ms)).map (Res.cons (.nm m)) else some (.bad 22 m.pos)) else some (.bad 21 m.pos)
  | k + 1, .seq n (.ty :: is) (m :: ms) => match typOf m with
    | some t => (runP l k (.seq n is ms)).map (Res.cons (.ty t))
    | none => some (.bad 21 m.pos)
  | k + 1, .seq n (.e :: is) ms => match runP l k (.expr n ms) with
    | some (.ok [.e x] ms') => (runP l k (.seq n is ms')).map (Res.cons (.e x))
    | some (.bad w p) => some (.bad w p)
    | _ => none
  | k + 1, .seq n (.ps :: is) ms => match runP l k (.pars [] ms) with
    | some (.ok [.ps x] ms') => (runP l k (.seq n is ms')).map (Res.cons (.ps x))
    | some (.bad w p) => some (.bad w p)
    | _ => none
  | k + 1, .expr n (m :: ms) => match isB m with
    | true => if l.nest ≤ n then some (.bad 23 m.pos) else (runP l k (.seq (n + 1) (bindIts m) ms)).map (Res.map (bindEx m))
    | false => match isW m tIf with
      | true => (runP l k (.seq n ifIts ms)).map (Res.map (ifEx m))
      | false => runP l k (.row n 0 (m :: ms))
  | k + 1, .row n lv ms => if lv = 4 then runP l k (.unit n ms) else if lv < 4 then (match runP l k (.row n (lv + 1) ms) with
    | some (.ok [.e e] ms') => runP l k (.tail n lv e ms')
    | some (.bad w p) => some (.bad w p)
    | _ => none) else none
  | k + 1, .tail n lv e (m :: ms) => match strOf m with
    | some (lv', op) => if lv' = lv then (match runP l k (.row n (right lv) ms) with
      | some (.ok [.e b] ms') => if lv < 2 then some (.ok [.e (two op e b m.pos)] ms') else runP l k (.tail n lv (two op e b m.pos) ms')
      | some (.bad w p) => some (.bad w p)
      | _ => none) else some (.ok [.e e] (m :: ms))
    | none => some (.ok [.e e] (m :: ms))
  | k + 1, .unit n (m :: ms) => if m.kind = 2 then some (.ok [.e (.mk 1 [] [] 0 m.num [] m.pos)] ms) else if m.kind = 0 then (match ms with
      | j :: ms' => (match isW j sOpen with
        | true => (runP l k (.args n [] ms')).map (Res.map (callEx m))
        | false => some (.ok [.e (.mk 6 m.text [] 0 (0, 0) [] m.pos)] (j :: ms')))
      | [] => none)
    else match isW m sOpen with
      | true => (runP l k (.seq n [.e, .w sClose] ms)).map (Res.map parEx)
      | false => match word0 m with
        | some op => some (.ok [.e (.mk op [] [] 0 (0, 0) [] m.pos)] ms)
        | none => match isW m tFail with
          | true => (runP l k (.seq n [.ty] ms)).map (Res.map (failEx m))
          | false => match word1 m with
            | some op => (runP l k (.seq n [.w sOpen, .e, .w sClose] ms)).map (Res.map (oneEx op m))
            | none => some (.bad 21 m.pos)
  | k + 1, .args n us (m :: ms) => match isW m sClose with
    | true => some (.ok [.asx us] ms)
    | false => match us with
      | [] => (match runP l k (.expr n (m :: ms)) with
        | some (.ok [.e x] ms') => runP l k (.args n [x] ms')
        | some (.bad w p) => some (.bad w p)
        | _ => none)
      | u :: r => match isW m sComma with
        | true => (match runP l k (.expr n ms) with
          | some (.ok [.e x] ms') => runP l k (.args n (u :: r ++ [x]) ms')
          | some (.bad w p) => some (.bad w p)
          | _ => none)
        | false => some (.bad 21 m.pos)
  | k + 1, .pars ps (m :: ms) => match isW m sClose with
    | true => some (.ok [.ps ps] ms)
    | false => match ps with
      | [] => (match runP l k (.seq 0 [.cn 0 l.arity, .ty] (m :: ms)) with
        | some (.ok [.nm x, .ty t] ms') => runP l k (.pars [⟨x.text, t, x.pos⟩] ms')
        | some (.bad w p) => some (.bad w p)
        | _ => none)
      | u :: r => match isW m sComma with
        | true => (match runP l k (.seq 0 [.cn (u :: r).length l.arity, .ty] ms) with
          | some (.ok [.nm x, .ty t] ms') => runP l k (.pars (u :: r ++ [⟨x.text, t, x.pos⟩]) ms')
          | some (.bad w p) => some (.bad w p)
          | _ => none)
        | false => some (.bad 21 m.pos)
  | k + 1, .prog fs (m :: ms) => if m.kind = 4 ∧ fs ≠ [] then some (.ok [.fs fs] (m :: ms)) else match runP l k (.seq 0 (defIts l fs.length) (m :: ms)) with
    | some (.ok vs ms') => (match defEx vs with
      | some f => runP l k (.prog (fs ++ [f]) ms')
      | none => none)
    | some (.bad w p) => some (.bad w p)
    | none => none
  | k + 1, _ => none
theorem run_P {l : Lim} : ∀ (k : Nat) (j : Job) (r : Res), runP l k j = some r → P l j r := by
  intro k
  induction k with
  | zero => intro j r h; cases h
  | succ k ih =>
    intro j r h
    cases j with
    | seq n its ms =>
      cases its with
      | nil => cases h; exact .nil _ _
      | cons i is =>
        cases i with
        | w s =>
          cases ms with
          | nil => cases h
          | cons m ms =>
            simp only [runP] at h
            cases hw : isW m s
            · rw [hw] at h; cases h; exact .wBad _ _ _ hw
            · rw [hw, cond_true, Option.map_eq_some_iff] at h
              obtain ⟨q, h1, rfl⟩ := h
              exact .w hw (ih _ _ h1)
        | nm =>
          cases ms with
          | nil => cases h
          | cons m ms =>
            simp only [runP] at h
            split at h
            · rename_i hk
              rw [Option.map_eq_some_iff] at h
              obtain ⟨q, h1, rfl⟩ := h
              exact .nm hk (ih _ _ h1)
            · rename_i hk; cases h; exact .nmBad _ _ _ hk
        | cn c most =>
          cases ms with
          | nil => cases h
          | cons m ms =>
            simp only [runP] at h
            split at h
            · rename_i hk
              split at h
              · rename_i hc
                rw [Option.map_eq_some_iff] at h
                obtain ⟨q, h1, rfl⟩ := h
                exact .cn hk hc (ih _ _ h1)
              · rename_i hc; cases h; exact .cnBig _ _ _ hk (by omega)
            · rename_i hk; cases h; exact .cnBad _ _ _ _ _ hk
        | ty =>
          cases ms with
          | nil => cases h
          | cons m ms =>
            simp only [runP] at h
            split at h
            · rename_i t ht
              rw [Option.map_eq_some_iff] at h
              obtain ⟨q, h1, rfl⟩ := h
              exact .ty ht (ih _ _ h1)
            · rename_i ht; cases h; exact .tyBad _ _ _ ht
        | e =>
          simp only [runP] at h
          split at h
          · rename_i x ms' hx
            rw [Option.map_eq_some_iff] at h
            obtain ⟨q, h1, rfl⟩ := h
            exact .e (ih _ _ hx) (ih _ _ h1)
          · rename_i w p hx; cases h; exact .eBad _ (ih _ _ hx)
          · cases h
        | ps =>
          simp only [runP] at h
          split at h
          · rename_i x ms' hx
            rw [Option.map_eq_some_iff] at h
            obtain ⟨q, h1, rfl⟩ := h
            exact .ps (ih _ _ hx) (ih _ _ h1)
          · rename_i w p hx; cases h; exact .psBad _ (ih _ _ hx)
          · cases h
    | expr n ms =>
      cases ms with
      | nil => cases h
      | cons m ms =>
        simp only [runP] at h
        split at h
        · rename_i hb
          split at h
          · rename_i hn; cases h; exact .deep _ hb hn
          · rename_i hn
            rw [Option.map_eq_some_iff] at h
            obtain ⟨q, h1, rfl⟩ := h
            exact .bind hb (by omega) (ih _ _ h1)
        · rename_i hb
          split at h
          · rename_i hi
            rw [Option.map_eq_some_iff] at h
            obtain ⟨q, h1, rfl⟩ := h
            exact .cond hi (ih _ _ h1)
          · rename_i hi; exact .expr hb hi (ih _ _ h)
    | row n lv ms =>
      simp only [runP] at h
      split at h
      · rename_i hl; subst hl; exact .row4 (ih _ _ h)
      · split at h
        · rename_i hl
          split at h
          · rename_i e ms' hx; exact .row hl (ih _ _ hx) (ih _ _ h)
          · rename_i w p hx; cases h; exact .rowBad hl (ih _ _ hx)
          · cases h
        · cases h
    | tail n lv e ms =>
      cases ms with
      | nil => cases h
      | cons m ms =>
        simp only [runP] at h
        split at h
        · rename_i lv' op hs
          split at h
          · rename_i hl
            subst hl
            split at h
            · rename_i b ms' hx
              split at h
              · rename_i h2; cases h; exact .tail1 hs h2 (ih _ _ hx)
              · rename_i h2; exact .tail2 hs (by omega) (ih _ _ hx) (ih _ _ h)
            · rename_i w p hx; cases h; exact .tailBad _ hs (ih _ _ hx)
            · cases h
          · rename_i hl; cases h; exact .stop _ _ _ (by rw [hs]; simpa using hl)
        · rename_i hs; cases h; exact .stop _ _ _ (by rw [hs]; simp)
    | unit n ms =>
      cases ms with
      | nil => cases h
      | cons m ms =>
        simp only [runP] at h
        split at h
        · rename_i h2; cases h; exact .num _ _ h2
        · rename_i h2
          split at h
          · rename_i h0
            split at h
            · split at h
              · rename_i hj
                rw [Option.map_eq_some_iff] at h
                obtain ⟨q, h1, rfl⟩ := h
                exact .call h0 hj (ih _ _ h1)
              · rename_i hj; cases h; exact .var _ _ h0 hj
            · cases h
          · rename_i h0
            split at h
            · rename_i ho
              rw [Option.map_eq_some_iff] at h
              obtain ⟨q, h1, rfl⟩ := h
              exact .par ho (ih _ _ h1)
            · rename_i ho
              split at h
              · rename_i op hw; cases h; exact .word0 _ _ hw
              · rename_i hw
                split at h
                · rename_i hf
                  rw [Option.map_eq_some_iff] at h
                  obtain ⟨q, h1, rfl⟩ := h
                  exact .fail hf (ih _ _ h1)
                · rename_i hf
                  split at h
                  · rename_i op hw1
                    rw [Option.map_eq_some_iff] at h
                    obtain ⟨q, h1, rfl⟩ := h
                    exact .word1 hw1 (ih _ _ h1)
                  · rename_i hw1; cases h; exact .unitBad _ _ h2 h0 ho hw hf hw1
    | args n us ms =>
      cases ms with
      | nil => cases h
      | cons m ms =>
        simp only [runP] at h
        split at h
        · rename_i hc; cases h; exact .aStop _ _ _ hc
        · rename_i hc
          split at h
          · split at h
            · rename_i x ms' hx; exact .aNext0 hc (ih _ _ hx) (ih _ _ h)
            · rename_i w p hx; cases h; exact .aBad0 hc (ih _ _ hx)
            · cases h
          · split at h
            · rename_i hk
              split at h
              · rename_i x ms' hx; exact .aNext (by simp) hk (ih _ _ hx) (ih _ _ h)
              · rename_i w p hx; cases h; exact .aBad (by simp) hk (ih _ _ hx)
              · cases h
            · rename_i hk; cases h; exact .aSep _ _ hc (by simp) hk
    | pars ps ms =>
      cases ms with
      | nil => cases h
      | cons m ms =>
        simp only [runP] at h
        split at h
        · rename_i hc; cases h; exact .pStop _ _ hc
        · rename_i hc
          split at h
          · split at h
            · rename_i x t ms' hx; exact .pNext0 hc (ih _ _ hx) (ih _ _ h)
            · rename_i w p hx; cases h; exact .pBad0 hc (ih _ _ hx)
            · cases h
          · split at h
            · rename_i hk
              split at h
              · rename_i x t ms' hx; exact .pNext (by simp) hk (ih _ _ hx) (ih _ _ h)
              · rename_i w p hx; cases h; exact .pBad (by simp) hk (ih _ _ hx)
              · cases h
            · rename_i hk; cases h; exact .pSep _ hc (by simp) hk
    | prog fs ms =>
      cases ms with
      | nil => cases h
      | cons m ms =>
        simp only [runP] at h
        split at h
        · rename_i hk; cases h; exact .progEnd _ hk.1 hk.2
        · rename_i hk
          have hk' : m.kind ≠ 4 ∨ fs = [] := by
            by_cases h4 : m.kind = 4
            · refine .inr ?_
              cases hf : fs with
              | nil => rfl
              | cons a b => exact absurd ⟨h4, by rw [hf]; simp⟩ hk
            · exact .inl h4
          split at h
          · rename_i vs ms' hx
            split at h
            · rename_i f hf; exact .prog hk' (ih _ _ hx) hf (ih _ _ h)
            · cases h
          · rename_i w p hx; cases h; exact .progBad hk' (ih _ _ hx)
          · cases h
end Pg
end Go.Proofs.YtgddkgbidhhheaaDoor
/- The reference's widest limits, and what read gives. -/
set_option linter.unusedVariables false
set_option linter.unusedSimpArgs false
set_option maxRecDepth 100000
namespace Go.Proofs.YtgddkgbidhhheaaDoor
open Go.RowKit Flo Ab Mk Pg
section
variable {G : World → Prop}
def wideL : Lim := ⟨32768, 32768, 32768, 32768⟩
theorem pwide_ap : AP Tryd.prog G 14 [] (fun x => x = .agg [iv wideL.text, iv wideL.funcs, iv wideL.arity, iv wideL.nest]) := by
  refine AP.go hmix F_pwide (by simp) ?_
  simp -implicitDefEqProofs [c_pwide, wideL, evP, fillA, wrOb, splice]
/-- a text is read as a program, or as none -/
def readL (t : List UInt8) (o : Option (List Pg.Fd)) : Prop :=
  match o with
  | some fs => t.length ≤ 32768 ∧ ∃ ms rest, scan t 0 = .ok ms ∧ P wideL (.prog [] ms) (.ok [.fs fs] rest)
  | none => 32768 < t.length ∨ (∃ a, scan t 0 = .error a) ∨ ∃ ms w p, scan t 0 = .ok ms ∧ P wideL (.prog [] ms) (.bad w p)
theorem readL_one {t : List UInt8} {o o' : Option (List Pg.Fd)} (h : readL t o) (h' : readL t o') : o = o' := by
  cases o with
  | none => cases o' with
    | none => rfl
    | some fs =>
      obtain ⟨h1, ms, rest, h2, h3⟩ := h'
      rcases h with h | ⟨a, h⟩ | ⟨ms', w, p, h4, h5⟩
      · omega
      · rw [h2] at h; cases h
      · rw [h2] at h4; cases h4
        have := det h3 h5; cases this
  | some gs => cases o' with
    | none =>
      obtain ⟨h1, ms, rest, h2, h3⟩ := h
      rcases h' with h | ⟨a, h⟩ | ⟨ms', w, p, h4, h5⟩
      · omega
      · rw [h2] at h; cases h
      · rw [h2] at h4; cases h4
        have := det h3 h5; cases this
    | some fs =>
      obtain ⟨h1, ms, rest, h2, h3⟩ := h
      obtain ⟨_, ms', rest', h4, h5⟩ := h'
      rw [h2] at h4; cases h4
      have := det h3 h5
      cases this; rfl
theorem readL_small {t : List UInt8} {fs : List Pg.Fd} (h : readL t (some fs)) : Small fs := by
  obtain ⟨h1, ms, rest, h2, h3⟩ := h
  have := scan_len _ t 0 ms (Nat.lt_succ_self _) h2
  exact small_of h3 (by omega)
/-- Parse under the widest limits -/
theorem pread_ap (t : List UInt8) : AP Tryd.prog G 13 [.sl t.length (t.map byA), .agg [iv wideL.text, iv wideL.funcs, iv wideL.arity, iv wideL.nest]]
    (fun x => (∃ fs, readL t (some fs) ∧ x = .tup [.agg [.sl fs.length (fdsA fs)], .agg [iv 0, iv 0]]) ∨ ∃ w p : Int, w ≠ 0 ∧ readL t none ∧ x = .tup [.agg [.sl 0 []], .agg [iv w, iv p]]) := by
  refine AP.mono (pparse_ap t wideL) ?_
  have hl : limT wideL = 32768 := by decide
  have hL : ({ wideL with text := (32768 : Int) } : Lim) = wideL := rfl
  intro x hx
  unfold ParseR at hx
  rw [hl] at hx
  rcases hx with ⟨h1, rfl⟩ | ⟨h1, ⟨a, h2, rfl⟩ | ⟨ms, h2, ⟨fs, a, h3, rfl⟩ | ⟨w, p, hw, h3, rfl⟩⟩⟩
  · exact .inr ⟨22, 32768, by omega, .inl (by omega), rfl⟩
  · exact .inr ⟨20, a, by omega, .inr (.inl ⟨a, h2⟩), rfl⟩
  · exact .inl ⟨fs, ⟨by omega, ms, _, h2, hL ▸ h3⟩, rfl⟩
  · exact .inr ⟨w, p, hw, .inr (.inr ⟨ms, w, p, h2, hL ▸ h3⟩), rfl⟩
end
end Go.Proofs.YtgddkgbidhhheaaDoor
