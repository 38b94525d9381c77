/- Texts joined: Pra Psp Shc Shd. -/
import Derived.Test.YtgddkgbidhhheaaDoorKoah
import Derived.Test.YtgddkgbidhhheaaDoorKoaj
import Derived.Test.YtgddkgbidhhheaaDoorKoak
import Derived.Test.YtgddkgbidhhheaaDoorKoad
import Derived.Test.YtgddkgbidhhheaaDoorKoai
/- The reference parser: its small methods, as contracts on abstract values. -/
set_option linter.unusedVariables false
set_option linter.unusedSimpArgs false
set_option maxRecDepth 100000
namespace Go.Proofs.YtgddkgbidhhheaaDoor
open Go.RowKit Flo Ab Mk Pg
def mcells (m : M) : List AV := [iv m.kind, sv m.text, cv (W m.num.1) (W m.num.2), iv m.pos]
def mksA (ms : List M) : List AV := ms.flatMap mcells
theorem mksA_len (ms : List M) : (mksA ms).length = ms.length * 4 := by
  unfold mksA
  induction ms with
  | nil => rfl
  | cons v vs ih => rw [List.flatMap_cons, List.length_append, ih]; simp [mcells]; omega
theorem mksA_at : ∀ {ms : List M} {k : Nat} {m : M}, ms[k]? = some m → ((mksA ms).drop (k * 4)).take 4 = mcells m
  | [], k, v, h => by simp at h
  | u :: vs, 0, v, h => by cases h; simp [mksA, mcells]
  | u :: vs, k + 1, v, h => by
    have := mksA_at (ms := vs) (k := k) (m := v) (by simpa using h)
    have e : mksA (u :: vs) = mcells u ++ mksA vs := rfl
    rw [e, show (k + 1) * 4 = (mcells u).length + k * 4 by simp [mcells]; omega, ← List.drop_drop, List.drop_left]
    exact this
mutual
def _root_.Go.Proofs.YtgddkgbidhhheaaDoor.Pg.Ex.cells : Ex → List AV
  | .mk op name tail ty num args pos => [iv op, sv name, sv tail, iv ty, cv (W num.1) (W num.2), .sl args.length (exsA args), iv pos]
def exsA : List Ex → List AV
  | [] => []
  | e :: r => e.cells ++ exsA r
end
def exA (e : Ex) : AV := .agg e.cells
/-- the reader -/
def rdr (all : List M) (l : Lim) (a : Nat) (why wh n : Int) : List AV := [.sl all.length (mksA all), iv a, iv why, iv wh, iv l.text, iv l.funcs, iv l.arity, iv l.nest, iv n]
section
variable {G : World → Prop}
theorem rnext_ap (all : List M) (l : Lim) (a : Nat) (why wh n : Int) {m : M} (h : all[a]? = some m) : AM Tryd.prog G 38 [.ptr 0 0] (rdr all l a why wh n) (fun x cs => x = .agg (mcells m) ∧ cs = rdr all l a why wh n) := by
  have hat := mksA_at h
  have hal : a < all.length := (List.getElem?_eq_some_iff.1 h).1
  have hal' : (a : Int) < all.length := by omega
  have hvz : a * 4 + 4 ≤ (mksA all).length := by rw [mksA_len]; omega
  refine AM.go hmix F_pnext (by simp) ?_
  simp -implicitDefEqProofs [c_pnext, finM, rdr, hal, hal', hat, hvz, wrOb, splice, mcells]
theorem rdr_deep (all : List M) (l : Lim) (a : Nat) (why wh n : Int) : (rdr all l a why wh n).all deep1 = true := rfl
theorem SC.rd {N : Nat} {F : Fr} {H : List Ob} {K : Fr → List Ob → Prop} {d : Option Nat} (hdN : ∀ t, d = some t → t < N) {f : FuncId} {args : List Opd} (xs : List AV) (hx : evA F args = some xs) {all : List M} {l : Lim} {a : Nat} {why wh n : Int} {post : AV → List AV → Prop}
    (hi : (frzT H xs).1[0]? = some (.var (rdr all l a why wh n))) {ys : List AV} (hA : AM Tryd.prog G f ys (rdr all l a why wh n) post) (hy : (frzT H xs).2.map (toO [0]) = ys) (hp : ∃ off, AV.ptr 0 off ∈ (frzT H xs).2) (hd : (frzT H xs).2.all (lentO [0]) = true)
    (hK : ∀ x cs', cs'.all deep1 = true → post x cs' → K (putF F d x) ((frzT H xs).1.set 0 (.var cs'))) {tg : Tag K} : SC Tryd.prog G N d f args F H K tg :=
  SC.lent hdN xs hx 0 (rdr all l a why wh n) hi (rdr_deep _ _ _ _ _ _) (by rw [hy]; exact hA) hp hd hK
theorem rfail_ap (all : List M) (l : Lim) (a : Nat) (why wh n w : Int) {m : M} (h : all[a]? = some m) : AM Tryd.prog G 50 [.ptr 0 0, iv w] (rdr all l a why wh n) (fun x cs => x = .tup [] ∧ cs = if why = 0 then rdr all l a w m.pos n else rdr all l a why wh n) := by
  refine AM.go hmix F_pfail (by simp) ?_
  by_cases hw : why = 0
  · subst hw
    simp -implicitDefEqProofs [c_pfail, rdr, wrOb, splice]
    refine SC.rd (by simp) [.ptr 0 0] (by simp) (all := all) (l := l) (a := a) (why := w) (wh := wh) (n := n) (by simp [rdr]) (rnext_ap all l a w wh n h) (by simp [toO]) ⟨0, by simp⟩ (by simp [lentO]) ?_ (tg := .mk)
    rintro x cs - ⟨rfl, rfl⟩
    simp -implicitDefEqProofs [rdr, mcells, wrOb, splice, finM]
  · simp -implicitDefEqProofs [c_pfail, rdr, hw, finM]
theorem ris_ap (all : List M) (l : Lim) (a : Nat) (why wh n : Int) (s : List UInt8) {m : M} (h : all[a]? = some m) : AM Tryd.prog G 53 [.ptr 0 0, sv s] (rdr all l a why wh n) (fun x cs => x = bv (decide (why = 0) && isW m s) ∧ cs = rdr all l a why wh n) := by
  refine AM.go hmix F_pis (by simp) ?_
  simp -implicitDefEqProofs [c_pis]
  refine SC.rd (by simp) [.ptr 0 0] (by simp) (all := all) (l := l) (a := a) (why := why) (wh := wh) (n := n) (by simp) (rnext_ap all l a why wh n h) (by simp [toO]) ⟨0, by simp⟩ (by simp [lentO]) ?_ (tg := .mk)
  rintro x cs - ⟨rfl, rfl⟩
  have hk1 : (m.kind == 1) = decide ((m.kind : Int) = 1) := by rw [Bool.eq_iff_iff]; simp; omega
  have hk3 : (m.kind == 3) = decide ((m.kind : Int) = 3) := by rw [Bool.eq_iff_iff]; simp; omega
  unfold isW
  rw [hk1, hk3]
  by_cases hw : why = 0
  · subst hw
    by_cases h1 : (m.kind : Int) = 1
    · simp -implicitDefEqProofs [rdr, mcells, wrOb, splice, finM, h1]
    · by_cases h3 : (m.kind : Int) = 3
      · simp -implicitDefEqProofs [rdr, mcells, wrOb, splice, finM, h1, h3]
      · simp -implicitDefEqProofs [rdr, mcells, wrOb, splice, finM, h1, h3]
  · simp -implicitDefEqProofs [rdr, mcells, wrOb, splice, finM, hw]
theorem rtake_ap (all : List M) (l : Lim) (a : Nat) (why wh n : Int) (s : List UInt8) {m : M} (h : all[a]? = some m) (ha : a < 1000000000) : AM Tryd.prog G 63 [.ptr 0 0, sv s] (rdr all l a why wh n)
    (fun x cs => x = bv (decide (why = 0) && isW m s) ∧ cs = rdr all l (if (decide (why = 0) && isW m s) = true then a + 1 else a) why wh n) := by
  have hw : IntKind.i64.wrap ((a : Int) + 1) = ((a + 1 : Nat) : Int) := by rw [wrap64 _ (by omega)]; omega
  have his := ris_ap (G := G) all l a why wh n s h
  obtain ⟨q, hq⟩ : ∃ q, (decide (why = 0) && isW m s) = q := ⟨_, rfl⟩
  rw [hq] at his ⊢
  refine AM.go hmix F_ptake (by simp) ?_
  simp -implicitDefEqProofs [c_ptake]
  refine SC.rd (by simp) [.ptr 0 0, sv s] (by simp) (all := all) (l := l) (a := a) (why := why) (wh := wh) (n := n) (by simp) his (by simp [toO]) ⟨0, by simp⟩ (by simp [lentO]) ?_ (tg := .mk)
  rintro x cs - ⟨rfl, rfl⟩
  cases q
  · simp -implicitDefEqProofs [rdr, finM]
  · simp -implicitDefEqProofs [rdr, finM, wrOb, splice, hw, -Int.natCast_add]
/-- a word or sign that must stand there -/
def wantS (m : M) (s : List UInt8) (a : Nat) (why wh n : Int) (all : List M) (l : Lim) : List AV := if why = 0 then (if isW m s = true then rdr all l (a + 1) why wh n else rdr all l a 21 m.pos n) else rdr all l a why wh n
theorem rwant_ap (all : List M) (l : Lim) (a : Nat) (why wh n : Int) (s : List UInt8) {m : M} (h : all[a]? = some m) (ha : a < 1000000000) : AM Tryd.prog G 52 [.ptr 0 0, sv s] (rdr all l a why wh n)
    (fun x cs => x = .tup [] ∧ cs = wantS m s a why wh n all l) := by
  refine AM.go hmix F_pwant (by simp) ?_
  simp -implicitDefEqProofs [c_pwant]
  refine SC.rd (by simp) [.ptr 0 0, sv s] (by simp) (all := all) (l := l) (a := a) (why := why) (wh := wh) (n := n) (by simp) (rtake_ap all l a why wh n s h ha) (by simp [toO]) ⟨0, by simp⟩ (by simp [lentO]) ?_ (tg := .mk)
  rintro x cs - ⟨rfl, rfl⟩
  unfold wantS
  by_cases hw : why = 0
  · subst hw
    cases hq : isW m s
    · simp -implicitDefEqProofs [finM]
      refine SC.rd (by simp) [.ptr 0 0, iv 21] (by simp) (all := all) (l := l) (a := a) (why := 0) (wh := wh) (n := n) (by simp) (rfail_ap all l a 0 wh n 21 h) (by simp [toO]) ⟨0, by simp⟩ (by simp [lentO]) ?_ (tg := .mk)
      rintro x cs - ⟨rfl, rfl⟩
      simp -implicitDefEqProofs [finM, rdr]
    · simp -implicitDefEqProofs [finM, rdr]
  · simp -implicitDefEqProofs [finM, hw]
    refine SC.rd (by simp) [.ptr 0 0, iv 21] (by simp) (all := all) (l := l) (a := a) (why := why) (wh := wh) (n := n) (by simp) (rfail_ap all l a why wh n 21 h) (by simp [toO]) ⟨0, by simp⟩ (by simp [lentO]) ?_ (tg := .mk)
    rintro x cs - ⟨rfl, rfl⟩
    simp -implicitDefEqProofs [finM, rdr, hw]
def zeroM : M := ⟨0, [], (0, 0), 0⟩
theorem zeroM_cells : mcells zeroM = [iv 0, sv [], cv 0 0, iv 0] := by simp [mcells, zeroM, W0]
theorem rname_ap (all : List M) (l : Lim) (a : Nat) (why wh n : Int) {m : M} (h : all[a]? = some m) (ha : a < 1000000000) : AM Tryd.prog G 51 [.ptr 0 0] (rdr all l a why wh n)
    (fun x cs => if why = 0 then (if m.kind = 0 then x = .agg (mcells m) ∧ cs = rdr all l (a + 1) why wh n else x = .agg (mcells zeroM) ∧ cs = rdr all l a 21 m.pos n) else x = .agg (mcells zeroM) ∧ cs = rdr all l a why wh n) := by
  have hw1 : IntKind.i64.wrap ((a : Int) + 1) = ((a + 1 : Nat) : Int) := by rw [wrap64 _ (by omega)]; omega
  refine AM.go hmix F_pname (by simp) ?_
  rw [zeroM_cells]
  simp -implicitDefEqProofs [c_pname]
  refine SC.rd (by simp) [.ptr 0 0] (by simp) (all := all) (l := l) (a := a) (why := why) (wh := wh) (n := n) (by simp) (rnext_ap all l a why wh n h) (by simp [toO]) ⟨0, by simp⟩ (by simp [lentO]) ?_ (tg := .mk)
  rintro x cs - ⟨rfl, rfl⟩
  have hfail := fun why' => rfail_ap (G := G) all l a why' wh n 21 h
  by_cases hw : why = 0
  · subst hw
    by_cases h0 : m.kind = 0
    · have h0' : (m.kind : Int) = 0 := by omega
      simp -implicitDefEqProofs [rdr, mcells, wrOb, splice, finM, h0, h0', hw1, -Int.natCast_add]
    · have h0' : ¬ (m.kind : Int) = 0 := by omega
      simp -implicitDefEqProofs [rdr, mcells, wrOb, splice, finM, h0, h0']
      refine SC.rd (by simp) [.ptr 0 0, iv 21] (by simp) (all := all) (l := l) (a := a) (why := 0) (wh := wh) (n := n) (by simp [rdr]) (hfail 0) (by simp [toO]) ⟨0, by simp⟩ (by simp [lentO]) ?_ (tg := .mk)
      rintro x cs - ⟨rfl, rfl⟩
      simp -implicitDefEqProofs [rdr, finM, wrOb, splice, evP, fillA, h0]
  · simp -implicitDefEqProofs [rdr, mcells, wrOb, splice, finM, hw]
    refine SC.rd (by simp) [.ptr 0 0, iv 21] (by simp) (all := all) (l := l) (a := a) (why := why) (wh := wh) (n := n) (by simp [rdr]) (hfail why) (by simp [toO]) ⟨0, by simp⟩ (by simp [lentO]) ?_ (tg := .mk)
    rintro x cs - ⟨rfl, rfl⟩
    simp -implicitDefEqProofs [rdr, finM, wrOb, splice, evP, fillA, hw]
def TyI (all : List M) (l : Lim) (a : Nat) (why wh n : Int) (m : M) (g : Nat) (F : Fr) (H : List Ob) : Prop := ∃ (k r : Nat), k + g = 3 ∧ 0 < r ∧ F 0 = some (.ptr 0 0) ∧ F 3 = some (.row r) ∧ F 4 = some (iv k) ∧ H[0]? = some (.var (rdr all l a why wh n)) ∧ H[r]? = some (.own 9 1 3 [sv tN, sv tB, sv tL]) ∧
  (0 < k → (decide (why = 0) && isW m tN) = false) ∧ (1 < k → (decide (why = 0) && isW m tB) = false) ∧ (2 < k → (decide (why = 0) && isW m tL) = false)
theorem rtyp_ap (all : List M) (l : Lim) (a : Nat) (why wh n : Int) {m : M} (h : all[a]? = some m) (ha : a < 1000000000) : AM Tryd.prog G 54 [.ptr 0 0] (rdr all l a why wh n)
    (fun x cs => if why = 0 then (match typOf m with | some t => x = iv t ∧ cs = rdr all l (a + 1) why wh n | none => x = iv 0 ∧ cs = rdr all l a 21 m.pos n) else x = iv 0 ∧ cs = rdr all l a why wh n) := by
  refine AM.go hmix F_ptyp (by simp) ?_
  simp -implicitDefEqProofs [c_ptyp, evP, fillA, splice]
  refine LP.go (TyI all l a why wh n m) 3 ⟨0, 1, by omega, by omega, by simp, by simp, by simp, by simp, by simp, by simp, by simp, by simp⟩ ?_
  unfold c_ptyp_L0
  rintro g F H ⟨k, r, hk, hr0, f0, f3, f4, h0, hr, n0, n1, n2⟩
  have htake := fun s => rtake_ap (G := G) all l a why wh n s h ha
  have hl0 : 0 < H.length := (List.getElem?_eq_some_iff.1 h0).1
  have step : ∀ (s : List UInt8) (t : Int) (j : Nat), k = j → j < 3 → (decide (why = 0) && isW m s) = true → typOf m = some t → t = (j : Int) + 1 → True := fun _ _ _ _ _ _ _ _ => trivial
  match k, hk with
  | 0, hk =>
    simp -implicitDefEqProofs [f0, f3, f4, hr]
    refine SC.rd (by simp) [.ptr 0 0, sv tN] (by simp) (all := all) (l := l) (a := a) (why := why) (wh := wh) (n := n) (by simpa using h0) (htake tN) (by simp [toO]) ⟨0, by simp⟩ (by simp [lentO]) ?_ (tg := .mk)
    rintro x cs - ⟨rfl, rfl⟩
    cases hq : (decide (why = 0) && isW m tN)
    · simp -implicitDefEqProofs [f4]
      refine ⟨g - 1, by omega, 1, r, by omega, hr0, by simp [f0], by simp [f3], by simp [wrap64 1 (by omega)], ?_, ?_, fun _ => hq, by omega, by omega⟩
      · rw [List.getElem?_set_self hl0]
      · rw [List.getElem?_set_ne (by omega)]; exact hr
    · simp only [Bool.and_eq_true, decide_eq_true_eq] at hq
      have ht : typOf m = some 1 := by unfold typOf; rw [if_pos hq.2]
      simp -implicitDefEqProofs [f4, hq.1, ht, finM, hl0, rdr, wrap64 1 (by omega)]
  | 1, hk =>
    simp -implicitDefEqProofs [f0, f3, f4, hr]
    refine SC.rd (by simp) [.ptr 0 0, sv tB] (by simp) (all := all) (l := l) (a := a) (why := why) (wh := wh) (n := n) (by simpa using h0) (htake tB) (by simp [toO]) ⟨0, by simp⟩ (by simp [lentO]) ?_ (tg := .mk)
    rintro x cs - ⟨rfl, rfl⟩
    cases hq : (decide (why = 0) && isW m tB)
    · simp -implicitDefEqProofs [f4]
      refine ⟨g - 1, by omega, 2, r, by omega, hr0, by simp [f0], by simp [f3], by simp [wrap64 2 (by omega)], ?_, ?_, fun _ => n0 (by omega), fun _ => hq, by omega⟩
      · rw [List.getElem?_set_self hl0]
      · rw [List.getElem?_set_ne (by omega)]; exact hr
    · simp only [Bool.and_eq_true, decide_eq_true_eq] at hq
      have ht : typOf m = some 2 := by
        have := n0 (by omega)
        rw [hq.1] at this
        unfold typOf; rw [if_neg (by simpa using this), if_pos hq.2]
      simp -implicitDefEqProofs [f4, hq.1, ht, finM, hl0, rdr, wrap64 2 (by omega)]
  | 2, hk =>
    simp -implicitDefEqProofs [f0, f3, f4, hr]
    refine SC.rd (by simp) [.ptr 0 0, sv tL] (by simp) (all := all) (l := l) (a := a) (why := why) (wh := wh) (n := n) (by simpa using h0) (htake tL) (by simp [toO]) ⟨0, by simp⟩ (by simp [lentO]) ?_ (tg := .mk)
    rintro x cs - ⟨rfl, rfl⟩
    cases hq : (decide (why = 0) && isW m tL)
    · simp -implicitDefEqProofs [f4]
      refine ⟨g - 1, by omega, 3, r, by omega, hr0, by simp [f0], by simp [f3], by simp [wrap64 3 (by omega)], ?_, ?_, fun _ => n0 (by omega), fun _ => n1 (by omega), fun _ => hq⟩
      · rw [List.getElem?_set_self hl0]
      · rw [List.getElem?_set_ne (by omega)]; exact hr
    · simp only [Bool.and_eq_true, decide_eq_true_eq] at hq
      have ht : typOf m = some 3 := by
        have h1 := n0 (by omega)
        have h2 := n1 (by omega)
        rw [hq.1] at h1 h2
        unfold typOf; rw [if_neg (by simpa using h1), if_neg (by simpa using h2), if_pos hq.2]
      simp -implicitDefEqProofs [f4, hq.1, ht, finM, hl0, rdr, wrap64 3 (by omega)]
  | 3, hk =>
    have hfail := rfail_ap (G := G) all l a why wh n 21 h
    simp -implicitDefEqProofs [f0, f3, f4, hr]
    refine SC.rd (by simp) [.ptr 0 0, iv 21] (by simp) (all := all) (l := l) (a := a) (why := why) (wh := wh) (n := n) (by simpa using h0) hfail (by simp [toO]) ⟨0, by simp⟩ (by simp [lentO]) ?_ (tg := .mk)
    rintro x cs - ⟨rfl, rfl⟩
    by_cases hw : why = 0
    · subst hw
      have h1 := n0 (by omega)
      have h2 := n1 (by omega)
      have h3 := n2 (by omega)
      have ht : typOf m = none := by unfold typOf; rw [if_neg (by simpa using h1), if_neg (by simpa using h2), if_neg (by simpa using h3)]
      simp -implicitDefEqProofs [ht, finM, hl0, rdr]
    · simp -implicitDefEqProofs [hw, finM, hl0, rdr]
  | k + 4, hk => omega
end
end Go.Proofs.YtgddkgbidhhheaaDoor
/- The text of an expression and of a program, plain. No program in sight. -/
set_option linter.unusedVariables false
namespace Go.Proofs.YtgddkgbidhhheaaDoor
namespace Pg
open Mk Flo
def opX : Ex → Int
  | .mk op _ _ _ _ _ _ => op
def levelN (op : Int) : Int := if op = 21 ∨ op = 22 ∨ op = 19 ∨ op = 20 then 0 else if op = 18 then 1 else if op = 12 ∨ op = 13 then 2 else if op = 8 ∨ op = 9 then 3 else if op = 10 ∨ op = 11 then 4 else 5
def letter (t : Int) : List UInt8 := if t = 1 then [78] else if t = 2 then [66] else if t = 3 then [76] else []
/-- a sign and the levels that are wanted beside it -/
def signT (op : Int) : List UInt8 × Int × Int :=
  if op = 18 then ([32, 58, 32], 2, 1) else if op = 12 then ([32, 61, 61, 32], 3, 3) else if op = 13 then ([32, 60, 32], 3, 3) else if op = 8 then ([32, 43, 32], 3, 4) else if op = 9 then ([32, 45, 32], 3, 4)
  else if op = 10 then ([32, 42, 32], 4, 5) else if op = 11 then ([32, 47, 32], 4, 5) else ([], 0, 0)
def brack (b : Bool) (s : List UInt8) : List UInt8 := bif b then [40] ++ s ++ [41] else s
def commas : List (List UInt8) → List UInt8
  | [] => []
  | [s] => s
  | s :: r => s ++ [44, 32] ++ commas r
/-- the text, from the operation, names, type, number, and the operands' operations and texts -/
def nodeT (op : Int) (name tail : List UInt8) (ty : Int) (num : List UInt8) (asx : List (Int × List UInt8)) : List UInt8 :=
  let part := fun (i : Nat) (n : Int) => match asx[i]? with | some (o, s) => brack (decide (levelN o < n)) s | none => []
  let lst := [40] ++ commas (asx.map Prod.snd) ++ [41]
  let sg := signT op
  if sg.1 ≠ [] then part 0 sg.2.1 ++ sg.1 ++ part 1 sg.2.2
  else if op = 1 then num
  else if op = 2 then tTrue else if op = 3 then tFalse else if op = 4 then tNil
  else if op = 5 then tFail ++ [32] ++ letter ty
  else if op = 6 then name
  else if op = 7 then name ++ lst
  else if op = 14 then tNot ++ lst else if op = 15 then tRe ++ lst else if op = 16 then tIm ++ lst else if op = 17 then tConj ++ lst
  else if op = 19 then [105, 102, 32] ++ part 0 0 ++ [32, 116, 104, 101, 110, 32] ++ part 1 0 ++ [32, 101, 108, 115, 101, 32] ++ part 2 0
  else if op = 20 then [99, 97, 115, 101, 32] ++ part 0 0 ++ [32, 111, 102, 32, 110, 105, 108, 32, 45, 62, 32] ++ part 1 0 ++ [32, 124, 32] ++ name ++ [58] ++ tail ++ [32, 45, 62, 32] ++ part 2 0
  else if op = 21 then [108, 101, 116, 32] ++ name ++ [32] ++ letter ty ++ [32, 61, 32] ++ part 0 0 ++ [32, 105, 110, 32] ++ part 1 0
  else if op = 22 then [115, 116, 114, 105, 99, 116, 32] ++ name ++ [32] ++ letter ty ++ [32, 61, 32] ++ part 0 0 ++ [32, 105, 110, 32] ++ part 1 0
  else []
mutual
def exT : Ex → List UInt8
  | .mk op name tail ty num us _ => nodeT op name tail ty (textL num.1 num.2) (exTs us)
def exTs : List Ex → List (Int × List UInt8)
  | [] => []
  | e :: r => (opX e, exT e) :: exTs r
end
def pmsT : List Pm → List UInt8
  | [] => []
  | [p] => p.name ++ [32] ++ letter p.ty
  | p :: r => p.name ++ [32] ++ letter p.ty ++ [44, 32] ++ pmsT r
def fdT (f : Pg.Fd) : List UInt8 := f.name ++ [40] ++ pmsT f.params ++ [41, 58, 32] ++ letter f.ty ++ [32, 61, 32] ++ exT f.body ++ [59, 10]
def fdsT (fs : List Pg.Fd) : List UInt8 := fs.flatMap fdT
end Pg
end Go.Proofs.YtgddkgbidhhheaaDoor
/- Layer 5: what is written on the page: levels, pieces. -/
set_option linter.unusedVariables false
set_option linter.unusedSimpArgs false
set_option maxRecDepth 100000
namespace Go.Proofs.YtgddkgbidhhheaaDoor
open Go.RowKit Flo Ab Mk Pg
theorem slevel_ap {G : World → Prop} (op : Int) : AP Tryd.prog G 27 [iv op] (fun x => x = iv (levelN op)) := by
  refine AP.go hmix F_slevel (by simp) ?_
  unfold levelN
  by_cases h1 : op = 21
  · simp -implicitDefEqProofs [c_slevel, h1]
  by_cases h2 : op = 22
  · simp -implicitDefEqProofs [c_slevel, h2]
  by_cases h3 : op = 19
  · simp -implicitDefEqProofs [c_slevel, h3]
  by_cases h4 : op = 20
  · simp -implicitDefEqProofs [c_slevel, h4]
  by_cases h5 : op = 18
  · simp -implicitDefEqProofs [c_slevel, h5]
  by_cases h6 : op = 12
  · simp -implicitDefEqProofs [c_slevel, h6]
  by_cases h7 : op = 13
  · simp -implicitDefEqProofs [c_slevel, h7]
  by_cases h8 : op = 8
  · simp -implicitDefEqProofs [c_slevel, h8]
  by_cases h9 : op = 9
  · simp -implicitDefEqProofs [c_slevel, h9]
  by_cases h10 : op = 10
  · simp -implicitDefEqProofs [c_slevel, h10]
  by_cases h11 : op = 11
  · simp -implicitDefEqProofs [c_slevel, h11]
  simp -implicitDefEqProofs [c_slevel, h1, h2, h3, h4, h5, h6, h7, h8, h9, h10, h11]
/-- what is written: texts, expressions, types -/
inductive Pc where
  | s (t : List UInt8)
  | x (e : Ex)
  | ty (n : Int)
def Pc.av : Pc → AV
  | .s t => .ifc 9 (sv t)
  | .x e => .ifc 36 (exA e)
  | .ty n => .ifc 31 (iv n)
def Pc.tx : Pc → List UInt8
  | .s t => t
  | .x e => exT e
  | .ty n => letter n
def tyW (n : Int) : Prop := n = 1 ∨ n = 2 ∨ n = 3
def Pc.ok : Pc → Prop
  | .s t => t ≠ []
  | .x e => exT e ≠ [] ∧ PgC 15 [exA e, iv 0] (exT e)
  | .ty n => tyW n
theorem letter_ne {n : Int} (h : tyW n) : letter n ≠ [] := by rcases h with rfl | rfl | rfl <;> simp [letter]
theorem okL_cells (e : Ex) : okL [] e.cells = true := by
  obtain ⟨op, nm, tl, ty, num, args, pos⟩ := e
  simp [Ex.cells]
theorem okR_ex (e : Ex) : Ab.okR [] (exA e) = true := by simp [exA, okL_cells]
structure InvA (ps : List Pc) (avs : List AV) (l : List UInt8) (g : Nat) (F : Fr) (H : List Ob) : Prop where
  j : ∃ j : Nat, j ≤ ps.length ∧ g = ps.length - j ∧ F 11 = some (iv j) ∧ PgAt H 0 (l ++ (ps.take j).flatMap Pc.tx)
  f0 : F 0 = some (.ptr 0 0)
  f9 : F 9 = some (.sl ps.length avs)
  f10 : F 10 = some (iv ps.length)
theorem flat_take {ps : List Pc} {j : Nat} {p : Pc} (h : ps[j]? = some p) : (ps.take (j + 1)).flatMap Pc.tx = (ps.take j).flatMap Pc.tx ++ p.tx := by
  rw [List.take_add_one, h, List.flatMap_append]; simp
theorem flat_le (ps : List Pc) (j : Nat) : ((ps.take j).flatMap Pc.tx).length ≤ (ps.flatMap Pc.tx).length := by
  have : ps.flatMap Pc.tx = (ps.take j).flatMap Pc.tx ++ (ps.drop j).flatMap Pc.tx := by rw [← List.flatMap_append, List.take_append_drop]
  rw [this, List.length_append]; omega
set_option maxHeartbeats 2000000 in
theorem sadd_pg (ps : List Pc) (hlen : ps.length ≤ 1000) (hok : ∀ p ∈ ps, p.ok) : PgC 23 [.sl ps.length (ps.map Pc.av)] (ps.flatMap Pc.tx) := by
  intro l os hP hsz
  have hP0 := hP.at
  obtain ⟨avs, havs⟩ : ∃ a, a = ps.map Pc.av := ⟨_, rfl⟩
  rw [← havs]
  refine AC.go hmix F_sadd (by simp) ?_
  simp -implicitDefEqProofs [c_sadd]
  refine LP.go (InvA ps avs l) ps.length ⟨⟨0, Nat.zero_le _, rfl, rfl, by simpa using hP0⟩, rfl, rfl, rfl⟩ ?_
  unfold c_sadd_L0
  rintro g F H ⟨⟨j, hj, rfl, h11, hp⟩, h0, h9, h10⟩
  by_cases hjl : j < ps.length
  · obtain ⟨p, hpj⟩ : ∃ p, ps[j]? = some p := ⟨_, List.getElem?_eq_getElem hjl⟩
    have hpk := hok p (List.mem_of_getElem? hpj)
    have hjl' : (j : Int) < ps.length := by omega
    have hav : avs[j]? = some p.av := by rw [havs, List.getElem?_map, hpj]; rfl
    have hft := flat_take hpj
    have hfl := flat_le ps (j + 1)
    rw [hft, List.length_append] at hfl
    have hsz' : (l ++ (ps.take j).flatMap Pc.tx).length + p.tx.length ≤ 1073741824 := by rw [List.length_append]; omega
    have hw1 : IntKind.i64.wrap ((j : Int) + 1) = ((j + 1 : Nat) : Int) := by rw [wrap64 _ (by omega)]; omega
    have fin : ∀ (F' : Fr) (H' : List Ob), F' 11 = some (iv ((j + 1 : Nat) : Int)) → F' 0 = some (.ptr 0 0) → F' 9 = some (.sl ps.length avs) → F' 10 = some (iv ps.length) → PgAt H' 0 (l ++ (ps.take j).flatMap Pc.tx ++ p.tx) →
        ∃ m, m < ps.length - j ∧ InvA ps avs l m F' H' := fun F' H' a b c d e =>
      ⟨ps.length - (j + 1), by omega, ⟨j + 1, by omega, rfl, a, by rw [hft, ← List.append_assoc]; exact e⟩, b, c, d⟩
    cases p with
    | s t =>
      simp -implicitDefEqProofs [-Int.natCast_add, h0, h9, h10, h11, hjl, hjl', hav, Pc.av]
      refine SC.pg (by simp) [sv t] (by simp) hp t (bws_pg t hpk) hpk hsz' (by simp) ?_
      rintro x H' hp' hv' hl'
      simp -implicitDefEqProofs [-Int.natCast_add, h0, h9, h10, h11, hw1]
      exact fin _ _ (by simp [hw1]) (by simp [h0]) (by simp [h9]) (by simp [h10]) hp'
    | x e =>
      obtain ⟨hpk1, hpk2⟩ := hpk
      have hoke := okR_ex e
      obtain ⟨op, nm, tl, ty, num, bs, pos⟩ := e
      simp -implicitDefEqProofs [-Int.natCast_add, h0, h9, h10, h11, hjl, hjl', hav, Pc.av, exA, Ex.cells, wrOb, splice]
      refine SC.pg (by simp) [exA (.mk op nm tl ty num bs pos), iv 0] (by simp [exA, Ex.cells]) (hp.app _) _ hpk2 hpk1 hsz' (by simp [exA, Ex.cells]) ?_
      rintro x H' hp' hv' hl'
      simp -implicitDefEqProofs [-Int.natCast_add, h0, h9, h10, h11, hw1]
      exact fin _ _ (by simp [hw1]) (by simp [h0]) (by simp [h9]) (by simp [h10]) hp'
    | ty n =>
      have hpk' := letter_ne hpk
      rcases hpk with rfl | rfl | rfl
      · simp -implicitDefEqProofs [-Int.natCast_add, h0, h9, h10, h11, hjl, hjl', hav, Pc.av, evP, fillA, splice, dz]
        refine XC.pg [sv [78]] (by simp) hp rfl (fun _ _ h => h) [78] (bws_pg _ (by simp)) (by simp) hsz' (by simp) ?_
        rintro x H' hp' hv' hl'
        simp -implicitDefEqProofs [-Int.natCast_add, h0, h9, h10, h11, hw1]
        exact fin _ _ (by simp [hw1]) (by simp [h0]) (by simp [h9]) (by simp [h10]) hp'
      · simp -implicitDefEqProofs [-Int.natCast_add, h0, h9, h10, h11, hjl, hjl', hav, Pc.av, evP, fillA, splice, dz]
        refine XC.pg [sv [66]] (by simp) hp rfl (fun _ _ h => h) [66] (bws_pg _ (by simp)) (by simp) hsz' (by simp) ?_
        rintro x H' hp' hv' hl'
        simp -implicitDefEqProofs [-Int.natCast_add, h0, h9, h10, h11, hw1]
        exact fin _ _ (by simp [hw1]) (by simp [h0]) (by simp [h9]) (by simp [h10]) hp'
      · simp -implicitDefEqProofs [-Int.natCast_add, h0, h9, h10, h11, hjl, hjl', hav, Pc.av, evP, fillA, splice, dz]
        refine XC.pg [sv [76]] (by simp) hp rfl (fun _ _ h => h) [76] (bws_pg _ (by simp)) (by simp) hsz' (by simp) ?_
        rintro x H' hp' hv' hl'
        simp -implicitDefEqProofs [-Int.natCast_add, h0, h9, h10, h11, hw1]
        exact fin _ _ (by simp [hw1]) (by simp [h0]) (by simp [h9]) (by simp [h10]) hp'
  · have hje : j = ps.length := by omega
    subst hje
    simp -implicitDefEqProofs [h0, h9, h10, h11]
    simpa using hp
end Go.Proofs.YtgddkgbidhhheaaDoor
/- Layer 5: expressions are written on the page. -/
set_option linter.unusedVariables false
set_option linter.unusedSimpArgs false
set_option maxRecDepth 100000
namespace Go.Proofs.YtgddkgbidhhheaaDoor
open Go.RowKit Flo Ab Mk Pg
/-- an expression that has all that its text shows -/
def nodeW (op : Int) (name tail : List UInt8) (ty : Int) (num : Int × Int) (k : Nat) : Prop :=
  k ≤ 1000000 ∧ ((op = 1 ∧ Flo.okR num.1 num.2 = true) ∨ (op = 2 ∨ op = 3 ∨ op = 4) ∨ (op = 5 ∧ tyW ty) ∨ (op = 6 ∧ name ≠ []) ∨ (op = 7 ∧ name ≠ []) ∨ (op = 14 ∨ op = 15 ∨ op = 16 ∨ op = 17) ∨
  ((op = 8 ∨ op = 9 ∨ op = 10 ∨ op = 11 ∨ op = 12 ∨ op = 13 ∨ op = 18) ∧ k = 2) ∨ (op = 19 ∧ k = 3) ∨ (op = 20 ∧ k = 3 ∧ name ≠ [] ∧ tail ≠ []) ∨ ((op = 21 ∨ op = 22) ∧ k = 2 ∧ name ≠ [] ∧ tyW ty))
mutual
def wfX : Ex → Prop
  | .mk op name tail ty num us _ => nodeW op name tail ty num us.length ∧ wfXs us
def wfXs : List Ex → Prop
  | [] => True
  | e :: r => wfX e ∧ wfXs r
end
theorem wfXs_at : ∀ {us : List Ex} {i : Nat} {e : Ex}, wfXs us → us[i]? = some e → wfX e
  | [], i, e, _, h => by simp at h
  | u :: r, 0, e, hw, h => by cases h; exact hw.1
  | u :: r, i + 1, e, hw, h => wfXs_at hw.2 (by simpa using h)
theorem exTs_map : ∀ us : List Ex, exTs us = us.map fun e => (opX e, exT e)
  | [] => rfl
  | e :: r => by simp [exTs, exTs_map r]
theorem exsB_at : ∀ {us : List Ex} {k : Nat} {e : Ex}, us[k]? = some e → ((exsA us).drop (k * 7)).take 7 = e.cells
  | [], k, e, h => by simp at h
  | u :: r, 0, e, h => by cases h; obtain ⟨op, nm, tl, ty, num, bs, pos⟩ := u; simp [exsA, Ex.cells]
  | u :: r, k + 1, e, h => by
    have := exsB_at (us := r) (k := k) (e := e) (by simpa using h)
    have hl : u.cells.length = 7 := by obtain ⟨op, nm, tl, ty, num, bs, pos⟩ := u; simp [Ex.cells]
    have e1 : exsA (u :: r) = u.cells ++ exsA r := by simp [exsA]
    rw [e1, show (k + 1) * 7 = u.cells.length + k * 7 by rw [hl]; omega, ← List.drop_drop, List.drop_left]
    exact this
theorem exsB_len : ∀ us : List Ex, (exsA us).length = us.length * 7
  | [] => by simp [exsA]
  | u :: r => by
    have hl : u.cells.length = 7 := by obtain ⟨op, nm, tl, ty, num, bs, pos⟩ := u; simp [Ex.cells]
    simp [exsA, hl, exsB_len r]; omega
theorem dec_ne (n : Nat) : Lib.decDigits n ≠ [] := by
  unfold Lib.decDigits
  split <;> simp
theorem itoa_ne (n : Int) : Lib.itoa n ≠ [] := by
  unfold Lib.itoa
  split
  · simp
  · exact dec_ne _
theorem textL_ne (a b : Int) : textL a b ≠ [] := by
  unfold textL
  repeat' split
  all_goals simp [itoa_ne]
theorem exT_ne {e : Ex} (h : wfX e) : exT e ≠ [] := by
  obtain ⟨op, nm, tl, ty, num, bs, pos⟩ := e
  obtain ⟨⟨hk, h⟩, _⟩ := h
  simp only [exT]
  rcases h with ⟨rfl, h1⟩ | (rfl | rfl | rfl) | ⟨rfl, h1⟩ | ⟨rfl, h1⟩ | ⟨rfl, h1⟩ | (rfl | rfl | rfl | rfl) | ⟨rfl | rfl | rfl | rfl | rfl | rfl | rfl, h1⟩ | ⟨rfl, h1⟩ | ⟨rfl, h1⟩ | ⟨rfl | rfl, h1⟩ <;> simp_all [nodeT, signT, textL_ne]
/-- an expression's text where a level is wanted -/
def exTw (w : Int) (e : Ex) : List UInt8 := brack (decide (levelN (opX e) < w)) (exT e)
theorem exTw_ne {e : Ex} (h : wfX e) (w : Int) : exTw w e ≠ [] := by
  unfold exTw brack
  cases decide (levelN (opX e) < w)
  · exact exT_ne h
  · simp
theorem levelN_nn (op : Int) : 0 ≤ levelN op ∧ levelN op ≤ 5 := by
  unfold levelN
  repeat' split
  all_goals omega
theorem exTw0 (e : Ex) : exTw 0 e = exT e := by
  unfold exTw brack
  rw [decide_eq_false (by have := (levelN_nn (opX e)).1; omega)]; rfl
def WrX (e : Ex) : Prop := ∀ w : Int, PgC 15 [exA e, iv w] (exTw w e)
theorem WrX.pc {e : Ex} (h : WrX e) (hw : wfX e) : (Pc.x e).ok := ⟨exT_ne hw, by have := h 0; rwa [exTw0] at this⟩
theorem commas_snoc : ∀ (xs : List (List UInt8)) (s : List UInt8), commas (xs ++ [s]) = bif xs.isEmpty then s else commas xs ++ [44, 32] ++ s
  | [], s => rfl
  | [x], s => by simp [commas]
  | x :: y :: r, s => by
    have := commas_snoc (y :: r) s
    simp only [List.cons_append, commas] at this ⊢
    rw [this]
    simp
theorem SC.add {N : Nat} {F : Fr} {H : List Ob} {K : Fr → List Ob → Prop} {d : Option Nat} (hdN : ∀ t, d = some t → t < N) {args : List Opd} (k : Nat) (hx : evA F args = some [.ptr 0 0, .row k]) (ps : List Pc) (hk : H[k]? = some (.own 20 1 ps.length (ps.map Pc.av)))
    {l : List UInt8} (hP : PgAt (H.set k (.fro ps.length (ps.map Pc.av))) 0 l) (t : List UInt8) (ht : ps.flatMap Pc.tx = t) (hok : ∀ p ∈ ps, p.ok) (hlen : ps.length ≤ 1000) (hnz : t ≠ []) (hsz : l.length + t.length ≤ 1073741824)
    (hK : ∀ (x : AV) (H' : List Ob), PgAt H' 0 (l ++ t) → (∀ (j : Nat) (cs : List AV), H[j]? = some (.var cs) → H'[j]? = some (.var cs)) → H.length ≤ H'.length → K (putF F d x) H') {a : Tag K} : SC Tryd.prog (.np Gv) N d 23 args F H K a := by
  subst ht
  refine SC.pgf hdN [.row k] hx [.sl ps.length (ps.map Pc.av)] (H.set k (.fro ps.length (ps.map Pc.av))) (by simp [hk]) hP _ (sadd_pg ps hlen hok) hnz hsz (by simp) (fun x H' h1 h2 h3 => hK x H' h1 (fun j cs hj => h2 j cs ?_) (by simpa using h3))
  have : k ≠ j := fun e => by subst e; rw [hk] at hj; cases hj
  rw [List.getElem?_set_ne this]; exact hj
/-- arguments in brackets -/
structure InvC (us : List Ex) (n0 : Nat) (l : List UInt8) (g : Nat) (F : Fr) (H : List Ob) : Prop where
  j : ∃ j : Nat, j ≤ us.length ∧ g = us.length - j ∧ F 17 = some (iv j) ∧ PgAt H 0 (l ++ commas ((us.take j).map exT))
  f0 : F 0 = some (.ptr 0 0)
  f15 : F 15 = some (.sl us.length (exsA us))
  f16 : F 16 = some (iv us.length)
theorem commas_le (us : List Ex) (j : Nat) (hj : j ≤ us.length) : (commas ((us.take j).map exT)).length ≤ (commas (us.map exT)).length := by
  induction us generalizing j with
  | nil => simp
  | cons u r ih =>
    cases j with
    | zero => simp [commas]
    | succ j =>
      have := ih j (by simpa using hj)
      simp only [List.take_succ_cons, List.map_cons]
      cases r with
      | nil => simp [commas]
      | cons v r =>
        cases j with
        | zero => simp [commas]
        | succ j =>
          simp only [List.take_succ_cons, List.map_cons, commas, List.length_append] at this ⊢
          omega
set_option maxHeartbeats 4000000 in
theorem scall_pg (word : List UInt8) (hword : word ≠ []) (op : Int) (nm tl : List UInt8) (ty : Int) (num : Int × Int) (us : List Ex) (pos : Int) (hk : us.length ≤ 1000000) (hw : wfXs us) (hX : ∀ e ∈ us, WrX e) :
    PgC 41 [sv word, exA (.mk op nm tl ty num us pos)] (word ++ ([40] ++ commas (us.map exT) ++ [41])) := by
  intro l os hP hsz
  have hP0 := hP.at
  simp only [List.length_append, List.length_cons, List.length_nil] at hsz
  have hcle := commas_le us
  refine AC.go hmix F_scall (by simp) ?_
  simp -implicitDefEqProofs [c_scall, exA, Ex.cells, evP, fillA, splice]
  refine SC.add (by simp) (os.length + 1) (by simp) [.s word, .s [40]] (by simp [Pc.av]) (by simp; exact hP0.app _) (word ++ [40]) (by simp [Pc.tx]) (by simp [Pc.ok, hword]) (by simp) (by simp) (by simp; omega) ?_
  rintro x H1 hp1 hv1 hl1
  have hv := hv1 os.length _ (by simp; rfl)
  simp -implicitDefEqProofs [hv]
  refine LP.go (InvC us os.length (l ++ (word ++ [40]))) us.length ⟨⟨0, Nat.zero_le _, rfl, by simp, by simpa [commas] using hp1⟩, by simp, by simp, by simp⟩ ?_
  unfold c_scall_L0
  rintro g F H ⟨⟨j, hj, rfl, h17, hp⟩, h0, h15, h16⟩
  by_cases hjl : j < us.length
  · obtain ⟨e, hej⟩ : ∃ e, us[j]? = some e := ⟨_, List.getElem?_eq_getElem hjl⟩
    have hwe := wfXs_at hw hej
    have hXe := hX e (List.mem_of_getElem? hej)
    have hjl' : (j : Int) < us.length := by omega
    have hat := exsB_at hej
    have hvz : j * 7 + 7 ≤ (exsA us).length := by rw [exsB_len]; omega
    have hw1 : IntKind.i64.wrap ((j : Int) + 1) = ((j + 1 : Nat) : Int) := by rw [wrap64 _ (by omega)]; omega
    have hw0 : IntKind.i64.wrap 1 = 1 := wrap64 _ (by omega)
    have hct : commas ((us.take (j + 1)).map exT) = bif j == 0 then exT e else commas ((us.take j).map exT) ++ [44, 32] ++ exT e := by
      rw [List.take_add_one, hej]
      simp only [Option.toList_some, List.map_append, List.map_cons, List.map_nil]
      rw [commas_snoc]
      cases j with
      | zero => simp
      | succ j =>
        have : ((us.take (j + 1)).map exT).isEmpty = false := by
          cases us with
          | nil => simp at hjl
          | cons => simp
        rw [this]; rfl
    have hle := hcle (j + 1) (by omega)
    have fin : ∀ (F' : Fr) (H' : List Ob), F' 17 = some (iv ((j + 1 : Nat) : Int)) → F' 0 = some (.ptr 0 0) → F' 15 = some (.sl us.length (exsA us)) → F' 16 = some (iv us.length) → PgAt H' 0 (l ++ (word ++ [40]) ++ commas ((us.take (j + 1)).map exT)) →
        ∃ m, m < us.length - j ∧ InvC us os.length (l ++ (word ++ [40])) m F' H' := fun F' H' a b c d e =>
      ⟨us.length - (j + 1), by omega, ⟨j + 1, by omega, rfl, a, e⟩, b, c, d⟩
    have hok1 : ∀ p ∈ [Pc.x e], p.ok := by intro p hp; rw [List.mem_singleton.1 hp]; exact hXe.pc hwe
    have hene := exT_ne hwe
    obtain ⟨op', nm', tl', ty', num', bs', pos'⟩ := e
    cases j with
    | zero =>
      rw [hct] at hle
      simp only [BEq.rfl, cond_true] at hle
      have hat0 : (exsA us).take 7 = (Ex.mk op' nm' tl' ty' num' bs' pos').cells := by simpa using hat
      have hvz0 : 7 ≤ (exsA us).length := by simpa using hvz
      have h0l : 0 < us.length := hjl
      simp -implicitDefEqProofs [-Int.natCast_add, h0, h15, h16, h17, h0l, hat0, hvz0, Ex.cells, evP, fillA, splice, wrOb]
      refine SC.add (by simp) (H.length + 1) (by simp) [.x (.mk op' nm' tl' ty' num' bs' pos')] (by simp [Pc.av, exA, Ex.cells]) (by simp; exact hp.app _) (exT (.mk op' nm' tl' ty' num' bs' pos')) (by simp [Pc.tx]) hok1 (by simp) hene (by simp [commas]; omega) ?_
      rintro x H2 hp2 hv2 hl2
      simp -implicitDefEqProofs [-Int.natCast_add, h0, h15, h16, h17, hw0]
      exact fin _ _ (by simp) (by simp [h0]) (by simp [h15]) (by simp [h16]) (by rw [hct]; simpa [commas] using hp2)
    | succ j =>
      rw [hct] at hle
      simp only [List.length_append, List.length_cons, List.length_nil, show (j + 1 == 0) = false from rfl, cond_false] at hle
      have hj0 : (0 : Int) < ((j + 1 : Nat) : Int) := by omega
      simp -implicitDefEqProofs [-Int.natCast_add, h0, h15, h16, h17, hjl, hjl', hj0, hat, hvz, Ex.cells, evP, fillA, splice, wrOb]
      refine SC.add (by simp) (H.length + 1) (by simp) [.s [44, 32]] (by simp [Pc.av]) (by simp; exact hp.app _) [44, 32] (by simp [Pc.tx]) (by simp [Pc.ok]) (by simp) (by simp) (by simp only [List.length_append, List.length_cons, List.length_nil]; omega) ?_
      rintro x H2 hp2 hv2 hl2
      have hv2' := hv2 H.length _ (by simp; rfl)
      simp -implicitDefEqProofs [-Int.natCast_add, h0, h15, h16, h17, hv2', evP, fillA, splice, wrOb]
      refine SC.add (by simp) H2.length (by simp) [.x (.mk op' nm' tl' ty' num' bs' pos')] (by simp [Pc.av, exA, Ex.cells]) (by simp; exact hp2.app _) (exT (.mk op' nm' tl' ty' num' bs' pos')) (by simp [Pc.tx]) hok1 (by simp) hene (by simp only [List.length_append, List.length_cons, List.length_nil]; omega) ?_
      rintro x H3 hp3 hv3 hl3
      simp -implicitDefEqProofs [-Int.natCast_add, h0, h15, h16, h17, hw1]
      exact fin _ _ (by simp [hw1]) (by simp [h0]) (by simp [h15]) (by simp [h16]) (by rw [hct]; simpa using hp3)
  · have hje : j = us.length := by omega
    subst hje
    have hp' : PgAt H 0 (l ++ (word ++ [40]) ++ commas (us.map exT)) := by simpa using hp
    simp -implicitDefEqProofs [h0, h15, h16, h17, evP, fillA, splice]
    refine SC.add (by simp) H.length (by simp) [.s [41]] (by simp [Pc.av]) (by simp; exact hp'.app _) [41] (by simp [Pc.tx]) (by simp [Pc.ok]) (by simp) (by simp) (by simp only [List.length_append, List.length_cons, List.length_nil]; omega) ?_
    rintro x H2 hp2 hv2 hl2
    simp -implicitDefEqProofs
    simpa using hp2
end Go.Proofs.YtgddkgbidhhheaaDoor
