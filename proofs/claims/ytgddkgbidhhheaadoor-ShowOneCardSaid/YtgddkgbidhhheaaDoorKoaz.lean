/- Texts joined: Bka. -/
import Derived.Test.YtgddkgbidhhheaaDoorKoak
import Derived.Test.YtgddkgbidhhheaaDoorKoal
/- A printed program is read back: from marks. No program in sight. -/
set_option linter.unusedVariables false
set_option linter.unusedSimpArgs false
namespace Go.Proofs.YtgddkgbidhhheaaDoor
namespace Pg
open Mk Flo
/-- what a mark is, but for its place -/
def eqM (m k : M) : Prop := m.kind = k.kind ∧ m.text = k.text ∧ m.num = k.num
theorem isW_eq {m k : M} (h : eqM m k) (s : List UInt8) : isW m s = isW k s := by unfold isW; rw [h.1, h.2.1]
theorem strOf_eq {m k : M} (h : eqM m k) : strOf m = strOf k := by unfold strOf; simp only [isW_eq h]
theorem typOf_eq {m k : M} (h : eqM m k) : typOf m = typOf k := by unfold typOf; simp only [isW_eq h]
def eqMs : List M → List M → Prop
  | [], [] => True
  | m :: r, k :: s => eqM m k ∧ eqMs r s
  | _, _ => False
theorem eqMs_app : ∀ {a b ms : List M}, eqMs ms (a ++ b) → ∃ x y, ms = x ++ y ∧ eqMs x a ∧ eqMs y b
  | [], b, ms, h => ⟨[], ms, rfl, trivial, h⟩
  | m :: a, b, [], h => h.elim
  | m :: a, b, k :: ms, h => by
    obtain ⟨x, y, rfl, h1, h2⟩ := eqMs_app (a := a) h.2
    exact ⟨k :: x, y, rfl, ⟨h.1, h1⟩, h2⟩
theorem eqMs_cons {k : M} {b ms : List M} (h : eqMs ms (k :: b)) : ∃ m r, ms = m :: r ∧ eqM m k ∧ eqMs r b := by
  cases ms with
  | nil => exact h.elim
  | cons m r => exact ⟨m, r, rfl, h.1, h.2⟩
theorem eqMs_nil {ms : List M} (h : eqMs ms []) : ms = [] := by
  cases ms with
  | nil => rfl
  | cons m r => exact h.elim
/-! the marks of a printed expression -/
def mW (s : List UInt8) : M := ⟨1, s, (0, 0), 0⟩
def mS (s : List UInt8) : M := ⟨3, s, (0, 0), 0⟩
def mN (s : List UInt8) : M := ⟨0, s, (0, 0), 0⟩
def mY (t : Int) : M := mW (letter t)
def mB (b : Bool) (ms : List M) : List M := bif b then mS sOpen :: ms ++ [mS sClose] else ms
def mCommas : List (List M) → List M
  | [] => []
  | [s] => s
  | s :: r => s ++ mS sComma :: mCommas r
def signM (op : Int) : List UInt8 := if op = 18 then sColon else if op = 12 then sEqEq else if op = 13 then sLess else if op = 8 then sPlus else if op = 9 then sMinus else if op = 10 then sStar else sSlash
/-- the marks, from the operation, names, type, number, and the operands' operations and marks -/
def nodeM (op : Int) (name tail : List UInt8) (ty : Int) (num : M) (us : List (Int × List M)) : List M :=
  let part := fun (i : Nat) (n : Int) => match us[i]? with | some (o, s) => mB (decide (levelN o < n)) s | none => []
  let lst := mS sOpen :: mCommas (us.map Prod.snd) ++ [mS sClose]
  if op = 18 ∨ op = 12 ∨ op = 13 ∨ op = 8 ∨ op = 9 ∨ op = 10 ∨ op = 11 then part 0 (signT op).2.1 ++ mS (signM op) :: part 1 (signT op).2.2
  else if op = 1 then [num]
  else if op = 2 then [mW tTrue] else if op = 3 then [mW tFalse] else if op = 4 then [mW tNil]
  else if op = 5 then [mW tFail, mY ty]
  else if op = 6 then [mN name]
  else if op = 7 then mN name :: lst
  else if op = 14 then mW tNot :: lst else if op = 15 then mW tRe :: lst else if op = 16 then mW tIm :: lst else if op = 17 then mW tConj :: lst
  else if op = 19 then mW tIf :: part 0 0 ++ mW tThen :: part 1 0 ++ mW tElse :: part 2 0
  else if op = 20 then mW tCase :: part 0 0 ++ mW tOf :: mW tNil :: mS sArrow :: part 1 0 ++ mS sBar :: mN name :: mS sColon :: mN tail :: mS sArrow :: part 2 0
  else if op = 21 then mW tLet :: mN name :: mY ty :: mS sEq :: part 0 0 ++ mW tIn :: part 1 0
  else if op = 22 then mW tStrict :: mN name :: mY ty :: mS sEq :: part 0 0 ++ mW tIn :: part 1 0
  else []
mutual
def mX : Ex → List M
  | .mk op name tail ty num us _ => nodeM op name tail ty ⟨2, textL num.1 num.2, num, 0⟩ (mXs us)
def mXs : List Ex → List (Int × List M)
  | [] => []
  | e :: r => (opX e, mX e) :: mXs r
end
/-- how deep let, strict, case lie in each other -/
def depN (op : Int) (d : Nat) : Nat := if op = 20 ∨ op = 21 ∨ op = 22 then d + 1 else d
mutual
def dep : Ex → Nat
  | .mk op _ _ _ _ us _ => depN op (deps us)
def deps : List Ex → Nat
  | [] => 0
  | e :: r => max (dep e) (deps r)
end
/-! the same but for places -/
mutual
def unp : Ex → Ex
  | .mk op name tail ty num us _ => .mk op name tail ty num (unps us) 0
def unps : List Ex → List Ex
  | [] => []
  | e :: r => unp e :: unps r
end
/-- the shapes that the grammar gives, each field that is not shown at nought -/
def nodeG (op : Int) (name tail : List UInt8) (ty : Int) (num : Int × Int) (k : Nat) : Prop :=
  (op = 1 ∧ name = [] ∧ tail = [] ∧ ty = 0 ∧ k = 0) ∨ ((op = 2 ∨ op = 3 ∨ op = 4) ∧ name = [] ∧ tail = [] ∧ ty = 0 ∧ num = (0, 0) ∧ k = 0) ∨ (op = 5 ∧ name = [] ∧ tail = [] ∧ (ty = 1 ∨ ty = 2 ∨ ty = 3) ∧ num = (0, 0) ∧ k = 0) ∨
  (op = 6 ∧ tail = [] ∧ ty = 0 ∧ num = (0, 0) ∧ k = 0) ∨ (op = 7 ∧ tail = [] ∧ ty = 0 ∧ num = (0, 0)) ∨ ((op = 14 ∨ op = 15 ∨ op = 16 ∨ op = 17) ∧ name = [] ∧ tail = [] ∧ ty = 0 ∧ num = (0, 0) ∧ k = 1) ∨
  ((op = 8 ∨ op = 9 ∨ op = 10 ∨ op = 11 ∨ op = 12 ∨ op = 13 ∨ op = 18) ∧ name = [] ∧ tail = [] ∧ ty = 0 ∧ num = (0, 0) ∧ k = 2) ∨ (op = 19 ∧ name = [] ∧ tail = [] ∧ ty = 0 ∧ num = (0, 0) ∧ k = 3) ∨ (op = 20 ∧ ty = 0 ∧ num = (0, 0) ∧ k = 3) ∨
  ((op = 21 ∨ op = 22) ∧ tail = [] ∧ (ty = 1 ∨ ty = 2 ∨ ty = 3) ∧ num = (0, 0) ∧ k = 2)
mutual
def gX : Ex → Prop
  | .mk op name tail ty num us _ => nodeG op name tail ty num us.length ∧ gXs us
def gXs : List Ex → Prop
  | [] => True
  | e :: r => gX e ∧ gXs r
end
/-- the mark behind does not go on at this level or a stronger one -/
def Stop (lv : Nat) (rest : List M) : Prop := ∃ m r, rest = m :: r ∧ isW m sOpen = false ∧ ∀ lv' op, strOf m = some (lv', op) → lv' < lv
theorem Stop.mono {lv lv' : Nat} {rest : List M} (h : Stop lv rest) (hl : lv ≤ lv') : Stop lv' rest := by
  obtain ⟨m, r, rfl, h0, h1⟩ := h
  exact ⟨m, r, rfl, h0, fun a b c => Nat.lt_of_lt_of_le (h1 a b c) hl⟩
/-- what reads a row down from a stronger level -/
theorem row_down {l : Lim} {n : Int} {e : Ex} {ms rest : List M} : ∀ (k lv : Nat), lv + k ≤ 4 → Stop lv rest → P l (.row n (lv + k) ms) (.ok [.e e] rest) → P l (.row n lv ms) (.ok [.e e] rest)
  | 0, lv, _, _, h => h
  | k + 1, lv, hk, hs, h => by
    have h1 := row_down k (lv + 1) (by omega) (hs.mono (by omega)) (by rw [show lv + 1 + k = lv + (k + 1) by omega]; exact h)
    obtain ⟨m, r, rfl, h0, h2⟩ := hs
    refine .row (by omega) h1 (.stop n e r ?_)
    cases hm : strOf m with
    | none => simp
    | some p =>
      obtain ⟨lv', op⟩ := p
      have := h2 lv' op hm
      simp; omega
/-- with what a row begins -/
def goodH (m : M) : Prop := isB m = false ∧ isW m tIf = false ∧ isW m sClose = false
theorem isW_two {m : M} {s t : List UInt8} (h : isW m s = true) (hst : s ≠ t) : isW m t = false := by
  unfold isW at *
  cases hk : (m.kind == 1 || m.kind == 3)
  · rw [hk] at h; cases h
  · rw [hk] at h
    simp only [Bool.true_and, beq_iff_eq] at h ⊢
    rw [h]; simpa using hst
theorem isW_nk {m : M} (h1 : m.kind ≠ 1) (h3 : m.kind ≠ 3) (s : List UInt8) : isW m s = false := by
  unfold isW; simp [h1, h3]
theorem goodH_kind {m : M} (h1 : m.kind ≠ 1) (h3 : m.kind ≠ 3) : goodH m := by
  unfold goodH isB; simp [isW_nk h1 h3]
theorem goodH_w {m : M} {s : List UInt8} (h : isW m s = true) (hs : s ≠ tLet ∧ s ≠ tStrict ∧ s ≠ tCase ∧ s ≠ tIf ∧ s ≠ sClose) : goodH m := by
  unfold goodH isB
  rw [isW_two h hs.1, isW_two h hs.2.1, isW_two h hs.2.2.1, isW_two h hs.2.2.2.1, isW_two h hs.2.2.2.2]
  simp
def headP (j : Job) (r : Res) : Prop :=
  match j, r with
  | .row _ _ ms, .ok _ _ => ∃ m k, ms = m :: k ∧ goodH m
  | .unit _ ms, .ok _ _ => ∃ m k, ms = m :: k ∧ goodH m
  | .expr _ ms, .ok _ _ => ∃ m k, ms = m :: k ∧ isW m sClose = false
  | _, _ => True
theorem P_head {l : Lim} {j : Job} {r : Res} (h : P l j r) : headP j r := by
  induction h with
  | bind h hn hr ih =>
    rename_i m ms r
    cases hq : r.map (bindEx m) with
    | bad w p => exact trivial
    | ok vs rest =>
      refine ⟨_, _, rfl, ?_⟩
      unfold isB at h
      simp only [Bool.or_eq_true] at h
      rcases h with (h | h) | h <;> exact isW_two h (by decide)
  | cond h hr ih =>
    rename_i m ms r
    cases hq : r.map (ifEx m) with
    | bad w p => exact trivial
    | ok vs rest => exact ⟨_, _, rfl, isW_two h (by decide)⟩
  | expr h h' hr ih =>
    rename_i m ms r
    cases r with
    | bad w p => exact trivial
    | ok vs rest =>
      obtain ⟨a, b, h1, h2⟩ := ih
      cases h1
      exact ⟨_, _, rfl, h2.2.2⟩
  | row4 hr ih =>
    rename_i n ms r
    cases r with
    | bad w p => exact trivial
    | ok vs rest => exact ih
  | row h h1 hr ih1 ih2 =>
    rename_i n lv e ms ms' r
    cases r with
    | bad w p => exact trivial
    | ok vs rest => exact ih1
  | num n ms h => exact ⟨_, _, rfl, goodH_kind (by rw [h]; decide) (by rw [h]; decide)⟩
  | var n ms h hk => exact ⟨_, _, rfl, goodH_kind (by rw [h]; decide) (by rw [h]; decide)⟩
  | call h hk hr ih =>
    rename_i n m k ms r
    cases hq : r.map (callEx m) with
    | bad w p => exact trivial
    | ok vs rest => exact ⟨_, _, rfl, goodH_kind (by rw [h]; decide) (by rw [h]; decide)⟩
  | par h hr ih =>
    rename_i n m ms r
    cases hq : r.map parEx with
    | bad w p => exact trivial
    | ok vs rest => exact ⟨_, _, rfl, goodH_w h (by decide)⟩
  | word0 n ms h =>
    rename_i op m
    refine ⟨_, _, rfl, ?_⟩
    unfold word0 at h
    repeat' split at h
    · exact goodH_w ‹_› (by decide)
    · exact goodH_w ‹_› (by decide)
    · exact goodH_w ‹_› (by decide)
    · cases h
  | fail h hr ih =>
    rename_i n m ms r
    cases hq : r.map (failEx m) with
    | bad w p => exact trivial
    | ok vs rest => exact ⟨_, _, rfl, goodH_w h (by decide)⟩
  | word1 h hr ih =>
    rename_i n op m ms r
    cases hq : r.map (oneEx op m) with
    | bad w p => exact trivial
    | ok vs rest =>
      refine ⟨_, _, rfl, ?_⟩
      unfold word1 at h
      repeat' split at h
      · exact goodH_w ‹_› (by decide)
      · exact goodH_w ‹_› (by decide)
      · exact goodH_w ‹_› (by decide)
      · exact goodH_w ‹_› (by decide)
      · cases h
  | _ => first | exact trivial | (unfold headP; split <;> trivial)
/-- the job that reads what is printed where a level is wanted -/
def job (n : Int) (w : Nat) (ms : List M) : Job := if w = 0 then .expr n ms else .row n (w - 1) ms
def lvE (e : Ex) : Nat := (levelN (opX e)).toNat
def mXw (w : Nat) (e : Ex) : List M := mB (decide (lvE e < w)) (mX e)
def SX (l : Lim) (e : Ex) : Prop := ∀ (w : Nat), w ≤ 5 → ∀ n ms rest, eqMs ms (mXw w e) → n + dep e ≤ l.nest → Stop (w - 1) rest → ∃ e', unp e' = unp e ∧ P l (job n w (ms ++ rest)) (.ok [.e e'] rest)
def BX (l : Lim) (e : Ex) : Prop := ∀ n ms rest, eqMs ms (mX e) → n + dep e ≤ l.nest → Stop (lvE e - 1) rest → ∃ e', unp e' = unp e ∧ P l (job n (lvE e) (ms ++ rest)) (.ok [.e e'] rest)
theorem lvE_le (e : Ex) : lvE e ≤ 5 := by
  unfold lvE levelN
  repeat' split
  all_goals decide
theorem expr_of_row {l : Lim} {n : Int} {e : Ex} {ms rest : List M} (h : P l (.row n 0 ms) (.ok [.e e] rest)) : P l (.expr n ms) (.ok [.e e] rest) := by
  obtain ⟨m, k, rfl, hh⟩ := P_head h
  exact .expr hh.1 hh.2.1 h
theorem job_down {l : Lim} {n : Int} {e : Ex} {ms rest : List M} {v w : Nat} (hv : v ≤ 5) (hw : w ≤ v) (hs : Stop (w - 1) rest) (h : P l (job n v ms) (.ok [.e e] rest)) : P l (job n w ms) (.ok [.e e] rest) := by
  unfold job at h ⊢
  by_cases hv0 : v = 0
  · obtain rfl : w = 0 := by omega
    rw [if_pos hv0] at h; rw [if_pos rfl]; exact h
  · rw [if_neg hv0] at h
    have h' : P l (.row n (w - 1) ms) (.ok [.e e] rest) := row_down (v - 1 - (w - 1)) (w - 1) (by omega) hs (by rw [show w - 1 + (v - 1 - (w - 1)) = v - 1 by omega]; exact h)
    by_cases hw0 : w = 0
    · subst hw0; rw [if_pos rfl]; exact expr_of_row h'
    · rw [if_neg hw0]; exact h'
theorem isW_mS (s t : List UInt8) : isW (mS s) t = (s == t) := by unfold isW mS; simp
theorem isW_mW (s t : List UInt8) : isW (mW s) t = (s == t) := by unfold isW mW; simp
theorem stop_close {m : M} (h : eqM m (mS sClose)) (lv : Nat) (r : List M) : Stop lv (m :: r) := by
  refine ⟨m, r, rfl, by rw [isW_eq h, isW_mS]; decide, fun a b c => ?_⟩
  rw [strOf_eq h] at c
  exact absurd c (by simp [strOf, isW_mS])
theorem S_of_B {l : Lim} {e : Ex} (hB : BX l e) : SX l e := by
  intro w hw n ms rest hm hn hs
  unfold mXw mB at hm
  by_cases hlw : lvE e < w
  · rw [decide_eq_true hlw] at hm
    simp only [cond_true, List.cons_append] at hm
    obtain ⟨m, r, rfl, h1, h2⟩ := eqMs_cons hm
    obtain ⟨x, y, rfl, h3, h4⟩ := eqMs_app h2
    obtain ⟨c, z, rfl, h5, h6⟩ := eqMs_cons h4
    obtain rfl := eqMs_nil h6
    obtain ⟨e', hu, hp⟩ := hB n x (c :: rest) h3 hn (stop_close h5 _ _)
    have hp0 := job_down (w := 0) (lvE_le e) (Nat.zero_le _) (stop_close h5 _ _) hp
    refine ⟨e', hu, ?_⟩
    have hop : isW m sOpen = true := by rw [isW_eq h1, isW_mS]; decide
    have hcl : isW c sClose = true := by rw [isW_eq h5, isW_mS]; decide
    have hun : P l (.unit n (m :: (x ++ (c :: rest)))) (.ok [.e e'] rest) := by
      have := P.par hop (P.e (n := n) (is := [.w sClose]) hp0 (P.w hcl (P.nil n rest)))
      exact this
    have hr : P l (job n 5 (m :: (x ++ (c :: rest)))) (.ok [.e e'] rest) := .row4 hun
    have := job_down (w := w) (Nat.le_refl 5) hw hs hr
    simpa using this
  · rw [decide_eq_false hlw] at hm
    simp only [cond_false] at hm
    obtain ⟨e', hu, hp⟩ := hB n ms rest hm hn (hs.mono (by omega))
    exact ⟨e', hu, job_down (lvE_le e) (by omega) hs hp⟩
/-! the operations -/
theorem lv_nn (op : Int) : 0 ≤ levelN op := by
  unfold levelN
  repeat' split
  all_goals omega
theorem mB0 (o : Int) (s : List M) : mB (decide (levelN o < 0)) s = s := by
  rw [decide_eq_false (by have := lv_nn o; omega)]; rfl
theorem mXw_eq (w : Nat) (a : Ex) : mB (decide (levelN (opX a) < (w : Int))) (mX a) = mXw w a := by
  unfold mXw lvE
  congr 1
  have := lv_nn (opX a)
  rw [decide_eq_decide]; omega
theorem mXw0 (a : Ex) : mXw 0 a = mX a := by unfold mXw; rfl
theorem stop_m {lv : Nat} {m : M} {s : List UInt8} (h : eqM m (mS s)) (r : List M) (h0 : s ≠ sOpen) (hs : ∀ lv' op, strOf (mS s) = some (lv', op) → lv' < lv) : Stop lv (m :: r) :=
  ⟨m, r, rfl, by rw [isW_eq h, isW_mS]; simpa using h0, fun a b c => hs a b (by rw [← strOf_eq h]; exact c)⟩
theorem stop_w {m : M} {s : List UInt8} (lv : Nat) (h : eqM m (mW s)) (r : List M) (h0 : s ≠ sOpen) (hs : strOf (mW s) = none) : Stop lv (m :: r) :=
  ⟨m, r, rfl, by rw [isW_eq h, isW_mW]; simpa using h0, fun a b c => by rw [strOf_eq h, hs] at c; cases c⟩
def CX (l : Lim) (e : Ex) (lv : Nat) : Prop := ∀ n ms rest, eqMs ms (mXw (lv + 1) e) → n + dep e ≤ l.nest → Stop (lv + 1) rest → ∃ e', unp e' = unp e ∧ ∀ r, P l (.tail n lv e' rest) r → P l (.row n lv (ms ++ rest)) r
theorem C_of_S {l : Lim} {e : Ex} {lv : Nat} (hlv : lv = 2 ∨ lv = 3) (hne : lvE e ≠ lv + 1) (hS : SX l e) : CX l e lv := by
  intro n ms rest hm hn hs
  have he : mXw (lv + 1) e = mXw (lv + 2) e := by
    unfold mXw
    congr 1
    rw [decide_eq_decide]; omega
  rw [he] at hm
  obtain ⟨e', hu, hp⟩ := hS (lv + 2) (by omega) n ms rest hm hn hs
  refine ⟨e', hu, fun r hr => ?_⟩
  unfold job at hp
  rw [if_neg (by omega)] at hp
  exact .row (by omega) hp hr
theorem two_marks {op : Int} (h : op = 8 ∨ op = 9 ∨ op = 10 ∨ op = 11 ∨ op = 12 ∨ op = 13 ∨ op = 18) (nm tl : List UInt8) (ty : Int) (num : Int × Int) (a b : Ex) (pos : Int) :
    mX (.mk op nm tl ty num [a, b] pos) = mB (decide (levelN (opX a) < (signT op).2.1)) (mX a) ++ mS (signM op) :: mB (decide (levelN (opX b) < (signT op).2.2)) (mX b) := by
  have h' : op = 18 ∨ op = 12 ∨ op = 13 ∨ op = 8 ∨ op = 9 ∨ op = 10 ∨ op = 11 := by omega
  simp only [mX, mXs, nodeM, if_pos h']
  rfl
theorem dep_two {op : Int} (h : op = 8 ∨ op = 9 ∨ op = 10 ∨ op = 11 ∨ op = 12 ∨ op = 13 ∨ op = 18) (nm tl : List UInt8) (ty : Int) (num : Int × Int) (a b : Ex) (pos : Int) : dep a ≤ dep (.mk op nm tl ty num [a, b] pos) ∧ dep b ≤ dep (.mk op nm tl ty num [a, b] pos) := by
  simp only [dep, deps, depN]
  rw [if_neg (by omega)]
  omega
theorem C_two {l : Lim} {op : Int} {lv : Nat} (h : (lv = 2 ∧ (op = 8 ∨ op = 9)) ∨ (lv = 3 ∧ (op = 10 ∨ op = 11))) {a b : Ex} {pos : Int} (ha : CX l a lv) (hb : SX l b) : CX l (.mk op [] [] 0 (0, 0) [a, b] pos) lv := by
  have hop : op = 8 ∨ op = 9 ∨ op = 10 ∨ op = 11 ∨ op = 12 ∨ op = 13 ∨ op = 18 := by omega
  have hlv : lvE (.mk op [] [] 0 (0, 0) [a, b] pos) = lv + 1 ∧ (signT op).2.1 = ((lv + 1 : Nat) : Int) ∧ (signT op).2.2 = ((lv + 2 : Nat) : Int) ∧ strOf (mS (signM op)) = some (lv, op) ∧ signM op ≠ sOpen := by
    rcases h with ⟨rfl, rfl | rfl⟩ | ⟨rfl, rfl | rfl⟩ <;> exact ⟨by rfl, by rfl, by rfl, by decide, by decide⟩
  obtain ⟨h1, h2, h3, h4, h5⟩ := hlv
  obtain ⟨d1, d2⟩ := dep_two hop [] [] 0 (0, 0) a b pos
  intro n ms rest hm hn hs
  have hmx : mXw (lv + 1) (.mk op [] [] 0 (0, 0) [a, b] pos) = mX (.mk op [] [] 0 (0, 0) [a, b] pos) := by
    unfold mXw; rw [h1, decide_eq_false (by omega)]; rfl
  rw [hmx, two_marks hop, h2, h3, mXw_eq, mXw_eq] at hm
  obtain ⟨x, y, rfl, m1, m2⟩ := eqMs_app hm
  obtain ⟨m, z, rfl, m3, m4⟩ := eqMs_cons m2
  have hstr : strOf m = some (lv, op) := by rw [strOf_eq m3, h4]
  obtain ⟨a', ua, pa⟩ := ha n x (m :: (z ++ rest)) m1 (by omega) (stop_m m3 _ h5 (fun lv' op' h => by rw [h4] at h; cases h; omega))
  obtain ⟨b', ub, pb⟩ := hb (lv + 2) (by omega) n z rest m4 (by omega) hs
  unfold job at pb
  rw [if_neg (by omega)] at pb
  refine ⟨two op a' b' m.pos, by simp [two, unp, unps, ua, ub], fun r hr => ?_⟩
  have := pa r (.tail2 hstr (by omega) (by unfold right; rw [if_neg (by omega)]; exact pb) hr)
  simpa using this
theorem B_of_C {l : Lim} {e : Ex} {lv : Nat} (hl : lvE e = lv + 1) (hC : CX l e lv) : BX l e := by
  intro n ms rest hm hn hs
  rw [hl] at hs ⊢
  have hm' : eqMs ms (mXw (lv + 1) e) := by unfold mXw; rw [hl, decide_eq_false (by omega)]; exact hm
  obtain ⟨e', hu, hp⟩ := hC n ms rest hm' hn (hs.mono (by omega))
  refine ⟨e', hu, ?_⟩
  unfold job
  rw [if_neg (by omega)]
  obtain ⟨m, r, rfl, h0, h2⟩ := hs
  refine hp _ (.stop n e' r ?_)
  cases hm : strOf m with
  | none => simp
  | some p =>
    obtain ⟨lv', op⟩ := p
    have := h2 lv' op hm
    simp; omega
theorem B_one {l : Lim} {op : Int} (h : op = 12 ∨ op = 13 ∨ op = 18) {a b : Ex} {pos : Int} (ha : SX l a) (hb : SX l b) : BX l (.mk op [] [] 0 (0, 0) [a, b] pos) := by
  have hop : op = 8 ∨ op = 9 ∨ op = 10 ∨ op = 11 ∨ op = 12 ∨ op = 13 ∨ op = 18 := by omega
  obtain ⟨lv, wb, h1, h2, h3, h4, h5, h6, h7⟩ : ∃ lv wb : Nat, lvE (.mk op [] [] 0 (0, 0) [a, b] pos) = lv + 1 ∧ (signT op).2.1 = ((lv + 2 : Nat) : Int) ∧ (signT op).2.2 = ((wb : Nat) : Int) ∧ strOf (mS (signM op)) = some (lv, op) ∧ signM op ≠ sOpen ∧ lv < 2 ∧ (wb = right lv + 1 ∧ lv ≤ right lv) := by
    rcases h with rfl | rfl | rfl
    · exact ⟨1, 3, by rfl, by rfl, by rfl, by decide, by decide, by decide, by decide⟩
    · exact ⟨1, 3, by rfl, by rfl, by rfl, by decide, by decide, by decide, by decide⟩
    · exact ⟨0, 1, by rfl, by rfl, by rfl, by decide, by decide, by decide, by decide⟩
  obtain ⟨d1, d2⟩ := dep_two hop [] [] 0 (0, 0) a b pos
  have hr3 : right lv ≤ 2 := by unfold right; split <;> omega
  intro n ms rest hm hn hs
  rw [two_marks hop, h2, h3, mXw_eq, mXw_eq] at hm
  rw [h1] at hs ⊢
  obtain ⟨x, y, rfl, m1, m2⟩ := eqMs_app hm
  obtain ⟨m, z, rfl, m3, m4⟩ := eqMs_cons m2
  have hstr : strOf m = some (lv, op) := by rw [strOf_eq m3, h4]
  obtain ⟨a', ua, pa⟩ := ha (lv + 2) (by omega) n x (m :: (z ++ rest)) m1 (by omega) (stop_m m3 _ h5 (fun lv' op' h => by rw [h4] at h; cases h; omega))
  obtain ⟨b', ub, pb⟩ := hb wb (by omega) n z rest m4 (by omega) (hs.mono (by omega))
  unfold job at pa pb ⊢
  rw [if_neg (by omega)] at pa pb ⊢
  refine ⟨two op a' b' m.pos, by simp [two, unp, unps, ua, ub], ?_⟩
  have := P.row (l := l) (show lv < 4 by omega) pa (.tail1 hstr h6 (by rw [show right lv = wb - 1 by omega]; exact pb))
  simpa using this
theorem B_unit {l : Lim} {e : Ex} (hl : lvE e = 5) (h : ∀ n ms rest, eqMs ms (mX e) → n + dep e ≤ l.nest → (∃ m r, rest = m :: r ∧ isW m sOpen = false) → ∃ e', unp e' = unp e ∧ P l (.unit n (ms ++ rest)) (.ok [.e e'] rest)) : BX l e := by
  intro n ms rest hm hn hs
  obtain ⟨m, r, rfl, h0, _⟩ := hs
  obtain ⟨e', hu, hp⟩ := h n ms (m :: r) hm hn ⟨m, r, rfl, h0⟩
  rw [hl]
  exact ⟨e', hu, .row4 hp⟩
theorem B_num {l : Lim} (num : Int × Int) (pos : Int) : BX l (.mk 1 [] [] 0 num [] pos) := by
  refine B_unit rfl fun n ms rest hm hn hs => ?_
  obtain ⟨m, r, rfl, h1, h2⟩ := eqMs_cons (show eqMs ms [(⟨2, textL num.1 num.2, num, 0⟩ : M)] from hm)
  obtain rfl := eqMs_nil h2
  exact ⟨_, by simp [unp, unps, h1.2.2], .num n rest h1.1⟩
theorem B_word0 {l : Lim} {op : Int} {s : List UInt8} (h : (op = 2 ∧ s = tTrue) ∨ (op = 3 ∧ s = tFalse) ∨ (op = 4 ∧ s = tNil)) (pos : Int) : BX l (.mk op [] [] 0 (0, 0) [] pos) := by
  have hx : lvE (.mk op [] [] 0 (0, 0) [] pos) = 5 ∧ mX (.mk op [] [] 0 (0, 0) [] pos) = [mW s] ∧ word0 (mW s) = some op := by
    rcases h with ⟨rfl, rfl⟩ | ⟨rfl, rfl⟩ | ⟨rfl, rfl⟩ <;> exact ⟨by rfl, by rfl, by decide⟩
  refine B_unit hx.1 fun n ms rest hm hn hs => ?_
  rw [hx.2.1] at hm
  obtain ⟨m, r, rfl, h1, h2⟩ := eqMs_cons hm
  obtain rfl := eqMs_nil h2
  refine ⟨_, by simp [unp, unps], .word0 n rest (show word0 m = some op from ?_)⟩
  have := hx.2.2
  unfold word0 at this ⊢
  simpa only [isW_eq h1] using this
theorem typ_m {m : M} {t : Int} (ht : t = 1 ∨ t = 2 ∨ t = 3) (h : eqM m (mY t)) : typOf m = some t := by
  rw [typOf_eq h]
  rcases ht with rfl | rfl | rfl <;> decide
theorem B_fail {l : Lim} {ty : Int} (ht : ty = 1 ∨ ty = 2 ∨ ty = 3) (pos : Int) : BX l (.mk 5 [] [] ty (0, 0) [] pos) := by
  refine B_unit rfl fun n ms rest hm hn hs => ?_
  obtain ⟨m, r, rfl, h1, h2⟩ := eqMs_cons (show eqMs ms [mW tFail, mY ty] from hm)
  obtain ⟨k, r, rfl, h3, h4⟩ := eqMs_cons h2
  obtain rfl := eqMs_nil h4
  have := P.fail (l := l) (n := n) (m := m) (by rw [isW_eq h1, isW_mW]; decide) (.ty (typ_m ht h3) (.nil n rest))
  exact ⟨_, by simp [unp, unps], this⟩
theorem B_var {l : Lim} (nm : List UInt8) (pos : Int) : BX l (.mk 6 nm [] 0 (0, 0) [] pos) := by
  refine B_unit rfl fun n ms rest hm hn hs => ?_
  obtain ⟨m, r, rfl, h1, h2⟩ := eqMs_cons (show eqMs ms [mN nm] from hm)
  obtain rfl := eqMs_nil h2
  obtain ⟨k, r, rfl, h0⟩ := hs
  exact ⟨_, by simp [unp, unps, h1.2.1, mN], .var n r h1.1 h0⟩
def mTail (us : List Ex) : List M := us.flatMap fun u => mS sComma :: mX u
theorem commas_tail (a : Ex) (r : List Ex) : mCommas ((mXs (a :: r)).map Prod.snd) = mX a ++ mTail r := by
  induction r generalizing a with
  | nil => simp [mXs, mCommas, mTail]
  | cons b r ih =>
    have := ih b
    simp only [mXs, List.map_cons] at this ⊢
    rw [mCommas, this]
    · simp [mTail]
    · simp
theorem stop_comma {m : M} (h : eqM m (mS sComma)) (lv : Nat) (r : List M) : Stop lv (m :: r) :=
  stop_m h r (by decide) (fun a b c => absurd c (by simp [strOf, isW_mS]))
theorem S_expr {l : Lim} {u : Ex} (h : SX l u) {n : Int} {ms rest : List M} (hm : eqMs ms (mX u)) (hn : n + dep u ≤ l.nest) (hs : Stop 0 rest) : ∃ e', unp e' = unp u ∧ P l (.expr n (ms ++ rest)) (.ok [.e e'] rest) :=
  h 0 (by omega) n ms rest (by rw [mXw0]; exact hm) hn hs
theorem args_tail {l : Lim} {n : Int} {c : M} {rest : List M} (hc : eqM c (mS sClose)) : ∀ (us acc : List Ex) (ms : List M), (∀ u ∈ us, SX l u) → n + deps us ≤ l.nest → acc ≠ [] → eqMs ms (mTail us) →
    ∃ us', unps us' = unps us ∧ P l (.args n acc (ms ++ c :: rest)) (.ok [.asx (acc ++ us')] rest)
  | [], acc, ms, hS, hn, ha, hm => by
    obtain rfl := eqMs_nil hm
    have hcl : isW c sClose = true := by rw [isW_eq hc, isW_mS]; decide
    exact ⟨[], rfl, by simpa using P.aStop n acc rest hcl⟩
  | u :: us, acc, ms, hS, hn, ha, hm => by
    have hm' : eqMs ms (mS sComma :: (mX u ++ mTail us)) := by simpa [mTail] using hm
    obtain ⟨m, x, rfl, h1, h2⟩ := eqMs_cons hm'
    obtain ⟨y, z, rfl, h3, h4⟩ := eqMs_app h2
    rw [deps] at hn
    have hst : Stop 0 (z ++ c :: rest) := by
      cases us with
      | nil => obtain rfl := eqMs_nil h4; exact stop_close hc _ _
      | cons v us =>
        obtain ⟨k, w, rfl, h5, _⟩ := eqMs_cons (show eqMs z (mS sComma :: (mX v ++ mTail us)) by simpa [mTail] using h4)
        exact stop_comma h5 _ _
    obtain ⟨e', hu, hp⟩ := S_expr (n := n) (hS u (by simp)) h3 (by omega) hst
    obtain ⟨us', hus, hps⟩ := args_tail (n := n) (rest := rest) hc us (acc ++ [e']) z (fun v hv => hS v (by simp [hv])) (by omega) (by simp) h4
    refine ⟨e' :: us', by simp [unps, hu, hus], ?_⟩
    have := P.aNext (l := l) ha (show isW m sComma = true by rw [isW_eq h1, isW_mS]; decide) hp hps
    simpa using this
theorem args_all {l : Lim} {n : Int} {c : M} {rest : List M} (hc : eqM c (mS sClose)) (us : List Ex) (ms : List M) (hS : ∀ u ∈ us, SX l u) (hn : n + deps us ≤ l.nest) (hm : eqMs ms (mCommas ((mXs us).map Prod.snd))) :
    ∃ us', unps us' = unps us ∧ P l (.args n [] (ms ++ c :: rest)) (.ok [.asx us'] rest) := by
  cases us with
  | nil =>
    obtain rfl := eqMs_nil hm
    exact ⟨[], rfl, P.aStop n [] rest (by rw [isW_eq hc, isW_mS]; decide)⟩
  | cons u us =>
    rw [commas_tail] at hm
    obtain ⟨y, z, rfl, h3, h4⟩ := eqMs_app hm
    rw [deps] at hn
    have hst : Stop 0 (z ++ c :: rest) := by
      cases us with
      | nil => obtain rfl := eqMs_nil h4; exact stop_close hc _ _
      | cons v us =>
        obtain ⟨k, w, rfl, h5, _⟩ := eqMs_cons (show eqMs z (mS sComma :: (mX v ++ mTail us)) by simpa [mTail] using h4)
        exact stop_comma h5 _ _
    obtain ⟨e', hu, hp⟩ := S_expr (n := n) (hS u (by simp)) h3 (by omega) hst
    obtain ⟨us', hus, hps⟩ := args_tail (n := n) (rest := rest) hc us [e'] z (fun v hv => hS v (by simp [hv])) (by omega) (by simp) h4
    refine ⟨e' :: us', by simp [unps, hu, hus], ?_⟩
    obtain ⟨m, k, hmk, hh⟩ := P_head hp
    rw [hmk] at hp
    rw [List.append_assoc, hmk]
    exact P.aNext0 hh hp (by simpa using hps)
theorem B_call {l : Lim} (nm : List UInt8) (us : List Ex) (pos : Int) (hS : ∀ u ∈ us, SX l u) : BX l (.mk 7 nm [] 0 (0, 0) us pos) := by
  refine B_unit rfl fun n ms rest hm hn hs => ?_
  have hn' : n + deps us ≤ l.nest := by simpa [dep, depN] using hn
  obtain ⟨m, r, rfl, h1, h2⟩ := eqMs_cons (show eqMs ms (mN nm :: mS sOpen :: (mCommas ((mXs us).map Prod.snd) ++ [mS sClose])) from hm)
  obtain ⟨k, r, rfl, h3, h4⟩ := eqMs_cons h2
  obtain ⟨y, z, rfl, h5, h6⟩ := eqMs_app h4
  obtain ⟨c, z, rfl, h7, h8⟩ := eqMs_cons h6
  obtain rfl := eqMs_nil h8
  obtain ⟨us', hus, hp⟩ := args_all (rest := rest) h7 us y hS hn' h5
  have := P.call (l := l) (m := m) h1.1 (show isW k sOpen = true by rw [isW_eq h3, isW_mS]; decide) hp
  refine ⟨.mk 7 m.text [] 0 (0, 0) us' m.pos, by simp [unp, hus, h1.2.1, mN], ?_⟩
  simpa [Res.map, callEx] using this
theorem B_word1 {l : Lim} {op : Int} {s : List UInt8} (h : (op = 14 ∧ s = tNot) ∨ (op = 15 ∧ s = tRe) ∨ (op = 16 ∧ s = tIm) ∨ (op = 17 ∧ s = tConj)) (a : Ex) (pos : Int) (hS : SX l a) : BX l (.mk op [] [] 0 (0, 0) [a] pos) := by
  have hx : lvE (.mk op [] [] 0 (0, 0) [a] pos) = 5 ∧ mX (.mk op [] [] 0 (0, 0) [a] pos) = mW s :: mS sOpen :: (mX a ++ [mS sClose]) ∧ word1 (mW s) = some op ∧ dep (.mk op [] [] 0 (0, 0) [a] pos) = dep a := by
    rcases h with ⟨rfl, rfl⟩ | ⟨rfl, rfl⟩ | ⟨rfl, rfl⟩ | ⟨rfl, rfl⟩ <;> exact ⟨by rfl, by rfl, by decide, by simp [dep, deps, depN]⟩
  refine B_unit hx.1 fun n ms rest hm hn hs => ?_
  rw [hx.2.1] at hm
  rw [hx.2.2.2] at hn
  obtain ⟨m, r, rfl, h1, h2⟩ := eqMs_cons hm
  obtain ⟨k, r, rfl, h3, h4⟩ := eqMs_cons h2
  obtain ⟨y, z, rfl, h5, h6⟩ := eqMs_app h4
  obtain ⟨c, z, rfl, h7, h8⟩ := eqMs_cons h6
  obtain rfl := eqMs_nil h8
  obtain ⟨a', ua, hp⟩ := S_expr hS h5 hn (stop_close h7 0 rest)
  have hw : word1 m = some op := by
    have := hx.2.2.1
    unfold word1 at this ⊢
    simpa only [isW_eq h1] using this
  have := P.word1 (l := l) hw (.w (show isW k sOpen = true by rw [isW_eq h3, isW_mS]; decide) (.e hp (.w (show isW c sClose = true by rw [isW_eq h7, isW_mS]; decide) (.nil n rest))))
  refine ⟨.mk op [] [] 0 (0, 0) [a'] m.pos, by simp [unp, unps, ua], ?_⟩
  simpa [Res.map, Res.cons, oneEx] using this
theorem isw {m : M} {s : List UInt8} (h : eqM m (mW s)) : isW m s = true := by rw [isW_eq h, isW_mW]; simp
theorem iss {m : M} {s : List UInt8} (h : eqM m (mS s)) : isW m s = true := by rw [isW_eq h, isW_mS]; simp
theorem B_expr {l : Lim} {e : Ex} (hl : lvE e = 0) (h : ∀ n ms rest, eqMs ms (mX e) → n + dep e ≤ l.nest → Stop 0 rest → ∃ e', unp e' = unp e ∧ P l (.expr n (ms ++ rest)) (.ok [.e e'] rest)) : BX l e := by
  intro n ms rest hm hn hs
  rw [hl] at hs ⊢
  exact h n ms rest hm hn hs
theorem B_if {l : Lim} (a b c : Ex) (pos : Int) (ha : SX l a) (hb : SX l b) (hc : SX l c) : BX l (.mk 19 [] [] 0 (0, 0) [a, b, c] pos) := by
  refine B_expr rfl fun n ms rest hm hn hs => ?_
  have hmx : mX (.mk 19 [] [] 0 (0, 0) [a, b, c] pos) = mW tIf :: (mX a ++ mW tThen :: (mX b ++ mW tElse :: mX c)) := by
    simp [mX, mXs, nodeM, mB0]
  rw [hmx] at hm
  have hd : dep (.mk 19 [] [] 0 (0, 0) [a, b, c] pos) = max (dep a) (max (dep b) (max (dep c) 0)) := by simp [dep, deps, depN]
  rw [hd] at hn
  obtain ⟨m, r, rfl, h1, h2⟩ := eqMs_cons hm
  obtain ⟨x, r, rfl, hx, h2⟩ := eqMs_app h2
  obtain ⟨k1, r, rfl, h3, h2⟩ := eqMs_cons h2
  obtain ⟨y, r, rfl, hy, h2⟩ := eqMs_app h2
  obtain ⟨k2, z, rfl, h4, hz⟩ := eqMs_cons h2
  obtain ⟨a', ua, pa⟩ := S_expr (n := n) ha hx (by omega) (stop_w 0 h3 (y ++ k2 :: (z ++ rest)) (by decide) (by decide))
  obtain ⟨b', ub, pb⟩ := S_expr (n := n) hb hy (by omega) (stop_w 0 h4 (z ++ rest) (by decide) (by decide))
  obtain ⟨c', uc, pc⟩ := S_expr (n := n) hc hz (by omega) hs
  have := P.cond (l := l) (isw h1) (.e pa (.w (isw h3) (.e pb (.w (isw h4) (.e pc (.nil n rest))))))
  refine ⟨.mk 19 [] [] 0 (0, 0) [a', b', c'] m.pos, by simp [unp, unps, ua, ub, uc], ?_⟩
  simpa [Res.map, Res.cons, ifEx] using this
theorem B_case {l : Lim} (nm tl : List UInt8) (a b c : Ex) (pos : Int) (ha : SX l a) (hb : SX l b) (hc : SX l c) : BX l (.mk 20 nm tl 0 (0, 0) [a, b, c] pos) := by
  refine B_expr rfl fun n ms rest hm hn hs => ?_
  have hmx : mX (.mk 20 nm tl 0 (0, 0) [a, b, c] pos) = mW tCase :: (mX a ++ mW tOf :: mW tNil :: mS sArrow :: (mX b ++ mS sBar :: mN nm :: mS sColon :: mN tl :: mS sArrow :: mX c)) := by
    simp [mX, mXs, nodeM, mB0]
  rw [hmx] at hm
  have hd : dep (.mk 20 nm tl 0 (0, 0) [a, b, c] pos) = max (dep a) (max (dep b) (max (dep c) 0)) + 1 := by simp [dep, deps, depN]
  rw [hd] at hn
  obtain ⟨m, r, rfl, h1, h2⟩ := eqMs_cons hm
  obtain ⟨x, r, rfl, hx, h2⟩ := eqMs_app h2
  obtain ⟨k1, r, rfl, q1, h2⟩ := eqMs_cons h2
  obtain ⟨k2, r, rfl, q2, h2⟩ := eqMs_cons h2
  obtain ⟨k3, r, rfl, q3, h2⟩ := eqMs_cons h2
  obtain ⟨y, r, rfl, hy, h2⟩ := eqMs_app h2
  obtain ⟨k4, r, rfl, q4, h2⟩ := eqMs_cons h2
  obtain ⟨k5, r, rfl, q5, h2⟩ := eqMs_cons h2
  obtain ⟨k6, r, rfl, q6, h2⟩ := eqMs_cons h2
  obtain ⟨k7, r, rfl, q7, h2⟩ := eqMs_cons h2
  obtain ⟨k8, z, rfl, q8, hz⟩ := eqMs_cons h2
  obtain ⟨a', ua, pa⟩ := S_expr (n := n + 1) ha hx (by omega) (stop_w 0 q1 (k2 :: k3 :: (y ++ k4 :: k5 :: k6 :: k7 :: k8 :: (z ++ rest))) (by decide) (by decide))
  obtain ⟨b', ub, pb⟩ := S_expr (n := n + 1) hb hy (by omega) (stop_m q4 (k5 :: k6 :: k7 :: k8 :: (z ++ rest)) (by decide) (fun a b c => absurd c (by simp [strOf, isW_mS])))
  obtain ⟨c', uc, pc⟩ := S_expr (n := n + 1) hc hz (by omega) hs
  have hB : isB m = true := by unfold isB; rw [isw h1]; simp
  have hI : bindIts m = [.e, .w tOf, .w tNil, .w sArrow, .e, .w sBar, .nm, .w sColon, .nm, .w sArrow, .e] := by unfold bindIts; rw [if_pos (isw h1)]
  have := P.bind (l := l) (n := n) hB (by omega) (by rw [hI]; exact .e pa (.w (isw q1) (.w (isw q2) (.w (iss q3) (.e pb (.w (iss q4) (.nm q5.1 (.w (iss q6) (.nm q7.1 (.w (iss q8) (.e pc (.nil (n + 1) rest))))))))))))
  refine ⟨.mk 20 k5.text k7.text 0 (0, 0) [a', b', c'] m.pos, by simp [unp, unps, ua, ub, uc, q5.2.1, q7.2.1, mN], ?_⟩
  simpa [Res.map, Res.cons, bindEx] using this
theorem B_let {l : Lim} {op : Int} {s : List UInt8} (h : (op = 21 ∧ s = tLet) ∨ (op = 22 ∧ s = tStrict)) (nm : List UInt8) {ty : Int} (ht : ty = 1 ∨ ty = 2 ∨ ty = 3) (a b : Ex) (pos : Int) (ha : SX l a) (hb : SX l b) : BX l (.mk op nm [] ty (0, 0) [a, b] pos) := by
  have hx : lvE (.mk op nm [] ty (0, 0) [a, b] pos) = 0 ∧ mX (.mk op nm [] ty (0, 0) [a, b] pos) = mW s :: mN nm :: mY ty :: mS sEq :: (mX a ++ mW tIn :: mX b) ∧ dep (.mk op nm [] ty (0, 0) [a, b] pos) = max (dep a) (max (dep b) 0) + 1 := by
    rcases h with ⟨rfl, rfl⟩ | ⟨rfl, rfl⟩ <;> exact ⟨by rfl, by simp [mX, mXs, nodeM, mB0], by simp [dep, deps, depN]⟩
  refine B_expr hx.1 fun n ms rest hm hn hs => ?_
  rw [hx.2.1] at hm
  rw [hx.2.2] at hn
  obtain ⟨m, r, rfl, h1, h2⟩ := eqMs_cons hm
  obtain ⟨k1, r, rfl, q1, h2⟩ := eqMs_cons h2
  obtain ⟨k2, r, rfl, q2, h2⟩ := eqMs_cons h2
  obtain ⟨k3, r, rfl, q3, h2⟩ := eqMs_cons h2
  obtain ⟨x, r, rfl, hx', h2⟩ := eqMs_app h2
  obtain ⟨k4, z, rfl, q4, hz⟩ := eqMs_cons h2
  obtain ⟨a', ua, pa⟩ := S_expr (n := n + 1) ha hx' (by omega) (stop_w 0 q4 (z ++ rest) (by decide) (by decide))
  obtain ⟨b', ub, pb⟩ := S_expr (n := n + 1) hb hz (by omega) hs
  have hB : isB m = true := by unfold isB; rcases h with ⟨rfl, rfl⟩ | ⟨rfl, rfl⟩ <;> rw [isw h1] <;> simp
  have hnc : isW m tCase = false := by rw [isW_eq h1, isW_mW]; rcases h with ⟨rfl, rfl⟩ | ⟨rfl, rfl⟩ <;> decide
  have hst : (if isW m tStrict then (22 : Int) else 21) = op := by rw [isW_eq h1, isW_mW]; rcases h with ⟨rfl, rfl⟩ | ⟨rfl, rfl⟩ <;> decide
  have hI : bindIts m = [.nm, .ty, .w sEq, .e, .w tIn, .e] := by unfold bindIts; rw [hnc]; rfl
  have := P.bind (l := l) (n := n) hB (by omega) (by rw [hI]; exact .nm q1.1 (.ty (typ_m ht q2) (.w (iss q3) (.e pa (.w (isw q4) (.e pb (.nil (n + 1) rest)))))))
  refine ⟨.mk op k1.text [] ty (0, 0) [a', b'] m.pos, by simp [unp, unps, ua, ub, q1.2.1, mN], ?_⟩
  have hbe : bindEx m [.nm k1, .ty ty, .u, .e a', .u, .e b'] = [.e (.mk op k1.text [] ty (0, 0) [a', b'] m.pos)] := by simp only [bindEx]; rw [hst]
  simp only [Res.map, Res.cons] at this
  rw [hbe] at this
  simpa using this
theorem len_two {us : List Ex} (h : us.length = 2) : ∃ a b, us = [a, b] := by
  match us, h with
  | [a, b], _ => exact ⟨a, b, rfl⟩
theorem len_three {us : List Ex} (h : us.length = 3) : ∃ a b c, us = [a, b, c] := by
  match us, h with
  | [a, b, c], _ => exact ⟨a, b, c, rfl⟩
theorem lvE_mk (op : Int) (nm tl : List UInt8) (ty : Int) (num : Int × Int) (us : List Ex) (pos : Int) : lvE (.mk op nm tl ty num us pos) = (levelN op).toNat := rfl
/-- every expression that the grammar can give is read back from its printed marks -/
theorem back_all (l : Lim) : ∀ e : Ex, gX e → SX l e ∧ CX l e 2 ∧ CX l e 3
  | .mk op nm tl ty num us pos, hg => by
    obtain ⟨hg, hgs⟩ := hg
    have ih : ∀ u ∈ us, gX u → SX l u ∧ CX l u 2 ∧ CX l u 3 := fun u hu h => back_all l u h
    have hmem : ∀ u ∈ us, gX u := by
      clear ih hg
      induction us with
      | nil => intro u hu; simp at hu
      | cons a r ih =>
        intro u hu
        rcases List.mem_cons.1 hu with rfl | hu
        · exact hgs.1
        · exact ih hgs.2 u hu
    have fin : ∀ e : Ex, lvE e ≠ 3 → lvE e ≠ 4 → BX l e → SX l e ∧ CX l e 2 ∧ CX l e 3 := fun e h3 h4 hB =>
      ⟨S_of_B hB, C_of_S (.inl rfl) h3 (S_of_B hB), C_of_S (.inr rfl) h4 (S_of_B hB)⟩
    rcases hg with ⟨rfl, rfl, rfl, rfl, hk⟩ | ⟨hop, rfl, rfl, rfl, rfl, hk⟩ | ⟨rfl, rfl, rfl, ht, rfl, hk⟩ | ⟨rfl, rfl, rfl, rfl, hk⟩ | ⟨rfl, rfl, rfl, rfl⟩ | ⟨hop, rfl, rfl, rfl, rfl, hk⟩ | ⟨hop, rfl, rfl, rfl, rfl, hk⟩ | ⟨rfl, rfl, rfl, rfl, rfl, hk⟩ | ⟨rfl, rfl, rfl, hk⟩ | ⟨hop, rfl, ht, rfl, hk⟩
    · obtain rfl := List.eq_nil_of_length_eq_zero hk
      exact fin _ (by rw [lvE_mk]; decide) (by rw [lvE_mk]; decide) (B_num num pos)
    · obtain rfl := List.eq_nil_of_length_eq_zero hk
      rcases hop with rfl | rfl | rfl
      · exact fin _ (by rw [lvE_mk]; decide) (by rw [lvE_mk]; decide) (B_word0 (.inl ⟨rfl, rfl⟩) pos)
      · exact fin _ (by rw [lvE_mk]; decide) (by rw [lvE_mk]; decide) (B_word0 (.inr (.inl ⟨rfl, rfl⟩)) pos)
      · exact fin _ (by rw [lvE_mk]; decide) (by rw [lvE_mk]; decide) (B_word0 (.inr (.inr ⟨rfl, rfl⟩)) pos)
    · obtain rfl := List.eq_nil_of_length_eq_zero hk
      exact fin _ (by rw [lvE_mk]; decide) (by rw [lvE_mk]; decide) (B_fail ht pos)
    · obtain rfl := List.eq_nil_of_length_eq_zero hk
      exact fin _ (by rw [lvE_mk]; decide) (by rw [lvE_mk]; decide) (B_var nm pos)
    · exact fin _ (by rw [lvE_mk]; decide) (by rw [lvE_mk]; decide) (B_call nm us pos fun u hu => (ih u hu (hmem u hu)).1)
    · obtain ⟨a, rfl⟩ := List.length_eq_one_iff.1 hk
      have hS := (ih a (by simp) (hmem a (by simp))).1
      rcases hop with rfl | rfl | rfl | rfl
      · exact fin _ (by rw [lvE_mk]; decide) (by rw [lvE_mk]; decide) (B_word1 (.inl ⟨rfl, rfl⟩) a pos hS)
      · exact fin _ (by rw [lvE_mk]; decide) (by rw [lvE_mk]; decide) (B_word1 (.inr (.inl ⟨rfl, rfl⟩)) a pos hS)
      · exact fin _ (by rw [lvE_mk]; decide) (by rw [lvE_mk]; decide) (B_word1 (.inr (.inr (.inl ⟨rfl, rfl⟩))) a pos hS)
      · exact fin _ (by rw [lvE_mk]; decide) (by rw [lvE_mk]; decide) (B_word1 (.inr (.inr (.inr ⟨rfl, rfl⟩))) a pos hS)
    · obtain ⟨a, b, rfl⟩ := len_two hk
      obtain ⟨sa, ca2, ca3⟩ := ih a (by simp) (hmem a (by simp))
      obtain ⟨sb, cb2, cb3⟩ := ih b (by simp) (hmem b (by simp))
      have two2 : ∀ op : Int, (op = 8 ∨ op = 9) → SX l (.mk op [] [] 0 (0, 0) [a, b] pos) ∧ CX l (.mk op [] [] 0 (0, 0) [a, b] pos) 2 ∧ CX l (.mk op [] [] 0 (0, 0) [a, b] pos) 3 := fun op h => by
        have hl : lvE (.mk op [] [] 0 (0, 0) [a, b] pos) = 3 := by rw [lvE_mk]; rcases h with rfl | rfl <;> decide
        have hC := C_two (l := l) (pos := pos) (.inl ⟨rfl, h⟩) ca2 sb
        have hS := S_of_B (B_of_C hl hC)
        exact ⟨hS, hC, C_of_S (.inr rfl) (by omega) hS⟩
      have two3 : ∀ op : Int, (op = 10 ∨ op = 11) → SX l (.mk op [] [] 0 (0, 0) [a, b] pos) ∧ CX l (.mk op [] [] 0 (0, 0) [a, b] pos) 2 ∧ CX l (.mk op [] [] 0 (0, 0) [a, b] pos) 3 := fun op h => by
        have hl : lvE (.mk op [] [] 0 (0, 0) [a, b] pos) = 4 := by rw [lvE_mk]; rcases h with rfl | rfl <;> decide
        have hC := C_two (l := l) (pos := pos) (.inr ⟨rfl, h⟩) ca3 sb
        have hS := S_of_B (B_of_C hl hC)
        exact ⟨hS, C_of_S (.inl rfl) (by omega) hS, hC⟩
      rcases hop with rfl | rfl | rfl | rfl | rfl | rfl | rfl
      · exact two2 8 (.inl rfl)
      · exact two2 9 (.inr rfl)
      · exact two3 10 (.inl rfl)
      · exact two3 11 (.inr rfl)
      · exact fin _ (by rw [lvE_mk]; decide) (by rw [lvE_mk]; decide) (B_one (by omega) sa sb)
      · exact fin _ (by rw [lvE_mk]; decide) (by rw [lvE_mk]; decide) (B_one (by omega) sa sb)
      · exact fin _ (by rw [lvE_mk]; decide) (by rw [lvE_mk]; decide) (B_one (by omega) sa sb)
    · obtain ⟨a, b, c, rfl⟩ := len_three hk
      exact fin _ (by rw [lvE_mk]; decide) (by rw [lvE_mk]; decide) (B_if a b c pos (ih a (by simp) (hmem a (by simp))).1 (ih b (by simp) (hmem b (by simp))).1 (ih c (by simp) (hmem c (by simp))).1)
    · obtain ⟨a, b, c, rfl⟩ := len_three hk
      exact fin _ (by rw [lvE_mk]; decide) (by rw [lvE_mk]; decide) (B_case nm tl a b c pos (ih a (by simp) (hmem a (by simp))).1 (ih b (by simp) (hmem b (by simp))).1 (ih c (by simp) (hmem c (by simp))).1)
    · obtain ⟨a, b, rfl⟩ := len_two hk
      have sa := (ih a (by simp) (hmem a (by simp))).1
      have sb := (ih b (by simp) (hmem b (by simp))).1
      rcases hop with rfl | rfl
      · exact fin _ (by rw [lvE_mk]; decide) (by rw [lvE_mk]; decide) (B_let (.inl ⟨rfl, rfl⟩) nm ht a b pos sa sb)
      · exact fin _ (by rw [lvE_mk]; decide) (by rw [lvE_mk]; decide) (B_let (.inr ⟨rfl, rfl⟩) nm ht a b pos sa sb)
termination_by e => SizeOf.sizeOf e
decreasing_by
  have := List.sizeOf_lt_of_mem hu
  simp only [Ex.mk.sizeOf_spec]
  omega
end Pg
end Go.Proofs.YtgddkgbidhhheaaDoor
