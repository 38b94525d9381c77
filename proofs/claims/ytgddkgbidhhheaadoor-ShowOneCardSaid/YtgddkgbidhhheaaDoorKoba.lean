/- Texts joined: Bkb Bkc Bkd. -/
import Derived.Test.YtgddkgbidhhheaaDoorKoaz
import Derived.Test.YtgddkgbidhhheaaDoorKoav
import Derived.Test.YtgddkgbidhhheaaDoorKoat
/- A printed program is read back: from marks, whole programs. No program in sight. -/
set_option linter.unusedVariables false
set_option linter.unusedSimpArgs false
namespace Go.Proofs.YtgddkgbidhhheaaDoor
namespace Pg
open Mk Flo
def pmM (p : Pm) : List M := [mN p.name, mY p.ty]
def pTail (ps : List Pm) : List M := ps.flatMap fun p => mS sComma :: pmM p
def pmsM : List Pm → List M
  | [] => []
  | p :: r => pmM p ++ pTail r
def fdM (f : Fd) : List M := mN f.name :: mS sOpen :: (pmsM f.params ++ mS sClose :: mS sColon :: mY f.ty :: mS sEq :: (mX f.body ++ [mS sSemi]))
def unpP (p : Pm) : Pm := ⟨p.name, p.ty, 0⟩
def unpF (f : Fd) : Fd := ⟨f.name, f.params.map unpP, f.ty, unp f.body, 0⟩
def tyG (t : Int) : Prop := t = 1 ∨ t = 2 ∨ t = 3
/-- a definition that the grammar can give under the limits -/
def gF (l : Lim) (f : Fd) : Prop := (∀ p ∈ f.params, tyG p.ty) ∧ (f.params.length : Int) ≤ l.arity ∧ tyG f.ty ∧ gX f.body ∧ (dep f.body : Int) ≤ l.nest
theorem pars_tail {l : Lim} {c : M} {rest : List M} (hc : eqM c (mS sClose)) : ∀ (ps acc : List Pm) (ms : List M), (∀ p ∈ ps, tyG p.ty) → ((acc.length + ps.length : Nat) : Int) ≤ l.arity → acc ≠ [] → eqMs ms (pTail ps) →
    ∃ ps', ps'.map unpP = ps.map unpP ∧ P l (.pars acc (ms ++ c :: rest)) (.ok [.ps (acc ++ ps')] rest)
  | [], acc, ms, hS, hn, ha, hm => by
    obtain rfl := eqMs_nil hm
    exact ⟨[], rfl, by simpa using P.pStop acc rest (iss hc)⟩
  | p :: ps, acc, ms, hS, hn, ha, hm => by
    have hm' : eqMs ms (mS sComma :: mN p.name :: mY p.ty :: pTail ps) := by simpa [pTail, pmM] using hm
    obtain ⟨m, x, rfl, h1, h2⟩ := eqMs_cons hm'
    obtain ⟨k1, x, rfl, q1, h2⟩ := eqMs_cons h2
    obtain ⟨k2, z, rfl, q2, h2⟩ := eqMs_cons h2
    simp only [List.length_cons] at hn
    obtain ⟨ps', hps, hp⟩ := pars_tail (l := l) (rest := rest) hc ps (acc ++ [⟨k1.text, p.ty, k1.pos⟩]) z (fun v hv => hS v (by simp [hv])) (by simp only [List.length_append, List.length_cons, List.length_nil]; omega) (by simp) h2
    have hq : P l (.seq 0 [.cn acc.length l.arity, .ty] (k1 :: k2 :: (z ++ c :: rest))) (.ok [.nm k1, .ty p.ty] (z ++ c :: rest)) := .cn q1.1 (by omega) (.ty (typ_m (hS p (by simp)) q2) (.nil 0 _))
    refine ⟨⟨k1.text, p.ty, k1.pos⟩ :: ps', by simp [hps, unpP, q1.2.1, mN], ?_⟩
    have := P.pNext ha (iss h1) hq hp
    simpa using this
theorem pars_all {l : Lim} {c : M} {rest : List M} (hc : eqM c (mS sClose)) (ps : List Pm) (ms : List M) (hS : ∀ p ∈ ps, tyG p.ty) (hn : (ps.length : Int) ≤ l.arity) (hm : eqMs ms (pmsM ps)) :
    ∃ ps', ps'.map unpP = ps.map unpP ∧ P l (.pars [] (ms ++ c :: rest)) (.ok [.ps ps'] rest) := by
  cases ps with
  | nil =>
    obtain rfl := eqMs_nil hm
    exact ⟨[], rfl, P.pStop [] rest (iss hc)⟩
  | cons p ps =>
    obtain ⟨k1, x, rfl, q1, h2⟩ := eqMs_cons (show eqMs ms (mN p.name :: mY p.ty :: pTail ps) from hm)
    obtain ⟨k2, z, rfl, q2, h2⟩ := eqMs_cons h2
    simp only [List.length_cons] at hn
    obtain ⟨ps', hps, hp⟩ := pars_tail (l := l) (rest := rest) hc ps [⟨k1.text, p.ty, k1.pos⟩] z (fun v hv => hS v (by simp [hv])) (by simp only [List.length_cons, List.length_nil]; omega) (by simp) h2
    have hq : P l (.seq 0 [.cn 0 l.arity, .ty] (k1 :: k2 :: (z ++ c :: rest))) (.ok [.nm k1, .ty p.ty] (z ++ c :: rest)) := .cn q1.1 (by omega) (.ty (typ_m (hS p (by simp)) q2) (.nil 0 _))
    refine ⟨⟨k1.text, p.ty, k1.pos⟩ :: ps', by simp [hps, unpP, q1.2.1, mN], ?_⟩
    have hcl : isW k1 sClose = false := by unfold isW; rw [q1.1]; rfl
    have := P.pNext0 hcl hq (by simpa using hp)
    simpa using this
theorem back_def {l : Lim} (k : Nat) (hk : (k : Int) < l.funcs) (f : Fd) (hf : gF l f) (ms rest : List M) (hm : eqMs ms (fdM f)) :
    ∃ vs f', defEx vs = some f' ∧ unpF f' = unpF f ∧ P l (.seq 0 (defIts l k) (ms ++ rest)) (.ok vs rest) := by
  obtain ⟨g1, g2, g3, g4, g5⟩ := hf
  obtain ⟨m, r, rfl, h1, h2⟩ := eqMs_cons (show eqMs ms (mN f.name :: mS sOpen :: (pmsM f.params ++ mS sClose :: mS sColon :: mY f.ty :: mS sEq :: (mX f.body ++ [mS sSemi]))) from hm)
  obtain ⟨k1, r, rfl, q1, h2⟩ := eqMs_cons h2
  obtain ⟨x, r, rfl, hx, h2⟩ := eqMs_app h2
  obtain ⟨k2, r, rfl, q2, h2⟩ := eqMs_cons h2
  obtain ⟨k3, r, rfl, q3, h2⟩ := eqMs_cons h2
  obtain ⟨k4, r, rfl, q4, h2⟩ := eqMs_cons h2
  obtain ⟨k5, r, rfl, q5, h2⟩ := eqMs_cons h2
  obtain ⟨y, r, rfl, hy, h2⟩ := eqMs_app h2
  obtain ⟨k6, r, rfl, q6, h2⟩ := eqMs_cons h2
  obtain rfl := eqMs_nil h2
  obtain ⟨ps', hps, hpp⟩ := pars_all (l := l) (rest := k3 :: k4 :: k5 :: (y ++ k6 :: rest)) q2 f.params x g1 g2 hx
  obtain ⟨b', ub, pb⟩ := S_expr (n := 0) ((back_all l f.body g4).1) hy (by omega) (stop_m (lv := 0) q6 rest (by decide) (fun a b c => absurd c (by simp [strOf, isW_mS])))
  have := P.cn (l := l) (is := [.w sOpen, .ps, .w sColon, .ty, .w sEq, .e, .w sSemi]) h1.1 hk (.w (iss q1) (.ps hpp (.w (iss q3) (.ty (typ_m g3 q4) (.w (iss q5) (.e pb (.w (iss q6) (.nil 0 rest))))))))
  refine ⟨[.nm m, .u, .ps ps', .u, .ty f.ty, .u, .e b', .u], ⟨m.text, ps', f.ty, b', m.pos⟩, rfl, by simp [unpF, hps, ub, h1.2.1, mN], ?_⟩
  simpa [defIts, Res.cons] using this
theorem back_prog {l : Lim} {c : M} (hc : c.kind = 4) : ∀ (fs acc : List Fd) (ms : List M), (∀ f ∈ fs, gF l f) → ((acc.length + fs.length : Nat) : Int) ≤ l.funcs → acc ++ fs ≠ [] → eqMs ms (fs.flatMap fdM) →
    ∃ fs', fs'.map unpF = fs.map unpF ∧ P l (.prog acc (ms ++ [c])) (.ok [.fs (acc ++ fs')] [c])
  | [], acc, ms, hg, hn, ha, hm => by
    obtain rfl := eqMs_nil hm
    exact ⟨[], rfl, by simpa using P.progEnd [] hc (by simpa using ha)⟩
  | f :: fs, acc, ms, hg, hn, ha, hm => by
    have hm' : eqMs ms (fdM f ++ fs.flatMap fdM) := by simpa using hm
    obtain ⟨x, y, rfl, h1, h2⟩ := eqMs_app hm'
    simp only [List.length_cons] at hn
    obtain ⟨vs, f', hd, hu, hp⟩ := back_def (l := l) acc.length (by omega) f (hg f (by simp)) x (y ++ [c]) h1
    obtain ⟨fs', hfs, hp2⟩ := back_prog hc fs (acc ++ [f']) y (fun g hh => hg g (by simp [hh])) (by simp only [List.length_append, List.length_cons, List.length_nil]; omega) (by simp) h2
    refine ⟨f' :: fs', by simp [hfs, hu], ?_⟩
    obtain ⟨m, r, rfl, k1, k2⟩ := eqMs_cons (show eqMs x (mN f.name :: _) from h1)
    have := P.prog (l := l) (fs := acc) (m := m) (ms := r ++ (y ++ [c])) (.inl (by rw [k1.1]; show (0 : Nat) ≠ 4; decide)) (by simpa using hp) hd hp2
    simpa using this
end Pg
end Go.Proofs.YtgddkgbidhhheaaDoor
/- What the grammar reads is of the grammar's shape, its names and numbers are marks. No program in sight. -/
set_option linter.unusedVariables false
set_option linter.unusedSimpArgs false
namespace Go.Proofs.YtgddkgbidhhheaaDoor
namespace Pg
open Mk Flo
/-- the text of a name, of a number -/
def lexN (s : List UInt8) : Prop := s ≠ [] ∧ (∀ c ∈ s, runB c = true) ∧ wordM s 0 = some ⟨0, s, (0, 0), 0⟩
def lexU (u : Int × Int) : Prop := textL u.1 u.2 ≠ [] ∧ (∀ c ∈ textL u.1 u.2, runB c = true) ∧ wordM (textL u.1 u.2) 0 = some ⟨2, textL u.1 u.2, u, 0⟩
def markT (m : M) : Prop := (m.kind = 0 → lexN m.text) ∧ (m.kind = 2 → lexU m.num)
def nodeL (op : Int) (name tail : List UInt8) (num : Int × Int) : Prop := ((op = 6 ∨ op = 7 ∨ op = 20 ∨ op = 21 ∨ op = 22) → lexN name) ∧ (op = 20 → lexN tail) ∧ (op = 1 → lexU num)
mutual
def lX : Ex → Prop
  | .mk op name tail ty num us _ => nodeL op name tail num ∧ lXs us
def lXs : List Ex → Prop
  | [] => True
  | e :: r => lX e ∧ lXs r
end
def lF (f : Fd) : Prop := lexN f.name ∧ (∀ p ∈ f.params, lexN p.name) ∧ lX f.body
def eW (l : Lim) (n : Int) (x : Ex) : Prop := gX x ∧ lX x ∧ n + dep x ≤ l.nest
def esW (l : Lim) (n : Int) (xs : List Ex) : Prop := gXs xs ∧ lXs xs ∧ n + deps xs ≤ l.nest
def psW (l : Lim) (ps : List Pm) : Prop := (∀ p ∈ ps, tyG p.ty ∧ lexN p.name) ∧ (ps.length : Int) ≤ l.arity
def fsW (l : Lim) (fs : List Fd) : Prop := (∀ f ∈ fs, gF l f ∧ lF f) ∧ (fs.length : Int) ≤ l.funcs
def jn : Job → Int
  | .seq n _ _ => n
  | .expr n _ => n
  | .row n _ _ => n
  | .tail n _ _ _ => n
  | .unit n _ => n
  | .args n _ _ => n
  | .pars _ _ => 0
  | .prog _ _ => 0
def jmk : Job → List M
  | .seq _ _ ms => ms
  | .expr _ ms => ms
  | .row _ _ ms => ms
  | .tail _ _ e ms => ms
  | .unit _ ms => ms
  | .args _ us ms => ms
  | .pars ps ms => ms
  | .prog fs ms => ms
def jL (l : Lim) : Job → Prop
  | .tail n _ e _ => eW l n e
  | .args n us _ => esW l n us
  | .pars ps _ => psW l ps
  | .prog fs _ => fsW l fs
  | _ => True
def vGL (l : Lim) (n : Int) : Vl → Prop
  | .u => True
  | .e x => eW l n x
  | .nm m => lexN m.text
  | .ty t => tyG t
  | .asx xs => esW l n xs
  | .ps ps => psW l ps
  | .fs fs => fsW l fs
def vsL (l : Lim) (n : Int) (vs : List Vl) : Prop := ∀ v ∈ vs, vGL l n v
variable {l : Lim}
theorem vsL_cons {n : Int} {v : Vl} {vs : List Vl} : vsL l n (v :: vs) ↔ vGL l n v ∧ vsL l n vs := by simp [vsL]
theorem vsL_nil {n : Int} : vsL l n [] := fun v h => by simp at h
theorem vsL_one {n : Int} {v : Vl} (h : vGL l n v) : vsL l n [v] := vsL_cons.2 ⟨h, vsL_nil⟩
theorem typ_L {m : M} {t : Int} (h : typOf m = some t) : tyG t := by
  unfold typOf at h
  repeat' split at h
  all_goals first | (cases h; simp [tyG]; done) | cases h
theorem str_op2 {m : M} {lv : Nat} {op : Int} (h : strOf m = some (lv, op)) : op = 8 ∨ op = 9 ∨ op = 10 ∨ op = 11 ∨ op = 12 ∨ op = 13 ∨ op = 18 := by
  unfold strOf at h
  repeat' split at h
  all_goals first | (cases h; simp; done) | cases h
theorem w0_op2 {m : M} {op : Int} (h : word0 m = some op) : op = 2 ∨ op = 3 ∨ op = 4 := by
  unfold word0 at h
  repeat' split at h
  all_goals first | (cases h; simp; done) | cases h
theorem w1_op2 {m : M} {op : Int} (h : word1 m = some op) : op = 14 ∨ op = 15 ∨ op = 16 ∨ op = 17 := by
  unfold word1 at h
  repeat' split at h
  all_goals first | (cases h; simp; done) | cases h
theorem esW_snoc {n : Int} : ∀ {us : List Ex} {e : Ex}, esW l n us → eW l n e → esW l n (us ++ [e])
  | [], e, _, h => ⟨⟨h.1, trivial⟩, ⟨h.2.1, trivial⟩, by have := h.2.2; simp only [List.nil_append, deps]; omega⟩
  | u :: r, e, h, h' => by
    obtain ⟨a, b, c⟩ := h
    rw [deps] at c
    obtain ⟨a', b', c'⟩ := esW_snoc (us := r) ⟨a.2, b.2, by omega⟩ h'
    exact ⟨⟨a.1, a'⟩, ⟨b.1, b'⟩, by rw [List.cons_append, deps]; omega⟩
theorem two_L {n op : Int} {a b : Ex} (pos : Int) (h : op = 8 ∨ op = 9 ∨ op = 10 ∨ op = 11 ∨ op = 12 ∨ op = 13 ∨ op = 18) (ha : eW l n a) (hb : eW l n b) : eW l n (two op a b pos) := by
  refine ⟨⟨.inr (.inr (.inr (.inr (.inr (.inr (.inl ⟨h, rfl, rfl, rfl, rfl, rfl⟩)))))), ha.1, hb.1, trivial⟩, ⟨⟨fun h' => by omega, fun h' => by omega, fun h' => by omega⟩, ha.2.1, hb.2.1, trivial⟩, ?_⟩
  have := ha.2.2
  have := hb.2.2
  simp only [two, dep, deps, depN]
  rw [if_neg (by omega)]
  omega
theorem leaf_L {n op : Int} {nm : List UInt8} {ty : Int} {num : Int × Int} {pos : Int} (hn : n ≤ l.nest) (h3 : op ≠ 20 ∧ op ≠ 21 ∧ op ≠ 22) (h1 : nodeG op nm [] ty num 0) (h2 : nodeL op nm [] num) : eW l n (.mk op nm [] ty num [] pos) := by
  refine ⟨⟨h1, trivial⟩, ⟨h2, trivial⟩, ?_⟩
  simp only [dep, deps, depN]
  rw [if_neg (by omega)]
  omega
theorem bind_L (m : M) {n : Int} {vs : List Vl} (h : vsL l (n + 1) vs) : vsL l n (bindEx m vs) := by
  unfold bindEx
  split
  · rename_i x t _ a _ b
    simp only [vsL_cons, vGL] at h
    obtain ⟨h1, h2, _, h3, _, h4, _⟩ := h
    have hop : (if isW m tStrict = true then (22 : Int) else 21) = 21 ∨ (if isW m tStrict = true then (22 : Int) else 21) = 22 := by split <;> simp
    generalize (if isW m tStrict = true then (22 : Int) else 21) = op at hop
    refine vsL_one ⟨⟨.inr (.inr (.inr (.inr (.inr (.inr (.inr (.inr (.inr ⟨hop, rfl, h2, rfl, rfl⟩)))))))), h3.1, h4.1, trivial⟩, ⟨⟨fun _ => h1, fun h' => by omega, fun h' => by omega⟩, h3.2.1, h4.2.1, trivial⟩, ?_⟩
    have := h3.2.2
    have := h4.2.2
    simp only [dep, deps, depN]
    rw [if_pos (by omega)]
    omega
  · rename_i x _ _ _ a _ hh _ t _ b
    simp only [vsL_cons, vGL] at h
    obtain ⟨h1, _, _, _, h2, _, h3, _, h4, _, h5, _⟩ := h
    refine vsL_one ⟨⟨.inr (.inr (.inr (.inr (.inr (.inr (.inr (.inr (.inl ⟨rfl, rfl, rfl, rfl⟩)))))))), h1.1, h2.1, h5.1, trivial⟩, ⟨⟨fun _ => h3, fun _ => h4, fun h' => by omega⟩, h1.2.1, h2.2.1, h5.2.1, trivial⟩, ?_⟩
    have := h1.2.2
    have := h2.2.2
    have := h5.2.2
    have hd : ∀ d : Nat, depN 20 d = d + 1 := fun d => by simp [depN]
    simp only [dep, deps, hd]
    omega
  · exact vsL_nil
theorem if_L (m : M) {n : Int} {vs : List Vl} (h : vsL l n vs) : vsL l n (ifEx m vs) := by
  unfold ifEx
  split
  · simp only [vsL_cons, vGL] at h
    obtain ⟨h1, _, h2, _, h3, _⟩ := h
    refine vsL_one ⟨⟨.inr (.inr (.inr (.inr (.inr (.inr (.inr (.inl ⟨rfl, rfl, rfl, rfl, rfl, rfl⟩))))))), h1.1, h2.1, h3.1, trivial⟩, ⟨⟨fun h' => by omega, fun h' => by omega, fun h' => by omega⟩, h1.2.1, h2.2.1, h3.2.1, trivial⟩, ?_⟩
    have := h1.2.2
    have := h2.2.2
    have := h3.2.2
    simp only [dep, deps, depN]
    rw [if_neg (by omega)]
    omega
  · exact vsL_nil
theorem call_L (m : M) (hm : lexN m.text) {n : Int} {vs : List Vl} (h : vsL l n vs) : vsL l n (callEx m vs) := by
  unfold callEx
  split
  · rename_i xs
    simp only [vsL_cons, vGL] at h
    obtain ⟨h1, _⟩ := h
    refine vsL_one ⟨⟨.inr (.inr (.inr (.inr (.inl ⟨rfl, rfl, rfl, rfl⟩)))), h1.1⟩, ⟨⟨fun _ => hm, fun h' => by omega, fun h' => by omega⟩, h1.2.1⟩, ?_⟩
    have := h1.2.2
    simp only [dep, depN]
    rw [if_neg (by omega)]
    omega
  · exact vsL_nil
theorem par_L {n : Int} {vs : List Vl} (h : vsL l n vs) : vsL l n (parEx vs) := by
  unfold parEx
  split
  · simp only [vsL_cons] at h
    exact vsL_one h.1
  · exact vsL_nil
theorem fail_L (m : M) {n : Int} (hn : n ≤ l.nest) {vs : List Vl} (h : vsL l n vs) : vsL l n (failEx m vs) := by
  unfold failEx
  split
  · simp only [vsL_cons, vGL] at h
    exact vsL_one (leaf_L hn (by decide) (.inr (.inr (.inl ⟨rfl, rfl, rfl, h.1, rfl, rfl⟩))) ⟨fun h' => by omega, fun h' => by omega, fun h' => by omega⟩)
  · exact vsL_nil
theorem one_L (op : Int) (hop : op = 14 ∨ op = 15 ∨ op = 16 ∨ op = 17) (m : M) {n : Int} {vs : List Vl} (h : vsL l n vs) : vsL l n (oneEx op m vs) := by
  unfold oneEx
  split
  · simp only [vsL_cons, vGL] at h
    obtain ⟨_, h1, _⟩ := h
    refine vsL_one ⟨⟨.inr (.inr (.inr (.inr (.inr (.inl ⟨hop, rfl, rfl, rfl, rfl, rfl⟩))))), h1.1, trivial⟩, ⟨⟨fun h' => by omega, fun h' => by omega, fun h' => by omega⟩, h1.2.1, trivial⟩, ?_⟩
    have := h1.2.2
    simp only [dep, deps, depN]
    rw [if_neg (by omega)]
    omega
  · exact vsL_nil
theorem def_L {vs : List Vl} {f : Fd} (hd : defEx vs = some f) (h : vsL l 0 vs) : gF l f ∧ lF f := by
  unfold defEx at hd
  split at hd
  · rename_i m _ ps _ t _ b _
    cases hd
    simp only [vsL_cons, vGL] at h
    obtain ⟨h1, _, h2, _, h3, _, h4, _⟩ := h
    exact ⟨⟨fun p hp => (h2.1 p hp).1, h2.2, h3, h4.1, by have := h4.2.2; show (dep b : Int) ≤ _; omega⟩, h1, fun p hp => (h2.1 p hp).2, h4.2.1⟩
  · cases hd
theorem cons_okL {v : Vl} {r : Res} {vs : List Vl} {ms : List M} (h : r.cons v = .ok vs ms) : ∃ us, vs = v :: us ∧ r = .ok us ms := by
  cases r with
  | ok us ms' => cases h; exact ⟨us, rfl, rfl⟩
  | bad w p => cases h
theorem map_okL {f : List Vl → List Vl} {r : Res} {vs : List Vl} {ms : List M} (h : r.map f = .ok vs ms) : ∃ us, vs = f us ∧ r = .ok us ms := by
  cases r with
  | ok us ms' => cases h; exact ⟨us, rfl, rfl⟩
  | bad w p => cases h
theorem cn_lt {n k most : Int} {is : List It} {ms : List M} {vs : List Vl} {ms' : List M} (h : P l (.seq n (.cn k most :: is) ms) (.ok vs ms')) : k < most := by
  generalize hr : Res.ok vs ms' = r at h
  cases h with
  | cn h hk hr => exact hk
  | cnBig _ _ _ => cases hr
  | cnBad _ _ _ => cases hr
theorem g_le {j : Job} {r : Res} (h : P l j r) : ∀ {vs : List Vl} {ms' : List M}, r = .ok vs ms' → (∀ m ∈ jmk j, markT m) → jL l j → jn j ≤ l.nest → 0 ≤ l.nest → 0 ≤ l.arity → vsL l (jn j) vs ∧ ∀ m ∈ ms', m ∈ jmk j := by
  induction h with
  | nil n ms => intro vs ms' e hm hj hn h0 hA; cases e; exact ⟨vsL_nil, fun m h => h⟩
  | w h hr ih =>
    intro vs ms' e hm hj hn h0 hA; obtain ⟨us, rfl, eq⟩ := cons_okL e
    obtain ⟨a, b⟩ := ih eq (fun m h => hm m (by simp [jmk] at h ⊢; exact .inr h)) trivial hn h0 hA
    exact ⟨vsL_cons.2 ⟨trivial, a⟩, fun m h => by have := b m h; simp [jmk] at this ⊢; exact .inr this⟩
  | @nm n is m ms r h hr ih =>
    intro vs ms' e hm hj hn h0 hA; obtain ⟨us, rfl, eq⟩ := cons_okL e
    obtain ⟨a, b⟩ := ih eq (fun m h => hm m (by simp [jmk] at h ⊢; exact .inr h)) trivial hn h0 hA
    exact ⟨vsL_cons.2 ⟨(hm m (by simp [jmk])).1 h, a⟩, fun m h => by have := b m h; simp [jmk] at this ⊢; exact .inr this⟩
  | @cn n is k most m ms r h hk hr ih =>
    intro vs ms' e hm hj hn h0 hA; obtain ⟨us, rfl, eq⟩ := cons_okL e
    obtain ⟨a, b⟩ := ih eq (fun m h => hm m (by simp [jmk] at h ⊢; exact .inr h)) trivial hn h0 hA
    exact ⟨vsL_cons.2 ⟨(hm m (by simp [jmk])).1 h, a⟩, fun m h => by have := b m h; simp [jmk] at this ⊢; exact .inr this⟩
  | ty h hr ih =>
    intro vs ms' e hm hj hn h0 hA; obtain ⟨us, rfl, eq⟩ := cons_okL e
    obtain ⟨a, b⟩ := ih eq (fun m h => hm m (by simp [jmk] at h ⊢; exact .inr h)) trivial hn h0 hA
    exact ⟨vsL_cons.2 ⟨typ_L h, a⟩, fun m h => by have := b m h; simp [jmk] at this ⊢; exact .inr this⟩
  | e h hr ih1 ih2 =>
    intro vs ms' e hm hj hn h0 hA; obtain ⟨us, rfl, eq⟩ := cons_okL e
    obtain ⟨a1, b1⟩ := ih1 rfl hm trivial hn h0 hA
    obtain ⟨a, b⟩ := ih2 eq (fun m h => hm m (b1 m h)) trivial hn h0 hA
    exact ⟨vsL_cons.2 ⟨(vsL_cons.1 a1).1, a⟩, fun m h => b1 m (b m h)⟩
  | ps h hr ih1 ih2 =>
    intro vs ms' e hm hj hn h0 hA; obtain ⟨us, rfl, eq⟩ := cons_okL e
    obtain ⟨a1, b1⟩ := ih1 rfl hm ⟨fun p hp => by simp at hp, hA⟩ h0 h0 hA
    obtain ⟨a, b⟩ := ih2 eq (fun m h => hm m (b1 m h)) trivial hn h0 hA
    exact ⟨vsL_cons.2 ⟨(vsL_cons.1 a1).1, a⟩, fun m h => b1 m (b m h)⟩
  | @bind n m ms r h hn1 hr ih =>
    intro vs ms' e hm hj hn h0 hA; obtain ⟨us, rfl, eq⟩ := map_okL e
    obtain ⟨a, b⟩ := ih eq (fun m h => hm m (by simp [jmk] at h ⊢; exact .inr h)) trivial (by show n + 1 ≤ _; omega) h0 hA
    exact ⟨bind_L _ a, fun m h => by have := b m h; simp [jmk] at this ⊢; exact .inr this⟩
  | cond h hr ih =>
    intro vs ms' e hm hj hn h0 hA; obtain ⟨us, rfl, eq⟩ := map_okL e
    obtain ⟨a, b⟩ := ih eq (fun m h => hm m (by simp [jmk] at h ⊢; exact .inr h)) trivial hn h0 hA
    exact ⟨if_L _ a, fun m h => by have := b m h; simp [jmk] at this ⊢; exact .inr this⟩
  | expr h h' hr ih => intro vs ms' e hm hj hn h0 hA; exact ih e hm trivial hn h0 hA
  | row4 hr ih => intro vs ms' e hm hj hn h0 hA; exact ih e hm trivial hn h0 hA
  | row h h1 hr ih1 ih2 =>
    intro vs ms' e hm hj hn h0 hA
    obtain ⟨a1, b1⟩ := ih1 rfl hm trivial hn h0 hA
    obtain ⟨a, b⟩ := ih2 e (fun m h => hm m (b1 m h)) (vsL_cons.1 a1).1 hn h0 hA
    exact ⟨a, fun m h => b1 m (b m h)⟩
  | stop n e ms h => intro vs ms' eq hm hj hn h0 hA; cases eq; exact ⟨vsL_one hj, fun m h => h⟩
  | @tail1 n lv op e b m ms ms'' h hl hr ih =>
    intro vs ms' eq hm hj hn h0 hA; cases eq
    obtain ⟨a1, b1⟩ := ih rfl (fun m h => hm m (by simp [jmk] at h ⊢; exact .inr h)) trivial hn h0 hA
    exact ⟨vsL_one (two_L m.pos (str_op2 h) hj (vsL_cons.1 a1).1), fun m h => by have := b1 m h; simp [jmk] at this ⊢; exact .inr this⟩
  | @tail2 n lv op e b m ms ms'' r h hl h1 hr ih1 ih2 =>
    intro vs ms' eq hm hj hn h0 hA
    obtain ⟨a1, b1⟩ := ih1 rfl (fun m h => hm m (by simp [jmk] at h ⊢; exact .inr h)) trivial hn h0 hA
    have b1' : ∀ m' ∈ ms'', m' ∈ jmk (.tail n lv e (m :: ms)) := fun m h => by have := b1 m h; simp [jmk] at this ⊢; exact .inr this
    obtain ⟨a, b⟩ := ih2 eq (fun m h => hm m (b1' m h)) (two_L m.pos (str_op2 h) hj (vsL_cons.1 a1).1) hn h0 hA
    exact ⟨a, fun m h => b1' m (b m h)⟩
  | @num n m ms h => intro vs ms' e hm hj hn h0 hA; cases e; exact ⟨vsL_one (leaf_L hn (by decide) (.inl ⟨rfl, rfl, rfl, rfl, rfl⟩) ⟨fun h' => by omega, fun h' => by omega, fun _ => (hm m (by simp [jmk])).2 h⟩), fun m h => by simp [jmk]; exact .inr h⟩
  | @var n m k ms h hk => intro vs ms' e hm hj hn h0 hA; cases e; exact ⟨vsL_one (leaf_L hn (by decide) (.inr (.inr (.inr (.inl ⟨rfl, rfl, rfl, rfl, rfl⟩)))) ⟨fun _ => (hm m (by simp [jmk])).1 h, fun h' => by omega, fun h' => by omega⟩), fun m h => by simp [jmk] at h ⊢; exact .inr h⟩
  | @call n m k ms r h hk hr ih =>
    intro vs ms' e hm hj hn h0 hA; obtain ⟨us, rfl, eq⟩ := map_okL e
    obtain ⟨a, b⟩ := ih eq (fun m h => hm m (by simp [jmk] at h ⊢; exact .inr (.inr h))) ⟨trivial, trivial, by have hn' : n ≤ l.nest := hn; simp only [deps]; omega⟩ hn h0 hA
    exact ⟨call_L m ((hm m (by simp [jmk])).1 h) a, fun m h => by have := b m h; simp [jmk] at this ⊢; exact .inr (.inr this)⟩
  | par h hr ih =>
    intro vs ms' e hm hj hn h0 hA; obtain ⟨us, rfl, eq⟩ := map_okL e
    obtain ⟨a, b⟩ := ih eq (fun m h => hm m (by simp [jmk] at h ⊢; exact .inr h)) trivial hn h0 hA
    exact ⟨par_L a, fun m h => by have := b m h; simp [jmk] at this ⊢; exact .inr this⟩
  | @word0 n op m ms h =>
    intro vs ms' e hm hj hn h0 hA; cases e
    have hop := w0_op2 h
    exact ⟨vsL_one (leaf_L hn (by omega) (.inr (.inl ⟨hop, rfl, rfl, rfl, rfl, rfl⟩)) ⟨fun h' => by omega, fun h' => by omega, fun h' => by omega⟩), fun m h => by simp [jmk]; exact .inr h⟩
  | fail h hr ih =>
    intro vs ms' e hm hj hn h0 hA; obtain ⟨us, rfl, eq⟩ := map_okL e
    obtain ⟨a, b⟩ := ih eq (fun m h => hm m (by simp [jmk] at h ⊢; exact .inr h)) trivial hn h0 hA
    exact ⟨fail_L _ hn a, fun m h => by have := b m h; simp [jmk] at this ⊢; exact .inr this⟩
  | word1 h hr ih =>
    intro vs ms' e hm hj hn h0 hA; obtain ⟨us, rfl, eq⟩ := map_okL e
    obtain ⟨a, b⟩ := ih eq (fun m h => hm m (by simp [jmk] at h ⊢; exact .inr h)) trivial hn h0 hA
    exact ⟨one_L _ (w1_op2 h) _ a, fun m h => by have := b m h; simp [jmk] at this ⊢; exact .inr this⟩
  | aStop n us ms h => intro vs ms' e hm hj hn h0 hA; cases e; exact ⟨vsL_one hj, fun m h => by simp [jmk]; exact .inr h⟩
  | aNext0 h h1 hr ih1 ih2 =>
    intro vs ms' e hm hj hn h0 hA
    obtain ⟨a1, b1⟩ := ih1 rfl hm trivial hn h0 hA
    obtain ⟨a, b⟩ := ih2 e (fun m h => hm m (b1 m h)) (esW_snoc (us := []) hj (vsL_cons.1 a1).1) hn h0 hA
    exact ⟨a, fun m h => b1 m (b m h)⟩
  | @aNext n us x m ms ms'' r ha hc h1 hr ih1 ih2 =>
    intro vs ms' e hm hj hn h0 hA
    obtain ⟨a1, b1⟩ := ih1 rfl (fun m h => hm m (by simp [jmk] at h ⊢; exact .inr h)) trivial hn h0 hA
    have b1' : ∀ m' ∈ ms'', m' ∈ jmk (.args n us (m :: ms)) := fun m h => by have := b1 m h; simp [jmk] at this ⊢; exact .inr this
    obtain ⟨a, b⟩ := ih2 e (fun m h => hm m (b1' m h)) (esW_snoc hj (vsL_cons.1 a1).1) hn h0 hA
    exact ⟨a, fun m h => b1' m (b m h)⟩
  | pStop ps ms h => intro vs ms' e hm hj hn h0 hA; cases e; exact ⟨vsL_one hj, fun m h => by simp [jmk]; exact .inr h⟩
  | @pNext0 x m t ms ms'' r h h1 hr ih1 ih2 =>
    intro vs ms' e hm hj hn h0 hA
    have hlt := cn_lt h1
    obtain ⟨a1, b1⟩ := ih1 rfl hm trivial hn h0 hA
    obtain ⟨c1, c2⟩ := vsL_cons.1 a1
    obtain ⟨a, b⟩ := ih2 e (fun m h => hm m (b1 m h)) ⟨fun p hp => by rw [List.mem_singleton.1 hp]; exact ⟨(vsL_cons.1 c2).1, c1⟩, by simp only [List.length_cons, List.length_nil]; omega⟩ hn h0 hA
    exact ⟨a, fun m h => b1 m (b m h)⟩
  | @pNext ps x m t ms ms'' r ha hc h1 hr ih1 ih2 =>
    intro vs ms' e hm hj hn h0 hA
    have hlt := cn_lt h1
    obtain ⟨a1, b1⟩ := ih1 rfl (fun m h => hm m (by simp [jmk] at h ⊢; exact .inr h)) trivial hn h0 hA
    have b1' : ∀ m' ∈ ms'', m' ∈ jmk (.pars ps (m :: ms)) := fun m h => by have := b1 m h; simp [jmk] at this ⊢; exact .inr this
    obtain ⟨c1, c2⟩ := vsL_cons.1 a1
    obtain ⟨a, b⟩ := ih2 e (fun m h => hm m (b1' m h)) ⟨fun p hp => by
      rcases List.mem_append.1 hp with hp | hp
      · exact hj.1 p hp
      · rw [List.mem_singleton.1 hp]; exact ⟨(vsL_cons.1 c2).1, c1⟩, by simp only [List.length_append, List.length_cons, List.length_nil]; omega⟩ hn h0 hA
    exact ⟨a, fun m h => b1' m (b m h)⟩
  | progEnd ms h hf => intro vs ms' e hm hj hn h0 hA; cases e; exact ⟨vsL_one hj, fun m h => h⟩
  | @prog fs f vs0 m ms ms'' r h h1 hd hr ih1 ih2 =>
    intro vs ms' e hm hj hn h0 hA
    have hlt := cn_lt h1
    obtain ⟨a1, b1⟩ := ih1 rfl hm trivial hn h0 hA
    obtain ⟨a, b⟩ := ih2 e (fun m h => hm m (b1 m h)) ⟨fun g hg => by
      rcases List.mem_append.1 hg with hg | hg
      · exact hj.1 g hg
      · rw [List.mem_singleton.1 hg]; exact def_L hd a1, by simp only [List.length_append, List.length_cons, List.length_nil]; omega⟩ hn h0 hA
    exact ⟨a, fun m h => b1 m (b m h)⟩
  | _ => intro vs ms' e; cases e
theorem prog_g {fs : List Fd} {ms rest : List M} (h : P l (.prog [] ms) (.ok [.fs fs] rest)) (hm : ∀ m ∈ ms, markT m) (h0 : 0 ≤ l.nest) (hA : 0 ≤ l.arity) (hF : 0 ≤ l.funcs) : (∀ f ∈ fs, gF l f ∧ lF f) ∧ (fs.length : Int) ≤ l.funcs := by
  obtain ⟨a, _⟩ := g_le h rfl hm ⟨fun f hf => by simp at hf, hF⟩ h0 h0 hA
  exact (vsL_cons.1 a).1
theorem prog_ne {fs : List Fd} {ms rest : List M} {acc : List Fd} (h : P l (.prog acc ms) (.ok [.fs fs] rest)) : fs ≠ [] := by
  generalize hj : Job.prog acc ms = j at h
  generalize hr : Res.ok [.fs fs] rest = r at h
  induction h generalizing acc ms with
  | progEnd ms h hf => cases hj; cases hr; exact hf
  | progBad h hr' ih => cases hr
  | prog h h1 hd hr' ih1 ih2 => cases hj; exact ih2 rfl hr
  | _ => first | cases hj | cases hr
end Pg
end Go.Proofs.YtgddkgbidhhheaaDoor
/- A printed text has the marks of its program: pieces of a text. No program in sight. -/
set_option linter.unusedVariables false
set_option linter.unusedSimpArgs false
namespace Go.Proofs.YtgddkgbidhhheaaDoor
namespace Pg
open Mk Flo
inductive Pz where
  | g (c : UInt8)
  | t (m : M)
def txt : List Pz → List UInt8
  | [] => []
  | .g c :: r => c :: txt r
  | .t m :: r => m.text ++ txt r
def mks : List Pz → List M
  | [] => []
  | .g _ :: r => mks r
  | .t m :: r => m :: mks r
theorem txt_app : ∀ a b : List Pz, txt (a ++ b) = txt a ++ txt b
  | [], b => rfl
  | .g c :: r, b => by simp [txt, txt_app r b]
  | .t m :: r, b => by simp [txt, txt_app r b]
theorem mks_app : ∀ a b : List Pz, mks (a ++ b) = mks a ++ mks b
  | [], b => rfl
  | .g c :: r, b => by simp [mks, mks_app r b]
  | .t m :: r, b => by simp [mks, mks_app r b]
/-- a sign that is read the same whatever stands behind -/
def softL : List (List UInt8) := [sOpen, sClose, sComma, sColon, sSemi, sBar, sPlus, sStar, sSlash, sLess, sEqEq, sArrow]
/-- a word: its run is read as this mark -/
def wordV (m : M) : Prop := m.text ≠ [] ∧ (∀ c ∈ m.text, runB c = true) ∧ wordM m.text 0 = some m
def softV (m : M) : Prop := ∃ s ∈ softL, m = mS s
def hardV (m : M) : Prop := wordV m ∨ m = mS sMinus ∨ m = mS sEq
/-- with what a text goes on that ends every mark -/
def bndT (l : List UInt8) : Prop := ∀ d r, l = d :: r → runB d = false ∧ d ≠ 62 ∧ d ≠ 61
def bnd : List Pz → Prop
  | [] => True
  | .g _ :: _ => True
  | .t m :: _ => softV m ∧ m.text ≠ sEqEq
def okP : List Pz → Prop
  | [] => True
  | .g c :: r => blankB c = true ∧ okP r
  | .t m :: r => (softV m ∨ (hardV m ∧ bnd r)) ∧ okP r
theorem okP_app : ∀ {a b : List Pz}, okP a → okP b → bnd b → okP (a ++ b)
  | [], b, _, hb, _ => hb
  | .g c :: r, b, ha, hb, hd => ⟨ha.1, okP_app ha.2 hb hd⟩
  | .t m :: r, b, ha, hb, hd => by
    refine ⟨?_, okP_app ha.2 hb hd⟩
    rcases ha.1 with h | ⟨h, h'⟩
    · exact .inl h
    · refine .inr ⟨h, ?_⟩
      cases r with
      | nil => exact hd
      | cons p r => cases p <;> exact h'
theorem run_blank {c : UInt8} (h : runB c = true) : blankB c = false ∧ c ≠ 35 := by
  have : ∀ c : UInt8, runB c = true → blankB c = false ∧ c ≠ 35 := by
    intro c h
    refine ⟨?_, ?_⟩
    · unfold blankB
      cases h1 : (c == 32 || c == 9 || c == 10 || c == 13) with
      | false => rfl
      | true =>
        simp only [Bool.or_eq_true, beq_iff_eq] at h1
        rcases h1 with ((h1 | h1) | h1) | h1 <;> (subst h1; exact absurd h (by decide))
    · rintro rfl; exact absurd h (by decide)
  exact this c h
theorem blank_bnd {c : UInt8} (h : blankB c = true) : runB c = false ∧ c ≠ 62 ∧ c ≠ 61 := by
  unfold blankB at h
  simp only [Bool.or_eq_true, beq_iff_eq] at h
  rcases h with ((h | h) | h) | h <;> (subst h; decide)
theorem tw_word : ∀ {s rest : List UInt8}, (∀ c ∈ s, runB c = true) → bndT rest → (s ++ rest).takeWhile runB = s
  | [], rest, _, hb => by
    cases rest with
    | nil => rfl
    | cons d r => rw [List.nil_append, List.takeWhile_cons, (hb d r rfl).1]; rfl
  | c :: s, rest, h, hb => by
    rw [List.cons_append, List.takeWhile_cons, h c (by simp), if_pos rfl, tw_word (fun x hx => h x (by simp [hx])) hb]
theorem scan_word {m : M} (h : wordV m) {rest : List UInt8} (hb : bndT rest) (at' : Nat) : scan (m.text ++ rest) at' = pre { m with pos := at' } (scan rest (at' + m.text.length)) := by
  obtain ⟨h1, h2, h3⟩ := h
  obtain ⟨k, tx, nu, po⟩ := m
  dsimp only at h1 h2 h3 ⊢
  obtain ⟨c, s, rfl⟩ : ∃ c s, tx = c :: s := by
    cases tx with
    | nil => exact absurd rfl h1
    | cons c s => exact ⟨c, s, rfl⟩
  have hc := h2 c (by simp)
  obtain ⟨b1, b2⟩ := run_blank hc
  have ho : one (c :: (s ++ rest)) at' = some ⟨k, c :: s, nu, at'⟩ := by
    unfold one
    rw [if_pos (by simp [hc]), show c :: (s ++ rest) = (c :: s) ++ rest from rfl, tw_word h2 hb]
    exact word_pos h3 at'
  rw [List.cons_append, scan_one b1 b2, ho]
  show pre _ (scan ((c :: (s ++ rest)).drop (c :: s).length) (at' + (c :: s).length)) = _
  rw [show c :: (s ++ rest) = (c :: s) ++ rest from rfl, List.drop_left]
theorem one_soft {s : List UInt8} (h : s ∈ softL) (rest : List UInt8) (at' : Nat) : one (s ++ rest) at' = some { mS s with pos := at' } := by
  have : s = sOpen ∨ s = sClose ∨ s = sComma ∨ s = sColon ∨ s = sSemi ∨ s = sBar ∨ s = sPlus ∨ s = sStar ∨ s = sSlash ∨ s = sLess ∨ s = sEqEq ∨ s = sArrow := by simpa [softL] using h
  rcases this with rfl | rfl | rfl | rfl | rfl | rfl | rfl | rfl | rfl | rfl | rfl | rfl <;> rfl
theorem one_hard {s : List UInt8} (h : s = sMinus ∨ s = sEq) {rest : List UInt8} (hb : bndT rest) (at' : Nat) : one (s ++ rest) at' = some { mS s with pos := at' } := by
  cases rest with
  | nil => rcases h with rfl | rfl <;> rfl
  | cons d r =>
    obtain ⟨_, b1, b2⟩ := hb d r rfl
    rcases h with rfl | rfl
    · unfold one
      rw [if_neg (by simp; decide)]
      have hs : signL ([45] ++ d :: r) = 1 := by
        show (if ((45 : UInt8) == 45 && (d :: r).head? == some 62) || ((45 : UInt8) == 61 && (d :: r).head? == some 61) then 2 else if sign1 45 then 1 else 0) = 1
        simp [b1]; decide
      rw [hs]; rfl
    · unfold one
      rw [if_neg (by simp; decide)]
      have hs : signL ([61] ++ d :: r) = 1 := by
        show (if ((61 : UInt8) == 45 && (d :: r).head? == some 62) || ((61 : UInt8) == 61 && (d :: r).head? == some 61) then 2 else if sign1 61 then 1 else 0) = 1
        simp [b2]; decide
      rw [hs]; rfl
theorem scan_sign {s : List UInt8} {rest : List UInt8} {at' : Nat} (hs : s ∈ softL ∨ s = sMinus ∨ s = sEq) (ho : one (s ++ rest) at' = some { mS s with pos := at' }) : scan (s ++ rest) at' = pre { mS s with pos := at' } (scan rest (at' + s.length)) := by
  have hh : ∃ c r, s = c :: r ∧ blankB c = false ∧ c ≠ 35 := by
    have : s = sOpen ∨ s = sClose ∨ s = sComma ∨ s = sColon ∨ s = sSemi ∨ s = sBar ∨ s = sPlus ∨ s = sStar ∨ s = sSlash ∨ s = sLess ∨ s = sEqEq ∨ s = sArrow ∨ s = sMinus ∨ s = sEq := by
      rcases hs with h | h
      · have : s = sOpen ∨ s = sClose ∨ s = sComma ∨ s = sColon ∨ s = sSemi ∨ s = sBar ∨ s = sPlus ∨ s = sStar ∨ s = sSlash ∨ s = sLess ∨ s = sEqEq ∨ s = sArrow := by simpa [softL] using h
        rcases this with h | h | h | h | h | h | h | h | h | h | h | h <;> simp [h]
      · rcases h with h | h <;> simp [h]
    rcases this with rfl | rfl | rfl | rfl | rfl | rfl | rfl | rfl | rfl | rfl | rfl | rfl | rfl | rfl <;> exact ⟨_, _, rfl, by decide, by decide⟩
  obtain ⟨c, r, rfl, b1, b2⟩ := hh
  rw [List.cons_append] at ho ⊢
  rw [scan_one b1 b2, ho]
  show pre _ (scan ((c :: (r ++ rest)).drop (c :: r).length) _) = _
  rw [show c :: (r ++ rest) = (c :: r) ++ rest from rfl, List.drop_left]
  rfl
theorem bnd_txt {r : List Pz} (h : bnd r) (ho : okP r) : bndT (txt r) := by
  intro d x hd
  cases r with
  | nil => cases hd
  | cons p r =>
    cases p with
    | g c => cases hd; exact blank_bnd ho.1
    | t m =>
      obtain ⟨⟨s, hs, rfl⟩, hne⟩ := h
      have : s = sOpen ∨ s = sClose ∨ s = sComma ∨ s = sColon ∨ s = sSemi ∨ s = sBar ∨ s = sPlus ∨ s = sStar ∨ s = sSlash ∨ s = sLess ∨ s = sEqEq ∨ s = sArrow := by simpa [softL] using hs
      rcases this with rfl | rfl | rfl | rfl | rfl | rfl | rfl | rfl | rfl | rfl | rfl | rfl
      case inr.inr.inr.inr.inr.inr.inr.inr.inr.inr.inl => exact absurd rfl hne
      all_goals (cases hd; decide)
/-- the marks of a text of pieces -/
theorem scan_pz : ∀ (L : List Pz) (at' : Nat), okP L → ∃ ms e, scan (txt L) at' = .ok (ms ++ [⟨4, [], (0, 0), e⟩]) ∧ eqMs ms (mks L)
  | [], at', _ => ⟨[], at', scan_nil at', trivial⟩
  | .g c :: r, at', h => by
    obtain ⟨ms, e, h1, h2⟩ := scan_pz r (at' + 1) h.2
    exact ⟨ms, e, by show scan (c :: txt r) at' = _; rw [scan_blank h.1, h1], h2⟩
  | .t m :: r, at', h => by
    obtain ⟨ms, e, h1, h2⟩ := scan_pz r (at' + m.text.length) h.2
    refine ⟨{ m with pos := at' } :: ms, e, ?_, ⟨rfl, rfl, rfl⟩, h2⟩
    show scan (m.text ++ txt r) at' = _
    rcases h.1 with ⟨s, hs, rfl⟩ | ⟨hw | rfl | rfl, hb⟩
    · have := scan_sign (rest := txt r) (.inl hs) (one_soft hs (txt r) at')
      show scan (s ++ txt r) at' = _
      rw [this, show scan (txt r) (at' + s.length) = _ from h1]; rfl
    · rw [scan_word hw (bnd_txt hb h.2), h1]; rfl
    · have := scan_sign (rest := txt r) (.inr (.inl rfl)) (one_hard (.inl rfl) (bnd_txt hb h.2) at')
      show scan (sMinus ++ txt r) at' = _
      rw [this, show scan (txt r) (at' + sMinus.length) = _ from h1]; rfl
    · have := scan_sign (rest := txt r) (.inr (.inr rfl)) (one_hard (.inr rfl) (bnd_txt hb h.2) at')
      show scan (sEq ++ txt r) at' = _
      rw [this, show scan (txt r) (at' + sEq.length) = _ from h1]; rfl
end Pg
end Go.Proofs.YtgddkgbidhhheaaDoor
