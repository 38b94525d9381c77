/- Texts joined: Shi CdW. -/
import Derived.Test.YtgddkgbidhhheaaDoorKpaw
import Derived.Test.YtgddkgbidhhheaaDoorKpac
import Derived.Test.YtgddkgbidhhheaaDoorProg
import Derived.KernelRfl
/- What the grammar reads has all that its text shows. No program in sight. -/
set_option linter.unusedVariables false
set_option linter.unusedSimpArgs false
namespace Go.Proofs.YtgddkgbidhhheaaDoor
namespace Pg
open Mk Flo
def markG (m : M) : Prop := (m.kind = 0 → m.text ≠ []) ∧ (m.kind = 2 → Flo.okR m.num.1 m.num.2 = true)
theorem mem_sum : ∀ {l : List Nat} {x : Nat}, x ∈ l → x ≤ l.sum
  | a :: l, x, h => by
    rw [List.sum_cons]
    rcases List.mem_cons.1 h with rfl | h
    · omega
    · have := mem_sum h; omega
def jms : Job → List M
  | .seq _ _ ms => ms
  | .expr _ ms => ms
  | .row _ _ ms => ms
  | .tail _ _ e ms => ms
  | .unit _ ms => ms
  | .args _ us ms => ms
  | .pars ps ms => ms
  | .prog fs ms => ms
def pmsW (ps : List Pm) : Prop := ∀ p ∈ ps, p.name ≠ [] ∧ tyW p.ty
def jW : Job → Prop
  | .tail _ _ e _ => wfX e
  | .args _ us _ => wfXs us
  | .pars ps _ => pmsW ps
  | .prog fs _ => ∀ f ∈ fs, wfF f
  | _ => True
def vW : Vl → Prop
  | .u => True
  | .e x => wfX x
  | .nm m => m.text ≠ []
  | .ty t => tyW t
  | .asx xs => wfXs xs
  | .ps ps => pmsW ps
  | .fs fs => ∀ f ∈ fs, wfF f
def vsW (vs : List Vl) : Prop := ∀ v ∈ vs, vW v
theorem vsW_cons {v : Vl} {vs : List Vl} : vsW (v :: vs) ↔ vW v ∧ vsW vs := by simp [vsW]
theorem vsW_nil : vsW [] := fun v h => by simp at h
theorem vsW_one {v : Vl} (h : vW v) : vsW [v] := vsW_cons.2 ⟨h, vsW_nil⟩
theorem typ_W {m : M} {t : Int} (h : typOf m = some t) : tyW t := by
  unfold typOf at h
  repeat' split at h
  all_goals first | (cases h; simp [tyW]; done) | cases h
theorem str_op {m : M} {lv : Nat} {op : Int} (h : strOf m = some (lv, op)) : op = 8 ∨ op = 9 ∨ op = 10 ∨ op = 11 ∨ op = 12 ∨ op = 13 ∨ op = 18 := by
  unfold strOf at h
  repeat' split at h
  all_goals first | (cases h; simp; done) | cases h
theorem w0_op {m : M} {op : Int} (h : word0 m = some op) : op = 2 ∨ op = 3 ∨ op = 4 := by
  unfold word0 at h
  repeat' split at h
  all_goals first | (cases h; simp; done) | cases h
theorem w1_op {m : M} {op : Int} (h : word1 m = some op) : op = 14 ∨ op = 15 ∨ op = 16 ∨ op = 17 := by
  unfold word1 at h
  repeat' split at h
  all_goals first | (cases h; simp; done) | cases h
theorem wfXs_snoc : ∀ {us : List Ex} {e : Ex}, wfXs us → wfX e → wfXs (us ++ [e])
  | [], e, _, h => ⟨h, trivial⟩
  | u :: r, e, h, h' => ⟨h.1, wfXs_snoc h.2 h'⟩
theorem cntX_pos (e : Ex) : 1 ≤ cntX e := by
  obtain ⟨op, nm, tl, ty, num, bs, pos⟩ := e
  simp only [cntX]; omega
theorem len_cnt : ∀ us : List Ex, us.length ≤ cntXs us
  | [] => Nat.zero_le _
  | u :: r => by
    have := len_cnt r
    have h := cntX_pos u
    simp only [cntXs, List.length_cons]; omega
theorem two_W {op : Int} {a b : Ex} (pos : Int) (h : op = 8 ∨ op = 9 ∨ op = 10 ∨ op = 11 ∨ op = 12 ∨ op = 13 ∨ op = 18) (ha : wfX a) (hb : wfX b) : wfX (two op a b pos) := by
  refine ⟨⟨by simp, ?_⟩, ha, hb, trivial⟩
  exact .inr (.inr (.inr (.inr (.inr (.inr (.inl ⟨h, rfl⟩))))))
theorem bind_W (m : M) {vs : List Vl} (h : vsW vs) : vsW (bindEx m vs) := by
  unfold bindEx
  split
  · rename_i x t _ a _ b
    simp only [vsW_cons, vW] at h
    refine vsW_one ⟨⟨by simp, ?_⟩, h.2.2.2.1, h.2.2.2.2.2.1, trivial⟩
    refine .inr (.inr (.inr (.inr (.inr (.inr (.inr (.inr (.inr ⟨?_, rfl, h.1, h.2.1⟩))))))))
    split <;> simp
  · rename_i x _ _ _ a _ hh _ t _ b
    simp only [vsW_cons, vW] at h
    obtain ⟨h1, _, _, _, h2, _, h3, _, h4, _, h5, _⟩ := h
    refine vsW_one ⟨⟨by simp, ?_⟩, h1, h2, h5, trivial⟩
    exact .inr (.inr (.inr (.inr (.inr (.inr (.inr (.inr (.inl ⟨rfl, rfl, h3, h4⟩))))))))
  · exact vsW_nil
theorem if_W (m : M) {vs : List Vl} (h : vsW vs) : vsW (ifEx m vs) := by
  unfold ifEx
  split
  · simp only [vsW_cons, vW] at h
    refine vsW_one ⟨⟨by simp, ?_⟩, h.1, h.2.2.1, h.2.2.2.2.1, trivial⟩
    exact .inr (.inr (.inr (.inr (.inr (.inr (.inr (.inl ⟨rfl, rfl⟩)))))))
  · exact vsW_nil
theorem call_W (m : M) (hm : m.text ≠ []) {vs : List Vl} (h : vsW vs) (hl : ∀ xs, Vl.asx xs ∈ vs → xs.length ≤ 1000000) : vsW (callEx m vs) := by
  unfold callEx
  split
  · rename_i xs
    simp only [vsW_cons, vW] at h
    refine vsW_one ⟨⟨hl xs (by simp), ?_⟩, h.1⟩
    exact .inr (.inr (.inr (.inr (.inl ⟨rfl, hm⟩))))
  · exact vsW_nil
theorem par_W {vs : List Vl} (h : vsW vs) : vsW (parEx vs) := by
  unfold parEx
  split
  · simp only [vsW_cons, vW] at h
    exact vsW_one h.1
  · exact vsW_nil
theorem fail_W (m : M) {vs : List Vl} (h : vsW vs) : vsW (failEx m vs) := by
  unfold failEx
  split
  · simp only [vsW_cons, vW] at h
    refine vsW_one ⟨⟨by simp, ?_⟩, trivial⟩
    exact .inr (.inr (.inl ⟨rfl, h.1⟩))
  · exact vsW_nil
theorem one_W (op : Int) (hop : op = 14 ∨ op = 15 ∨ op = 16 ∨ op = 17) (m : M) {vs : List Vl} (h : vsW vs) : vsW (oneEx op m vs) := by
  unfold oneEx
  split
  · simp only [vsW_cons, vW] at h
    refine vsW_one ⟨⟨by simp, ?_⟩, h.2.1, trivial⟩
    exact .inr (.inr (.inr (.inr (.inr (.inl hop)))))
  · exact vsW_nil
theorem def_W {vs : List Vl} {f : Pg.Fd} (hd : defEx vs = some f) (h : vsW vs) (hs : wVs vs ≤ 1000000) : wfF f := by
  unfold defEx at hd
  split at hd
  · rename_i m _ ps _ t _ b _
    cases hd
    simp only [vsW_cons, vW] at h
    obtain ⟨h1, _, h2, _, h3, _, h4, _⟩ := h
    refine ⟨h1, h2, h3, h4, ?_⟩
    have hp : wV (.ps ps) = ps.length := rfl
    simp only [wVs_cons, wVs_nil] at hs
    show ps.length ≤ _
    omega
  · cases hd
theorem wf_le {l : Lim} {j : Job} {r : Res} (h : P l j r) : ∀ {vs : List Vl} {ms' : List M}, r = .ok vs ms' → szJ j ≤ 1000000 → (∀ m ∈ jms j, markG m) → jW j → vsW vs ∧ ∀ m ∈ ms', m ∈ jms j := by
  induction h with
  | nil n ms => intro vs ms' e hs hm hj; cases e; exact ⟨vsW_nil, fun m h => h⟩
  | w h hr ih =>
    intro vs ms' e hs hm hj; obtain ⟨us, rfl, eq⟩ := cons_ok e
    obtain ⟨a, b⟩ := ih eq (by simp only [szJ, List.length_cons] at *; omega) (fun m h => hm m (by simp [jms] at h ⊢; exact .inr h)) trivial
    exact ⟨vsW_cons.2 ⟨trivial, a⟩, fun m h => by have := b m h; simp [jms] at this ⊢; exact .inr this⟩
  | @nm n is m ms r h hr ih =>
    intro vs ms' e hs hm hj; obtain ⟨us, rfl, eq⟩ := cons_ok e
    obtain ⟨a, b⟩ := ih eq (by simp only [szJ, List.length_cons] at *; omega) (fun m h => hm m (by simp [jms] at h ⊢; exact .inr h)) trivial
    exact ⟨vsW_cons.2 ⟨(hm m (by simp [jms])).1 h, a⟩, fun m h => by have := b m h; simp [jms] at this ⊢; exact .inr this⟩
  | @cn n is k most m ms r h hk hr ih =>
    intro vs ms' e hs hm hj; obtain ⟨us, rfl, eq⟩ := cons_ok e
    obtain ⟨a, b⟩ := ih eq (by simp only [szJ, List.length_cons] at *; omega) (fun m h => hm m (by simp [jms] at h ⊢; exact .inr h)) trivial
    exact ⟨vsW_cons.2 ⟨(hm m (by simp [jms])).1 h, a⟩, fun m h => by have := b m h; simp [jms] at this ⊢; exact .inr this⟩
  | ty h hr ih =>
    intro vs ms' e hs hm hj; obtain ⟨us, rfl, eq⟩ := cons_ok e
    obtain ⟨a, b⟩ := ih eq (by simp only [szJ, List.length_cons] at *; omega) (fun m h => hm m (by simp [jms] at h ⊢; exact .inr h)) trivial
    exact ⟨vsW_cons.2 ⟨typ_W h, a⟩, fun m h => by have := b m h; simp [jms] at this ⊢; exact .inr this⟩
  | e h hr ih1 ih2 =>
    intro vs ms' e hs hm hj; obtain ⟨us, rfl, eq⟩ := cons_ok e
    have s1 := size_le h rfl
    simp only [szJ] at s1 hs
    obtain ⟨a1, b1⟩ := ih1 rfl hs hm trivial
    obtain ⟨a, b⟩ := ih2 eq (by simp only [szJ]; omega) (fun m h => hm m (b1 m h)) trivial
    exact ⟨vsW_cons.2 ⟨(vsW_cons.1 a1).1, a⟩, fun m h => b1 m (b m h)⟩
  | ps h hr ih1 ih2 =>
    intro vs ms' e hs hm hj; obtain ⟨us, rfl, eq⟩ := cons_ok e
    have s1 := size_le h rfl
    simp only [szJ, List.length_nil] at s1 hs
    obtain ⟨a1, b1⟩ := ih1 rfl (by simp only [szJ, List.length_nil]; omega) hm (fun p hp => by simp at hp)
    obtain ⟨a, b⟩ := ih2 eq (by simp only [szJ]; omega) (fun m h => hm m (b1 m h)) trivial
    exact ⟨vsW_cons.2 ⟨(vsW_cons.1 a1).1, a⟩, fun m h => b1 m (b m h)⟩
  | bind h hn hr ih =>
    intro vs ms' e hs hm hj; obtain ⟨us, rfl, eq⟩ := map_ok e
    obtain ⟨a, b⟩ := ih eq (by simp only [szJ, List.length_cons] at *; omega) (fun m h => hm m (by simp [jms] at h ⊢; exact .inr h)) trivial
    exact ⟨bind_W _ a, fun m h => by have := b m h; simp [jms] at this ⊢; exact .inr this⟩
  | cond h hr ih =>
    intro vs ms' e hs hm hj; obtain ⟨us, rfl, eq⟩ := map_ok e
    obtain ⟨a, b⟩ := ih eq (by simp only [szJ, List.length_cons] at *; omega) (fun m h => hm m (by simp [jms] at h ⊢; exact .inr h)) trivial
    exact ⟨if_W _ a, fun m h => by have := b m h; simp [jms] at this ⊢; exact .inr this⟩
  | expr h h' hr ih => intro vs ms' e hs hm hj; exact ih e hs hm trivial
  | row4 hr ih => intro vs ms' e hs hm hj; exact ih e hs hm trivial
  | row h h1 hr ih1 ih2 =>
    intro vs ms' e hs hm hj
    have s1 := size_le h1 rfl
    simp only [szJ, wVs_cons, wVs_nil, wV] at s1 hs
    obtain ⟨a1, b1⟩ := ih1 rfl hs hm trivial
    obtain ⟨a, b⟩ := ih2 e (by simp only [szJ]; omega) (fun m h => hm m (b1 m h)) (vsW_cons.1 a1).1
    exact ⟨a, fun m h => b1 m (b m h)⟩
  | stop n e ms h => intro vs ms' eq hs hm hj; cases eq; exact ⟨vsW_one hj, fun m h => h⟩
  | @tail1 n lv op e b m ms ms'' h hl hr ih =>
    intro vs ms' eq hs hm hj; cases eq
    obtain ⟨a1, b1⟩ := ih rfl (by simp only [szJ, List.length_cons] at *; omega) (fun m h => hm m (by simp [jms] at h ⊢; exact .inr h)) trivial
    exact ⟨vsW_one (two_W m.pos (str_op h) hj (vsW_cons.1 a1).1), fun m h => by have := b1 m h; simp [jms] at this ⊢; exact .inr this⟩
  | @tail2 n lv op e b m ms ms'' r h hl h1 hr ih1 ih2 =>
    intro vs ms' eq hs hm hj
    have s1 := size_le h1 rfl
    simp only [szJ, wVs_cons, wVs_nil, wV, List.length_cons] at s1 hs
    obtain ⟨a1, b1⟩ := ih1 rfl (by simp only [szJ]; omega) (fun m h => hm m (by simp [jms] at h ⊢; exact .inr h)) trivial
    have b1' : ∀ m' ∈ ms'', m' ∈ jms (.tail n lv e (m :: ms)) := fun m h => by have := b1 m h; simp [jms] at this ⊢; exact .inr this
    obtain ⟨a, b⟩ := ih2 eq (by simp only [szJ, two, cntX, cntXs]; omega) (fun m h => hm m (b1' m h)) (two_W m.pos (str_op h) hj (vsW_cons.1 a1).1)
    exact ⟨a, fun m h => b1' m (b m h)⟩
  | @num n m ms h => intro vs ms' e hs hm hj; cases e; exact ⟨vsW_one ⟨⟨by simp, .inl ⟨rfl, (hm m (by simp [jms])).2 h⟩⟩, trivial⟩, fun m h => by simp [jms]; exact .inr h⟩
  | @var n m k ms h hk => intro vs ms' e hs hm hj; cases e; exact ⟨vsW_one ⟨⟨by simp, .inr (.inr (.inr (.inl ⟨rfl, (hm m (by simp [jms])).1 h⟩)))⟩, trivial⟩, fun m h => by simp [jms] at h ⊢; exact .inr h⟩
  | @call n m k ms r h hk hr ih =>
    intro vs ms' e hs hm hj; obtain ⟨us, rfl, eq⟩ := map_ok e
    have s1 := size_le hr eq
    simp only [szJ, cntXs, List.length_cons] at s1 hs
    obtain ⟨a, b⟩ := ih eq (by simp only [szJ, cntXs]; omega) (fun m h => hm m (by simp [jms] at h ⊢; exact .inr (.inr h))) trivial
    refine ⟨call_W m ((hm m (by simp [jms])).1 h) a (fun xs hx => ?_), fun m h => by have := b m h; simp [jms] at this ⊢; exact .inr (.inr this)⟩
    have h2 := len_cnt xs
    have h3 : wV (.asx xs) ≤ wVs us := by
      unfold wVs
      exact mem_sum (List.mem_map.2 ⟨_, hx, rfl⟩)
    simp only [wV] at h3
    omega
  | par h hr ih =>
    intro vs ms' e hs hm hj; obtain ⟨us, rfl, eq⟩ := map_ok e
    obtain ⟨a, b⟩ := ih eq (by simp only [szJ, List.length_cons] at *; omega) (fun m h => hm m (by simp [jms] at h ⊢; exact .inr h)) trivial
    exact ⟨par_W a, fun m h => by have := b m h; simp [jms] at this ⊢; exact .inr this⟩
  | word0 n ms h => intro vs ms' e hs hm hj; cases e; exact ⟨vsW_one ⟨⟨by simp, .inr (.inl (w0_op h))⟩, trivial⟩, fun m h => by simp [jms]; exact .inr h⟩
  | fail h hr ih =>
    intro vs ms' e hs hm hj; obtain ⟨us, rfl, eq⟩ := map_ok e
    obtain ⟨a, b⟩ := ih eq (by simp only [szJ, List.length_cons] at *; omega) (fun m h => hm m (by simp [jms] at h ⊢; exact .inr h)) trivial
    exact ⟨fail_W _ a, fun m h => by have := b m h; simp [jms] at this ⊢; exact .inr this⟩
  | word1 h hr ih =>
    intro vs ms' e hs hm hj; obtain ⟨us, rfl, eq⟩ := map_ok e
    obtain ⟨a, b⟩ := ih eq (by simp only [szJ, List.length_cons] at *; omega) (fun m h => hm m (by simp [jms] at h ⊢; exact .inr h)) trivial
    exact ⟨one_W _ (w1_op h) _ a, fun m h => by have := b m h; simp [jms] at this ⊢; exact .inr this⟩
  | aStop n us ms h => intro vs ms' e hs hm hj; cases e; exact ⟨vsW_one hj, fun m h => by simp [jms]; exact .inr h⟩
  | aNext0 h h1 hr ih1 ih2 =>
    intro vs ms' e hs hm hj
    have s1 := size_le h1 rfl
    simp only [szJ, wVs_cons, wVs_nil, wV, cntXs] at s1 hs
    obtain ⟨a1, b1⟩ := ih1 rfl (by simp only [szJ]; omega) hm trivial
    obtain ⟨a, b⟩ := ih2 e (by simp only [szJ, cntXs]; omega) (fun m h => hm m (b1 m h)) ⟨(vsW_cons.1 a1).1, trivial⟩
    exact ⟨a, fun m h => b1 m (b m h)⟩
  | @aNext n us x m ms ms'' r ha hc h1 hr ih1 ih2 =>
    intro vs ms' e hs hm hj
    have s1 := size_le h1 rfl
    simp only [szJ, wVs_cons, wVs_nil, wV, List.length_cons] at s1 hs
    obtain ⟨a1, b1⟩ := ih1 rfl (by simp only [szJ]; omega) (fun m h => hm m (by simp [jms] at h ⊢; exact .inr h)) trivial
    have b1' : ∀ m' ∈ ms'', m' ∈ jms (.args n us (m :: ms)) := fun m h => by have := b1 m h; simp [jms] at this ⊢; exact .inr this
    obtain ⟨a, b⟩ := ih2 e (by simp only [szJ, cntXs_snoc]; omega) (fun m h => hm m (b1' m h)) (wfXs_snoc hj (vsW_cons.1 a1).1)
    exact ⟨a, fun m h => b1' m (b m h)⟩
  | pStop ps ms h => intro vs ms' e hs hm hj; cases e; exact ⟨vsW_one hj, fun m h => by simp [jms]; exact .inr h⟩
  | @pNext0 x m t ms ms'' r h h1 hr ih1 ih2 =>
    intro vs ms' e hs hm hj
    have s1 := size_le h1 rfl
    simp only [szJ, wVs_cons, wVs_nil, wV, List.length_cons, List.length_nil] at s1 hs
    obtain ⟨a1, b1⟩ := ih1 rfl (by simp only [szJ, List.length_cons]; omega) hm trivial
    obtain ⟨c1, c2⟩ := vsW_cons.1 a1
    obtain ⟨a, b⟩ := ih2 e (by simp only [szJ, List.length_cons, List.length_nil]; omega) (fun m h => hm m (b1 m h)) (fun p hp => by rw [List.mem_singleton.1 hp]; exact ⟨c1, (vsW_cons.1 c2).1⟩)
    exact ⟨a, fun m h => b1 m (b m h)⟩
  | @pNext ps x m t ms ms'' r ha hc h1 hr ih1 ih2 =>
    intro vs ms' e hs hm hj
    have s1 := size_le h1 rfl
    simp only [szJ, wVs_cons, wVs_nil, wV, List.length_cons] at s1 hs
    obtain ⟨a1, b1⟩ := ih1 rfl (by simp only [szJ]; omega) (fun m h => hm m (by simp [jms] at h ⊢; exact .inr h)) trivial
    have b1' : ∀ m' ∈ ms'', m' ∈ jms (.pars ps (m :: ms)) := fun m h => by have := b1 m h; simp [jms] at this ⊢; exact .inr this
    obtain ⟨c1, c2⟩ := vsW_cons.1 a1
    obtain ⟨a, b⟩ := ih2 e (by simp only [szJ, List.length_append, List.length_cons, List.length_nil]; omega) (fun m h => hm m (b1' m h)) (fun p hp => by
      rcases List.mem_append.1 hp with hp | hp
      · exact hj p hp
      · rw [List.mem_singleton.1 hp]; exact ⟨c1, (vsW_cons.1 c2).1⟩)
    exact ⟨a, fun m h => b1' m (b m h)⟩
  | progEnd ms h hf => intro vs ms' e hs hm hj; cases e; exact ⟨vsW_one hj, fun m h => h⟩
  | @prog fs f vs0 m ms ms'' r h h1 hd hr ih1 ih2 =>
    intro vs ms' e hs hm hj
    have s1 := size_le h1 rfl
    have s2 := def_w hd
    simp only [szJ, List.length_cons] at s1 hs
    obtain ⟨a1, b1⟩ := ih1 rfl (by simp only [szJ, List.length_cons]; omega) hm trivial
    obtain ⟨a, b⟩ := ih2 e (by simp only [szJ, List.map_append, List.map_cons, List.map_nil, List.sum_append, List.sum_cons, List.sum_nil]; omega) (fun m h => hm m (b1 m h)) (fun g hg => by
      rcases List.mem_append.1 hg with hg | hg
      · exact hj g hg
      · rw [List.mem_singleton.1 hg]; exact def_W hd a1 (by omega))
    exact ⟨a, fun m h => b1 m (b m h)⟩
  | _ => intro vs ms' e; cases e
/-! the marks of a text -/
theorem wordM_g {s : List UInt8} {a : Nat} {m : M} (hs : s ≠ []) (h : wordM s a = some m) : markG m := by
  unfold wordM at h
  split at h
  · rw [Option.map_eq_some_iff] at h
    obtain ⟨p, hp, rfl⟩ := h
    exact ⟨fun _ => hs, fun _ => (refParse_some hp).1⟩
  · split at h
    · cases h; exact ⟨fun h => (by cases h), fun h => (by cases h)⟩
    · split at h
      · cases h
      · cases h; exact ⟨fun _ => hs, fun h => by cases h⟩
theorem one_g {l : List UInt8} {a : Nat} {m : M} (h : one l a = some m) : markG m ∧ cM m ≤ 2 * m.text.length + 65 := by
  have ht := one_text h
  unfold one at h
  split at h
  · rename_i hh
    have hne : l.takeWhile runB ≠ [] := by
      intro e
      have := wordM_text h
      rw [e] at this
      rw [this.1] at ht
      simp at ht
    refine ⟨wordM_g hne h, ?_⟩
    unfold wordM at h
    split at h
    · rw [Option.map_eq_some_iff] at h
      obtain ⟨p, hp, rfl⟩ := h
      have := (refParse_some (x := p.1) (y := p.2) hp).2
      simp only [cM, this]; omega
    · split at h
      · cases h; simp only [cM, text00]; omega
      · split at h
        · cases h
        · cases h; simp only [cM, text00]; omega
  · split at h
    · cases h
    · cases h; exact ⟨⟨fun h => (by cases h), fun h => (by cases h)⟩, by simp only [cM, text00]; omega⟩
theorem scan_g (k : Nat) : ∀ (l : List UInt8) (a : Nat) (ms : List M), l.length < k → scan l a = .ok ms → (∀ m ∈ ms, markG m) ∧ cMs ms ≤ 67 * l.length + 65 := by
  induction k with
  | zero => intro l a ms h; omega
  | succ k ih =>
    intro l a ms hl hs
    cases l with
    | nil =>
      rw [scan_nil] at hs
      cases hs
      refine ⟨fun m hm => ?_, by simp [cMs, cM, text00]⟩
      rw [List.mem_singleton.1 hm]
      exact ⟨fun h => (by cases h), fun h => (by cases h)⟩
    | cons c r =>
      simp only [List.length_cons] at hl
      by_cases hb : blankB c = true
      · rw [scan_blank hb] at hs
        obtain ⟨h1, h2⟩ := ih r (a + 1) ms (by omega) hs
        exact ⟨h1, by simp only [List.length_cons]; omega⟩
      · by_cases hh : c = 35
        · subst hh
          rw [scan_hash] at hs
          unfold rem at hs
          have hd := drop_len (· != 10) (35 :: r)
          have hd2 : ((35 :: r).dropWhile (· != 10)).length ≤ r.length := by
            rw [List.dropWhile_cons]
            simp only [show ((35 : UInt8) != 10) = true from rfl, if_true]
            exact drop_len _ _
          obtain ⟨h1, h2⟩ := ih _ _ ms (by omega) hs
          exact ⟨h1, by simp only [List.length_cons]; omega⟩
        · rw [scan_one (by simpa using hb) hh] at hs
          split at hs
          · cases hs
          · rename_i m ho
            obtain ⟨t1, t2, t3, t4⟩ := one_text ho
            obtain ⟨o1, o2⟩ := one_g ho
            cases hr : scan ((c :: r).drop m.text.length) (a + m.text.length) with
            | error e => rw [hr] at hs; cases hs
            | ok ms1 =>
              rw [hr] at hs
              cases hs
              simp only [List.length_cons] at t4
              obtain ⟨h1, h2⟩ := ih _ _ ms1 (by rw [List.length_drop]; simp only [List.length_cons]; omega) hr
              rw [List.length_drop] at h2
              simp only [List.length_cons] at h2
              refine ⟨fun x hx => ?_, ?_⟩
              · rcases List.mem_cons.1 hx with rfl | hx
                · exact o1
                · exact h1 x hx
              · have : cMs (m :: ms1) = cM m + cMs ms1 := by simp [cMs]
                rw [this]
                simp only [List.length_cons]; omega
end Pg
open Pg Mk Flo
/-- a program that is read has all that its text shows; its text is not long -/
theorem readL_wf {t : List UInt8} {fs : List Pg.Fd} (h : readL t (some fs)) : (∀ f ∈ fs, wfF f) ∧ fs.length ≤ 1000000 ∧ (fdsT fs).length ≤ 4000000 ∧ ∀ f ∈ fs, (exT f.body).length ≤ 4000000 := by
  have hsm := readL_small h
  obtain ⟨h1, ms, rest, h2, h3⟩ := h
  have hlen := scan_len _ t 0 ms (Nat.lt_succ_self _) h2
  obtain ⟨o1, o2⟩ := scan_g _ t 0 ms (Nat.lt_succ_self _) h2
  obtain ⟨w1, _⟩ := wf_le h3 rfl (by simp [szJ]; omega) o1 (fun f hf => by simp at hf)
  have l1 := len_le h3 rfl
  simp only [szL, vLs_cons, vLs_nil, vL, List.map_nil, List.sum_nil] at l1
  have hT : (fdsT fs).length = (fs.map fL).sum := by
    unfold fdsT
    rw [List.length_flatMap]; rfl
  refine ⟨(vsW_cons.1 w1).1, hsm.len, by omega, fun f hf => ?_⟩
  have : fL f ≤ (fs.map fL).sum := mem_sum (List.mem_map.2 ⟨f, hf, rfl⟩)
  have h4 : (exT f.body).length ≤ fL f := by
    simp only [fL, fdT, List.length_append]; omega
  omega
end Go.Proofs.YtgddkgbidhhheaaDoor
/- Functions' compiled code. (printed by gen/abscode.py) -/
set_option linter.unusedVariables false
namespace Go.Proofs.YtgddkgbidhhheaaDoor
open Ab
def c_wawake : ACode := (.seq (.region [⟨none, (some 0), (.mov 0 (.k (.v (.bool false))))⟩]) (.seq (.region [⟨none, (some 4), (.bsl 4 5 1 23 [(.v (.int .u8 0)), (.v (.int .u8 0)), (.v (.int .u8 0)), (.v (.int .u8 0)), (.v (.int .u8 0)), (.v (.int .u8 0)), (.v (.int .u8 0)), (.v (.int .u8 0)), (.v (.int .u8 0)), (.v (.int .u8 0)), (.v (.int .u8 0)), (.v (.int .u8 0)), (.v (.int .u8 0)), (.v (.int .u8 0)), (.v (.int .u8 0)), (.v (.int .u8 0)), (.v (.int .u8 0)), (.v (.int .u8 0)), (.v (.int .u8 0)), (.v (.int .u8 0)), (.v (.int .u8 0)), (.v (.int .u8 0)), (.v (.int .u8 0))] [(0, (.k (.v (.int .u8 102)))), (1, (.k (.v (.int .u8 40)))), (2, (.k (.v (.int .u8 120)))), (3, (.k (.v (.int .u8 32)))), (4, (.k (.v (.int .u8 78)))), (5, (.k (.v (.int .u8 44)))), (6, (.k (.v (.int .u8 121)))), (7, (.k (.v (.int .u8 32)))), (8, (.k (.v (.int .u8 76)))), (9, (.k (.v (.int .u8 41)))), (10, (.k (.v (.int .u8 58)))), (11, (.k (.v (.int .u8 78)))), (12, (.k (.v (.int .u8 61)))), (13, (.k (.v (.int .u8 40)))), (14, (.k (.v (.int .u8 40)))), (15, (.k (.v (.int .u8 120)))), (16, (.k (.v (.int .u8 41)))), (17, (.k (.v (.int .u8 43)))), (18, (.k (.v (.int .u8 49)))), (19, (.k (.v (.int .u8 41)))), (20, (.k (.v (.int .u8 42)))), (21, (.k (.v (.int .u8 50)))), (22, (.k (.v (.int .u8 59))))])⟩, ⟨none, (some 5), (.cvm 5 (.t 4))⟩, ⟨none, (some 6), (.call (some 6) 7 [(.t 5)])⟩, ⟨none, (some 3), (.mov 3 (.t 6))⟩, ⟨none, (some 7), (.ext 7 0 (.t 3))⟩, ⟨none, (some 8), (.ext 8 1 (.t 3))⟩, ⟨none, (some 1), (.var 1 [(.v (.slice none 0 0))])⟩, ⟨none, none, (.st 1 (.t 1) (.t 7))⟩, ⟨none, (some 2), (.mov 2 (.t 8))⟩]) (.seq (.region [⟨none, (some 9), (.mov 9 (.t 2))⟩, ⟨none, (some 10), (.mov 10 (.t 9))⟩, ⟨(some (10, true)), (some 11), (.ld 11 true 1 (.t 1))⟩, ⟨(some (10, true)), (some 12), (.call (some 12) 10 [(.t 11)])⟩, ⟨(some (10, true)), (some 13), (.bin 13 .eql (.t 12) (.k (.v (.string ⟨#[102, 40, 120, 32, 78, 44, 32, 121, 32, 76, 41, 58, 32, 78, 32, 61, 32, 40, 120, 32, 43, 32, 49, 41, 32, 42, 32, 50, 59, 10]⟩))))⟩, ⟨none, (some 14), (.pick 14 (.t 10) (.t 13) (.k (.v (.bool false))))⟩, ⟨none, (some 15), (.mov 15 (.t 14))⟩, ⟨(some (15, true)), (some 16), (.fad 16 0 (.t 1))⟩, ⟨(some (15, true)), (some 17), (.ld 17 false 1 (.t 16))⟩, ⟨(some (15, true)), (some 18), (.ixa 18 11 (.t 17) (.k (.v (.int .i64 0))))⟩, ⟨(some (15, true)), (some 19), (.fad 19 3 (.t 18))⟩, ⟨(some (15, true)), (some 20), (.ld 20 true 7 (.t 19))⟩, ⟨(some (15, true)), (some 21), (.call (some 21) 8 [(.t 20)])⟩, ⟨(some (15, true)), (some 22), (.bin 22 .eql (.t 21) (.k (.v (.string ⟨#[40, 120, 32, 43, 32, 49, 41, 32, 42, 32, 50]⟩))))⟩, ⟨none, (some 23), (.pick 23 (.t 15) (.t 22) (.k (.v (.bool false))))⟩, ⟨none, (some 0), (.mov 0 (.t 23))⟩]) .ret)))
set_option maxRecDepth 100000 in
theorem F_wawake : Fun Tryd.prog 6 24 c_wawake [(.tmp 0)] := Fun.of (m := false) (by as_aux_lemma => kernel_rfl)
def c_wread : ACode := (.seq (.region [⟨none, (some 2), (.var 2 [(.v (.slice none 0 0))])⟩, ⟨none, (some 3), (.mov 3 (.k (.v (.bool false))))⟩]) (.seq (.region [⟨none, (some 7), (.mov 7 (.t 0))⟩, ⟨none, (some 8), (.call (some 8) 14 [])⟩, ⟨none, (some 9), (.call (some 9) 13 [(.t 7), (.t 8)])⟩, ⟨none, (some 6), (.mov 6 (.t 9))⟩, ⟨none, (some 10), (.ext 10 0 (.t 6))⟩, ⟨none, (some 11), (.ext 11 1 (.t 6))⟩, ⟨none, (some 4), (.var 4 [(.v (.slice none 0 0))])⟩, ⟨none, (some 5), (.var 5 [(.v (.int .i64 0)), (.v (.int .i64 0))])⟩, ⟨none, none, (.st 1 (.t 4) (.t 10))⟩, ⟨none, none, (.st 2 (.t 5) (.t 11))⟩]) (.seq (.draw [⟨none, (some 12), (.ldd 12 true 1 (.t 4) [(.t 2)])⟩, ⟨none, (some 13), (.fad 13 0 (.t 5))⟩, ⟨none, (some 14), (.ldd 14 false 1 (.t 13) [(.t 2)])⟩, ⟨none, (some 15), (.bin 15 .eql (.t 14) (.k (.v (.int .i64 0))))⟩, ⟨none, none, (.st 1 (.t 2) (.t 12))⟩, ⟨none, (some 3), (.mov 3 (.t 15))⟩]) .ret)))
set_option maxRecDepth 100000 in
theorem F_wread : Fun Tryd.prog 7 16 c_wread [(.cell 2 true 1), (.tmp 3)] := Fun.of (m := false) (by as_aux_lemma => kernel_rfl)
def c_wprints_L0 : ACode := (.seq (.seq (.region [⟨none, (some 15), (.mov 15 (.t 5))⟩, ⟨none, (some 16), (.fad 16 0 (.t 3))⟩, ⟨none, (some 17), (.ld 17 false 1 (.t 16))⟩, ⟨none, (some 18), (.len 18 false (.t 17))⟩, ⟨none, (some 19), (.bin 19 .lss (.t 15) (.t 18))⟩]) (.cond (.t 19) .skip (.exit 0))) (.seq (.block 1 (.seq (.draw [⟨none, (some 22), (.fad 22 0 (.t 3))⟩, ⟨none, (some 23), (.ld 23 false 1 (.t 22))⟩, ⟨none, (some 24), (.mov 24 (.t 5))⟩, ⟨none, (some 25), (.ixa 25 11 (.t 23) (.t 24))⟩, ⟨none, (some 26), (.fad 26 3 (.t 25))⟩, ⟨none, (some 27), (.ld 27 true 7 (.t 26))⟩, ⟨none, (some 28), (.call (some 28) 8 [(.t 27)])⟩, ⟨none, (some 29), (.fad 29 0 (.t 3))⟩, ⟨none, (some 30), (.ld 30 false 1 (.t 29))⟩, ⟨none, (some 31), (.mov 31 (.t 5))⟩, ⟨none, (some 32), (.ixa 32 11 (.t 30) (.t 31))⟩, ⟨none, (some 33), (.fad 33 3 (.t 32))⟩, ⟨none, (some 34), (.ld 34 true 7 (.t 33))⟩, ⟨none, (some 35), (.call (some 35) 9 [(.t 34)])⟩, ⟨none, (some 36), (.bin 36 .neq (.t 28) (.t 35))⟩]) (.cond (.t 36) (.seq (.region [⟨none, (some 2), (.mov 2 (.k (.v (.bool false))))⟩]) .ret) .skip))) (.region [⟨none, (some 20), (.mov 20 (.t 5))⟩, ⟨none, (some 21), (.bin 21 .add (.t 20) (.k (.v (.int .i64 1))))⟩, ⟨none, (some 5), (.mov 5 (.t 21))⟩])))
def c_wprints : ACode := (.seq (.region [⟨none, (some 2), (.mov 2 (.k (.v (.bool false))))⟩]) (.seq (.seq (.region [⟨none, (some 6), (.call (some 6) 6 [])⟩, ⟨none, (some 7), (.un 7 .not (.t 6))⟩]) (.cond (.t 7) (.seq (.region [⟨none, (some 2), (.mov 2 (.k (.v (.bool false))))⟩]) .ret) .skip)) (.seq (.region [⟨none, (some 9), (.mov 9 (.t 0))⟩, ⟨none, (some 10), (.call (some 10) 7 [(.t 9)])⟩, ⟨none, (some 8), (.mov 8 (.t 10))⟩, ⟨none, (some 11), (.ext 11 0 (.t 8))⟩, ⟨none, (some 12), (.ext 12 1 (.t 8))⟩, ⟨none, (some 3), (.var 3 [(.v (.slice none 0 0))])⟩, ⟨none, none, (.st 1 (.t 3) (.t 11))⟩, ⟨none, (some 4), (.mov 4 (.t 12))⟩]) (.seq (.seq (.region [⟨none, (some 13), (.mov 13 (.t 4))⟩, ⟨none, (some 14), (.un 14 .not (.t 13))⟩]) (.cond (.t 14) (.seq (.region [⟨none, (some 2), (.mov 2 (.k (.v (.bool true))))⟩]) .ret) .skip)) (.seq (.seq (.region [⟨none, (some 5), (.mov 5 (.k (.v (.int .i64 0))))⟩]) (.block 0 (.loop c_wprints_L0))) (.seq (.draw [⟨none, (some 37), (.ld 37 true 1 (.t 3))⟩, ⟨none, (some 38), (.call (some 38) 10 [(.t 37)])⟩, ⟨none, (some 39), (.ld 39 true 1 (.t 3))⟩, ⟨none, (some 40), (.call (some 40) 11 [(.t 39)])⟩, ⟨none, (some 41), (.bin 41 .eql (.t 38) (.t 40))⟩, ⟨none, (some 2), (.mov 2 (.t 41))⟩]) .ret))))))
set_option maxRecDepth 100000 in
theorem F_wprints : Fun Tryd.prog 3 42 c_wprints [(.tmp 2)] := Fun.of (m := false) (by as_aux_lemma => kernel_rfl)
def c_wkeep_L0 : ACode := (.seq (.seq (.region [⟨none, (some 28), (.mov 28 (.t 9))⟩, ⟨none, (some 29), (.fad 29 0 (.t 3))⟩, ⟨none, (some 30), (.ld 30 false 1 (.t 29))⟩, ⟨none, (some 31), (.len 31 false (.t 30))⟩, ⟨none, (some 32), (.bin 32 .lss (.t 28) (.t 31))⟩]) (.cond (.t 32) .skip (.exit 0))) (.seq (.block 1 (.region [⟨none, (some 35), (.fad 35 0 (.t 3))⟩, ⟨none, (some 36), (.ld 36 false 1 (.t 35))⟩, ⟨none, (some 37), (.mov 37 (.t 9))⟩, ⟨none, (some 38), (.ixa 38 11 (.t 36) (.t 37))⟩, ⟨none, (some 39), (.fad 39 3 (.t 38))⟩, ⟨none, (some 40), (.ld 40 true 7 (.t 39))⟩, ⟨none, (some 41), (.call (some 41) 8 [(.t 40)])⟩])) (.region [⟨none, (some 33), (.mov 33 (.t 9))⟩, ⟨none, (some 34), (.bin 34 .add (.t 33) (.k (.v (.int .i64 1))))⟩, ⟨none, (some 9), (.mov 9 (.t 34))⟩])))
def c_wkeep : ACode := (.seq (.region [⟨none, (some 2), (.mov 2 (.k (.v (.bool false))))⟩]) (.seq (.seq (.region [⟨none, (some 10), (.call (some 10) 6 [])⟩, ⟨none, (some 11), (.un 11 .not (.t 10))⟩]) (.cond (.t 11) (.seq (.region [⟨none, (some 2), (.mov 2 (.k (.v (.bool false))))⟩]) .ret) .skip)) (.seq (.region [⟨none, (some 13), (.mov 13 (.t 0))⟩, ⟨none, (some 14), (.call (some 14) 7 [(.t 13)])⟩, ⟨none, (some 12), (.mov 12 (.t 14))⟩, ⟨none, (some 15), (.ext 15 0 (.t 12))⟩, ⟨none, (some 16), (.ext 16 1 (.t 12))⟩, ⟨none, (some 3), (.var 3 [(.v (.slice none 0 0))])⟩, ⟨none, none, (.st 1 (.t 3) (.t 15))⟩, ⟨none, (some 4), (.mov 4 (.t 16))⟩]) (.seq (.seq (.region [⟨none, (some 17), (.mov 17 (.t 4))⟩, ⟨none, (some 18), (.un 18 .not (.t 17))⟩]) (.cond (.t 18) (.seq (.region [⟨none, (some 2), (.mov 2 (.k (.v (.bool true))))⟩]) .ret) .skip)) (.seq (.region [⟨none, (some 20), (.mov 20 (.t 0))⟩, ⟨none, (some 21), (.call (some 21) 7 [(.t 20)])⟩, ⟨none, (some 19), (.mov 19 (.t 21))⟩, ⟨none, (some 22), (.ext 22 0 (.t 19))⟩, ⟨none, (some 23), (.ext 23 1 (.t 19))⟩, ⟨none, (some 5), (.var 5 [(.v (.slice none 0 0))])⟩, ⟨none, none, (.st 1 (.t 5) (.t 22))⟩, ⟨none, (some 6), (.mov 6 (.t 23))⟩]) (.seq (.region [⟨none, (some 24), (.ld 24 true 1 (.t 3))⟩, ⟨none, (some 25), (.call (some 25) 10 [(.t 24)])⟩, ⟨none, (some 7), (.mov 7 (.t 25))⟩]) (.seq (.region [⟨none, (some 26), (.ld 26 true 1 (.t 3))⟩, ⟨none, (some 27), (.call (some 27) 10 [(.t 26)])⟩, ⟨none, (some 8), (.mov 8 (.t 27))⟩]) (.seq (.seq (.region [⟨none, (some 9), (.mov 9 (.k (.v (.int .i64 0))))⟩]) (.block 0 (.loop c_wkeep_L0))) (.seq (.region [⟨none, (some 42), (.mov 42 (.t 7))⟩, ⟨none, (some 43), (.mov 43 (.t 8))⟩, ⟨none, (some 44), (.bin 44 .eql (.t 42) (.t 43))⟩, ⟨none, (some 45), (.mov 45 (.t 44))⟩, ⟨(some (45, true)), (some 46), (.ld 46 true 1 (.t 3))⟩, ⟨(some (45, true)), (some 47), (.ld 47 true 1 (.t 5))⟩, ⟨(some (45, true)), (some 48), (.call (some 48) 12 [(.t 46), (.t 47), (.k (.v (.bool true)))])⟩, ⟨none, (some 49), (.pick 49 (.t 45) (.t 48) (.k (.v (.bool false))))⟩, ⟨none, (some 2), (.mov 2 (.t 49))⟩]) .ret)))))))))
set_option maxRecDepth 100000 in
theorem F_wkeep : Fun Tryd.prog 5 50 c_wkeep [(.tmp 2)] := Fun.of (m := false) (by as_aux_lemma => kernel_rfl)
end Go.Proofs.YtgddkgbidhhheaaDoor
