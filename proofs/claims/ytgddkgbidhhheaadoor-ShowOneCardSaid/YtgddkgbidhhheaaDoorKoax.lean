/- Texts joined: Shi CdW CdP Psq Psr Pss Wsa. -/
import Derived.Test.YtgddkgbidhhheaaDoorKoaw
import Derived.Test.YtgddkgbidhhheaaDoorKoac
import Derived.Test.YtgddkgbidhhheaaDoorProg
import Derived.KernelRfl
import Derived.Test.YtgddkgbidhhheaaDoorKoal
/- What the grammar reads has all that its text shows. No program in sight. -/
set_option linter.unusedVariables false
set_option linter.unusedSimpArgs false
namespace Go.Proofs.YtgddkgbidhhheaaDoor
namespace Pg
open Mk Flo
def markG (m : M) : Prop := (m.kind = 0 → m.text ≠ []) ∧ (m.kind = 2 → Flo.okR m.num.1 m.num.2 = true)
theorem mem_sum : ∀ {l : List Nat} {x : Nat}, x ∈ l → x ≤ l.sum
  | a :: l, x, h => by
    rw [List.sum_cons]
    rcases List.mem_cons.1 h with rfl | h
    · omega
    · have := mem_sum h; omega
def jms : Job → List M
  | .seq _ _ ms => ms
  | .expr _ ms => ms
  | .row _ _ ms => ms
  | .tail _ _ e ms => ms
  | .unit _ ms => ms
  | .args _ us ms => ms
  | .pars ps ms => ms
  | .prog fs ms => ms
def pmsW (ps : List Pm) : Prop := ∀ p ∈ ps, p.name ≠ [] ∧ tyW p.ty
def jW : Job → Prop
  | .tail _ _ e _ => wfX e
  | .args _ us _ => wfXs us
  | .pars ps _ => pmsW ps
  | .prog fs _ => ∀ f ∈ fs, wfF f
  | _ => True
def vW : Vl → Prop
  | .u => True
  | .e x => wfX x
  | .nm m => m.text ≠ []
  | .ty t => tyW t
  | .asx xs => wfXs xs
  | .ps ps => pmsW ps
  | .fs fs => ∀ f ∈ fs, wfF f
def vsW (vs : List Vl) : Prop := ∀ v ∈ vs, vW v
theorem vsW_cons {v : Vl} {vs : List Vl} : vsW (v :: vs) ↔ vW v ∧ vsW vs := by simp [vsW]
theorem vsW_nil : vsW [] := fun v h => by simp at h
theorem vsW_one {v : Vl} (h : vW v) : vsW [v] := vsW_cons.2 ⟨h, vsW_nil⟩
theorem typ_W {m : M} {t : Int} (h : typOf m = some t) : tyW t := by
  unfold typOf at h
  repeat' split at h
  all_goals first | (cases h; simp [tyW]; done) | cases h
theorem str_op {m : M} {lv : Nat} {op : Int} (h : strOf m = some (lv, op)) : op = 8 ∨ op = 9 ∨ op = 10 ∨ op = 11 ∨ op = 12 ∨ op = 13 ∨ op = 18 := by
  unfold strOf at h
  repeat' split at h
  all_goals first | (cases h; simp; done) | cases h
theorem w0_op {m : M} {op : Int} (h : word0 m = some op) : op = 2 ∨ op = 3 ∨ op = 4 := by
  unfold word0 at h
  repeat' split at h
  all_goals first | (cases h; simp; done) | cases h
theorem w1_op {m : M} {op : Int} (h : word1 m = some op) : op = 14 ∨ op = 15 ∨ op = 16 ∨ op = 17 := by
  unfold word1 at h
  repeat' split at h
  all_goals first | (cases h; simp; done) | cases h
theorem wfXs_snoc : ∀ {us : List Ex} {e : Ex}, wfXs us → wfX e → wfXs (us ++ [e])
  | [], e, _, h => ⟨h, trivial⟩
  | u :: r, e, h, h' => ⟨h.1, wfXs_snoc h.2 h'⟩
theorem cntX_pos (e : Ex) : 1 ≤ cntX e := by
  obtain ⟨op, nm, tl, ty, num, bs, pos⟩ := e
  simp only [cntX]; omega
theorem len_cnt : ∀ us : List Ex, us.length ≤ cntXs us
  | [] => Nat.zero_le _
  | u :: r => by
    have := len_cnt r
    have h := cntX_pos u
    simp only [cntXs, List.length_cons]; omega
theorem two_W {op : Int} {a b : Ex} (pos : Int) (h : op = 8 ∨ op = 9 ∨ op = 10 ∨ op = 11 ∨ op = 12 ∨ op = 13 ∨ op = 18) (ha : wfX a) (hb : wfX b) : wfX (two op a b pos) := by
  refine ⟨⟨by simp, ?_⟩, ha, hb, trivial⟩
  exact .inr (.inr (.inr (.inr (.inr (.inr (.inl ⟨h, rfl⟩))))))
theorem bind_W (m : M) {vs : List Vl} (h : vsW vs) : vsW (bindEx m vs) := by
  unfold bindEx
  split
  · rename_i x t _ a _ b
    simp only [vsW_cons, vW] at h
    refine vsW_one ⟨⟨by simp, ?_⟩, h.2.2.2.1, h.2.2.2.2.2.1, trivial⟩
    refine .inr (.inr (.inr (.inr (.inr (.inr (.inr (.inr (.inr ⟨?_, rfl, h.1, h.2.1⟩))))))))
    split <;> simp
  · rename_i x _ _ _ a _ hh _ t _ b
    simp only [vsW_cons, vW] at h
    obtain ⟨h1, _, _, _, h2, _, h3, _, h4, _, h5, _⟩ := h
    refine vsW_one ⟨⟨by simp, ?_⟩, h1, h2, h5, trivial⟩
    exact .inr (.inr (.inr (.inr (.inr (.inr (.inr (.inr (.inl ⟨rfl, rfl, h3, h4⟩))))))))
  · exact vsW_nil
theorem if_W (m : M) {vs : List Vl} (h : vsW vs) : vsW (ifEx m vs) := by
  unfold ifEx
  split
  · simp only [vsW_cons, vW] at h
    refine vsW_one ⟨⟨by simp, ?_⟩, h.1, h.2.2.1, h.2.2.2.2.1, trivial⟩
    exact .inr (.inr (.inr (.inr (.inr (.inr (.inr (.inl ⟨rfl, rfl⟩)))))))
  · exact vsW_nil
theorem call_W (m : M) (hm : m.text ≠ []) {vs : List Vl} (h : vsW vs) (hl : ∀ xs, Vl.asx xs ∈ vs → xs.length ≤ 1000000) : vsW (callEx m vs) := by
  unfold callEx
  split
  · rename_i xs
    simp only [vsW_cons, vW] at h
    refine vsW_one ⟨⟨hl xs (by simp), ?_⟩, h.1⟩
    exact .inr (.inr (.inr (.inr (.inl ⟨rfl, hm⟩))))
  · exact vsW_nil
theorem par_W {vs : List Vl} (h : vsW vs) : vsW (parEx vs) := by
  unfold parEx
  split
  · simp only [vsW_cons, vW] at h
    exact vsW_one h.1
  · exact vsW_nil
theorem fail_W (m : M) {vs : List Vl} (h : vsW vs) : vsW (failEx m vs) := by
  unfold failEx
  split
  · simp only [vsW_cons, vW] at h
    refine vsW_one ⟨⟨by simp, ?_⟩, trivial⟩
    exact .inr (.inr (.inl ⟨rfl, h.1⟩))
  · exact vsW_nil
theorem one_W (op : Int) (hop : op = 14 ∨ op = 15 ∨ op = 16 ∨ op = 17) (m : M) {vs : List Vl} (h : vsW vs) : vsW (oneEx op m vs) := by
  unfold oneEx
  split
  · simp only [vsW_cons, vW] at h
    refine vsW_one ⟨⟨by simp, ?_⟩, h.2.1, trivial⟩
    exact .inr (.inr (.inr (.inr (.inr (.inl hop)))))
  · exact vsW_nil
theorem def_W {vs : List Vl} {f : Pg.Fd} (hd : defEx vs = some f) (h : vsW vs) (hs : wVs vs ≤ 1000000) : wfF f := by
  unfold defEx at hd
  split at hd
  · rename_i m _ ps _ t _ b _
    cases hd
    simp only [vsW_cons, vW] at h
    obtain ⟨h1, _, h2, _, h3, _, h4, _⟩ := h
    refine ⟨h1, h2, h3, h4, ?_⟩
    have hp : wV (.ps ps) = ps.length := rfl
    simp only [wVs_cons, wVs_nil] at hs
    show ps.length ≤ _
    omega
  · cases hd
theorem wf_le {l : Lim} {j : Job} {r : Res} (h : P l j r) : ∀ {vs : List Vl} {ms' : List M}, r = .ok vs ms' → szJ j ≤ 1000000 → (∀ m ∈ jms j, markG m) → jW j → vsW vs ∧ ∀ m ∈ ms', m ∈ jms j := by
  induction h with
  | nil n ms => intro vs ms' e hs hm hj; cases e; exact ⟨vsW_nil, fun m h => h⟩
  | w h hr ih =>
    intro vs ms' e hs hm hj; obtain ⟨us, rfl, eq⟩ := cons_ok e
    obtain ⟨a, b⟩ := ih eq (by simp only [szJ, List.length_cons] at *; omega) (fun m h => hm m (by simp [jms] at h ⊢; exact .inr h)) trivial
    exact ⟨vsW_cons.2 ⟨trivial, a⟩, fun m h => by have := b m h; simp [jms] at this ⊢; exact .inr this⟩
  | @nm n is m ms r h hr ih =>
    intro vs ms' e hs hm hj; obtain ⟨us, rfl, eq⟩ := cons_ok e
    obtain ⟨a, b⟩ := ih eq (by simp only [szJ, List.length_cons] at *; omega) (fun m h => hm m (by simp [jms] at h ⊢; exact .inr h)) trivial
    exact ⟨vsW_cons.2 ⟨(hm m (by simp [jms])).1 h, a⟩, fun m h => by have := b m h; simp [jms] at this ⊢; exact .inr this⟩
  | @cn n is k most m ms r h hk hr ih =>
    intro vs ms' e hs hm hj; obtain ⟨us, rfl, eq⟩ := cons_ok e
    obtain ⟨a, b⟩ := ih eq (by simp only [szJ, List.length_cons] at *; omega) (fun m h => hm m (by simp [jms] at h ⊢; exact .inr h)) trivial
    exact ⟨vsW_cons.2 ⟨(hm m (by simp [jms])).1 h, a⟩, fun m h => by have := b m h; simp [jms] at this ⊢; exact .inr this⟩
  | ty h hr ih =>
    intro vs ms' e hs hm hj; obtain ⟨us, rfl, eq⟩ := cons_ok e
    obtain ⟨a, b⟩ := ih eq (by simp only [szJ, List.length_cons] at *; omega) (fun m h => hm m (by simp [jms] at h ⊢; exact .inr h)) trivial
    exact ⟨vsW_cons.2 ⟨typ_W h, a⟩, fun m h => by have := b m h; simp [jms] at this ⊢; exact .inr this⟩
  | e h hr ih1 ih2 =>
    intro vs ms' e hs hm hj; obtain ⟨us, rfl, eq⟩ := cons_ok e
    have s1 := size_le h rfl
    simp only [szJ] at s1 hs
    obtain ⟨a1, b1⟩ := ih1 rfl hs hm trivial
    obtain ⟨a, b⟩ := ih2 eq (by simp only [szJ]; omega) (fun m h => hm m (b1 m h)) trivial
    exact ⟨vsW_cons.2 ⟨(vsW_cons.1 a1).1, a⟩, fun m h => b1 m (b m h)⟩
  | ps h hr ih1 ih2 =>
    intro vs ms' e hs hm hj; obtain ⟨us, rfl, eq⟩ := cons_ok e
    have s1 := size_le h rfl
    simp only [szJ, List.length_nil] at s1 hs
    obtain ⟨a1, b1⟩ := ih1 rfl (by simp only [szJ, List.length_nil]; omega) hm (fun p hp => by simp at hp)
    obtain ⟨a, b⟩ := ih2 eq (by simp only [szJ]; omega) (fun m h => hm m (b1 m h)) trivial
    exact ⟨vsW_cons.2 ⟨(vsW_cons.1 a1).1, a⟩, fun m h => b1 m (b m h)⟩
  | bind h hn hr ih =>
    intro vs ms' e hs hm hj; obtain ⟨us, rfl, eq⟩ := map_ok e
    obtain ⟨a, b⟩ := ih eq (by simp only [szJ, List.length_cons] at *; omega) (fun m h => hm m (by simp [jms] at h ⊢; exact .inr h)) trivial
    exact ⟨bind_W _ a, fun m h => by have := b m h; simp [jms] at this ⊢; exact .inr this⟩
  | cond h hr ih =>
    intro vs ms' e hs hm hj; obtain ⟨us, rfl, eq⟩ := map_ok e
    obtain ⟨a, b⟩ := ih eq (by simp only [szJ, List.length_cons] at *; omega) (fun m h => hm m (by simp [jms] at h ⊢; exact .inr h)) trivial
    exact ⟨if_W _ a, fun m h => by have := b m h; simp [jms] at this ⊢; exact .inr this⟩
  | expr h h' hr ih => intro vs ms' e hs hm hj; exact ih e hs hm trivial
  | row4 hr ih => intro vs ms' e hs hm hj; exact ih e hs hm trivial
  | row h h1 hr ih1 ih2 =>
    intro vs ms' e hs hm hj
    have s1 := size_le h1 rfl
    simp only [szJ, wVs_cons, wVs_nil, wV] at s1 hs
    obtain ⟨a1, b1⟩ := ih1 rfl hs hm trivial
    obtain ⟨a, b⟩ := ih2 e (by simp only [szJ]; omega) (fun m h => hm m (b1 m h)) (vsW_cons.1 a1).1
    exact ⟨a, fun m h => b1 m (b m h)⟩
  | stop n e ms h => intro vs ms' eq hs hm hj; cases eq; exact ⟨vsW_one hj, fun m h => h⟩
  | @tail1 n lv op e b m ms ms'' h hl hr ih =>
    intro vs ms' eq hs hm hj; cases eq
    obtain ⟨a1, b1⟩ := ih rfl (by simp only [szJ, List.length_cons] at *; omega) (fun m h => hm m (by simp [jms] at h ⊢; exact .inr h)) trivial
    exact ⟨vsW_one (two_W m.pos (str_op h) hj (vsW_cons.1 a1).1), fun m h => by have := b1 m h; simp [jms] at this ⊢; exact .inr this⟩
  | @tail2 n lv op e b m ms ms'' r h hl h1 hr ih1 ih2 =>
    intro vs ms' eq hs hm hj
    have s1 := size_le h1 rfl
    simp only [szJ, wVs_cons, wVs_nil, wV, List.length_cons] at s1 hs
    obtain ⟨a1, b1⟩ := ih1 rfl (by simp only [szJ]; omega) (fun m h => hm m (by simp [jms] at h ⊢; exact .inr h)) trivial
    have b1' : ∀ m' ∈ ms'', m' ∈ jms (.tail n lv e (m :: ms)) := fun m h => by have := b1 m h; simp [jms] at this ⊢; exact .inr this
    obtain ⟨a, b⟩ := ih2 eq (by simp only [szJ, two, cntX, cntXs]; omega) (fun m h => hm m (b1' m h)) (two_W m.pos (str_op h) hj (vsW_cons.1 a1).1)
    exact ⟨a, fun m h => b1' m (b m h)⟩
  | @num n m ms h => intro vs ms' e hs hm hj; cases e; exact ⟨vsW_one ⟨⟨by simp, .inl ⟨rfl, (hm m (by simp [jms])).2 h⟩⟩, trivial⟩, fun m h => by simp [jms]; exact .inr h⟩
  | @var n m k ms h hk => intro vs ms' e hs hm hj; cases e; exact ⟨vsW_one ⟨⟨by simp, .inr (.inr (.inr (.inl ⟨rfl, (hm m (by simp [jms])).1 h⟩)))⟩, trivial⟩, fun m h => by simp [jms] at h ⊢; exact .inr h⟩
  | @call n m k ms r h hk hr ih =>
    intro vs ms' e hs hm hj; obtain ⟨us, rfl, eq⟩ := map_ok e
    have s1 := size_le hr eq
    simp only [szJ, cntXs, List.length_cons] at s1 hs
    obtain ⟨a, b⟩ := ih eq (by simp only [szJ, cntXs]; omega) (fun m h => hm m (by simp [jms] at h ⊢; exact .inr (.inr h))) trivial
    refine ⟨call_W m ((hm m (by simp [jms])).1 h) a (fun xs hx => ?_), fun m h => by have := b m h; simp [jms] at this ⊢; exact .inr (.inr this)⟩
    have h2 := len_cnt xs
    have h3 : wV (.asx xs) ≤ wVs us := by
      unfold wVs
      exact mem_sum (List.mem_map.2 ⟨_, hx, rfl⟩)
    simp only [wV] at h3
    omega
  | par h hr ih =>
    intro vs ms' e hs hm hj; obtain ⟨us, rfl, eq⟩ := map_ok e
    obtain ⟨a, b⟩ := ih eq (by simp only [szJ, List.length_cons] at *; omega) (fun m h => hm m (by simp [jms] at h ⊢; exact .inr h)) trivial
    exact ⟨par_W a, fun m h => by have := b m h; simp [jms] at this ⊢; exact .inr this⟩
  | word0 n ms h => intro vs ms' e hs hm hj; cases e; exact ⟨vsW_one ⟨⟨by simp, .inr (.inl (w0_op h))⟩, trivial⟩, fun m h => by simp [jms]; exact .inr h⟩
  | fail h hr ih =>
    intro vs ms' e hs hm hj; obtain ⟨us, rfl, eq⟩ := map_ok e
    obtain ⟨a, b⟩ := ih eq (by simp only [szJ, List.length_cons] at *; omega) (fun m h => hm m (by simp [jms] at h ⊢; exact .inr h)) trivial
    exact ⟨fail_W _ a, fun m h => by have := b m h; simp [jms] at this ⊢; exact .inr this⟩
  | word1 h hr ih =>
    intro vs ms' e hs hm hj; obtain ⟨us, rfl, eq⟩ := map_ok e
    obtain ⟨a, b⟩ := ih eq (by simp only [szJ, List.length_cons] at *; omega) (fun m h => hm m (by simp [jms] at h ⊢; exact .inr h)) trivial
    exact ⟨one_W _ (w1_op h) _ a, fun m h => by have := b m h; simp [jms] at this ⊢; exact .inr this⟩
  | aStop n us ms h => intro vs ms' e hs hm hj; cases e; exact ⟨vsW_one hj, fun m h => by simp [jms]; exact .inr h⟩
  | aNext0 h h1 hr ih1 ih2 =>
    intro vs ms' e hs hm hj
    have s1 := size_le h1 rfl
    simp only [szJ, wVs_cons, wVs_nil, wV, cntXs] at s1 hs
    obtain ⟨a1, b1⟩ := ih1 rfl (by simp only [szJ]; omega) hm trivial
    obtain ⟨a, b⟩ := ih2 e (by simp only [szJ, cntXs]; omega) (fun m h => hm m (b1 m h)) ⟨(vsW_cons.1 a1).1, trivial⟩
    exact ⟨a, fun m h => b1 m (b m h)⟩
  | @aNext n us x m ms ms'' r ha hc h1 hr ih1 ih2 =>
    intro vs ms' e hs hm hj
    have s1 := size_le h1 rfl
    simp only [szJ, wVs_cons, wVs_nil, wV, List.length_cons] at s1 hs
    obtain ⟨a1, b1⟩ := ih1 rfl (by simp only [szJ]; omega) (fun m h => hm m (by simp [jms] at h ⊢; exact .inr h)) trivial
    have b1' : ∀ m' ∈ ms'', m' ∈ jms (.args n us (m :: ms)) := fun m h => by have := b1 m h; simp [jms] at this ⊢; exact .inr this
    obtain ⟨a, b⟩ := ih2 e (by simp only [szJ, cntXs_snoc]; omega) (fun m h => hm m (b1' m h)) (wfXs_snoc hj (vsW_cons.1 a1).1)
    exact ⟨a, fun m h => b1' m (b m h)⟩
  | pStop ps ms h => intro vs ms' e hs hm hj; cases e; exact ⟨vsW_one hj, fun m h => by simp [jms]; exact .inr h⟩
  | @pNext0 x m t ms ms'' r h h1 hr ih1 ih2 =>
    intro vs ms' e hs hm hj
    have s1 := size_le h1 rfl
    simp only [szJ, wVs_cons, wVs_nil, wV, List.length_cons, List.length_nil] at s1 hs
    obtain ⟨a1, b1⟩ := ih1 rfl (by simp only [szJ, List.length_cons]; omega) hm trivial
    obtain ⟨c1, c2⟩ := vsW_cons.1 a1
    obtain ⟨a, b⟩ := ih2 e (by simp only [szJ, List.length_cons, List.length_nil]; omega) (fun m h => hm m (b1 m h)) (fun p hp => by rw [List.mem_singleton.1 hp]; exact ⟨c1, (vsW_cons.1 c2).1⟩)
    exact ⟨a, fun m h => b1 m (b m h)⟩
  | @pNext ps x m t ms ms'' r ha hc h1 hr ih1 ih2 =>
    intro vs ms' e hs hm hj
    have s1 := size_le h1 rfl
    simp only [szJ, wVs_cons, wVs_nil, wV, List.length_cons] at s1 hs
    obtain ⟨a1, b1⟩ := ih1 rfl (by simp only [szJ]; omega) (fun m h => hm m (by simp [jms] at h ⊢; exact .inr h)) trivial
    have b1' : ∀ m' ∈ ms'', m' ∈ jms (.pars ps (m :: ms)) := fun m h => by have := b1 m h; simp [jms] at this ⊢; exact .inr this
    obtain ⟨c1, c2⟩ := vsW_cons.1 a1
    obtain ⟨a, b⟩ := ih2 e (by simp only [szJ, List.length_append, List.length_cons, List.length_nil]; omega) (fun m h => hm m (b1' m h)) (fun p hp => by
      rcases List.mem_append.1 hp with hp | hp
      · exact hj p hp
      · rw [List.mem_singleton.1 hp]; exact ⟨c1, (vsW_cons.1 c2).1⟩)
    exact ⟨a, fun m h => b1' m (b m h)⟩
  | progEnd ms h hf => intro vs ms' e hs hm hj; cases e; exact ⟨vsW_one hj, fun m h => h⟩
  | @prog fs f vs0 m ms ms'' r h h1 hd hr ih1 ih2 =>
    intro vs ms' e hs hm hj
    have s1 := size_le h1 rfl
    have s2 := def_w hd
    simp only [szJ, List.length_cons] at s1 hs
    obtain ⟨a1, b1⟩ := ih1 rfl (by simp only [szJ, List.length_cons]; omega) hm trivial
    obtain ⟨a, b⟩ := ih2 e (by simp only [szJ, List.map_append, List.map_cons, List.map_nil, List.sum_append, List.sum_cons, List.sum_nil]; omega) (fun m h => hm m (b1 m h)) (fun g hg => by
      rcases List.mem_append.1 hg with hg | hg
      · exact hj g hg
      · rw [List.mem_singleton.1 hg]; exact def_W hd a1 (by omega))
    exact ⟨a, fun m h => b1 m (b m h)⟩
  | _ => intro vs ms' e; cases e
/-! the marks of a text -/
theorem wordM_g {s : List UInt8} {a : Nat} {m : M} (hs : s ≠ []) (h : wordM s a = some m) : markG m := by
  unfold wordM at h
  split at h
  · rw [Option.map_eq_some_iff] at h
    obtain ⟨p, hp, rfl⟩ := h
    exact ⟨fun _ => hs, fun _ => (refParse_some hp).1⟩
  · split at h
    · cases h; exact ⟨fun h => (by cases h), fun h => (by cases h)⟩
    · split at h
      · cases h
      · cases h; exact ⟨fun _ => hs, fun h => by cases h⟩
theorem one_g {l : List UInt8} {a : Nat} {m : M} (h : one l a = some m) : markG m ∧ cM m ≤ 2 * m.text.length + 65 := by
  have ht := one_text h
  unfold one at h
  split at h
  · rename_i hh
    have hne : l.takeWhile runB ≠ [] := by
      intro e
      have := wordM_text h
      rw [e] at this
      rw [this.1] at ht
      simp at ht
    refine ⟨wordM_g hne h, ?_⟩
    unfold wordM at h
    split at h
    · rw [Option.map_eq_some_iff] at h
      obtain ⟨p, hp, rfl⟩ := h
      have := (refParse_some (x := p.1) (y := p.2) hp).2
      simp only [cM, this]; omega
    · split at h
      · cases h; simp only [cM, text00]; omega
      · split at h
        · cases h
        · cases h; simp only [cM, text00]; omega
  · split at h
    · cases h
    · cases h; exact ⟨⟨fun h => (by cases h), fun h => (by cases h)⟩, by simp only [cM, text00]; omega⟩
theorem scan_g (k : Nat) : ∀ (l : List UInt8) (a : Nat) (ms : List M), l.length < k → scan l a = .ok ms → (∀ m ∈ ms, markG m) ∧ cMs ms ≤ 67 * l.length + 65 := by
  induction k with
  | zero => intro l a ms h; omega
  | succ k ih =>
    intro l a ms hl hs
    cases l with
    | nil =>
      rw [scan_nil] at hs
      cases hs
      refine ⟨fun m hm => ?_, by simp [cMs, cM, text00]⟩
      rw [List.mem_singleton.1 hm]
      exact ⟨fun h => (by cases h), fun h => (by cases h)⟩
    | cons c r =>
      simp only [List.length_cons] at hl
      by_cases hb : blankB c = true
      · rw [scan_blank hb] at hs
        obtain ⟨h1, h2⟩ := ih r (a + 1) ms (by omega) hs
        exact ⟨h1, by simp only [List.length_cons]; omega⟩
      · by_cases hh : c = 35
        · subst hh
          rw [scan_hash] at hs
          unfold rem at hs
          have hd := drop_len (· != 10) (35 :: r)
          have hd2 : ((35 :: r).dropWhile (· != 10)).length ≤ r.length := by
            rw [List.dropWhile_cons]
            simp only [show ((35 : UInt8) != 10) = true from rfl, if_true]
            exact drop_len _ _
          obtain ⟨h1, h2⟩ := ih _ _ ms (by omega) hs
          exact ⟨h1, by simp only [List.length_cons]; omega⟩
        · rw [scan_one (by simpa using hb) hh] at hs
          split at hs
          · cases hs
          · rename_i m ho
            obtain ⟨t1, t2, t3, t4⟩ := one_text ho
            obtain ⟨o1, o2⟩ := one_g ho
            cases hr : scan ((c :: r).drop m.text.length) (a + m.text.length) with
            | error e => rw [hr] at hs; cases hs
            | ok ms1 =>
              rw [hr] at hs
              cases hs
              simp only [List.length_cons] at t4
              obtain ⟨h1, h2⟩ := ih _ _ ms1 (by rw [List.length_drop]; simp only [List.length_cons]; omega) hr
              rw [List.length_drop] at h2
              simp only [List.length_cons] at h2
              refine ⟨fun x hx => ?_, ?_⟩
              · rcases List.mem_cons.1 hx with rfl | hx
                · exact o1
                · exact h1 x hx
              · have : cMs (m :: ms1) = cM m + cMs ms1 := by simp [cMs]
                rw [this]
                simp only [List.length_cons]; omega
end Pg
open Pg Mk Flo
/-- a program that is read has all that its text shows; its text is not long -/
theorem readL_wf {t : List UInt8} {fs : List Pg.Fd} (h : readL t (some fs)) : (∀ f ∈ fs, wfF f) ∧ fs.length ≤ 1000000 ∧ (fdsT fs).length ≤ 4000000 ∧ ∀ f ∈ fs, (exT f.body).length ≤ 4000000 := by
  have hsm := readL_small h
  obtain ⟨h1, ms, rest, h2, h3⟩ := h
  have hlen := scan_len _ t 0 ms (Nat.lt_succ_self _) h2
  obtain ⟨o1, o2⟩ := scan_g _ t 0 ms (Nat.lt_succ_self _) h2
  obtain ⟨w1, _⟩ := wf_le h3 rfl (by simp [szJ]; omega) o1 (fun f hf => by simp at hf)
  have l1 := len_le h3 rfl
  simp only [szL, vLs_cons, vLs_nil, vL, List.map_nil, List.sum_nil] at l1
  have hT : (fdsT fs).length = (fs.map fL).sum := by
    unfold fdsT
    rw [List.length_flatMap]; rfl
  refine ⟨(vsW_cons.1 w1).1, hsm.len, by omega, fun f hf => ?_⟩
  have : fL f ≤ (fs.map fL).sum := mem_sum (List.mem_map.2 ⟨f, hf, rfl⟩)
  have h4 : (exT f.body).length ≤ fL f := by
    simp only [fL, fdT, List.length_append]; omega
  omega
end Go.Proofs.YtgddkgbidhhheaaDoor
/- Functions' compiled code. (printed by gen/abscode.py) -/
set_option linter.unusedVariables false
namespace Go.Proofs.YtgddkgbidhhheaaDoor
open Ab
def c_wawake : ACode := (.seq (.region [⟨none, (some 0), (.mov 0 (.k (.v (.bool false))))⟩]) (.seq (.region [⟨none, (some 4), (.bsl 4 5 1 23 [(.v (.int .u8 0)), (.v (.int .u8 0)), (.v (.int .u8 0)), (.v (.int .u8 0)), (.v (.int .u8 0)), (.v (.int .u8 0)), (.v (.int .u8 0)), (.v (.int .u8 0)), (.v (.int .u8 0)), (.v (.int .u8 0)), (.v (.int .u8 0)), (.v (.int .u8 0)), (.v (.int .u8 0)), (.v (.int .u8 0)), (.v (.int .u8 0)), (.v (.int .u8 0)), (.v (.int .u8 0)), (.v (.int .u8 0)), (.v (.int .u8 0)), (.v (.int .u8 0)), (.v (.int .u8 0)), (.v (.int .u8 0)), (.v (.int .u8 0))] [(0, (.k (.v (.int .u8 102)))), (1, (.k (.v (.int .u8 40)))), (2, (.k (.v (.int .u8 120)))), (3, (.k (.v (.int .u8 32)))), (4, (.k (.v (.int .u8 78)))), (5, (.k (.v (.int .u8 44)))), (6, (.k (.v (.int .u8 121)))), (7, (.k (.v (.int .u8 32)))), (8, (.k (.v (.int .u8 76)))), (9, (.k (.v (.int .u8 41)))), (10, (.k (.v (.int .u8 58)))), (11, (.k (.v (.int .u8 78)))), (12, (.k (.v (.int .u8 61)))), (13, (.k (.v (.int .u8 40)))), (14, (.k (.v (.int .u8 40)))), (15, (.k (.v (.int .u8 120)))), (16, (.k (.v (.int .u8 41)))), (17, (.k (.v (.int .u8 43)))), (18, (.k (.v (.int .u8 49)))), (19, (.k (.v (.int .u8 41)))), (20, (.k (.v (.int .u8 42)))), (21, (.k (.v (.int .u8 50)))), (22, (.k (.v (.int .u8 59))))])⟩, ⟨none, (some 5), (.cvm 5 5 false (.t 4))⟩, ⟨none, (some 6), (.call (some 6) 7 [(.t 5)])⟩, ⟨none, (some 3), (.mov 3 (.t 6))⟩, ⟨none, (some 7), (.ext 7 0 (.t 3))⟩, ⟨none, (some 8), (.ext 8 1 (.t 3))⟩, ⟨none, (some 1), (.var 1 [(.v (.slice none 0 0))])⟩, ⟨none, none, (.st 1 (.t 1) (.t 7))⟩, ⟨none, (some 2), (.mov 2 (.t 8))⟩]) (.seq (.region [⟨none, (some 9), (.mov 9 (.t 2))⟩, ⟨none, (some 10), (.mov 10 (.t 9))⟩, ⟨(some (10, true)), (some 11), (.ld 11 true 1 (.t 1))⟩, ⟨(some (10, true)), (some 12), (.call (some 12) 10 [(.t 11)])⟩, ⟨(some (10, true)), (some 13), (.bin 13 .eql (.t 12) (.k (.v (.string ⟨#[102, 40, 120, 32, 78, 44, 32, 121, 32, 76, 41, 58, 32, 78, 32, 61, 32, 40, 120, 32, 43, 32, 49, 41, 32, 42, 32, 50, 59, 10]⟩))))⟩, ⟨none, (some 14), (.pick 14 (.t 10) (.t 13) (.k (.v (.bool false))))⟩, ⟨none, (some 15), (.mov 15 (.t 14))⟩, ⟨(some (15, true)), (some 16), (.fad 16 0 (.t 1))⟩, ⟨(some (15, true)), (some 17), (.ld 17 false 1 (.t 16))⟩, ⟨(some (15, true)), (some 18), (.ixa 18 11 (.t 17) (.k (.v (.int .i64 0))))⟩, ⟨(some (15, true)), (some 19), (.fad 19 3 (.t 18))⟩, ⟨(some (15, true)), (some 20), (.ld 20 true 7 (.t 19))⟩, ⟨(some (15, true)), (some 21), (.call (some 21) 8 [(.t 20)])⟩, ⟨(some (15, true)), (some 22), (.bin 22 .eql (.t 21) (.k (.v (.string ⟨#[40, 120, 32, 43, 32, 49, 41, 32, 42, 32, 50]⟩))))⟩, ⟨none, (some 23), (.pick 23 (.t 15) (.t 22) (.k (.v (.bool false))))⟩, ⟨none, (some 0), (.mov 0 (.t 23))⟩]) .ret)))
set_option maxRecDepth 100000 in
theorem F_wawake : Fun Tryd.prog 6 24 c_wawake [(.tmp 0)] := Fun.of (m := false) (by as_aux_lemma => kernel_rfl)
def c_wread : ACode := (.seq (.region [⟨none, (some 2), (.var 2 [(.v (.slice none 0 0))])⟩, ⟨none, (some 3), (.mov 3 (.k (.v (.bool false))))⟩]) (.seq (.region [⟨none, (some 7), (.mov 7 (.t 0))⟩, ⟨none, (some 8), (.call (some 8) 14 [])⟩, ⟨none, (some 9), (.call (some 9) 13 [(.t 7), (.t 8)])⟩, ⟨none, (some 6), (.mov 6 (.t 9))⟩, ⟨none, (some 10), (.ext 10 0 (.t 6))⟩, ⟨none, (some 11), (.ext 11 1 (.t 6))⟩, ⟨none, (some 4), (.var 4 [(.v (.slice none 0 0))])⟩, ⟨none, (some 5), (.var 5 [(.v (.int .i64 0)), (.v (.int .i64 0))])⟩, ⟨none, none, (.st 1 (.t 4) (.t 10))⟩, ⟨none, none, (.st 2 (.t 5) (.t 11))⟩]) (.seq (.draw [⟨none, (some 12), (.ldd 12 true 1 (.t 4) [(.t 2)])⟩, ⟨none, (some 13), (.fad 13 0 (.t 5))⟩, ⟨none, (some 14), (.ldd 14 false 1 (.t 13) [(.t 2)])⟩, ⟨none, (some 15), (.bin 15 .eql (.t 14) (.k (.v (.int .i64 0))))⟩, ⟨none, none, (.st 1 (.t 2) (.t 12))⟩, ⟨none, (some 3), (.mov 3 (.t 15))⟩]) .ret)))
set_option maxRecDepth 100000 in
theorem F_wread : Fun Tryd.prog 7 16 c_wread [(.cell 2 true 1), (.tmp 3)] := Fun.of (m := false) (by as_aux_lemma => kernel_rfl)
end Go.Proofs.YtgddkgbidhhheaaDoor
/- Functions' compiled code. (printed by gen/abscode.py) -/
set_option linter.unusedVariables false
namespace Go.Proofs.YtgddkgbidhhheaaDoor
open Ab
end Go.Proofs.YtgddkgbidhhheaaDoor
/- The reference of layer 5: levels, letters, signs. -/
set_option linter.unusedVariables false
set_option linter.unusedSimpArgs false
set_option maxRecDepth 100000
namespace Go.Proofs.YtgddkgbidhhheaaDoor
open Go.RowKit Flo Mk Pg Ab
section
variable {G : World → Prop}
structure InvL (cs : List AV) (us : List Ex) (g : Nat) (F : Fr) (H : List Ob) : Prop where
  k : ∃ k : Nat, k ≤ us.length ∧ g = us.length - k ∧ F 4 = some (iv k) ∧ F 3 = some (sv ([40] ++ commas ((us.map exT).take k)))
  f1 : F 1 = some (.ptr 0 0)
  h0 : H[0]? = some (.var cs)
end
end Go.Proofs.YtgddkgbidhhheaaDoor
/- The reference of layer 5: expressions. (printed by gen/qexpr.py) -/
set_option linter.unusedVariables false
set_option linter.unusedSimpArgs false
set_option maxRecDepth 100000
namespace Go.Proofs.YtgddkgbidhhheaaDoor
open Go.RowKit Flo Mk Pg Ab
section
variable {G : World → Prop}
end
end Go.Proofs.YtgddkgbidhhheaaDoor
/- The reference of layer 5: programs. -/
set_option linter.unusedVariables false
set_option linter.unusedSimpArgs false
set_option maxRecDepth 100000
namespace Go.Proofs.YtgddkgbidhhheaaDoor
open Go.RowKit Flo Mk Pg Ab
section
variable {G : World → Prop}
structure QnP (q n j : Nat) (f : Pg.Fd) (fds : List AV) (l : List UInt8) (g : Nat) (F : Fr) (H : List Ob) : Prop where
  k : ∃ k : Nat, k ≤ f.params.length ∧ g = f.params.length - k ∧ F 6 = some (iv k) ∧ F 3 = some (sv (l ++ commas ((f.params.map pmT).take k)))
  f1 : F 1 = some (.ptr 0 0)
  f5 : F 5 = some (.ptr q 0)
  f4 : F 4 = some (iv j)
  h0 : H[0]? = some (.var [.sl n fds])
  hq : H[q]? = some (.var (fdA f))
structure QnQ (fs : List Pg.Fd) (g : Nat) (F : Fr) (H : List Ob) : Prop where
  k : ∃ j : Nat, j ≤ fs.length ∧ g = fs.length - j ∧ F 4 = some (iv j) ∧ F 3 = some (sv ((fs.take j).flatMap fdT))
  f1 : F 1 = some (.ptr 0 0)
  h0 : H[0]? = some (.var [.sl fs.length (fdsA fs)])
end
end Go.Proofs.YtgddkgbidhhheaaDoor
/- The awake text of layer 5, and what read answers. -/
set_option linter.unusedVariables false
set_option linter.unusedSimpArgs false
set_option maxRecDepth 100000
namespace Go.Proofs.YtgddkgbidhhheaaDoor
open Go.RowKit Flo Mk Pg Ab
abbrev tW : List UInt8 := [102, 40, 120, 32, 78, 44, 121, 32, 76, 41, 58, 78, 61, 40, 40, 120, 41, 43, 49, 41, 42, 50, 59]
theorem digW (u : Nat) (h : u < 10) : Lib.decDigits u = [UInt8.ofNat (48 + u)] := Lib.decDigits_one h
theorem textL_1 : textL 1 0 = [49] := by
  unfold textL Lib.itoa
  rw [if_pos rfl, if_neg (by decide), show Int.toNat 1 = 1 from rfl, digW 1 (by decide)]; rfl
theorem textL_2 : textL 2 0 = [50] := by
  unfold textL Lib.itoa
  rw [if_pos rfl, if_neg (by decide), show Int.toNat 2 = 2 from rfl, digW 2 (by decide)]; rfl
theorem refParse_1 : refParse [49] = some (1, 0) := by
  have h := refParse_text (x := 1) (y := 0) (by decide)
  rw [textL_1] at h; exact h
theorem refParse_2 : refParse [50] = some (2, 0) := by
  have h := refParse_text (x := 2) (y := 0) (by decide)
  rw [textL_2] at h; exact h
theorem oneW_num {l : List UInt8} {at' : Nat} (h1 : (l.head?.map runB) = some true) (h2 : ((l.takeWhile runB).head?.map digB) = some true) : one l at' = (refParse (l.takeWhile runB)).map (fun p => ⟨2, l.takeWhile runB, p, at'⟩) := by
  unfold one wordM; rw [if_pos h1, if_pos h2]
def msW : List M := [⟨0, [102], (0, 0), 0⟩, ⟨3, [40], (0, 0), 1⟩, ⟨0, [120], (0, 0), 2⟩, ⟨1, [78], (0, 0), 4⟩, ⟨3, [44], (0, 0), 5⟩, ⟨0, [121], (0, 0), 6⟩, ⟨1, [76], (0, 0), 8⟩, ⟨3, [41], (0, 0), 9⟩, ⟨3, [58], (0, 0), 10⟩, ⟨1, [78], (0, 0), 11⟩, ⟨3, [61], (0, 0), 12⟩, ⟨3, [40], (0, 0), 13⟩, ⟨3, [40], (0, 0), 14⟩, ⟨0, [120], (0, 0), 15⟩, ⟨3, [41], (0, 0), 16⟩, ⟨3, [43], (0, 0), 17⟩, ⟨2, [49], (1, 0), 18⟩, ⟨3, [41], (0, 0), 19⟩, ⟨3, [42], (0, 0), 20⟩, ⟨2, [50], (2, 0), 21⟩, ⟨3, [59], (0, 0), 22⟩, ⟨4, [], (0, 0), 23⟩]
theorem scan_tW : scan tW 0 = .ok msW := by
  rw [scan_one (by decide) (by decide), show one [102, 40, 120, 32, 78, 44, 121, 32, 76, 41, 58, 78, 61, 40, 40, 120, 41, 43, 49, 41, 42, 50, 59] 0 = some ⟨0, [102], (0, 0), 0⟩ by decide +kernel]
  show pre _ (scan [40, 120, 32, 78, 44, 121, 32, 76, 41, 58, 78, 61, 40, 40, 120, 41, 43, 49, 41, 42, 50, 59] 1) = _
  rw [scan_one (by decide) (by decide), show one [40, 120, 32, 78, 44, 121, 32, 76, 41, 58, 78, 61, 40, 40, 120, 41, 43, 49, 41, 42, 50, 59] 1 = some ⟨3, [40], (0, 0), 1⟩ by decide +kernel]
  show pre _ (pre _ (scan [120, 32, 78, 44, 121, 32, 76, 41, 58, 78, 61, 40, 40, 120, 41, 43, 49, 41, 42, 50, 59] 2)) = _
  rw [scan_one (by decide) (by decide), show one [120, 32, 78, 44, 121, 32, 76, 41, 58, 78, 61, 40, 40, 120, 41, 43, 49, 41, 42, 50, 59] 2 = some ⟨0, [120], (0, 0), 2⟩ by decide +kernel]
  show pre _ (pre _ (pre _ (scan [32, 78, 44, 121, 32, 76, 41, 58, 78, 61, 40, 40, 120, 41, 43, 49, 41, 42, 50, 59] 3))) = _
  rw [scan_blank (by decide)]
  rw [scan_one (by decide) (by decide), show one [78, 44, 121, 32, 76, 41, 58, 78, 61, 40, 40, 120, 41, 43, 49, 41, 42, 50, 59] 4 = some ⟨1, [78], (0, 0), 4⟩ by decide +kernel]
  show pre _ (pre _ (pre _ (pre _ (scan [44, 121, 32, 76, 41, 58, 78, 61, 40, 40, 120, 41, 43, 49, 41, 42, 50, 59] 5)))) = _
  rw [scan_one (by decide) (by decide), show one [44, 121, 32, 76, 41, 58, 78, 61, 40, 40, 120, 41, 43, 49, 41, 42, 50, 59] 5 = some ⟨3, [44], (0, 0), 5⟩ by decide +kernel]
  show pre _ (pre _ (pre _ (pre _ (pre _ (scan [121, 32, 76, 41, 58, 78, 61, 40, 40, 120, 41, 43, 49, 41, 42, 50, 59] 6))))) = _
  rw [scan_one (by decide) (by decide), show one [121, 32, 76, 41, 58, 78, 61, 40, 40, 120, 41, 43, 49, 41, 42, 50, 59] 6 = some ⟨0, [121], (0, 0), 6⟩ by decide +kernel]
  show pre _ (pre _ (pre _ (pre _ (pre _ (pre _ (scan [32, 76, 41, 58, 78, 61, 40, 40, 120, 41, 43, 49, 41, 42, 50, 59] 7)))))) = _
  rw [scan_blank (by decide)]
  rw [scan_one (by decide) (by decide), show one [76, 41, 58, 78, 61, 40, 40, 120, 41, 43, 49, 41, 42, 50, 59] 8 = some ⟨1, [76], (0, 0), 8⟩ by decide +kernel]
  show pre _ (pre _ (pre _ (pre _ (pre _ (pre _ (pre _ (scan [41, 58, 78, 61, 40, 40, 120, 41, 43, 49, 41, 42, 50, 59] 9))))))) = _
  rw [scan_one (by decide) (by decide), show one [41, 58, 78, 61, 40, 40, 120, 41, 43, 49, 41, 42, 50, 59] 9 = some ⟨3, [41], (0, 0), 9⟩ by decide +kernel]
  show pre _ (pre _ (pre _ (pre _ (pre _ (pre _ (pre _ (pre _ (scan [58, 78, 61, 40, 40, 120, 41, 43, 49, 41, 42, 50, 59] 10)))))))) = _
  rw [scan_one (by decide) (by decide), show one [58, 78, 61, 40, 40, 120, 41, 43, 49, 41, 42, 50, 59] 10 = some ⟨3, [58], (0, 0), 10⟩ by decide +kernel]
  show pre _ (pre _ (pre _ (pre _ (pre _ (pre _ (pre _ (pre _ (pre _ (scan [78, 61, 40, 40, 120, 41, 43, 49, 41, 42, 50, 59] 11))))))))) = _
  rw [scan_one (by decide) (by decide), show one [78, 61, 40, 40, 120, 41, 43, 49, 41, 42, 50, 59] 11 = some ⟨1, [78], (0, 0), 11⟩ by decide +kernel]
  show pre _ (pre _ (pre _ (pre _ (pre _ (pre _ (pre _ (pre _ (pre _ (pre _ (scan [61, 40, 40, 120, 41, 43, 49, 41, 42, 50, 59] 12)))))))))) = _
  rw [scan_one (by decide) (by decide), show one [61, 40, 40, 120, 41, 43, 49, 41, 42, 50, 59] 12 = some ⟨3, [61], (0, 0), 12⟩ by decide +kernel]
  show pre _ (pre _ (pre _ (pre _ (pre _ (pre _ (pre _ (pre _ (pre _ (pre _ (pre _ (scan [40, 40, 120, 41, 43, 49, 41, 42, 50, 59] 13))))))))))) = _
  rw [scan_one (by decide) (by decide), show one [40, 40, 120, 41, 43, 49, 41, 42, 50, 59] 13 = some ⟨3, [40], (0, 0), 13⟩ by decide +kernel]
  show pre _ (pre _ (pre _ (pre _ (pre _ (pre _ (pre _ (pre _ (pre _ (pre _ (pre _ (pre _ (scan [40, 120, 41, 43, 49, 41, 42, 50, 59] 14)))))))))))) = _
  rw [scan_one (by decide) (by decide), show one [40, 120, 41, 43, 49, 41, 42, 50, 59] 14 = some ⟨3, [40], (0, 0), 14⟩ by decide +kernel]
  show pre _ (pre _ (pre _ (pre _ (pre _ (pre _ (pre _ (pre _ (pre _ (pre _ (pre _ (pre _ (pre _ (scan [120, 41, 43, 49, 41, 42, 50, 59] 15))))))))))))) = _
  rw [scan_one (by decide) (by decide), show one [120, 41, 43, 49, 41, 42, 50, 59] 15 = some ⟨0, [120], (0, 0), 15⟩ by decide +kernel]
  show pre _ (pre _ (pre _ (pre _ (pre _ (pre _ (pre _ (pre _ (pre _ (pre _ (pre _ (pre _ (pre _ (pre _ (scan [41, 43, 49, 41, 42, 50, 59] 16)))))))))))))) = _
  rw [scan_one (by decide) (by decide), show one [41, 43, 49, 41, 42, 50, 59] 16 = some ⟨3, [41], (0, 0), 16⟩ by decide +kernel]
  show pre _ (pre _ (pre _ (pre _ (pre _ (pre _ (pre _ (pre _ (pre _ (pre _ (pre _ (pre _ (pre _ (pre _ (pre _ (scan [43, 49, 41, 42, 50, 59] 17))))))))))))))) = _
  rw [scan_one (by decide) (by decide), show one [43, 49, 41, 42, 50, 59] 17 = some ⟨3, [43], (0, 0), 17⟩ by decide +kernel]
  show pre _ (pre _ (pre _ (pre _ (pre _ (pre _ (pre _ (pre _ (pre _ (pre _ (pre _ (pre _ (pre _ (pre _ (pre _ (pre _ (scan [49, 41, 42, 50, 59] 18)))))))))))))))) = _
  rw [scan_one (by decide) (by decide), oneW_num (by decide) (by decide), show List.takeWhile runB [49, 41, 42, 50, 59] = [49] by decide, refParse_1]
  show pre _ (pre _ (pre _ (pre _ (pre _ (pre _ (pre _ (pre _ (pre _ (pre _ (pre _ (pre _ (pre _ (pre _ (pre _ (pre _ (pre _ (scan [41, 42, 50, 59] 19))))))))))))))))) = _
  rw [scan_one (by decide) (by decide), show one [41, 42, 50, 59] 19 = some ⟨3, [41], (0, 0), 19⟩ by decide +kernel]
  show pre _ (pre _ (pre _ (pre _ (pre _ (pre _ (pre _ (pre _ (pre _ (pre _ (pre _ (pre _ (pre _ (pre _ (pre _ (pre _ (pre _ (pre _ (scan [42, 50, 59] 20)))))))))))))))))) = _
  rw [scan_one (by decide) (by decide), show one [42, 50, 59] 20 = some ⟨3, [42], (0, 0), 20⟩ by decide +kernel]
  show pre _ (pre _ (pre _ (pre _ (pre _ (pre _ (pre _ (pre _ (pre _ (pre _ (pre _ (pre _ (pre _ (pre _ (pre _ (pre _ (pre _ (pre _ (pre _ (scan [50, 59] 21))))))))))))))))))) = _
  rw [scan_one (by decide) (by decide), oneW_num (by decide) (by decide), show List.takeWhile runB [50, 59] = [50] by decide, refParse_2]
  show pre _ (pre _ (pre _ (pre _ (pre _ (pre _ (pre _ (pre _ (pre _ (pre _ (pre _ (pre _ (pre _ (pre _ (pre _ (pre _ (pre _ (pre _ (pre _ (pre _ (scan [59] 22)))))))))))))))))))) = _
  rw [scan_one (by decide) (by decide), show one [59] 22 = some ⟨3, [59], (0, 0), 22⟩ by decide +kernel]
  show pre _ (pre _ (pre _ (pre _ (pre _ (pre _ (pre _ (pre _ (pre _ (pre _ (pre _ (pre _ (pre _ (pre _ (pre _ (pre _ (pre _ (pre _ (pre _ (pre _ (pre _ (scan [] 23))))))))))))))))))))) = _
  rfl
def exW : Ex := .mk 10 [] [] 0 (0, 0) [.mk 8 [] [] 0 (0, 0) [.mk 6 [120] [] 0 (0, 0) [] 15, .mk 1 [] [] 0 (1, 0) [] 18] 17, .mk 1 [] [] 0 (2, 0) [] 21] 20
def fdW : Pg.Fd := ⟨[102], [⟨[120], 1, 2⟩, ⟨[121], 3, 6⟩], 1, exW, 0⟩
theorem run_W : runP wideL 60 (.prog [] msW) = some (.ok [.fs [fdW]] [⟨4, [], (0, 0), 23⟩]) := by rfl
theorem read_W : readL tW (some [fdW]) := ⟨by decide, msW, _, scan_tW, run_P _ _ _ run_W⟩
theorem exT_W : exT exW = [40, 120, 32, 43, 32, 49, 41, 32, 42, 32, 50] := by
  simp [exW, exT, exTs, nodeT, signT, textL_1, textL_2, brack, opX, levelN]
theorem fdT_W : fdsT [fdW] = [102, 40, 120, 32, 78, 44, 32, 121, 32, 76, 41, 58, 32, 78, 32, 61, 32, 40, 120, 32, 43, 32, 49, 41, 32, 42, 32, 50, 59, 10] := by
  simp [fdsT, fdT, fdW, pmsT, letter, exT_W]
section
variable {G : World → Prop}
/-- what read answers -/
def ReadR (t : List UInt8) (x : AV) : Prop := (∃ fs, readL t (some fs) ∧ x = .tup [.agg [.sl fs.length (fdsA fs)], bv true]) ∨ (readL t none ∧ x = .tup [.agg [.sl 0 []], bv false])
theorem wread_ap (t : List UInt8) : AP Tryd.prog G 7 [.sl t.length (t.map byA)] (ReadR t) := by
  refine AP.go hmix F_wread (by simp) ?_
  simp -implicitDefEqProofs [c_wread, evP, fillA, splice, wrOb]
  refine SC.frz (by simp) [] (by simp) (by simpa using pwide_ap) (by simp) ?_ (a := .mk)
  rintro x rfl
  simp -implicitDefEqProofs [evP, fillA, splice, wrOb]
  refine SC.frz (by simp) [.sl t.length (t.map byA), .agg [iv wideL.text, iv wideL.funcs, iv wideL.arity, iv wideL.nest]] (by simp) (by simpa using pread_ap t) (by simp) ?_ (a := .mk)
  rintro x (⟨fs, hr, rfl⟩ | ⟨w, hw, hr, p, rfl⟩)
  · simp -implicitDefEqProofs [evP, fillA, splice, wrOb, farP]
    exact .inl ⟨fs, hr, rfl⟩
  · simp -implicitDefEqProofs [evP, fillA, splice, wrOb, hw, farP]
    exact .inr ⟨hr, rfl⟩
set_option maxHeartbeats 4000000 in
theorem wawake_ap : AP Tryd.prog Gv 6 [] (fun x => x = bv true) := by
  refine AP.go hmix F_wawake (by simp) ?_
  simp -implicitDefEqProofs [c_wawake, evP, fillA, splice, wrOb]
  refine SC.frz (by simp) [.row 0] (by simp) (post := ReadR tW) (wread_ap tW) (by rfl) ?_ (a := .mk)
  rintro x (⟨fs, hr, rfl⟩ | ⟨hr, rfl⟩)
  · obtain rfl : fs = [fdW] := by have := readL_one hr read_W; simpa using this
    obtain ⟨hwf, hl1, hl2, hl3⟩ := readL_wf read_W
    have hP := sprog_ap [fdW] hwf (by simp) (by omega)
    have hE := sexpr0_ap exW (hwf fdW (by simp)).2.2.2.1 (by have := hl3 fdW (by simp); simp only [fdW] at this; omega)
    rw [fdT_W] at hP
    rw [exT_W] at hE
    have hcl : fdsA [fdW] = [sv [102], .sl 2 (pmsA [⟨[120], 1, 2⟩, ⟨[121], 3, 6⟩]), iv 1, iv 10, sv [], sv [], iv 0, cv (W 0) (W 0), .sl 2 (exsA [.mk 8 [] [] 0 (0, 0) [.mk 6 [120] [] 0 (0, 0) [] 15, .mk 1 [] [] 0 (1, 0) [] 18] 17, .mk 1 [] [] 0 (2, 0) [] 21]), iv 20, iv 0] := by rfl
    rw [hcl] at hP ⊢
    have hE' : exA exW = .agg [iv 10, sv [], sv [], iv 0, cv (W 0) (W 0), .sl 2 (exsA [.mk 8 [] [] 0 (0, 0) [.mk 6 [120] [] 0 (0, 0) [] 15, .mk 1 [] [] 0 (1, 0) [] 18] 17, .mk 1 [] [] 0 (2, 0) [] 21]), iv 20] := by rfl
    rw [hE'] at hE
    obtain ⟨us, hus⟩ : ∃ us, exsA [.mk 8 [] [] 0 (0, 0) [.mk 6 [120] [] 0 (0, 0) [] 15, .mk 1 [] [] 0 (1, 0) [] 18] 17, .mk 1 [] [] 0 (2, 0) [] 21] = us := ⟨_, rfl⟩
    obtain ⟨ps, hps⟩ : ∃ ps, pmsA [⟨[120], 1, 2⟩, ⟨[121], 3, 6⟩] = ps := ⟨_, rfl⟩
    rw [hus] at hP hE ⊢
    rw [hps] at hP ⊢
    simp only [List.length_cons, List.length_nil, Nat.zero_add] at hP ⊢
    simp -implicitDefEqProofs [evP, fillA, splice, wrOb]
    refine SCall.frz (xs := [.agg [.sl 1 [sv [102], .sl 2 ps, iv 1, iv 10, sv [], sv [], iv 0, cv (W 0) (W 0), .sl 2 us, iv 20, iv 0]]]) (by simp) (by simp) (by simpa using hP) (by simp) ?_
    rintro x rfl
    simp -implicitDefEqProofs [evP, fillA, splice, wrOb]
    refine SCall.frz (xs := [.agg [iv 10, sv [], sv [], iv 0, cv (W 0) (W 0), .sl 2 us, iv 20]]) (by simp) (by simp) (by simpa using hE) (by simp) ?_
    rintro x rfl
    simp -implicitDefEqProofs [evP, fillA, splice, wrOb]
  · exact absurd (readL_one hr read_W) (by simp)
end
end Go.Proofs.YtgddkgbidhhheaaDoor
