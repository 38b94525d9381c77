/- Arguments of the statements, opened as abstract values. -/
import Derived.Test.YtbhkclkahblfnaaGreatDoorAm3
import Derived.Test.YtbhkclkahblfnaaGreatDoorByx
import Derived.DataElems
set_option linter.unusedVariables false
set_option linter.unusedSimpArgs false
namespace Go.Proofs.YtbhkclkahblfnaaGreatDoor
open Go.ChangeShapes Go.WideShapes Go.ChangeAt Go.RowKit Ab
mutual
/-- a datum's cells -/
def absD {H : Type} : DataW H → List AV
  | .lit (.bool b) => [.v (.bool b)]
  | .lit (.int k n) => [.v (.int k n)]
  | .lit (.float k b) => [.v (.float k b)]
  | .lit (.string l) => [.v (.string ⟨l.toArray⟩)]
  | .nil => [.sl 0 []]
  | .slice elems _ => [.sl elems.length (absDs elems)]
  | .agg parts => absDs parts
  | _ => []
def absDs {H : Type} : List (DataW H) → List AV
  | [] => []
  | d :: r => absD d ++ absDs r
end
theorem absDs_app {H : Type} : ∀ (l m : List (DataW H)), absDs (l ++ m) = absDs l ++ absDs m
  | [], m => rfl
  | d :: l, m => by simp only [List.cons_append, absDs]; rw [absDs_app l m, List.append_assoc]
section
variable {P : Program}
/-- where fields that lie one behind the other end -/
def offs (P : Program) : Nat → List Field → Option Nat
  | o, [] => some o
  | o, f :: r => if f.offset = o then offs P (o + P.cellsOf f.type) r else none
/-- types of plain data -/
def plainT (P : Program) : Nat → TypeId → Bool
  | 0, _ => false
  | n + 1, t => match P.underlying t with
    | some .bool => true
    | some (.int _) => true
    | some (.float _) => true
    | some .string => true
    | some (.slice e) => plainT P n e && decide (0 < P.cellsOf e)
    | some (.struct fs) => (fs.toList.all fun f => plainT P n f.type) && (offs P 0 fs.toList == some (P.cellsOf t))
    | _ => false
theorem mapM_at {α β : Type} {f : α → Option β} : ∀ {l : List α} {r : List β}, l.mapM f = some r → r.length = l.length ∧ ∀ (i : Nat) (x : α), l[i]? = some x → ∃ y, r[i]? = some y ∧ f x = some y
  | [], r, h => by
    simp only [List.mapM_nil, Option.pure_def, Option.some.injEq] at h
    subst h
    exact ⟨rfl, fun i x hx => by simp at hx⟩
  | a :: l, r, h => by
    rw [List.mapM_cons] at h
    cases ha : f a with
    | none => rw [ha] at h; simp at h
    | some y =>
      cases hl : l.mapM f with
      | none => rw [ha, hl] at h; simp at h
      | some ys =>
        rw [ha, hl] at h
        simp only [Option.bind_eq_bind, Option.bind_some, Option.pure_def, Option.some.injEq] at h
        subst h
        obtain ⟨h1, h2⟩ := mapM_at hl
        refine ⟨by simp [h1], fun i x hx => ?_⟩
        cases i with
        | zero => cases hx; exact ⟨y, rfl, ha⟩
        | succ i => exact h2 i x hx
theorem cells_at {w : World} {base : Nat} {a : Addr} {n : Nat} {cs : List Value} (h : w.cells? base a n = some cs) : cs.length = n ∧ ∀ (j : Nat) (u : Value), cs[j]? = some u → w.cell? (a.add j) = some u := by
  unfold World.cells? at h
  split at h
  · obtain ⟨h1, h2⟩ := mapM_at h
    rw [List.length_range] at h1
    refine ⟨h1, fun j u hu => ?_⟩
    have hj : j < n := by rw [← h1]; exact (List.getElem?_eq_some_iff.1 hu).1
    obtain ⟨y, hy, he⟩ := h2 j j (by simp [hj])
    rw [hu] at hy; cases hy
    exact he
  · cases h
theorem RDL.one {w : World} {M : Nat → Prop} {x : Value} (h : flat x = true) : RDL w M [.v x] [x] :=
  ⟨rfl, fun u hu => by rw [List.mem_singleton.1 hu]; exact flat_one h, fun j y u hy hu => by
    cases j with
    | zero => cases hy; cases hu; exact .v x h
    | succ j => simp at hy⟩
theorem RDL.cell {w : World} {M : Nat → Prop} {x : AV} {u : Value} (h1 : u.oneCell' = true) (h : RD w M x u) : RDL w M [x] [u] :=
  ⟨rfl, fun v hv => by rw [List.mem_singleton.1 hv]; exact h1, fun j y v hy hu => by
    cases j with
    | zero => cases hy; cases hu; exact h
    | succ j => simp at hy⟩
set_option maxHeartbeats 1000000 in
theorem trod_rd {H : Type} {enc : TypeId × Value → H} {W : World} {M : Nat → Prop} (hM : ∀ b, ¬ M b) {base : Nat} {spare : Nat → Bool} {held : Bool} : ∀ (fuel n : Nat) (t : TypeId) (cs : List Value) (d : DataW H) (ps : List MemPlace),
    plainT P n t = true → DataW.trod enc P W base spare held fuel t cs = some (d, ps) → RDL W M (absD d) cs
  | 0, n, t, cs, d, ps, _, h => by simp [DataW.trod] at h
  | fuel + 1, 0, t, cs, d, ps, hp, h => by simp [plainT] at hp
  | fuel + 1, n + 1, t, cs, d, ps, hp, h => by
    have ih := @trod_rd H enc W M hM base spare held fuel n
    unfold DataW.trod at h
    unfold plainT at hp
    split at h
    · cases h; exact RDL.one (x := .bool _) rfl
    · split at h
      · rename_i hc; obtain ⟨rfl, _⟩ := hc; cases h; exact RDL.one (x := .int _ _) rfl
      · cases h
    · split at h
      · rename_i hc; obtain ⟨rfl, _⟩ := hc; cases h; exact RDL.one (x := .float _ _) rfl
      · cases h
    · rename_i s _
      split at h
      · cases h
        have : absD (H := H) (.lit (.string s.data.toList)) = [.v (.string s)] := by simp [absD]
        rw [this]; exact RDL.one (x := .string s) rfl
      · cases h
    · rename_i hu; rw [hu] at hp; cases hp
    · rename_i hu; rw [hu] at hp; cases hp
    · rename_i hu; cases h; exact RDL.cell rfl (.sl0 none 0)
    · rename_i e a len cap hu
      rw [hu] at hp
      simp only [Bool.and_eq_true, decide_eq_true_eq] at hp
      split at h
      · rename_i hc
        simp only at h
        cases he : (List.range len).mapM (fun i => (W.cells? base (a.add (i * P.cellsOf e)) (P.cellsOf e)).bind (DataW.trod enc P W base spare held fuel e)) with
        | none => rw [he] at h; simp at h
        | some elems =>
          rw [he] at h
          simp only [Option.bind_some, Option.map_eq_some_iff] at h
          obtain ⟨rest, _, h⟩ := h
          cases h
          obtain ⟨m1, m2⟩ := mapM_at he
          rw [List.length_range] at m1
          have key : ∀ (es : List (DataW H × List MemPlace)) (s : Nat), (∀ (i : Nat) (y : DataW H × List MemPlace), es[i]? = some y → (W.cells? base (a.add ((s + i) * P.cellsOf e)) (P.cellsOf e)).bind (DataW.trod enc P W base spare held fuel e) = some y) →
              ∃ us : List Value, us.length = es.length * P.cellsOf e ∧ RDL W M (absDs (es.map (·.1))) us ∧ ∀ (j : Nat) (u : Value), us[j]? = some u → W.cell? (a.add (s * P.cellsOf e + j)) = some u := by
            intro es
            induction es with
            | nil => intro s _; exact ⟨[], by simp, .nil _ _, fun j u hj => by simp at hj⟩
            | cons y es ihes =>
              intro s hes
              obtain ⟨us, u1, u2, u3⟩ := ihes (s + 1) (fun i z hz => by have := hes (i + 1) z hz; rwa [show s + (i + 1) = s + 1 + i by omega] at this)
              have h0 := hes 0 y rfl
              rw [Nat.add_zero] at h0
              cases hcs : W.cells? base (a.add (s * P.cellsOf e)) (P.cellsOf e) with
              | none => rw [hcs] at h0; cases h0
              | some c0 =>
                rw [hcs, Option.bind_some] at h0
                obtain ⟨c1, c2⟩ := cells_at hcs
                have hr := ih e c0 y.1 y.2 hp.1 h0
                refine ⟨c0 ++ us, by simp [c1, u1, Nat.add_mul]; omega, by simp only [List.map_cons, absDs]; exact hr.app u2, fun j u hj => ?_⟩
                rw [List.getElem?_append] at hj
                split at hj
                · have := c2 j u hj
                  rw [← this, Addr.add_add]
                · have := u3 _ u hj
                  rw [← this, c1] 
                  congr 2
                  rename_i hlt
                  rw [c1] at hlt
                  rw [Nat.add_mul]; omega
          obtain ⟨us, u1, u2, u3⟩ := key elems 0 (fun i y hy => by
            have hi : i < len := by rw [← m1]; exact (List.getElem?_eq_some_iff.1 hy).1
            obtain ⟨z, hz, he⟩ := m2 i i (by simp [hi])
            rw [hy] at hz; cases hz
            rw [Nat.zero_add]; exact he)
          have e0 : absD (H := H) (.slice (elems.map (·.1)) (rest.map (·.1))) = [.sl len (absDs (elems.map (·.1)))] := by simp [absD, m1]
          rw [e0]
          refine RDL.cell rfl ?_
          by_cases hl0 : len = 0
          · subst hl0
            have : elems = [] := List.eq_nil_of_length_eq_zero m1
            subst this
            exact .sl0 _ _
          · have hpos : 0 < us.length := by rw [u1, m1]; exact Nat.mul_pos (by omega) hp.2
            obtain ⟨u, hu0⟩ : ∃ u, us[0]? = some u := ⟨_, List.getElem?_eq_getElem hpos⟩
            have hc0 := u3 0 u hu0
            obtain ⟨ab, ao, spot⟩ := a
            have hspot : spot = none := by simpa [Addr.add] using World.cell?_spot hc0
            subst hspot
            have hlt : ab < W.heap.size := by
              cases hob : W.heap[ab]? with
              | none => simp [World.cell?, Addr.add, hob] at hc0
              | some o => exact (Array.getElem?_eq_some_iff.1 hob).1
            refine .sl ab ao len cap _ us u2.len (hM ab) hlt (fun j u hj => ?_) u2.one u2.at' hc.2.1
            have := u3 j u hj
            rwa [Nat.zero_mul, Nat.zero_add, Go.WideShapes.add_plain] at this
      · cases h
    · rename_i cs _ _ fs hu
      rw [hu] at hp
      simp only [Bool.and_eq_true, beq_iff_eq] at hp
      split at h
      · rename_i hlen
        rw [Option.map_eq_some_iff] at h
        obtain ⟨xs, hxs, h⟩ := h
        cases h
        have key : ∀ (l : List Field) (o : Nat) (xs : List (DataW H × List MemPlace)), (∀ f ∈ l, plainT P n f.type = true) → offs P o l = some cs.length → o ≤ cs.length →
            l.mapM (fun f => DataW.trod enc P W base spare held fuel f.type ((cs.drop f.offset).take (P.cellsOf f.type))) = some xs → RDL W M (absDs (xs.map (·.1))) (cs.drop o) := by
          intro l
          induction l with
          | nil =>
            intro o xs _ ho _ hx
            simp only [offs, Option.some.injEq] at ho
            simp only [List.mapM_nil, Option.pure_def, Option.some.injEq] at hx
            subst hx
            rw [ho, List.drop_length]; exact .nil _ _
          | cons f l ihl =>
            intro o xs hall ho hle hx
            simp only [offs] at ho
            split at ho
            · rename_i hfo
              rw [List.mapM_cons] at hx
              cases hy : DataW.trod enc P W base spare held fuel f.type ((cs.drop f.offset).take (P.cellsOf f.type)) with
              | none => rw [hy] at hx; simp at hx
              | some y =>
                cases hl : l.mapM (fun f => DataW.trod enc P W base spare held fuel f.type ((cs.drop f.offset).take (P.cellsOf f.type))) with
                | none => rw [hy, hl] at hx; simp at hx
                | some ys =>
                  rw [hy, hl] at hx
                  simp only [Option.bind_eq_bind, Option.bind_some, Option.pure_def, Option.some.injEq] at hx
                  subst hx
                  have hle2 : o + P.cellsOf f.type ≤ cs.length := by
                    have mono : ∀ (l : List Field) (o k : Nat), offs P o l = some k → o ≤ k := by
                      intro l
                      induction l with
                      | nil => intro o k hk; simp only [offs, Option.some.injEq] at hk; omega
                      | cons f l ihm =>
                        intro o k hk
                        simp only [offs] at hk
                        split at hk
                        · have := ihm _ _ hk; omega
                        · cases hk
                    exact mono l _ _ ho
                  have r1 := ih f.type _ y.1 y.2 (hall f (by simp)) hy
                  have r2 := ihl (o + P.cellsOf f.type) ys (fun g hg => hall g (by simp [hg])) ho hle2 hl
                  have : cs.drop o = (cs.drop o).take (P.cellsOf f.type) ++ cs.drop (o + P.cellsOf f.type) := by
                    rw [← List.drop_drop, List.take_append_drop]
                  rw [this]
                  simp only [List.map_cons, absDs]
                  rw [hfo] at r1
                  exact r1.app r2
            · cases ho
        have := key fs.toList 0 xs (fun f hf => List.all_eq_true.1 hp.1 f hf) (by rw [hp.2, hlen]) (Nat.zero_le _) hxs
        rw [List.drop_zero] at this
        simpa [absD] using this
      · cases h
    all_goals first | (cases h; done) | (rename_i hu; rw [hu] at hp; cases hp; done) | skip
end
end Go.Proofs.YtbhkclkahblfnaaGreatDoor
