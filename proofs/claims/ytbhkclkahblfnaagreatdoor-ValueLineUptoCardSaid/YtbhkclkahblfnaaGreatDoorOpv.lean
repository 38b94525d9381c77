/- Arguments of layer 9's statements, opened. -/
import Derived.Test.YtbhkclkahblfnaaGreatDoorTrd
import Derived.Test.YtbhkclkahblfnaaGreatDoorAwh
import Derived.Test.YtbhkclkahblfnaaGreatDoorInvv
set_option linter.unusedVariables false
set_option linter.unusedSimpArgs false
namespace Go.Proofs.YtbhkclkahblfnaaGreatDoor
open Go.ChangeShapes Go.WideShapes Go.ChangeAt Go.RowKit Ab
section
variable {P : Program} {H : Type} {enc : TypeId × Value → H} {W : World} {base : Nat} {spare : Nat → Bool} {held : Bool}
theorem trod_intD {fuel : Nat} {t : TypeId} {cs : List Value} {k : IntKind} {y : DataW H × List MemPlace} (hu : P.underlying t = some (.int k)) (h : DataW.trod enc P W base spare held fuel t cs = some y) : ∃ n, y.1 = .lit (.int k n) ∧ (Lit.int k n).wf = true := by
  cases fuel with
  | zero => simp [DataW.trod] at h
  | succ fuel =>
    unfold DataW.trod at h
    rw [hu] at h
    split at h <;> first | (cases h; done) | skip
    all_goals first
      | (rename_i he; cases he
         split at h
         · rename_i hc; cases h; exact ⟨_, rfl, hc.2⟩
         · cases h)
      | (rename_i he; cases he; done)
theorem trod_boolD {fuel : Nat} {t : TypeId} {cs : List Value} {y : DataW H × List MemPlace} (hu : P.underlying t = some .bool) (h : DataW.trod enc P W base spare held fuel t cs = some y) : ∃ b, y.1 = .lit (.bool b) := by
  cases fuel with
  | zero => simp [DataW.trod] at h
  | succ fuel =>
    unfold DataW.trod at h
    rw [hu] at h
    split at h <;> first | (cases h; done) | skip
    all_goals first
      | (rename_i he; cases he; cases h; exact ⟨_, rfl⟩)
      | (rename_i he; cases he; done)
theorem trod_sliceD {fuel : Nat} {t e : TypeId} {cs : List Value} {y : DataW H × List MemPlace} (hu : P.underlying t = some (.slice e)) (h : DataW.trod enc P W base spare held fuel t cs = some y) :
    y.1 = .nil ∨ ∃ (es : List (DataW H × List MemPlace)) (rest : List (DataW H)) (f : Nat), y.1 = .slice (es.map (·.1)) rest ∧ ∀ x ∈ es, ∃ cs', DataW.trod enc P W base spare held f e cs' = some x := by
  cases fuel with
  | zero => simp [DataW.trod] at h
  | succ fuel =>
    unfold DataW.trod at h
    rw [hu] at h
    split at h <;> first | (cases h; done) | skip
    all_goals first
      | (rename_i he; cases he; done)
      | (rename_i he; cases he; cases h; exact .inl rfl)
      | (rename_i he; cases he
         split at h
         · simp only [Option.bind_eq_some_iff, Option.map_eq_some_iff] at h
           obtain ⟨es, h1, rest, _, h2⟩ := h
           subst h2
           obtain ⟨_, m2⟩ := mapM_at h1
           refine .inr ⟨es, _, fuel, rfl, fun x hx => ?_⟩
           obtain ⟨i, hi, hx2⟩ := mapM_mem h1 x hx
           obtain ⟨cs', _, h4⟩ := Option.bind_eq_some_iff.1 hx2
           exact ⟨cs', h4⟩
         · cases h)
theorem trod_structD {fuel : Nat} {t : TypeId} {fs : Array Field} {cs : List Value} {y : DataW H × List MemPlace} (hu : P.underlying t = some (.struct fs)) (h : DataW.trod enc P W base spare held fuel t cs = some y) :
    ∃ (xs : List (DataW H × List MemPlace)) (f : Nat), y.1 = .agg (xs.map (·.1)) ∧ xs.length = fs.toList.length ∧ ∀ (i : Nat) (g : Field), fs.toList[i]? = some g → ∃ x cs', xs[i]? = some x ∧ DataW.trod enc P W base spare held f g.type cs' = some x := by
  cases fuel with
  | zero => simp [DataW.trod] at h
  | succ fuel =>
    unfold DataW.trod at h
    rw [hu] at h
    split at h <;> first | (cases h; done) | skip
    all_goals first
      | (exfalso; simp_all; done)
      | (rename_i he; cases he; done)
      | (rename_i he; cases he
         split at h
         · simp only [Option.map_eq_some_iff] at h
           obtain ⟨xs, h1, h2⟩ := h
           subst h2
           obtain ⟨m1, m2⟩ := mapM_at h1
           refine ⟨xs, fuel, rfl, m1, fun i g hg => ?_⟩
           obtain ⟨x, hx, hx2⟩ := m2 i g hg
           exact ⟨x, _, hx, hx2⟩
         · cases h)
end
section
variable {H : Type} {enc : TypeId × Value → H} {W : World} {base : Nat} {spare : Nat → Bool} {held : Bool}
theorem open_nx {fuel : Nat} {cs : List Value} {y : DataW H × List MemPlace} (h : DataW.trod enc Tryz.prog W base spare held fuel 23 cs = some y) : ∃ n : Nx, absD y.1 = n.cells ∧ Rows.uptoBulk y.1 = 4 := by
  obtain ⟨xs, f, e, hl, hx⟩ := trod_structD Tryz.underlying23 h
  obtain ⟨x0, c0, e0, h0⟩ := hx 0 _ rfl
  obtain ⟨x1, c1, e1, h1⟩ := hx 1 _ rfl
  obtain ⟨x2, c2, e2, h2⟩ := hx 2 _ rfl
  obtain ⟨a, ha, _⟩ := trod_intD Tryz.underlying3 h0
  obtain ⟨b, hb, _⟩ := trod_intD Tryz.underlying3 h1
  obtain ⟨r, hr⟩ := trod_boolD Tryz.underlying4 h2
  have hxs : xs = [x0, x1, x2] := by
    have hl3 : xs.length = 3 := hl
    apply List.ext_getElem?
    intro i
    match i with
    | 0 => exact e0
    | 1 => exact e1
    | 2 => exact e2
    | i + 3 => rw [List.getElem?_eq_none (by omega), List.getElem?_eq_none (by simp)]
  refine ⟨⟨a, b, r⟩, ?_, ?_⟩
  · rw [e, hxs]; simp [absD, absDs, ha, hb, hr, Nx.cells]
  · rw [e, hxs]; simp [Rows.uptoBulk, Rows.uptoBulkAll, ha, hb, hr]
theorem open_nxs : ∀ (es : List (DataW H × List MemPlace)), (∀ x ∈ es, ∃ f cs', DataW.trod enc Tryz.prog W base spare held f 23 cs' = some x) → ∃ l : List Nx, absDs (es.map (·.1)) = nxA l ∧ l.length = es.length ∧ Rows.uptoBulkAll (es.map (·.1)) = 4 * l.length
  | [], _ => ⟨[], rfl, rfl, rfl⟩
  | x :: es, h => by
    obtain ⟨f, cs', hx⟩ := h x (by simp)
    obtain ⟨n, hn, hb⟩ := open_nx hx
    obtain ⟨l, h1, h2, h3⟩ := open_nxs es (fun y hy => h y (by simp [hy]))
    refine ⟨n :: l, ?_, by simp [h2], ?_⟩
    · simp only [List.map_cons, absDs, hn, h1]; rfl
    · simp only [List.map_cons, Rows.uptoBulkAll, hb, h3, List.length_cons]; omega
theorem open_val {fuel : Nat} {cs : List Value} {y : DataW H × List MemPlace} (h : DataW.trod enc Tryz.prog W base spare held fuel 26 cs = some y) : ∃ v : Vx, absD y.1 = v.cells ∧ 8 + 4 * v.l.length ≤ Rows.uptoBulk y.1 := by
  obtain ⟨xs, f, e, hl, hx⟩ := trod_structD Tryz.underlying26 h
  obtain ⟨x0, c0, e0, h0⟩ := hx 0 _ rfl
  obtain ⟨x1, c1, e1, h1⟩ := hx 1 _ rfl
  obtain ⟨x2, c2, e2, h2⟩ := hx 2 _ rfl
  obtain ⟨x3, c3, e3, h3⟩ := hx 3 _ rfl
  obtain ⟨a, ha, _⟩ := trod_intD Tryz.underlying3 h0
  obtain ⟨n, hn, hnb⟩ := open_nx h1
  obtain ⟨r, hr⟩ := trod_boolD Tryz.underlying4 h2
  have hxs : xs = [x0, x1, x2, x3] := by
    have hl3 : xs.length = 4 := hl
    apply List.ext_getElem?
    intro i
    match i with
    | 0 => exact e0
    | 1 => exact e1
    | 2 => exact e2
    | 3 => exact e3
    | i + 4 => rw [List.getElem?_eq_none (by omega), List.getElem?_eq_none (by simp)]
  rcases trod_sliceD Tryz.underlying24 h3 with hz | ⟨es, rest, f', hs, hes⟩
  · refine ⟨⟨a, n, r, []⟩, ?_, ?_⟩
    · rw [e, hxs]; simp [absD, absDs, ha, hn, hr, hz, Vx.cells, Nx.cells, nxA]
    · rw [e, hxs]; simp [Rows.uptoBulk, Rows.uptoBulkAll, ha, hnb, hr, hz]
  · obtain ⟨l, l1, l2, l3⟩ := open_nxs es (fun x hx => by obtain ⟨cs', h⟩ := hes x hx; exact ⟨f', cs', h⟩)
    refine ⟨⟨a, n, r, l⟩, ?_, ?_⟩
    · rw [e, hxs]; simp [absD, absDs, ha, hn, hr, hs, l1, l2, Vx.cells, Nx.cells]
    · rw [e, hxs]; simp [Rows.uptoBulk, Rows.uptoBulkAll, ha, hnb, hr, hs, l3]; omega
end
end Go.Proofs.YtbhkclkahblfnaaGreatDoor
