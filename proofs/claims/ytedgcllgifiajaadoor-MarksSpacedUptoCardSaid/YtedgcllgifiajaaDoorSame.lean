/- What the reference's Same answers of two lists of marks that are one. -/
import Derived.Test.YtedgcllgifiajaaDoorMkf
import Derived.Deep.LoopGhost
import Derived.Lib.SlBytesConst
namespace Go.Proofs.YtedgcllgifiajaaDoor
open Go.RowKit Flo Mk
/-- a list of marks lies there -/
def RowAt (X : World) (p : Option Addr) (ms : List M) : Prop := ms ≠ [] → ∃ g o, p = some ⟨g, o, none⟩ ∧ ∀ j u, (rowM ms)[j]? = some u → X.cell? ⟨g, o + j, none⟩ = some u
theorem RowAt.nil (X : World) (p : Option Addr) : RowAt X p [] := fun h => absurd rfl h
theorem RowAt.below {X Y : World} {p : Option Addr} {ms : List M} (h : RowAt X p ms) (hb : Below X.heap.size X Y) : RowAt Y p ms := fun hne => by
  obtain ⟨g, o, rfl, hc⟩ := h hne
  exact ⟨g, o, rfl, fun j u hu => (hb.cell (World.block_lt_of_cell? X _ (hc j u hu))).trans (hc j u hu)⟩
theorem RowAt.own {X : World} {B : Nat} {e : TypeId} {p : Option Addr} {n c : Nat} {ms : List M} (h : X.ownsRow B e 4 (.slice p n c) n (rowM ms)) : RowAt X p ms := fun hne => by
  rcases h.2 with ⟨h1, h2⟩ | ⟨g, cap, cur, h1, h2, h3, h4, h5, h6, h7⟩
  · have := h.1
    rw [h2, rowM_len] at this
    exact absurd (List.eq_nil_of_length_eq_zero (by omega)) hne
  · cases h1
    refine ⟨g, 0, rfl, fun j u hu => ?_⟩
    have := h.cells (g := g) rfl j u hu
    rw [Go.WideShapes.add_plain] at this
    exact this
theorem RowAt.take {X : World} {p : Option Addr} {a b : List M} (h : RowAt X p (a ++ b)) : RowAt X p a := fun hne => by
  obtain ⟨g, o, rfl, hc⟩ := h (by intro e; exact hne (List.append_eq_nil_iff.1 e).1)
  exact ⟨g, o, rfl, fun j u hu => hc j u (by rw [rowM_app]; exact (List.getElem?_append_left (List.getElem?_eq_some_iff.1 hu).1).trans hu)⟩
theorem RowAt.drop {X : World} {g o : Nat} {a b : List M} (h : RowAt X (some ⟨g, o, none⟩) (a ++ b)) : RowAt X (some ⟨g, o + 4 * a.length, none⟩) b := fun hne => by
  obtain ⟨g', o', e, hc⟩ := h (by intro e; exact hne (List.append_eq_nil_iff.1 e).2)
  cases e
  refine ⟨g, _, rfl, fun j u hu => ?_⟩
  rw [Nat.add_assoc]
  refine hc _ u ?_
  rw [rowM_app, List.getElem?_append_right (by rw [rowM_len]; omega), rowM_len, show 4 * a.length + j - a.length * 4 = j by omega]
  exact hu
def okM (m : M) : Prop := okR m.num.1 m.num.2 = true
theorem okM.order {m : M} (h : okM m) : (FloatKind.f64.format.order (W m.num.1) (W m.num.1) == some .eq) = true ∧ (FloatKind.f64.format.order (W m.num.2) (W m.num.2) == some .eq) = true := by
  have hr := okR_iff.1 h
  refine ⟨?_, ?_⟩
  · rw [order_w (a := m.num.1) (b := m.num.1) (by omega) (by omega) (W_isW _) (W_isW _)]; simp
  · rw [order_w (a := m.num.2) (b := m.num.2) (by omega) (by omega) (W_isW _) (W_isW _)]; simp
/-- are they one, with places or but for them? -/
def eqvM (pl : Bool) (A B : List M) : Prop := if pl then A = B else A.map strip = B.map strip
theorem eqvM.len {pl : Bool} {A B : List M} (h : eqvM pl A B) : A.length = B.length := by
  cases pl with
  | true => exact congrArg List.length h
  | false => have := congrArg List.length (show A.map strip = B.map strip from h); simpa using this
theorem eqvM.at {pl : Bool} {A B : List M} (h : eqvM pl A B) {k : Nat} (hk : k < A.length) : ∃ m q, A[k]? = some m ∧ B[k]? = some { m with pos := q } ∧ (pl = true → q = m.pos) := by
  refine ⟨A[k], ?_⟩
  cases pl with
  | true =>
    obtain rfl : A = B := h
    exact ⟨A[k].pos, List.getElem?_eq_getElem hk, List.getElem?_eq_getElem hk, fun _ => rfl⟩
  | false =>
    have hs : A.map strip = B.map strip := h
    have hk2 : k < B.length := by rw [← eqvM.len (show eqvM false A B from h)]; exact hk
    have h2 := congrArg (fun l => l[k]?) hs
    simp only [List.getElem?_map, List.getElem?_eq_getElem hk, List.getElem?_eq_getElem hk2, Option.map_some, Option.some.injEq] at h2
    refine ⟨B[k].pos, List.getElem?_eq_getElem hk, ?_, fun h => by cases h⟩
    rw [List.getElem?_eq_getElem hk2]
    congr 1
    have e := h2
    unfold strip at e
    cases hA : A[k]; cases hB : B[k]
    rw [hA, hB] at e
    simp only [M.mk.injEq, and_true] at e ⊢
    exact ⟨e.1.symm, e.2.1.symm, e.2.2.symm⟩
theorem eq_cplx {x1 x2 : Nat} (o1 : (FloatKind.f64.format.order x1 x1 == some .eq) = true) (o2 : (FloatKind.f64.format.order x2 x2 == some .eq) = true) (X : World) :
    (Op.equalIn 9999 34 (.complex .f64 x1 x2) (.complex .f64 x1 x2)).run Tryd.prog X = .ok true X := by
  unfold Op.equalIn
  simp [run_underlying Tryd.underlying34, Op.floatEq, o1, o2]
set_option maxHeartbeats 8000000 in
set_option maxRecDepth 100000 in
theorem same_any (pl : Bool) (pa pb : Option Addr) (ca cb n : Nat) (A B : List M) (hA : A.length = n) (he : eqvM pl A B) (hn : n ≤ 16777217) (hok : ∀ m ∈ A, okM m) (w : World) (ha : RowAt w pa A) (hb : RowAt w pb B) :
    Calls Tryd.prog 15 #[.slice pa n ca, .slice pb n cb, .bool pl] w fun e w' => e = .returned (.bool true) ∧ Below w.heap.size w w' := by
  have HE := Lib.hid he
  have HO := Lib.hid hok
  have HA := Lib.hid ha
  have HB := Lib.hid hb
  have HL := Lib.hid hA
  clear he hok ha hb hA
  go_enter Tryd.func15, Tryd.ntmps15
  go_wp2_with fail
  go_loopg [7] n (fun g s7 wx => ∃ k : Nat, k + g = n ∧ s7 = .int .i64 (k : Int) ∧ Hid (Below w.heap.size w wx))
  case atStart => exact ⟨0, by omega, rfl, Below.refl _ _⟩
  case round =>
    obtain ⟨k, hk, rfl, HBl⟩ := hrel
    cases gk with
    | zero =>
      obtain rfl : k = n := by omega
      go_wp2_with fail
      go_ret
      exact ⟨rfl, HBl.out⟩
    | succ g =>
      have hkn : k < n := by omega
      obtain ⟨m, q, hAk, hBk, hq⟩ := HE.out.at (k := k) (by rw [HL.out]; exact hkn)
      obtain ⟨o1, o2⟩ := (HO.out m (List.mem_of_getElem? hAk)).order
      obtain ⟨ga, oa, rfl, hca⟩ := HA.out (by intro e; rw [e] at hAk; cases hAk)
      obtain ⟨gb, ob, rfl, hcb⟩ := HB.out (by intro e; rw [e] at hBk; cases hBk)
      obtain ⟨a0, a1, a2, a3⟩ := rowM_at A k m hAk
      obtain ⟨b0, b1, b2, b3⟩ := rowM_at B k _ hBk
      have on : ∀ a u, w.cell? a = some u → wr.cell? a = some u := fun a u h => (HBl.out.cell (World.block_lt_of_cell? w _ h)).trans h
      have c0 : wr.cell? ⟨ga, oa + k * 4, none⟩ = some (.int .i64 m.kind) := by rw [show oa + k * 4 = oa + (4 * k) by omega]; exact on _ _ (hca _ _ a0)
      have c1 : wr.cell? ⟨ga, oa + k * 4 + 1, none⟩ = some (.string ⟨m.text.toArray⟩) := by rw [show oa + k * 4 + 1 = oa + (4 * k + 1) by omega]; exact on _ _ (hca _ _ a1)
      have c2 : wr.cell? ⟨ga, oa + k * 4 + 2, none⟩ = some (.complex .f64 (W m.num.1) (W m.num.2)) := by rw [show oa + k * 4 + 2 = oa + (4 * k + 2) by omega]; exact on _ _ (hca _ _ a2)
      have c3 : wr.cell? ⟨ga, oa + k * 4 + 3, none⟩ = some (.int .i64 m.pos) := by rw [show oa + k * 4 + 3 = oa + (4 * k + 3) by omega]; exact on _ _ (hca _ _ a3)
      have d0 : wr.cell? ⟨gb, ob + k * 4, none⟩ = some (.int .i64 m.kind) := by rw [show ob + k * 4 = ob + (4 * k) by omega]; exact on _ _ (hcb _ _ b0)
      have d1 : wr.cell? ⟨gb, ob + k * 4 + 1, none⟩ = some (.string ⟨m.text.toArray⟩) := by rw [show ob + k * 4 + 1 = ob + (4 * k + 1) by omega]; exact on _ _ (hcb _ _ b1)
      have d2 : wr.cell? ⟨gb, ob + k * 4 + 2, none⟩ = some (.complex .f64 (W m.num.1) (W m.num.2)) := by rw [show ob + k * 4 + 2 = ob + (4 * k + 2) by omega]; exact on _ _ (hcb _ _ b2)
      have d3 : wr.cell? ⟨gb, ob + k * 4 + 3, none⟩ = some (.int .i64 q) := by rw [show ob + k * 4 + 3 = ob + (4 * k + 3) by omega]; exact on _ _ (hcb _ _ b3)
      clear hca hcb a0 a1 a2 a3 b0 b1 b2 b3 hAk hBk on
      obtain ⟨kd, hkd⟩ : ∃ k : Int, (m.kind : Int) = k := ⟨_, rfl⟩
      obtain ⟨tx, htx⟩ : ∃ k : ByteArray, (⟨m.text.toArray⟩ : ByteArray) = k := ⟨_, rfl⟩
      obtain ⟨x1, hx1⟩ : ∃ k, W m.num.1 = k := ⟨_, rfl⟩
      obtain ⟨x2, hx2⟩ : ∃ k, W m.num.2 = k := ⟨_, rfl⟩
      obtain ⟨ps, hps⟩ : ∃ k : Int, (m.pos : Int) = k := ⟨_, rfl⟩
      rw [hkd] at c0 d0; rw [htx] at c1 d1; rw [hx1, hx2] at c2 d2; rw [hps] at c3; rw [hx1] at o1; rw [hx2] at o2
      cases pl with
      | true =>
        obtain rfl := hq rfl
        rw [hps] at d3
        clear hkd htx hx1 hx2 hps hq
        have hq4 := eq_cplx o1 o2
        have hlt := World.block_lt_of_cell? wr _ d0
        have hne : gb ≠ wr.heap.size := Nat.ne_of_lt hlt
        have e0 := fun o => Lib.cell?_alloc_marked (W := wr) o d0
        have e1 := fun o => Lib.cell?_alloc_marked (W := wr) o d1
        have e2 := fun o => Lib.cell?_alloc_marked (W := wr) o d2
        have e3 := fun o => Lib.cell?_alloc_marked (W := wr) o d3
        clear hlt
        go_wp2_with fail
        go_region
        go_wp2_with fail
        go_roundg g
        case measure => omega
        case rel => exact ⟨k + 1, by omega, by go_num, by
          first
            | exact (HBl.out.alloc HBl.out.size _).drew
            | exact Go.below_drewN ((HBl.out.alloc HBl.out.size _)) _
            | exact ((HBl.out.alloc HBl.out.size _).setCell (p := ⟨wr.heap.size, 3, none⟩) HBl.out.size _).drew
            | exact Go.below_drewN ((HBl.out.alloc HBl.out.size _).setCell (p := ⟨wr.heap.size, 3, none⟩) HBl.out.size _) _⟩
      | false =>
        clear hkd htx hx1 hx2 hps hq
        obtain ⟨qs, hqs⟩ : ∃ k : Int, (q : Int) = k := ⟨_, rfl⟩
        rw [hqs] at d3
        clear hqs
        have hq4 := eq_cplx o1 o2
        have hlt := World.block_lt_of_cell? wr _ d0
        have hne : gb ≠ wr.heap.size := Nat.ne_of_lt hlt
        have e0 := fun o => Lib.cell?_alloc_marked (W := wr) o d0
        have e1 := fun o => Lib.cell?_alloc_marked (W := wr) o d1
        have e2 := fun o => Lib.cell?_alloc_marked (W := wr) o d2
        have e3 := fun o => Lib.cell?_alloc_marked (W := wr) o d3
        clear hlt
        go_wp2_with fail
        go_region
        go_wp2_with fail
        go_roundg g
        case measure => omega
        case rel => exact ⟨k + 1, by omega, by go_num, by
          first
            | exact (HBl.out.alloc HBl.out.size _).drew
            | exact Go.below_drewN ((HBl.out.alloc HBl.out.size _)) _
            | exact ((HBl.out.alloc HBl.out.size _).setCell (p := ⟨wr.heap.size, 3, none⟩) HBl.out.size _).drew
            | exact Go.below_drewN ((HBl.out.alloc HBl.out.size _).setCell (p := ⟨wr.heap.size, 3, none⟩) HBl.out.size _) _⟩
end Go.Proofs.YtedgcllgifiajaaDoor
