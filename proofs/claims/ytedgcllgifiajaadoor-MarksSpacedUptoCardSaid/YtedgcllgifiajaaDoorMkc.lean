/- What Marks of the package marks answers. (printed by gen/marks.py) -/
import Derived.Test.YtedgcllgifiajaaDoorMkb
import Derived.Laws.IdiomStrings
namespace Go.Proofs.YtedgcllgifiajaaDoor
open Go.RowKit Flo Mk
structure FrameM (a : Act) (F : Nat) (p : Option Addr) (n c : Nat) (v : Value) (i fr : Nat) (ok : Bool) : Prop where
  df : a.defers = []
  sz : a.tmps.size = 122
  s0 : a.tmps[0]? = some (.slice p n c)
  s2 : a.tmps[2]? = some (.slice none 0 0)
  s3 : a.tmps[3]? = some (.pointer (some ⟨F, 0, none⟩))
  s4 : a.tmps[4]? = some v
  s5 : a.tmps[5]? = some (.int .i64 (i : Int))
  s6 : a.tmps[6]? = some (.int .i64 (fr : Int))
  s7 : a.tmps[7]? = some (.pointer (some ⟨F + 1, 0, none⟩))
  s8 : a.tmps[8]? = some (.bool ok)
theorem frame_list (U : Nat → Value) : (List.range 122).map U = [U 0, U 1, U 2, U 3, U 4, U 5, U 6, U 7, U 8, U 9, U 10, U 11, U 12, U 13, U 14, U 15, U 16, U 17, U 18, U 19, U 20, U 21, U 22, U 23, U 24, U 25, U 26, U 27, U 28, U 29, U 30, U 31, U 32, U 33, U 34, U 35, U 36, U 37, U 38, U 39, U 40, U 41, U 42, U 43, U 44, U 45, U 46, U 47, U 48, U 49, U 50, U 51, U 52, U 53, U 54, U 55, U 56, U 57, U 58, U 59, U 60, U 61, U 62, U 63, U 64, U 65, U 66, U 67, U 68, U 69, U 70, U 71, U 72, U 73, U 74, U 75, U 76, U 77, U 78, U 79, U 80, U 81, U 82, U 83, U 84, U 85, U 86, U 87, U 88, U 89, U 90, U 91, U 92, U 93, U 94, U 95, U 96, U 97, U 98, U 99, U 100, U 101, U 102, U 103, U 104, U 105, U 106, U 107, U 108, U 109, U 110, U 111, U 112, U 113, U 114, U 115, U 116, U 117, U 118, U 119, U 120, U 121] := rfl
theorem FrameM.open {a : Act} {F : Nat} {p : Option Addr} {n c : Nat} {v : Value} {i fr : Nat} {ok : Bool} (h : FrameM a F p n c v i fr ok) :
    ∃ U : Nat → Value, a = { tmps := #[(.slice p n c), U 1, (.slice none 0 0), (.pointer (some ⟨F, 0, none⟩)), v, (.int .i64 (i : Int)), (.int .i64 (fr : Int)), (.pointer (some ⟨F + 1, 0, none⟩)), (.bool ok), U 9, U 10, U 11, U 12, U 13, U 14, U 15, U 16, U 17, U 18, U 19, U 20, U 21, U 22, U 23, U 24, U 25, U 26, U 27, U 28, U 29, U 30, U 31, U 32, U 33, U 34, U 35, U 36, U 37, U 38, U 39, U 40, U 41, U 42, U 43, U 44, U 45, U 46, U 47, U 48, U 49, U 50, U 51, U 52, U 53, U 54, U 55, U 56, U 57, U 58, U 59, U 60, U 61, U 62, U 63, U 64, U 65, U 66, U 67, U 68, U 69, U 70, U 71, U 72, U 73, U 74, U 75, U 76, U 77, U 78, U 79, U 80, U 81, U 82, U 83, U 84, U 85, U 86, U 87, U 88, U 89, U 90, U 91, U 92, U 93, U 94, U 95, U 96, U 97, U 98, U 99, U 100, U 101, U 102, U 103, U 104, U 105, U 106, U 107, U 108, U 109, U 110, U 111, U 112, U 113, U 114, U 115, U 116, U 117, U 118, U 119, U 120, U 121], defers := [] } := by
  obtain ⟨A, D⟩ := a
  obtain ⟨rfl, hs, h0, h2, h3, h4, h5, h6, h7, h8⟩ := h
  refine ⟨fun k => A.getD k undef, ?_⟩
  have hA : A = ((List.range 122).map fun k => A.getD k undef).toArray := by
    apply Array.toList_inj.1
    apply List.ext_getElem?
    intro j
    rw [List.getElem?_map]
    by_cases hj : j < 122
    · rw [List.getElem?_range hj]
      show _ = some (A.getD j undef)
      rw [Array.getElem?_toList, Array.getElem?_eq_getElem (by rw [show A.size = 122 from hs]; exact hj)]
      rw [Array.getD, dif_pos (by rw [show A.size = 122 from hs]; exact hj)]; rfl
    · rw [Array.getElem?_toList, Array.getElem?_eq_none (by rw [show A.size = 122 from hs]; omega), List.getElem?_eq_none (by simp; omega)]; rfl
  have e : ∀ k x, A[k]? = some x → A.getD k undef = x := fun k x hx => by rw [Array.getD_eq_getD_getElem?, hx]; rfl
  rw [frame_list, e 0 _ h0, e 2 _ h2, e 3 _ h3, e 4 _ h4, e 5 _ h5, e 6 _ h6, e 7 _ h7, e 8 _ h8] at hA
  exact congrArg (fun t => ({ tmps := t, defers := [] } : Act)) hA
/-- the memory of the call: its two boxes, what it has gathered, and nothing else turned -/
structure HeapM (w wr : World) (acc : List M) (v m0 m1 m2 m3 : Value) : Prop where
  below : Below w.heap.size w wr
  f0 : wr.cell? ⟨w.heap.size, 0, none⟩ = some (.int .i64 0)
  f1 : wr.cell? ⟨w.heap.size, 1, none⟩ = some (.int .i64 0)
  ff : ∀ o, wr.frozen? ⟨w.heap.size, o, none⟩ = false
  m0 : wr.cell? ⟨w.heap.size + 1, 0, none⟩ = some m0
  m1 : wr.cell? ⟨w.heap.size + 1, 1, none⟩ = some m1
  m2 : wr.cell? ⟨w.heap.size + 1, 2, none⟩ = some m2
  m3 : wr.cell? ⟨w.heap.size + 1, 3, none⟩ = some m3
  mf : ∀ o, wr.frozen? ⟨w.heap.size + 1, o, none⟩ = false
  own : wr.ownsRow (w.heap.size + 2) 36 4 v acc.length (rowM acc)
  size : w.heap.size + 2 ≤ wr.heap.size
theorem HeapM.call {w wr w2 : World} {acc : List M} {v m0 m1 m2 m3 : Value} (h : HeapM w wr acc v m0 m1 m2 m3) (hb : Below wr.heap.size wr w2) : HeapM w w2 acc v m0 m1 m2 m3 := by
  have hs := h.size
  exact ⟨h.below.trans (hb.mono h.below.size), (hb.cell (p := ⟨w.heap.size, 0, none⟩) (by show w.heap.size < _; omega)).trans h.f0, (hb.cell (p := ⟨w.heap.size, 1, none⟩) (by show w.heap.size < _; omega)).trans h.f1,
    fun o => (hb.frozen (p := ⟨w.heap.size, o, none⟩) (by show w.heap.size < _; omega)).trans (h.ff o),
    (hb.cell (p := ⟨w.heap.size + 1, 0, none⟩) (by show w.heap.size + 1 < _; omega)).trans h.m0, (hb.cell (p := ⟨w.heap.size + 1, 1, none⟩) (by show w.heap.size + 1 < _; omega)).trans h.m1,
    (hb.cell (p := ⟨w.heap.size + 1, 2, none⟩) (by show w.heap.size + 1 < _; omega)).trans h.m2, (hb.cell (p := ⟨w.heap.size + 1, 3, none⟩) (by show w.heap.size + 1 < _; omega)).trans h.m3,
    fun o => (hb.frozen (p := ⟨w.heap.size + 1, o, none⟩) (by show w.heap.size + 1 < _; omega)).trans (h.mf o), own_below h.own hb, by have := hb.size; omega⟩
theorem HeapM.store {w wr : World} {acc : List M} {v m0 m1 m2 m3 : Value} (h : HeapM w wr acc v m0 m1 m2 m3) (n0 n1 n2 n3 : Value) :
    HeapM w ((((wr.setCell ⟨w.heap.size + 1, 0, none⟩ n0).setCell ⟨w.heap.size + 1, 1, none⟩ n1).setCell ⟨w.heap.size + 1, 2, none⟩ n2).setCell ⟨w.heap.size + 1, 3, none⟩ n3) acc v n0 n1 n2 n3 := by
  obtain ⟨hb, f0, f1, ff, k0, k1, k2, k3, mf, own, size⟩ := h
  have lt : w.heap.size ≤ w.heap.size + 1 := Nat.le_succ _
  refine ⟨(((hb.setCell (p := ⟨w.heap.size + 1, 0, none⟩) lt _).setCell (p := ⟨w.heap.size + 1, 1, none⟩) lt _).setCell (p := ⟨w.heap.size + 1, 2, none⟩) lt _).setCell (p := ⟨w.heap.size + 1, 3, none⟩) lt _, ?_, ?_, ?_, ?_, ?_, ?_, ?_, ?_, ?_, ?_⟩
  · simp [go_sem, f0]
  · simp [go_sem, f1]
  · intro o; simp [go_sem, ff]
  · simp [go_sem, k0]
  · simp [go_sem, k1]
  · simp [go_sem, k2]
  · simp [go_sem, k3]
  · intro o; simp [go_sem, mf]
  · exact ownsRow_setCell_below (ownsRow_setCell_below (ownsRow_setCell_below (ownsRow_setCell_below own (by show w.heap.size + 1 < _; omega) _) (by show w.heap.size + 1 < _; omega) _) (by show w.heap.size + 1 < _; omega) _) (by show w.heap.size + 1 < _; omega) _
  · simpa [World.setCell] using size
theorem HeapM.app {w wr w2 : World} {acc : List M} {v v2 m0 m1 m2 m3 : Value} {o : Obj} {m : M} (h : HeapM w wr acc v m0 m1 m2 m3)
    (h1 : w2.ownsRow (w.heap.size + 2) 36 4 v2 (acc.length + 1) (rowM acc ++ cellsM m)) (hg : (wr.alloc o).grownBy w2 v.ownBlock) : HeapM w w2 (acc ++ [m]) v2 m0 m1 m2 m3 := by
  have hs := h.size
  have hne : ∀ b, b < w.heap.size + 2 → some b ≠ v.ownBlock := fun b hb e => by have := (h.own.lt b e.symm).1; omega
  have hblk : ∀ b, b < w.heap.size + 2 → w2.heap[b]? = wr.heap[b]? := fun b hb => by
    rw [hg.block b (by simp; omega) (hne b hb)]
    exact Below.heap_alloc wr o b (by omega)
  have hcell : ∀ b k, b < w.heap.size + 2 → w2.cell? ⟨b, k, none⟩ = wr.cell? ⟨b, k, none⟩ := fun b k hb => World.cell?_of_block (a := ⟨b, k, none⟩) (hblk b hb)
  have hfro : ∀ b k, b < w.heap.size + 2 → w2.frozen? ⟨b, k, none⟩ = wr.frozen? ⟨b, k, none⟩ := fun b k hb => World.frozen?_of_block (a := ⟨b, k, none⟩) (hblk b hb)
  refine ⟨(h.below.alloc h.below.size o).grown hg (by simp; omega) (fun k hk => by have := (h.own.lt k hk).1; omega), ?_, ?_, ?_, ?_, ?_, ?_, ?_, ?_, ?_, ?_⟩
  · rw [hcell _ _ (by omega)]; exact h.f0
  · rw [hcell _ _ (by omega)]; exact h.f1
  · intro o; rw [hfro _ _ (by omega)]; exact h.ff o
  · rw [hcell _ _ (by omega)]; exact h.m0
  · rw [hcell _ _ (by omega)]; exact h.m1
  · rw [hcell _ _ (by omega)]; exact h.m2
  · rw [hcell _ _ (by omega)]; exact h.m3
  · intro o; rw [hfro _ _ (by omega)]; exact h.mf o
  · rw [List.length_append, rowM_app]
    show w2.ownsRow _ _ _ _ (acc.length + 1) (rowM acc ++ rowM [m])
    rw [show rowM [m] = cellsM m by simp [rowM]]; exact h1
  · have := hg.size; simp at this; omega
/-- what Marks answers -/
def MarksR (w : World) (R : Except Nat (List M)) (e : Ending) (w' : World) : Prop :=
  (∃ ms v, R = .ok ms ∧ e = .returned (.tuple #[v, .agg #[.int .i64 0, .int .i64 0]]) ∧ w'.ownsRow w.heap.size 36 4 v ms.length (rowM ms)) ∨
  (∃ a : Nat, R = .error a ∧ e = .returned (.tuple #[.slice none 0 0, .agg #[.int .i64 20, .int .i64 (a : Int)]]))
def RunAt (t : List UInt8) (fr i : Nat) : Prop := (t.drop fr).takeWhile runB = (t.drop fr).take (i - fr) ++ (t.drop i).takeWhile runB ∧ ∃ x, t[fr]? = some x ∧ runB x = true
/-- what holds at the labels -/
def JM (w : World) (p : Option Addr) (n c : Nat) (t : List UInt8) (R : Except Nat (List M)) (m l : Nat) (a : Act) (wr : World) : Prop :=
  ∃ (i fr : Nat) (acc : List M) (v : Value) (ok : Bool) (m0 m1 m2 m3 : Value), FrameM a w.heap.size p n c v i fr ok ∧ HeapM w wr acc v m0 m1 m2 m3 ∧ fr ≤ i ∧ i ≤ n ∧
    ((l = 0 ∧ acc.length ≤ i ∧ fin acc (scan (t.drop i) i) = R ∧ m = 268435456 * (n - i) + 201326592) ∨
     (l = 1 ∧ acc.length ≤ fr ∧ (fr < i ∨ t[i]? = some 35) ∧ fin acc (rem (t.drop i) i) = R ∧ m = 268435456 * (n - fr) + 134217728 + (n - i)) ∨
     (l = 2 ∧ acc.length ≤ fr ∧ RunAt t fr i ∧ fin acc (scan (t.drop fr) fr) = R ∧ m = 268435456 * (n - fr) + 134217728 + (n - i)) ∨
     (l = 3 ∧ acc.length ≤ fr ∧ i = fr ∧ (∃ x, t[fr]? = some x ∧ blankB x = false ∧ x ≠ 35 ∧ runB x = false) ∧ fin acc (scan (t.drop fr) fr) = R ∧ m = 268435456 * (n - fr) + 134217728) ∨
     (l = 4 ∧ acc.length ≤ fr ∧ fr < n ∧ (∃ x, t[fr]? = some x ∧ blankB x = false ∧ x ≠ 35) ∧ ((ok = false ∧ one (t.drop fr) fr = none) ∨ (ok = true ∧ ∃ mk, one (t.drop fr) fr = some mk ∧ i = fr + mk.text.length ∧ m0 = .int .i64 mk.kind ∧ m1 = .string ⟨mk.text.toArray⟩ ∧ m2 = .complex .f64 (W mk.num.1) (W mk.num.2) ∧ m3 = .int .i64 mk.pos)) ∧ fin acc (scan (t.drop fr) fr) = R ∧ m = 268435456 * (n - fr) + 67108864))
end Go.Proofs.YtedgcllgifiajaaDoor
