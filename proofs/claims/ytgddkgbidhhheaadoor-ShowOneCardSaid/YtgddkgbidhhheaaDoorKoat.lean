/- Texts joined: Scang Jump Txt Mka Mkb Mkc Mkd Mke Mkf Same Chain Rma Rmb. -/
import Derived.Test.YtgddkgbidhhheaaDoorKoas
import Derived.ScopeJumps
import Derived.WalkMore
import Derived.WalkKit
import Derived.Laws.AppendOwnNone
import Derived.Test.YtgddkgbidhhheaaDoorKoak
import Derived.Test.YtgddkgbidhhheaaDoorKoad
import Derived.Test.YtgddkgbidhhheaaDoorKoah
import Derived.Test.YtgddkgbidhhheaaDoorKoaf
import Derived.Laws.IdiomStrings
import Derived.Lib.SmallJoins
import Derived.Lib.SlBytesConst
import Derived.Deep.LoopGhost
/- Laws of the marks of a text: other gaps between them. No program in sight. -/
namespace Go.Proofs.YtgddkgbidhhheaaDoor
namespace Mk
open Flo
def gapB (c : UInt8) : Bool := blankB c || c == 35
/-- a mark that some text begins with -/
def Tok (m : M) : Prop := ∃ c r at', one (c :: r) at' = some m ∧ blankB c = false ∧ c ≠ 35
theorem word_pos {s : List UInt8} {a : Nat} {m : M} (h : wordM s a = some m) (b : Nat) : wordM s b = some { m with pos := b } := by
  unfold wordM at h ⊢
  split at h
  · rename_i h1; rw [if_pos h1]
    cases hp : refParse s with
    | none => rw [hp] at h; cases h
    | some p => rw [hp] at h; cases h; rfl
  · rename_i h1; rw [if_neg h1]
    split at h
    · rename_i h2; rw [if_pos h2]; cases h; rfl
    · rename_i h2; rw [if_neg h2]
      split at h
      · cases h
      · rename_i h3; rw [if_neg h3]; cases h; rfl
theorem one_pos {l : List UInt8} {a : Nat} {m : M} (h : one l a = some m) (b : Nat) : one l b = some { m with pos := b } := by
  unfold one at h ⊢
  split at h
  · rename_i h1; rw [if_pos h1]; exact word_pos h b
  · rename_i h1; rw [if_neg h1]
    split at h
    · cases h
    · rename_i h2; rw [if_neg h2]; cases h; rfl
theorem gap_bytes {d : UInt8} (h : gapB d = true) : runB d = false ∧ d ≠ 62 ∧ d ≠ 61 := by
  unfold gapB blankB at h
  simp only [Bool.or_eq_true, beq_iff_eq] at h
  rcases h with (((rfl | rfl) | rfl) | rfl) | rfl <;> decide
theorem Tok.read {m : M} (h : Tok m) (rest : List UInt8) (hr : ∃ d u, rest = d :: u ∧ gapB d = true) (at' : Nat) :
    ∃ c t, m.text = c :: t ∧ blankB c = false ∧ c ≠ 35 ∧ one (m.text ++ rest) at' = some { m with pos := at' } := by
  obtain ⟨c, r, a, ho, h1, h2⟩ := h
  obtain ⟨h3, _, h5, h6⟩ := one_text ho
  have h7 := one_take ho _ (Nat.le_refl _)
  obtain ⟨k, hk⟩ : ∃ k, m.text.length = k + 1 := ⟨m.text.length - 1, by omega⟩
  rw [hk, List.take_succ_cons] at h3 h7
  obtain ⟨d, u, rfl, hd⟩ := hr
  obtain ⟨g1, g2, g3⟩ := gap_bytes hd
  refine ⟨c, _, h3, h1, h2, ?_⟩
  rw [h3, one_app g1 g2 g3]
  exact h3 ▸ one_pos h7 at'
def strip (m : M) : M := { m with pos := 0 }
theorem scan_toks (k : Nat) : ∀ (l : List UInt8) (at' : Nat) (ms : List M), l.length < k → scan l at' = .ok ms → ∃ ts e, ms = ts ++ [⟨4, [], (0, 0), e⟩] ∧ ∀ m ∈ ts, Tok m := by
  induction k with
  | zero => intro l _ _ h; omega
  | succ k ih =>
    intro l at' ms hk h
    cases l with
    | nil => rw [scan_nil] at h; cases h; exact ⟨[], at', rfl, by simp⟩
    | cons c r =>
      simp only [List.length_cons] at hk
      by_cases hb : blankB c = true
      · rw [scan_blank hb] at h; exact ih r _ _ (by omega) h
      · by_cases h35 : c = 35
        · subst h35
          rw [scan_hash, rem_cons (by decide)] at h
          exact ih _ _ _ (by have := drop_len (· != 10) r; omega) h
        · rw [scan_one (by simpa using hb) h35] at h
          cases ho : one (c :: r) at' with
          | none => rw [ho] at h; cases h
          | some m =>
            rw [ho] at h
            obtain ⟨_, _, h3, h4⟩ := one_text ho
            simp only [List.length_cons] at h4
            change pre m _ = _ at h
            cases hs : scan ((c :: r).drop m.text.length) (at' + m.text.length) with
            | error a => rw [hs] at h; cases h
            | ok xs =>
              rw [hs] at h; cases h
              obtain ⟨ts, e, rfl, ht⟩ := ih _ _ _ (by rw [List.length_drop]; simp only [List.length_cons]; omega) hs
              refine ⟨m :: ts, e, rfl, fun x hx => ?_⟩
              rcases List.mem_cons.1 hx with rfl | hx
              · exact ⟨c, r, at', ho, by simpa using hb, h35⟩
              · exact ht x hx
end Mk
end Go.Proofs.YtgddkgbidhhheaaDoor
/- A scope in which the run jumps to several labels: after the kit's 'wp_scope_jumps', which is for one. -/
namespace Go.Proofs.YtgddkgbidhhheaaDoor
section
variable {P : Program} {a : Act} {w : World} {Q : Exit → Act → World → Prop}
end
end Go.Proofs.YtgddkgbidhhheaaDoor
/- Texts and marks in memory. No function of the program. -/
namespace Go.Proofs.YtgddkgbidhhheaaDoor
open Go.RowKit Flo Mk
/-- a complex number is stored as any other single cell -/
theorem run_store_complex {P : Program} {w : World} {a : Addr} {m : Mode} (k : FloatKind) (x y : Nat) : (store a (.complex k x y) m).run P w = stored P w a (.complex k x y) m := run_store P w a _ m rfl
attribute [go_sem] run_store_complex
/-- a text's bytes lie there (no byte: whatever the address) -/
def Txt (w : World) (p : Option Addr) (t : List UInt8) : Prop := t ≠ [] → ∃ b o, p = some ⟨b, o, none⟩ ∧ ∀ j x, t[j]? = some x → w.cell? ⟨b, o + j, none⟩ = some (.int .u8 (x.toNat : Int))
theorem Txt.nil (w : World) (p : Option Addr) : Txt w p [] := fun h => absurd rfl h
theorem Txt.below {w w' : World} {p : Option Addr} {t : List UInt8} (h : Txt w p t) (hb : Below w.heap.size w w') : Txt w' p t := fun hne => by
  obtain ⟨b, o, rfl, hc⟩ := h hne
  exact ⟨b, o, rfl, fun j x hx => (hb.cell (World.block_lt_of_cell? w _ (hc j x hx))).trans (hc j x hx)⟩
def byteC (x : UInt8) : Value := .int .u8 (x.toNat : Int)
theorem Txt.cells {w : World} {a : Addr} {t : List UInt8} (h : Txt w (some a) t) : ∀ j u, (t.map byteC)[j]? = some u → w.cell? (a.add j) = some u := by
  intro j u hu
  rw [List.getElem?_map] at hu
  cases hx : t[j]? with
  | none => rw [hx] at hu; cases hu
  | some x =>
    rw [hx] at hu; cases hu
    obtain ⟨b, o, ha, hc⟩ := h (fun e => by rw [e] at hx; cases hx)
    cases ha
    rw [Go.WideShapes.add_plain]
    exact hc j x hx
/-- a piece of a text -/
theorem Txt.drop {w : World} {b o : Nat} {t : List UInt8} (h : Txt w (some ⟨b, o, none⟩) t) (k : Nat) : Txt w (some ⟨b, o + k, none⟩) (t.drop k) := fun hne => by
  refine ⟨b, o + k, rfl, fun j x hx => ?_⟩
  rw [List.getElem?_drop] at hx
  obtain ⟨b', o', e, hc⟩ := h (fun e => by rw [e] at hx; cases hx)
  cases e
  rw [Nat.add_assoc]; exact hc _ x hx
theorem Txt.take {w : World} {p : Option Addr} {t : List UInt8} (h : Txt w p t) (k : Nat) : Txt w p (t.take k) := fun hne => by
  obtain ⟨b, o, rfl, hc⟩ := h (fun e => hne (by rw [e]; simp))
  refine ⟨b, o, rfl, fun j x hx => ?_⟩
  rw [List.getElem?_take] at hx
  split at hx
  · exact hc j x hx
  · cases hx
/-- what a mark is in memory -/
def cellsM (m : M) : List Value := [.int .i64 m.kind, .string ⟨m.text.toArray⟩, .complex .f64 (W m.num.1) (W m.num.2), .int .i64 m.pos]
def aggM (m : M) : Value := .agg #[.int .i64 m.kind, .string ⟨m.text.toArray⟩, .complex .f64 (W m.num.1) (W m.num.2), .int .i64 m.pos]
def rowM (ms : List M) : List Value := ms.flatMap cellsM
theorem rowM_len (ms : List M) : (rowM ms).length = ms.length * 4 := by
  induction ms with
  | nil => rfl
  | cons m ms ih => rw [rowM, List.flatMap_cons, List.length_append, show (ms.flatMap cellsM).length = ms.length * 4 from ih, List.length_cons, show (cellsM m).length = 4 from rfl]; omega
theorem rowM_app (a b : List M) : rowM (a ++ b) = rowM a ++ rowM b := List.flatMap_append
/-- what is owned stays owned behind a call that lays new memory alone -/
theorem own_below {w w' : World} {B : Nat} {e : TypeId} {k : Nat} {v : Value} {n : Nat} {xs : List Value} (h : w.ownsRow B e k v n xs) (hb : Below w.heap.size w w') : w'.ownsRow B e k v n xs := by
  refine ⟨h.1, ?_⟩
  rcases h.2 with hn | ⟨g, cap, cur, rfl, h1, h2, rest⟩
  · exact .inl hn
  · refine .inr ⟨g, cap, cur, rfl, h1, ?_, rest⟩
    rw [hb.block g (Array.getElem?_eq_some_iff.1 h2).1]; exact h2
/-- what an owned row of bytes is as a text -/
theorem Txt.own {w : World} {B : Nat} {e : TypeId} {p : Option Addr} {n c : Nat} {t : List UInt8} (h : w.ownsRow B e 1 (.slice p n c) n (t.map byteC)) : Txt w p t ∧ t.length = n ∧ (p = none → c = 0) ∧ n ≤ c := by
  have hl : t.length = n := by have := h.1; simpa using this
  rcases h.2 with ⟨h1, h2⟩ | ⟨g, cap, cur, h1, h2, h3, h4, h5, h6, h7⟩
  · cases h1
    refine ⟨?_, hl, fun _ => rfl, Nat.le_refl _⟩
    obtain rfl : t = [] := List.eq_nil_of_length_eq_zero hl
    exact Txt.nil _ _
  · cases h1
    refine ⟨fun _ => ⟨g, 0, rfl, fun j x hx => ?_⟩, hl, fun h => (by cases h), h4⟩
    have := h.cells (g := g) rfl j (byteC x) (by rw [List.getElem?_map, hx]; rfl)
    rw [Go.WideShapes.add_plain] at this
    exact this
section
variable {P : Program} {w : World}
end
end Go.Proofs.YtgddkgbidhhheaaDoor
/- What the small functions of the package marks answer. -/
namespace Go.Proofs.YtgddkgbidhhheaaDoor
open Go.RowKit Flo Mk
theorem u8_all {p : UInt8 → Prop} (h : ∀ n : Fin 256, p (UInt8.ofNat n.val)) (c : UInt8) : p c := by
  have := h ⟨c.toNat, c.toNat_lt⟩
  simpa using this
/-- the reserved words as the program spells them -/
def resvS : List ByteArray := resv.map fun l => ⟨l.toArray⟩
theorem contains_resv (s : ByteArray) : Lib.containsS (resvS.take 19) s = decide (s.data.toList ∈ resv) := by
  rw [Bool.eq_iff_iff, Lib.containsS_iff, decide_eq_true_eq]
  show s ∈ resvS ↔ _
  unfold resvS
  rw [List.mem_map]
  constructor
  · rintro ⟨l, hl, rfl⟩; simpa using hl
  · intro h; exact ⟨_, h, by apply ByteArray.ext; simp⟩
end Go.Proofs.YtgddkgbidhhheaaDoor
/- What width and word of the package marks answer. -/
namespace Go.Proofs.YtgddkgbidhhheaaDoor
open Go.RowKit Flo Mk
theorem ba_list {a : ByteArray} {l : List UInt8} (h : a.data.toList = l) : a = ⟨l.toArray⟩ := by
  apply ByteArray.ext; apply Array.toList_inj.1; simpa using h
abbrev markV (k : Nat) (s : ByteArray) (a b at' : Nat) : Value := .agg #[.int .i64 (k : Int), .string s, .complex .f64 a b, .int .i64 (at' : Int)]
theorem zero00 : W 0 = 0 := by decide +kernel
end Go.Proofs.YtgddkgbidhhheaaDoor
/- What Marks of the package marks answers. (printed by gen/marks.py) -/
namespace Go.Proofs.YtgddkgbidhhheaaDoor
open Go.RowKit Flo Mk
structure FrameM (a : Act) (F : Nat) (p : Option Addr) (n c : Nat) (v : Value) (i fr : Nat) (ok : Bool) : Prop where
  df : a.defers = []
  sz : a.tmps.size = 122
  s0 : a.tmps[0]? = some (.slice p n c)
  s2 : a.tmps[2]? = some (.slice none 0 0)
  s3 : a.tmps[3]? = some (.pointer (some ⟨F, 0, none⟩))
  s4 : a.tmps[4]? = some v
  s5 : a.tmps[5]? = some (.int .i64 (i : Int))
  s6 : a.tmps[6]? = some (.int .i64 (fr : Int))
  s7 : a.tmps[7]? = some (.pointer (some ⟨F + 1, 0, none⟩))
  s8 : a.tmps[8]? = some (.bool ok)
theorem frame_list (U : Nat → Value) : (List.range 122).map U = [U 0, U 1, U 2, U 3, U 4, U 5, U 6, U 7, U 8, U 9, U 10, U 11, U 12, U 13, U 14, U 15, U 16, U 17, U 18, U 19, U 20, U 21, U 22, U 23, U 24, U 25, U 26, U 27, U 28, U 29, U 30, U 31, U 32, U 33, U 34, U 35, U 36, U 37, U 38, U 39, U 40, U 41, U 42, U 43, U 44, U 45, U 46, U 47, U 48, U 49, U 50, U 51, U 52, U 53, U 54, U 55, U 56, U 57, U 58, U 59, U 60, U 61, U 62, U 63, U 64, U 65, U 66, U 67, U 68, U 69, U 70, U 71, U 72, U 73, U 74, U 75, U 76, U 77, U 78, U 79, U 80, U 81, U 82, U 83, U 84, U 85, U 86, U 87, U 88, U 89, U 90, U 91, U 92, U 93, U 94, U 95, U 96, U 97, U 98, U 99, U 100, U 101, U 102, U 103, U 104, U 105, U 106, U 107, U 108, U 109, U 110, U 111, U 112, U 113, U 114, U 115, U 116, U 117, U 118, U 119, U 120, U 121] := rfl
theorem FrameM.open {a : Act} {F : Nat} {p : Option Addr} {n c : Nat} {v : Value} {i fr : Nat} {ok : Bool} (h : FrameM a F p n c v i fr ok) :
    ∃ U : Nat → Value, a = { tmps := #[(.slice p n c), U 1, (.slice none 0 0), (.pointer (some ⟨F, 0, none⟩)), v, (.int .i64 (i : Int)), (.int .i64 (fr : Int)), (.pointer (some ⟨F + 1, 0, none⟩)), (.bool ok), U 9, U 10, U 11, U 12, U 13, U 14, U 15, U 16, U 17, U 18, U 19, U 20, U 21, U 22, U 23, U 24, U 25, U 26, U 27, U 28, U 29, U 30, U 31, U 32, U 33, U 34, U 35, U 36, U 37, U 38, U 39, U 40, U 41, U 42, U 43, U 44, U 45, U 46, U 47, U 48, U 49, U 50, U 51, U 52, U 53, U 54, U 55, U 56, U 57, U 58, U 59, U 60, U 61, U 62, U 63, U 64, U 65, U 66, U 67, U 68, U 69, U 70, U 71, U 72, U 73, U 74, U 75, U 76, U 77, U 78, U 79, U 80, U 81, U 82, U 83, U 84, U 85, U 86, U 87, U 88, U 89, U 90, U 91, U 92, U 93, U 94, U 95, U 96, U 97, U 98, U 99, U 100, U 101, U 102, U 103, U 104, U 105, U 106, U 107, U 108, U 109, U 110, U 111, U 112, U 113, U 114, U 115, U 116, U 117, U 118, U 119, U 120, U 121], defers := [] } := by
  obtain ⟨A, D⟩ := a
  obtain ⟨rfl, hs, h0, h2, h3, h4, h5, h6, h7, h8⟩ := h
  refine ⟨fun k => A.getD k undef, ?_⟩
  have hA : A = ((List.range 122).map fun k => A.getD k undef).toArray := by
    apply Array.toList_inj.1
    apply List.ext_getElem?
    intro j
    rw [List.getElem?_map]
    by_cases hj : j < 122
    · rw [List.getElem?_range hj]
      show _ = some (A.getD j undef)
      rw [Array.getElem?_toList, Array.getElem?_eq_getElem (by rw [show A.size = 122 from hs]; exact hj)]
      rw [Array.getD, dif_pos (by rw [show A.size = 122 from hs]; exact hj)]; rfl
    · rw [Array.getElem?_toList, Array.getElem?_eq_none (by rw [show A.size = 122 from hs]; omega), List.getElem?_eq_none (by simp; omega)]; rfl
  have e : ∀ k x, A[k]? = some x → A.getD k undef = x := fun k x hx => by rw [Array.getD_eq_getD_getElem?, hx]; rfl
  rw [frame_list, e 0 _ h0, e 2 _ h2, e 3 _ h3, e 4 _ h4, e 5 _ h5, e 6 _ h6, e 7 _ h7, e 8 _ h8] at hA
  exact congrArg (fun t => ({ tmps := t, defers := [] } : Act)) hA
/-- the memory of the call: its two boxes, what it has gathered, and nothing else turned -/
structure HeapM (w wr : World) (acc : List M) (v m0 m1 m2 m3 : Value) : Prop where
  below : Below w.heap.size w wr
  f0 : wr.cell? ⟨w.heap.size, 0, none⟩ = some (.int .i64 0)
  f1 : wr.cell? ⟨w.heap.size, 1, none⟩ = some (.int .i64 0)
  ff : ∀ o, wr.frozen? ⟨w.heap.size, o, none⟩ = false
  m0 : wr.cell? ⟨w.heap.size + 1, 0, none⟩ = some m0
  m1 : wr.cell? ⟨w.heap.size + 1, 1, none⟩ = some m1
  m2 : wr.cell? ⟨w.heap.size + 1, 2, none⟩ = some m2
  m3 : wr.cell? ⟨w.heap.size + 1, 3, none⟩ = some m3
  mf : ∀ o, wr.frozen? ⟨w.heap.size + 1, o, none⟩ = false
  own : wr.ownsRow (w.heap.size + 2) 98 4 v acc.length (rowM acc)
  size : w.heap.size + 2 ≤ wr.heap.size
theorem HeapM.call {w wr w2 : World} {acc : List M} {v m0 m1 m2 m3 : Value} (h : HeapM w wr acc v m0 m1 m2 m3) (hb : Below wr.heap.size wr w2) : HeapM w w2 acc v m0 m1 m2 m3 := by
  have hs := h.size
  exact ⟨h.below.trans (hb.mono h.below.size), (hb.cell (p := ⟨w.heap.size, 0, none⟩) (by show w.heap.size < _; omega)).trans h.f0, (hb.cell (p := ⟨w.heap.size, 1, none⟩) (by show w.heap.size < _; omega)).trans h.f1,
    fun o => (hb.frozen (p := ⟨w.heap.size, o, none⟩) (by show w.heap.size < _; omega)).trans (h.ff o),
    (hb.cell (p := ⟨w.heap.size + 1, 0, none⟩) (by show w.heap.size + 1 < _; omega)).trans h.m0, (hb.cell (p := ⟨w.heap.size + 1, 1, none⟩) (by show w.heap.size + 1 < _; omega)).trans h.m1,
    (hb.cell (p := ⟨w.heap.size + 1, 2, none⟩) (by show w.heap.size + 1 < _; omega)).trans h.m2, (hb.cell (p := ⟨w.heap.size + 1, 3, none⟩) (by show w.heap.size + 1 < _; omega)).trans h.m3,
    fun o => (hb.frozen (p := ⟨w.heap.size + 1, o, none⟩) (by show w.heap.size + 1 < _; omega)).trans (h.mf o), own_below h.own hb, by have := hb.size; omega⟩
theorem HeapM.store {w wr : World} {acc : List M} {v m0 m1 m2 m3 : Value} (h : HeapM w wr acc v m0 m1 m2 m3) (n0 n1 n2 n3 : Value) :
    HeapM w ((((wr.setCell ⟨w.heap.size + 1, 0, none⟩ n0).setCell ⟨w.heap.size + 1, 1, none⟩ n1).setCell ⟨w.heap.size + 1, 2, none⟩ n2).setCell ⟨w.heap.size + 1, 3, none⟩ n3) acc v n0 n1 n2 n3 := by
  obtain ⟨hb, f0, f1, ff, k0, k1, k2, k3, mf, own, size⟩ := h
  have lt : w.heap.size ≤ w.heap.size + 1 := Nat.le_succ _
  refine ⟨(((hb.setCell (p := ⟨w.heap.size + 1, 0, none⟩) lt _).setCell (p := ⟨w.heap.size + 1, 1, none⟩) lt _).setCell (p := ⟨w.heap.size + 1, 2, none⟩) lt _).setCell (p := ⟨w.heap.size + 1, 3, none⟩) lt _, ?_, ?_, ?_, ?_, ?_, ?_, ?_, ?_, ?_, ?_⟩
  · simp [go_sem, f0]
  · simp [go_sem, f1]
  · intro o; simp [go_sem, ff]
  · simp [go_sem, k0]
  · simp [go_sem, k1]
  · simp [go_sem, k2]
  · simp [go_sem, k3]
  · intro o; simp [go_sem, mf]
  · exact ownsRow_setCell_below (ownsRow_setCell_below (ownsRow_setCell_below (ownsRow_setCell_below own (by show w.heap.size + 1 < _; omega) _) (by show w.heap.size + 1 < _; omega) _) (by show w.heap.size + 1 < _; omega) _) (by show w.heap.size + 1 < _; omega) _
  · simpa [World.setCell] using size
theorem HeapM.app {w wr w2 : World} {acc : List M} {v v2 m0 m1 m2 m3 : Value} {o : Obj} {m : M} (h : HeapM w wr acc v m0 m1 m2 m3)
    (h1 : w2.ownsRow (w.heap.size + 2) 98 4 v2 (acc.length + 1) (rowM acc ++ cellsM m)) (hg : (wr.alloc o).grownBy w2 v.ownBlock) : HeapM w w2 (acc ++ [m]) v2 m0 m1 m2 m3 := by
  have hs := h.size
  have hne : ∀ b, b < w.heap.size + 2 → some b ≠ v.ownBlock := fun b hb e => by have := (h.own.lt b e.symm).1; omega
  have hblk : ∀ b, b < w.heap.size + 2 → w2.heap[b]? = wr.heap[b]? := fun b hb => by
    rw [hg.block b (by simp; omega) (hne b hb)]
    exact Below.heap_alloc wr o b (by omega)
  have hcell : ∀ b k, b < w.heap.size + 2 → w2.cell? ⟨b, k, none⟩ = wr.cell? ⟨b, k, none⟩ := fun b k hb => World.cell?_of_block (a := ⟨b, k, none⟩) (hblk b hb)
  have hfro : ∀ b k, b < w.heap.size + 2 → w2.frozen? ⟨b, k, none⟩ = wr.frozen? ⟨b, k, none⟩ := fun b k hb => World.frozen?_of_block (a := ⟨b, k, none⟩) (hblk b hb)
  refine ⟨(h.below.alloc h.below.size o).grown hg (by simp; omega) (fun k hk => by have := (h.own.lt k hk).1; omega), ?_, ?_, ?_, ?_, ?_, ?_, ?_, ?_, ?_, ?_⟩
  · rw [hcell _ _ (by omega)]; exact h.f0
  · rw [hcell _ _ (by omega)]; exact h.f1
  · intro o; rw [hfro _ _ (by omega)]; exact h.ff o
  · rw [hcell _ _ (by omega)]; exact h.m0
  · rw [hcell _ _ (by omega)]; exact h.m1
  · rw [hcell _ _ (by omega)]; exact h.m2
  · rw [hcell _ _ (by omega)]; exact h.m3
  · intro o; rw [hfro _ _ (by omega)]; exact h.mf o
  · rw [List.length_append, rowM_app]
    show w2.ownsRow _ _ _ _ (acc.length + 1) (rowM acc ++ rowM [m])
    rw [show rowM [m] = cellsM m by simp [rowM]]; exact h1
  · have := hg.size; simp at this; omega
end Go.Proofs.YtgddkgbidhhheaaDoor
/- What Marks of the package marks answers: the walk. -/
namespace Go.Proofs.YtgddkgbidhhheaaDoor
open Go.RowKit Flo Mk
theorem mark_info : (Tryd.prog.info? 98).map (fun i => (i.zero, i.size, i.bytes)) = some (some (.agg #[.int .i64 0, .string ByteArray.empty, .complex .f64 0 0, .int .i64 0]), 4, 48) := by kernel_rfl
theorem drop_cons {t : List UInt8} {i : Nat} {x : UInt8} (h : t[i]? = some x) : t.drop i = x :: t.drop (i + 1) := by
  obtain ⟨hi, rfl⟩ := List.getElem?_eq_some_iff.1 h
  exact List.drop_eq_getElem_cons hi
theorem conv_txt (wr : World) (b o n cap : Nat) (S : ByteArray) (hl : S.data.toList.length = n) (hc : ∀ j x, S.data.toList[j]? = some x → wr.cell? ⟨b, o + j, none⟩ = some (.int .u8 (x.toNat : Int))) :
    (convert 22 9 (.slice (some ⟨b, o, none⟩) n cap)).run Tryd.prog wr = .ok (.string S) wr := by
  subst hl
  have h := run_convert_bytes_back (P := Tryd.prog) wr 22 9 5 ⟨b, o, none⟩ cap S.data.toList Tryd.underlying22 Tryd.underlying5 Tryd.underlying9 (fun j hj => by
    rw [Go.WideShapes.add_plain]; exact hc j _ (List.getElem?_eq_getElem hj))
  rw [h, ← ba_list (rfl : S.data.toList = S.data.toList)]
theorem signL_two (l : List UInt8) : signL l ≤ 2 := by
  cases l with
  | nil => exact Nat.zero_le _
  | cons c r =>
    show (if _ then 2 else if _ then 1 else 0) ≤ 2
    split
    · omega
    · split <;> omega
theorem cells_plain (k : Nat) (s : ByteArray) (at' : Nat) : [Value.int .i64 (k : Int), .string s, .complex .f64 0 0, .int .i64 (at' : Int)] = cellsM ⟨k, s.data.toList, (0, 0), at'⟩ := by
  show _ = ([_, .string ⟨s.data.toList.toArray⟩, .complex .f64 (W 0) (W 0), _] : List Value)
  rw [← ba_list (rfl : s.data.toList = s.data.toList), zero00]
end Go.Proofs.YtgddkgbidhhheaaDoor
/- What Marks of the package marks answers, at every text. -/
namespace Go.Proofs.YtgddkgbidhhheaaDoor
open Go.RowKit Flo Mk
theorem HeapM.start (w : World) : HeapM w ((w.alloc (.cells #[.int .i64 0, .int .i64 0] 45)).alloc (.cells #[.int .i64 0, .string ⟨#[]⟩, .complex .f64 0 0, .int .i64 0] 98)) [] (.slice none 0 0) (.int .i64 0) (.string ⟨#[]⟩) (.complex .f64 0 0) (.int .i64 0) := by
  refine ⟨((Below.refl _ _).alloc (Nat.le_refl _) _).alloc (by simp) _, ?_, ?_, ?_, ?_, ?_, ?_, ?_, ?_, World.ownsRow_nil _ _ _ _, by simp⟩
  all_goals first | (intro o; simp [go_sem]; done) | (simp [go_sem]; done)
end Go.Proofs.YtgddkgbidhhheaaDoor
/- The awake call of layer 3. -/
namespace Go.Proofs.YtgddkgbidhhheaaDoor
open Go.RowKit Flo Mk
abbrev tB : List UInt8 := [120, 32, 48, 48, 55]
/-- bytes just laid are a text -/
theorem Txt.new (w : World) (t : List UInt8) (T : TypeId) (fz : Nat × Nat) : Txt (w.alloc (.cells (t.map byteC).toArray T fz)) (some ⟨w.heap.size, 0, none⟩) t := fun _ => by
  refine ⟨_, _, rfl, fun j x hx => ?_⟩
  rw [World.cell?_alloc_mark]
  simp [hx, byteC]
end Go.Proofs.YtgddkgbidhhheaaDoor
/- What the reference's Same answers of two lists of marks that are one. -/
namespace Go.Proofs.YtgddkgbidhhheaaDoor
open Go.RowKit Flo Mk
/-- a list of marks lies there -/
def RowAt (X : World) (p : Option Addr) (ms : List M) : Prop := ms ≠ [] → ∃ g o, p = some ⟨g, o, none⟩ ∧ ∀ j u, (rowM ms)[j]? = some u → X.cell? ⟨g, o + j, none⟩ = some u
theorem RowAt.nil (X : World) (p : Option Addr) : RowAt X p [] := fun h => absurd rfl h
theorem RowAt.below {X Y : World} {p : Option Addr} {ms : List M} (h : RowAt X p ms) (hb : Below X.heap.size X Y) : RowAt Y p ms := fun hne => by
  obtain ⟨g, o, rfl, hc⟩ := h hne
  exact ⟨g, o, rfl, fun j u hu => (hb.cell (World.block_lt_of_cell? X _ (hc j u hu))).trans (hc j u hu)⟩
theorem RowAt.own {X : World} {B : Nat} {e : TypeId} {p : Option Addr} {n c : Nat} {ms : List M} (h : X.ownsRow B e 4 (.slice p n c) n (rowM ms)) : RowAt X p ms := fun hne => by
  rcases h.2 with ⟨h1, h2⟩ | ⟨g, cap, cur, h1, h2, h3, h4, h5, h6, h7⟩
  · have := h.1
    rw [h2, rowM_len] at this
    exact absurd (List.eq_nil_of_length_eq_zero (by omega)) hne
  · cases h1
    refine ⟨g, 0, rfl, fun j u hu => ?_⟩
    have := h.cells (g := g) rfl j u hu
    rw [Go.WideShapes.add_plain] at this
    exact this
theorem RowAt.take {X : World} {p : Option Addr} {a b : List M} (h : RowAt X p (a ++ b)) : RowAt X p a := fun hne => by
  obtain ⟨g, o, rfl, hc⟩ := h (by intro e; exact hne (List.append_eq_nil_iff.1 e).1)
  exact ⟨g, o, rfl, fun j u hu => hc j u (by rw [rowM_app]; exact (List.getElem?_append_left (List.getElem?_eq_some_iff.1 hu).1).trans hu)⟩
theorem RowAt.drop {X : World} {g o : Nat} {a b : List M} (h : RowAt X (some ⟨g, o, none⟩) (a ++ b)) : RowAt X (some ⟨g, o + 4 * a.length, none⟩) b := fun hne => by
  obtain ⟨g', o', e, hc⟩ := h (by intro e; exact hne (List.append_eq_nil_iff.1 e).2)
  cases e
  refine ⟨g, _, rfl, fun j u hu => ?_⟩
  rw [Nat.add_assoc]
  refine hc _ u ?_
  rw [rowM_app, List.getElem?_append_right (by rw [rowM_len]; omega), rowM_len, show 4 * a.length + j - a.length * 4 = j by omega]
  exact hu
def okM (m : M) : Prop := okR m.num.1 m.num.2 = true
theorem okM.order {m : M} (h : okM m) : (FloatKind.f64.format.order (W m.num.1) (W m.num.1) == some .eq) = true ∧ (FloatKind.f64.format.order (W m.num.2) (W m.num.2) == some .eq) = true := by
  have hr := okR_iff.1 h
  refine ⟨?_, ?_⟩
  · rw [order_w (a := m.num.1) (b := m.num.1) (by omega) (by omega) (W_isW _) (W_isW _)]; simp
  · rw [order_w (a := m.num.2) (b := m.num.2) (by omega) (by omega) (W_isW _) (W_isW _)]; simp
/-- are they one, with places or but for them? -/
def eqvM (pl : Bool) (A B : List M) : Prop := if pl then A = B else A.map strip = B.map strip
theorem eqvM.len {pl : Bool} {A B : List M} (h : eqvM pl A B) : A.length = B.length := by
  cases pl with
  | true => exact congrArg List.length h
  | false => have := congrArg List.length (show A.map strip = B.map strip from h); simpa using this
theorem eqvM.at {pl : Bool} {A B : List M} (h : eqvM pl A B) {k : Nat} (hk : k < A.length) : ∃ m q, A[k]? = some m ∧ B[k]? = some { m with pos := q } ∧ (pl = true → q = m.pos) := by
  refine ⟨A[k], ?_⟩
  cases pl with
  | true =>
    obtain rfl : A = B := h
    exact ⟨A[k].pos, List.getElem?_eq_getElem hk, List.getElem?_eq_getElem hk, fun _ => rfl⟩
  | false =>
    have hs : A.map strip = B.map strip := h
    have hk2 : k < B.length := by rw [← eqvM.len (show eqvM false A B from h)]; exact hk
    have h2 := congrArg (fun l => l[k]?) hs
    simp only [List.getElem?_map, List.getElem?_eq_getElem hk, List.getElem?_eq_getElem hk2, Option.map_some, Option.some.injEq] at h2
    refine ⟨B[k].pos, List.getElem?_eq_getElem hk, ?_, fun h => by cases h⟩
    rw [List.getElem?_eq_getElem hk2]
    congr 1
    have e := h2
    unfold strip at e
    cases hA : A[k]; cases hB : B[k]
    rw [hA, hB] at e
    simp only [M.mk.injEq, and_true] at e ⊢
    exact ⟨e.1.symm, e.2.1.symm, e.2.2.symm⟩
end Go.Proofs.YtgddkgbidhhheaaDoor
/- Texts gathered by append; what is known of the marks of a text. -/
namespace Go.Proofs.YtgddkgbidhhheaaDoor
open Go.RowKit Flo Mk
/-- a text that the call gathers: since X0 nothing older has turned -/
def Ch (X0 X : World) (v : Value) (t : List UInt8) : Prop := Below X0.heap.size X0 X ∧ X.ownsRow X0.heap.size 5 1 v t.length (t.map byteC)
theorem Ch.first {X0 w' : World} {k : Nat} {v' : Value} {T : List UInt8} (hk : X0.heap.size = k) (h1 : w'.ownsRow k 5 1 v' T.length (T.map byteC)) (hg : (X0.alloc (.cells #[] 5)).grownBy w' (Value.ownBlock (.slice (some ⟨k, 0, none⟩) 0 0))) : Ch X0 w' v' T := by
  subst hk
  exact ⟨(below_alloc X0 _).grown hg (below_alloc X0 _).size (fun k hk => by simp [Value.ownBlock] at hk; omega), h1⟩
theorem Ch.app {X0 X w' : World} {v v' : Value} {t T : List UInt8} (h : Ch X0 X v t) (h1 : w'.ownsRow X0.heap.size 5 1 v' (t.length + T.length) ((t ++ T).map byteC)) (hg : X.grownBy w' v.ownBlock) : Ch X0 w' v' (t ++ T) :=
  ⟨h.1.grown hg h.1.size (fun k hk => (h.2.lt k hk).1), by rw [List.length_append]; exact h1⟩
theorem Ch.alloc {X0 X : World} {v : Value} {t : List UInt8} (h : Ch X0 X v t) (o : Obj) : Ch X0 (X.alloc o) v t := ⟨h.1.alloc h.1.size o, h.2.alloc o⟩
theorem Ch.shape {X0 X : World} {v : Value} {t : List UInt8} (h : Ch X0 X v t) : ∃ p c, v = .slice p t.length c ∧ t.length ≤ c ∧ Txt X p t ∧ (p = none → c = 0 ∧ t = []) := by
  rcases h.2.2 with ⟨h1, h2⟩ | ⟨g, cap, cur, h1, h2, h3, h4, h5, h6, h7⟩
  · obtain rfl : t = [] := List.eq_nil_of_length_eq_zero h2
    exact ⟨none, 0, h1, Nat.le_refl _, Txt.nil _ _, fun _ => ⟨rfl, rfl⟩⟩
  · refine ⟨some ⟨g, 0, none⟩, cap, h1, h4, ?_, fun h => (by cases h)⟩
    have := h.2
    rw [h1] at this
    exact (Txt.own this).1
end Go.Proofs.YtgddkgbidhhheaaDoor
/- What the small functions of the reference of layer 3 answer. -/
namespace Go.Proofs.YtgddkgbidhhheaaDoor
open Go.RowKit Flo Mk
def letB (c : UInt8) : Bool := decide (65 ≤ c.toNat ∧ c.toNat ≤ 90) || decide (97 ≤ c.toNat ∧ c.toNat ≤ 122)
theorem letB_t {c : UInt8} (h : (65 ≤ c.toNat ∧ c.toNat ≤ 90) ∨ (97 ≤ c.toNat ∧ c.toNat ≤ 122)) : letB c = true := by
  unfold letB
  rcases h with h | h
  · rw [decide_eq_true h]; rfl
  · rw [decide_eq_true (p := 97 ≤ c.toNat ∧ c.toNat ≤ 122) h, Bool.or_true]
theorem letB_f {c : UInt8} (h : ¬ (65 ≤ c.toNat ∧ c.toNat ≤ 90) ∧ ¬ (97 ≤ c.toNat ∧ c.toNat ≤ 122)) : letB c = false := by
  unfold letB; rw [decide_eq_false h.1, decide_eq_false h.2]; rfl
theorem eqb (c d : UInt8) : ((c.toNat : Int) == (d.toNat : Int)) = (c == d) := by
  rw [Bool.eq_iff_iff, beq_iff_eq, beq_iff_eq]
  constructor
  · intro h; exact UInt8.toNat_inj.1 (by omega)
  · intro h; rw [h]
set_option maxHeartbeats 4000000 in
theorem refdigit_any (c : UInt8) (w : World) :
    Calls Tryd.prog 45 #[.int .u8 (c.toNat : Int)] w fun e w' => e = .returned (.bool (digB c)) ∧ w = w' := by
  have hc := c.toNat_lt
  have HD : Hid (digB c = (decide (48 ≤ c.toNat) && decide (c.toNat ≤ 57))) := rfl
  go_enter Tryd.func45, Tryd.ntmps45
  go_wp2_with fail
  all_goals go_ret
  all_goals refine ⟨ret2 (congrArg Value.bool ?_), rfl⟩
  · rw [HD.out, decide_eq_true (p := 48 ≤ c.toNat) (by omega), Bool.true_and]; exact decide_eq_decide.2 (by omega)
  · rw [HD.out, decide_eq_false (by omega), Bool.false_and]
set_option maxHeartbeats 4000000 in
theorem letter_any (c : UInt8) (w : World) :
    Calls Tryd.prog 59 #[.int .u8 (c.toNat : Int)] w fun e w' => e = .returned (.bool (letB c)) ∧ w = w' := by
  have hc := c.toNat_lt
  rcases (show (c.toNat < 65) ∨ (65 ≤ c.toNat ∧ c.toNat ≤ 90) ∨ (90 < c.toNat ∧ c.toNat < 97) ∨ (97 ≤ c.toNat ∧ c.toNat ≤ 122) ∨ 122 < c.toNat by omega) with h | h | h | h | h
  all_goals
    go_enter Tryd.func59, Tryd.ntmps59
    go_wp2_with fail
    all_goals go_ret
    all_goals refine ⟨ret2 (congrArg Value.bool ?_), rfl⟩
    all_goals first
      | exact (letB_t (by omega)).symm
      | exact (letB_f (by omega)).symm
      | (have hL : letB c = true := letB_t (by omega)
         rw [hL]
         first | rfl | exact (decide_eq_true (by omega)) | exact (decide_eq_true (by omega)).symm | (rw [decide_eq_true (by omega)]; done) | (rw [Bool.or_eq_true_iff]; simp only [decide_eq_true_eq]; omega))
      | (have hL : letB c = false := letB_f (by omega)
         rw [hL]
         first | rfl | exact (decide_eq_false (by omega)) | exact (decide_eq_false (by omega)).symm | (rw [Bool.or_eq_false_iff]; simp only [decide_eq_false_iff_not]; omega))
set_option maxHeartbeats 4000000 in
theorem blank_any (c : UInt8) (w : World) :
    Calls Tryd.prog 36 #[.int .u8 (c.toNat : Int)] w fun e w' => e = .returned (.bool (blankB c)) ∧ w = w' := by
  have h1 : ((c.toNat : Int) == 9) = (c == 9) := eqb c 9
  have h2 : ((c.toNat : Int) == 10) = (c == 10) := eqb c 10
  have h3 : ((c.toNat : Int) == 13) = (c == 13) := eqb c 13
  have h4 : ((c.toNat : Int) == 32) = (c == 32) := eqb c 32
  have HD : Hid (blankB c = ((c == 32) || (c == 9) || (c == 10) || (c == 13))) := rfl
  obtain ⟨k1, e1⟩ : ∃ k, (c == 9) = k := ⟨_, rfl⟩
  obtain ⟨k2, e2⟩ : ∃ k, (c == 10) = k := ⟨_, rfl⟩
  obtain ⟨k3, e3⟩ : ∃ k, (c == 13) = k := ⟨_, rfl⟩
  obtain ⟨k4, e4⟩ : ∃ k, (c == 32) = k := ⟨_, rfl⟩
  rw [e1] at h1 HD; rw [e2] at h2 HD; rw [e3] at h3 HD; rw [e4] at h4 HD
  clear e1 e2 e3 e4
  cases k1 <;> cases k2 <;> cases k3 <;> cases k4
  all_goals
    go_enter Tryd.func36, Tryd.ntmps36
    go_wp2_with fail
    go_ret
    exact ⟨ret2 (congrArg Value.bool (by rw [HD.out]; rfl)), rfl⟩
end Go.Proofs.YtgddkgbidhhheaaDoor
/- What run and sign of the reference of layer 3 answer. -/
namespace Go.Proofs.YtgddkgbidhhheaaDoor
open Go.RowKit Flo Mk
theorem runB_let (x : UInt8) : runB x = (letB x || digB x || x == 95) := rfl
set_option maxHeartbeats 8000000 in
set_option maxRecDepth 100000 in
theorem refrun_any (b o n c a : Nat) (t : List UInt8) (hn : t.length = n) (hb : n ≤ 16777216) (ha : a ≤ n) (w : World) (hT : ∀ j x, t[j]? = some x → w.cell? ⟨b, o + j, none⟩ = some (.int .u8 (x.toNat : Int))) :
    Calls Tryd.prog 44 #[.slice (some ⟨b, o, none⟩) n c, .int .i64 (a : Int)] w fun e w' => e = .returned (.int .i64 (((t.drop a).takeWhile runB).length : Int)) ∧ w = w' := by
  have HT := Lib.hid hT
  have HN := Lib.hid hn
  clear hT hn
  go_enter Tryd.func44, Tryd.ntmps44
  go_wp2_with fail
  go_loopg [5] (n - a) (fun g s5 wx => ∃ k : Nat, a + k + g = n ∧ s5 = .int .i64 (k : Int) ∧ wx = w ∧ Hid ((t.drop a).takeWhile runB = (t.drop a).take k ++ (t.drop (a + k)).takeWhile runB))
  case atStart => exact ⟨0, by omega, rfl, rfl, Lib.hid (by simp)⟩
  case round =>
    obtain ⟨k, hk, rfl, rfl, HR⟩ := hrel
    cases gk with
    | zero =>
      obtain rfl : k = n - a := by omega
      have HE : Hid (((t.drop a).takeWhile runB).length = n - a) := Lib.hid (by
        rw [HR.out, List.drop_of_length_le (show t.length ≤ a + (n - a) by rw [HN.out]; omega)]
        simp only [List.takeWhile_nil, List.append_nil, List.length_take, List.length_drop, HN.out]; omega)
      have hz : ((a : Int) + ((n - a : Nat) : Int)) = (n : Int) := by omega
      go_wp2_with fail
      go_ret
      exact ⟨ret2 (congrArg (Value.int .i64) (by rw [HE.out])), rfl⟩
    | succ g =>
      have hlt : a + k < n := by omega
      obtain ⟨x, hx⟩ : ∃ x, t[a + k]? = some x := ⟨_, List.getElem?_eq_getElem (by rw [HN.out]; exact hlt)⟩
      have hcx := HT.out _ x hx
      have hltz : (a : Int) + (k : Int) < (n : Int) := by omega
      have hdr := drop_cons hx
      have h95 : ((x.toNat : Int) == 95) = (x == 95) := eqb x 95
      have HRB := Lib.hid (runB_let x)
      obtain ⟨k1, e1⟩ : ∃ k, letB x = k := ⟨_, rfl⟩
      obtain ⟨k2, e2⟩ : ∃ k, digB x = k := ⟨_, rfl⟩
      obtain ⟨k3, e3⟩ : ∃ k, (x == 95) = k := ⟨_, rfl⟩
      have HQ1 := Lib.hid (fun w => letter_any x w)
      have HQ2 := Lib.hid (fun w => refdigit_any x w)
      rw [e1] at HRB HQ1; rw [e2] at HRB HQ2; rw [e3] at HRB h95
      have HDR := Lib.hid hdr
      have HX := Lib.hid hx
      clear e1 e2 e3 hdr hx
      have HYES : Hid (runB x = true → (t.drop a).takeWhile runB = (t.drop a).take (k + 1) ++ (t.drop (a + (k + 1))).takeWhile runB) := Lib.hid (fun h => by
        rw [HR.out, HDR.out, List.takeWhile_cons, if_pos h, List.take_add_one, List.getElem?_drop, HX.out, List.append_assoc]; rfl)
      have HNO : Hid (runB x = false → ((t.drop a).takeWhile runB).length = k) := Lib.hid (fun h => by
        rw [HR.out, HDR.out, List.takeWhile_cons, h]
        simp only [Bool.false_eq_true, if_false, List.append_nil, List.length_take, List.length_drop, HN.out]; omega)
      cases k1 <;> cases k2 <;> cases k3
      all_goals
        go_wp2_with (first | (go_at_call 59; refine (HQ1.out _).mono ?_; rintro e w' ⟨rfl, rfl⟩) | (go_at_call 45; refine (HQ2.out _).mono ?_; rintro e w' ⟨rfl, rfl⟩))
      · go_ret
        exact ⟨ret2 (congrArg (Value.int .i64) (by rw [HNO.out (by rw [HRB.out]; rfl)])), rfl⟩
      all_goals
        go_roundg g
        case measure => omega
        case rel => exact ⟨k + 1, by omega, by go_num, rfl, Lib.hid (HYES.out (by rw [HRB.out]; rfl))⟩
theorem sign_cases (x : UInt8) : x = 40 ∨ x = 41 ∨ x = 44 ∨ x = 58 ∨ x = 59 ∨ x = 61 ∨ x = 43 ∨ x = 45 ∨ x = 42 ∨ x = 47 ∨ x = 60 ∨ x = 124 ∨ (sign1 x = false ∧ ((x.toNat : Int) == 40) = false ∧ ((x.toNat : Int) == 41) = false ∧ ((x.toNat : Int) == 44) = false ∧ ((x.toNat : Int) == 58) = false ∧ ((x.toNat : Int) == 59) = false ∧ ((x.toNat : Int) == 61) = false ∧ ((x.toNat : Int) == 43) = false ∧ ((x.toNat : Int) == 45) = false ∧ ((x.toNat : Int) == 42) = false ∧ ((x.toNat : Int) == 47) = false ∧ ((x.toNat : Int) == 60) = false ∧ ((x.toNat : Int) == 124) = false) := by
  refine u8_all (p := fun x => x = 40 ∨ x = 41 ∨ x = 44 ∨ x = 58 ∨ x = 59 ∨ x = 61 ∨ x = 43 ∨ x = 45 ∨ x = 42 ∨ x = 47 ∨ x = 60 ∨ x = 124 ∨ (sign1 x = false ∧ ((x.toNat : Int) == 40) = false ∧ ((x.toNat : Int) == 41) = false ∧ ((x.toNat : Int) == 44) = false ∧ ((x.toNat : Int) == 58) = false ∧ ((x.toNat : Int) == 59) = false ∧ ((x.toNat : Int) == 61) = false ∧ ((x.toNat : Int) == 43) = false ∧ ((x.toNat : Int) == 45) = false ∧ ((x.toNat : Int) == 42) = false ∧ ((x.toNat : Int) == 47) = false ∧ ((x.toNat : Int) == 60) = false ∧ ((x.toNat : Int) == 124) = false)) ?_ x
  decide +kernel
theorem sign_val (x : UInt8) (r : List UInt8) (k62 k61 : Bool) (h1 : (r.head? == some 62) = k62) (h2 : (r.head? == some 61) = k61) : signL (x :: r) = if (x == 45 && k62) || (x == 61 && k61) then 2 else if sign1 x then 1 else 0 := by
  subst h1 h2; rfl
theorem sign_no (x : UInt8) (k62 k61 : Bool) (hs : sign1 x = false) : (if (x == 45 && k62) || (x == 61 && k61) then 2 else if sign1 x then 1 else 0 : Nat) = 0 := by
  rw [hs]
  have h1 : (x == 45) = false := by
    cases h : (x == 45) with
    | false => rfl
    | true => rw [beq_iff_eq.1 h] at hs; cases hs
  have h2 : (x == 61) = false := by
    cases h : (x == 61) with
    | false => rfl
    | true => rw [beq_iff_eq.1 h] at hs; cases hs
  rw [h1, h2]; rfl
set_option maxHeartbeats 16000000 in
set_option maxRecDepth 100000 in
theorem refsign_any (b o n c a : Nat) (t : List UInt8) (hn : t.length = n) (hb : n ≤ 16777216) (ha : a < n) (w : World) (hT : ∀ j x, t[j]? = some x → w.cell? ⟨b, o + j, none⟩ = some (.int .u8 (x.toNat : Int))) :
    Calls Tryd.prog 49 #[.slice (some ⟨b, o, none⟩) n c, .int .i64 (a : Int)] w fun e w' => e = .returned (.int .i64 (signL (t.drop a) : Int)) ∧ w = w' := by
  obtain ⟨x, hx⟩ : ∃ x, t[a]? = some x := ⟨_, List.getElem?_eq_getElem (by rw [hn]; exact ha)⟩
  have hcx := hT _ x hx
  have haz : (a : Int) < (n : Int) := by omega
  by_cases h1 : a + 1 = n
  · have hz : ¬ ((a : Int) + 1 < (n : Int)) := by omega
    have HV : Hid (signL (t.drop a) = if (x == 45 && false) || (x == 61 && false) then 2 else if sign1 x then 1 else 0) := Lib.hid (by
      rw [drop_cons hx]
      have hd : t.drop (a + 1) = [] := List.drop_of_length_le (by omega)
      exact sign_val x _ _ _ (by rw [hd]; rfl) (by rw [hd]; rfl))
    clear hT hx h1 hn
    rcases sign_cases x with rfl | rfl | rfl | rfl | rfl | rfl | rfl | rfl | rfl | rfl | rfl | rfl | ⟨hs, e40, e41, e44, e58, e59, e61, e43, e45, e42, e47, e60, e124⟩
    rotate_right
    · rw [sign_no x false false hs] at HV
      clear hs
      go_enter Tryd.func49, Tryd.ntmps49
      go_wp2_with fail
      go_ret
      exact ⟨ret2 (congrArg (Value.int .i64) (by rw [HV.out]; rfl)), rfl⟩
    all_goals
      go_enter Tryd.func49, Tryd.ntmps49
      go_wp2_with fail
      go_ret
      exact ⟨ret2 (congrArg (Value.int .i64) (by rw [HV.out]; decide)), rfl⟩
  · have h2 : a + 1 < n := by omega
    have hz : (a : Int) + 1 < (n : Int) := by omega
    obtain ⟨y, hy⟩ : ∃ y, t[a + 1]? = some y := ⟨_, List.getElem?_eq_getElem (by rw [hn]; exact h2)⟩
    have hcy := hT _ y hy
    have e62 : ((y.toNat : Int) == 62) = (y == 62) := eqb y 62
    have e61' : ((y.toNat : Int) == 61) = (y == 61) := eqb y 61
    obtain ⟨k62, q62⟩ : ∃ k, (y == 62) = k := ⟨_, rfl⟩
    obtain ⟨k61, q61⟩ : ∃ k, (y == 61) = k := ⟨_, rfl⟩
    rw [q62] at e62; rw [q61] at e61'
    have HV : Hid (signL (t.drop a) = if (x == 45 && k62) || (x == 61 && k61) then 2 else if sign1 x then 1 else 0) := Lib.hid (by
      rw [drop_cons hx, drop_cons hy]
      exact sign_val x _ _ _ (by rw [← q62]; rfl) (by rw [← q61]; rfl))
    clear hT hx hy h1 h2 hn q62 q61
    cases k62 <;> cases k61
    all_goals
      rcases sign_cases x with rfl | rfl | rfl | rfl | rfl | rfl | rfl | rfl | rfl | rfl | rfl | rfl | ⟨hs, e40, e41, e44, e58, e59, e61, e43, e45, e42, e47, e60, e124⟩
      rotate_right
      · rw [sign_no x _ _ hs] at HV
        clear hs
        go_enter Tryd.func49, Tryd.ntmps49
        go_wp2_with fail
        go_ret
        exact ⟨ret2 (congrArg (Value.int .i64) (by rw [HV.out]; rfl)), rfl⟩
      all_goals
        go_enter Tryd.func49, Tryd.ntmps49
        go_wp2_with fail
        go_ret
        exact ⟨ret2 (congrArg (Value.int .i64) (by rw [HV.out]; decide)), rfl⟩
end Go.Proofs.YtgddkgbidhhheaaDoor
