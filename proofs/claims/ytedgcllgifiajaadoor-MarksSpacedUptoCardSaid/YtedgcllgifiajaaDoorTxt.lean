/- Texts and marks in memory. No function of the program. -/
import Derived.WalkKit
import Derived.Laws.AppendOwnNone
import Derived.Test.YtedgcllgifiajaaDoorScan
import Derived.Test.YtedgcllgifiajaaDoorGm
namespace Go.Proofs.YtedgcllgifiajaaDoor
open Go.RowKit Flo Mk
/-- a complex number is stored as any other single cell -/
theorem run_store_complex {P : Program} {w : World} {a : Addr} {m : Mode} (k : FloatKind) (x y : Nat) : (store a (.complex k x y) m).run P w = stored P w a (.complex k x y) m := run_store P w a _ m rfl
attribute [go_sem] run_store_complex
/-- a text's bytes lie there (no byte: whatever the address) -/
def Txt (w : World) (p : Option Addr) (t : List UInt8) : Prop := t ≠ [] → ∃ b o, p = some ⟨b, o, none⟩ ∧ ∀ j x, t[j]? = some x → w.cell? ⟨b, o + j, none⟩ = some (.int .u8 (x.toNat : Int))
theorem Txt.nil (w : World) (p : Option Addr) : Txt w p [] := fun h => absurd rfl h
theorem Txt.below {w w' : World} {p : Option Addr} {t : List UInt8} (h : Txt w p t) (hb : Below w.heap.size w w') : Txt w' p t := fun hne => by
  obtain ⟨b, o, rfl, hc⟩ := h hne
  exact ⟨b, o, rfl, fun j x hx => (hb.cell (World.block_lt_of_cell? w _ (hc j x hx))).trans (hc j x hx)⟩
def byteC (x : UInt8) : Value := .int .u8 (x.toNat : Int)
theorem Txt.cells {w : World} {a : Addr} {t : List UInt8} (h : Txt w (some a) t) : ∀ j u, (t.map byteC)[j]? = some u → w.cell? (a.add j) = some u := by
  intro j u hu
  rw [List.getElem?_map] at hu
  cases hx : t[j]? with
  | none => rw [hx] at hu; cases hu
  | some x =>
    rw [hx] at hu; cases hu
    obtain ⟨b, o, ha, hc⟩ := h (fun e => by rw [e] at hx; cases hx)
    cases ha
    rw [Go.WideShapes.add_plain]
    exact hc j x hx
theorem byteC_one (t : List UInt8) : ∀ u ∈ t.map byteC, u.oneCell' = true := by
  intro u hu
  obtain ⟨x, _, rfl⟩ := List.mem_map.1 hu
  rfl
/-- a piece of a text -/
theorem Txt.drop {w : World} {b o : Nat} {t : List UInt8} (h : Txt w (some ⟨b, o, none⟩) t) (k : Nat) : Txt w (some ⟨b, o + k, none⟩) (t.drop k) := fun hne => by
  refine ⟨b, o + k, rfl, fun j x hx => ?_⟩
  rw [List.getElem?_drop] at hx
  obtain ⟨b', o', e, hc⟩ := h (fun e => by rw [e] at hx; cases hx)
  cases e
  rw [Nat.add_assoc]; exact hc _ x hx
theorem Txt.take {w : World} {p : Option Addr} {t : List UInt8} (h : Txt w p t) (k : Nat) : Txt w p (t.take k) := fun hne => by
  obtain ⟨b, o, rfl, hc⟩ := h (fun e => hne (by rw [e]; simp))
  refine ⟨b, o, rfl, fun j x hx => ?_⟩
  rw [List.getElem?_take] at hx
  split at hx
  · exact hc j x hx
  · cases hx
/-- what a mark is in memory -/
def cellsM (m : M) : List Value := [.int .i64 m.kind, .string ⟨m.text.toArray⟩, .complex .f64 (W m.num.1) (W m.num.2), .int .i64 m.pos]
def aggM (m : M) : Value := .agg #[.int .i64 m.kind, .string ⟨m.text.toArray⟩, .complex .f64 (W m.num.1) (W m.num.2), .int .i64 m.pos]
def rowM (ms : List M) : List Value := ms.flatMap cellsM
theorem rowM_len (ms : List M) : (rowM ms).length = ms.length * 4 := by
  induction ms with
  | nil => rfl
  | cons m ms ih => rw [rowM, List.flatMap_cons, List.length_append, show (ms.flatMap cellsM).length = ms.length * 4 from ih, List.length_cons, show (cellsM m).length = 4 from rfl]; omega
theorem rowM_app (a b : List M) : rowM (a ++ b) = rowM a ++ rowM b := List.flatMap_append
theorem rowM_at : ∀ (ms : List M) (i : Nat) (m : M), ms[i]? = some m → (rowM ms)[4 * i]? = some (.int .i64 m.kind) ∧ (rowM ms)[4 * i + 1]? = some (.string ⟨m.text.toArray⟩) ∧ (rowM ms)[4 * i + 2]? = some (.complex .f64 (W m.num.1) (W m.num.2)) ∧ (rowM ms)[4 * i + 3]? = some (.int .i64 m.pos)
  | [], i, m, h => by cases h
  | x :: ms, 0, m, h => by cases h; exact ⟨rfl, rfl, rfl, rfl⟩
  | x :: ms, i + 1, m, h => by
    obtain ⟨h1, h2, h3, h4⟩ := rowM_at ms i m (by simpa using h)
    have e : rowM (x :: ms) = cellsM x ++ rowM ms := rfl
    have hl : (cellsM x).length = 4 := rfl
    refine ⟨?_, ?_, ?_, ?_⟩ <;> rw [e, List.getElem?_append_right (by rw [hl]; omega), hl]
    · rw [show 4 * (i + 1) - 4 = 4 * i by omega]; exact h1
    · rw [show 4 * (i + 1) + 1 - 4 = 4 * i + 1 by omega]; exact h2
    · rw [show 4 * (i + 1) + 2 - 4 = 4 * i + 2 by omega]; exact h3
    · rw [show 4 * (i + 1) + 3 - 4 = 4 * i + 3 by omega]; exact h4
theorem cellsM_one (m : M) : ∀ u ∈ cellsM m, u.oneCell' = true := by
  intro u hu
  simp only [cellsM, List.mem_cons, List.not_mem_nil, or_false] at hu
  rcases hu with rfl | rfl | rfl | rfl <;> rfl
/-- what is owned stays owned behind a call that lays new memory alone -/
theorem own_below {w w' : World} {B : Nat} {e : TypeId} {k : Nat} {v : Value} {n : Nat} {xs : List Value} (h : w.ownsRow B e k v n xs) (hb : Below w.heap.size w w') : w'.ownsRow B e k v n xs := by
  refine ⟨h.1, ?_⟩
  rcases h.2 with hn | ⟨g, cap, cur, rfl, h1, h2, rest⟩
  · exact .inl hn
  · refine .inr ⟨g, cap, cur, rfl, h1, ?_, rest⟩
    rw [hb.block g (Array.getElem?_eq_some_iff.1 h2).1]; exact h2
theorem own_base {w : World} {B B' : Nat} {e : TypeId} {k : Nat} {v : Value} {n : Nat} {xs : List Value} (h : w.ownsRow B e k v n xs) (hb : B' ≤ B) : w.ownsRow B' e k v n xs := by
  refine ⟨h.1, ?_⟩
  rcases h.2 with hn | ⟨g, cap, cur, rfl, h1, h2, rest⟩
  · exact .inl hn
  · exact .inr ⟨g, cap, cur, rfl, Nat.le_trans hb h1, h2, rest⟩
/-- what an owned row of bytes is as a text -/
theorem Txt.own {w : World} {B : Nat} {e : TypeId} {p : Option Addr} {n c : Nat} {t : List UInt8} (h : w.ownsRow B e 1 (.slice p n c) n (t.map byteC)) : Txt w p t ∧ t.length = n ∧ (p = none → c = 0) ∧ n ≤ c := by
  have hl : t.length = n := by have := h.1; simpa using this
  rcases h.2 with ⟨h1, h2⟩ | ⟨g, cap, cur, h1, h2, h3, h4, h5, h6, h7⟩
  · cases h1
    refine ⟨?_, hl, fun _ => rfl, Nat.le_refl _⟩
    obtain rfl : t = [] := List.eq_nil_of_length_eq_zero hl
    exact Txt.nil _ _
  · cases h1
    refine ⟨fun _ => ⟨g, 0, rfl, fun j x hx => ?_⟩, hl, fun h => (by cases h), h4⟩
    have := h.cells (g := g) rfl j (byteC x) (by rw [List.getElem?_map, hx]; rfl)
    rw [Go.WideShapes.add_plain] at this
    exact this
section
variable {P : Program} {w : World}
/-- append(own, text...), the text nil or not -/
theorem wpList_append_txt {ops : Array Oper} {rest : List Oper} {o : Oper} {a : Act} {Q : Exit → Act → World → Prop} (hgd : o.guard = none) (s x : Operand) (t : TypeId)
    (ho : o.op = .call { callee := .builtin .append, args := #[s, x], argTypes := #[t, t] })
    (base : Nat) (e : TypeId) (i : TypeInfo) (z : Value) (ht : P.underlying t = some (.slice e)) (hi : P.info? e = some i) (hz : i.zero = some z)
    (hsize : i.size = 1) (hby : i.bytes = 1) (hzs : z.cells.size = 1)
    (v : Value) (n : Nat) (xs : List UInt8) (hs : a.eval s = v) (hown : w.ownsRow base e 1 v n (xs.map byteC))
    (p : Option Addr) (m c : Nat) (T : List UInt8) (hx : a.eval x = .slice p m c) (hm : T.length = m) (hp : p = none → c = 0 ∧ T = []) (hT : Txt w p T)
    (h63 : n + T.length ≤ 140737488355328) (hbase : base ≤ w.heap.size)
    (h : ∀ v' w', w'.ownsRow base e 1 v' (n + T.length) ((xs ++ T).map byteC) → w.grownBy w' v.ownBlock → (v' = .slice none 0 0 → v = .slice none 0 0) → wpList P ops Q rest (a.put o.dst v') w') : wpList P ops Q (o :: rest) a w := by
  subst hm
  cases p with
  | none =>
    obtain ⟨rfl, rfl⟩ := hp rfl
    exact wpList_append_own_none hgd s x t ho base e i 1 ht hi v n _ hs hown hx (h v w (by simpa using hown) ⟨rfl, rfl, rfl, Nat.le_refl _, fun _ _ _ => rfl⟩ (fun h => h))
  | some ad =>
    refine wpList_append_own w hgd s x t ho base e i z 1 1 ht hi hz hsize hby hzs (by decide) v n _ hs hown ad T.length c (T.map byteC) hx (by simp) hT.cells (byteC_one T) (by simp only [maxLen]; omega) (by omega) hbase (fun v' w' h1 h2 h3 => h v' w' (by rw [List.map_append]; exact h1) h2 (fun h => (h3.1 h).1))
end
end Go.Proofs.YtedgcllgifiajaaDoor
