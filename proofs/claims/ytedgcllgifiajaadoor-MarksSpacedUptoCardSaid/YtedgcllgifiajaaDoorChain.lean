/- Texts gathered by append; what is known of the marks of a text. -/
import Derived.Test.YtedgcllgifiajaaDoorSame
namespace Go.Proofs.YtedgcllgifiajaaDoor
open Go.RowKit Flo Mk
theorem byte_info : (Tryd.prog.info? 5).map (fun i => (i.zero, i.size, i.bytes)) = some (some (.int .u8 0), 1, 1) := by kernel_rfl
/-- a text that the call gathers: since X0 nothing older has turned -/
def Ch (X0 X : World) (v : Value) (t : List UInt8) : Prop := Below X0.heap.size X0 X ∧ X.ownsRow X0.heap.size 5 1 v t.length (t.map byteC)
theorem own_empty (X : World) (k : Nat) (hk : X.heap.size = k) : (X.alloc (.cells #[] 5)).ownsRow k 5 1 (.slice (some ⟨k, 0, none⟩) 0 0) 0 (([] : List UInt8).map byteC) := by
  subst hk
  exact World.ownsRow_made X #[] 0 (Nat.le_refl _) (Nat.zero_le _) (by simp)
theorem Ch.first {X0 w' : World} {k : Nat} {v' : Value} {T : List UInt8} (hk : X0.heap.size = k) (h1 : w'.ownsRow k 5 1 v' T.length (T.map byteC)) (hg : (X0.alloc (.cells #[] 5)).grownBy w' (Value.ownBlock (.slice (some ⟨k, 0, none⟩) 0 0))) : Ch X0 w' v' T := by
  subst hk
  exact ⟨(below_alloc X0 _).grown hg (below_alloc X0 _).size (fun k hk => by simp [Value.ownBlock] at hk; omega), h1⟩
theorem Ch.app {X0 X w' : World} {v v' : Value} {t T : List UInt8} (h : Ch X0 X v t) (h1 : w'.ownsRow X0.heap.size 5 1 v' (t.length + T.length) ((t ++ T).map byteC)) (hg : X.grownBy w' v.ownBlock) : Ch X0 w' v' (t ++ T) :=
  ⟨h.1.grown hg h.1.size (fun k hk => (h.2.lt k hk).1), by rw [List.length_append]; exact h1⟩
theorem Ch.alloc {X0 X : World} {v : Value} {t : List UInt8} (h : Ch X0 X v t) (o : Obj) : Ch X0 (X.alloc o) v t := ⟨h.1.alloc h.1.size o, h.2.alloc o⟩
theorem Ch.shape {X0 X : World} {v : Value} {t : List UInt8} (h : Ch X0 X v t) : ∃ p c, v = .slice p t.length c ∧ t.length ≤ c ∧ Txt X p t ∧ (p = none → c = 0 ∧ t = []) := by
  rcases h.2.2 with ⟨h1, h2⟩ | ⟨g, cap, cur, h1, h2, h3, h4, h5, h6, h7⟩
  · obtain rfl : t = [] := List.eq_nil_of_length_eq_zero h2
    exact ⟨none, 0, h1, Nat.le_refl _, Txt.nil _ _, fun _ => ⟨rfl, rfl⟩⟩
  · refine ⟨some ⟨g, 0, none⟩, cap, h1, h4, ?_, fun h => (by cases h)⟩
    have := h.2
    rw [h1] at this
    exact (Txt.own this).1
theorem marks_at (p : Option Addr) (n c : Nat) (t : List UInt8) (hn : t.length = n) (hnc : n ≤ c) (hb : n ≤ 16777216) (w : World) (hT : Txt w p t) (hI : Inv w) (hS : Spc w) :
    Calls Tryd.prog 13 #[.slice p n c] w fun e w' => MarksR w (scan t 0) e w' ∧ Below w.heap.size w w' := by
  subst hn; exact marks_any p c t hnc hb w hT hI hS
/-- the marks of a text bear numbers alone -/
theorem one_ok {l : List UInt8} {a : Nat} {m : M} (h : one l a = some m) : okM m := by
  unfold one at h
  have h00 : okR 0 0 = true := by decide
  split at h
  · unfold wordM at h
    split at h
    · cases hp : refParse (l.takeWhile runB) with
      | none => rw [hp] at h; cases h
      | some p => rw [hp] at h; cases h; exact (refParse_some (x := p.1) (y := p.2) hp).1
    · split at h
      · cases h; exact h00
      · split at h
        · cases h
        · cases h; exact h00
  · split at h
    · cases h
    · cases h; exact h00
theorem scan_ok (k : Nat) : ∀ (l : List UInt8) (a : Nat) (ms : List M), l.length < k → scan l a = .ok ms → ∀ m ∈ ms, okM m := by
  induction k with
  | zero => intro l _ _ h; omega
  | succ k ih =>
    intro l a ms hk h
    cases l with
    | nil => rw [scan_nil] at h; cases h; intro m hm; rw [List.mem_singleton] at hm; subst hm; show okR 0 0 = true; decide
    | cons c r =>
      simp only [List.length_cons] at hk
      by_cases hb : blankB c = true
      · rw [scan_blank hb] at h; exact ih r _ _ (by omega) h
      · by_cases h35 : c = 35
        · subst h35
          rw [scan_hash, rem_cons (by decide)] at h
          exact ih _ _ _ (by have := drop_len (· != 10) r; omega) h
        · rw [scan_one (by simpa using hb) h35] at h
          cases ho : one (c :: r) a with
          | none => rw [ho] at h; cases h
          | some m =>
            rw [ho] at h
            obtain ⟨_, _, h3, h4⟩ := one_text ho
            simp only [List.length_cons] at h4
            change pre m _ = _ at h
            cases hs : scan ((c :: r).drop m.text.length) (a + m.text.length) with
            | error e => rw [hs] at h; cases h
            | ok xs =>
              rw [hs] at h; cases h
              intro x hx
              rcases List.mem_cons.1 hx with rfl | hx
              · exact one_ok ho
              · exact ih _ _ _ (by rw [List.length_drop]; simp only [List.length_cons]; omega) hs x hx
theorem scan_oks {l : List UInt8} {a : Nat} {ms : List M} (h : scan l a = .ok ms) : ∀ m ∈ ms, okM m := scan_ok _ l a ms (Nat.lt_succ_self _) h
end Go.Proofs.YtedgcllgifiajaaDoor
