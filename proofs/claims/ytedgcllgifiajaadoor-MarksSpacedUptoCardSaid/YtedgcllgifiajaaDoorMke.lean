/- What Marks of the package marks answers, at every text. -/
import Derived.Test.YtedgcllgifiajaaDoorMkd
namespace Go.Proofs.YtedgcllgifiajaaDoor
open Go.RowKit Flo Mk
theorem HeapM.start (w : World) : HeapM w ((w.alloc (.cells #[.int .i64 0, .int .i64 0] 30)).alloc (.cells #[.int .i64 0, .string ⟨#[]⟩, .complex .f64 0 0, .int .i64 0] 36)) [] (.slice none 0 0) (.int .i64 0) (.string ⟨#[]⟩) (.complex .f64 0 0) (.int .i64 0) := by
  refine ⟨((Below.refl _ _).alloc (Nat.le_refl _) _).alloc (by simp) _, ?_, ?_, ?_, ?_, ?_, ?_, ?_, ?_, World.ownsRow_nil _ _ _ _, by simp⟩
  all_goals first | (intro o; simp [go_sem]; done) | (simp [go_sem]; done)
set_option maxHeartbeats 8000000 in
set_option maxRecDepth 100000 in
theorem marks_none (p : Option Addr) (c : Nat) (w : World) :
    Calls Tryd.prog 13 #[.slice p 0 c] w fun e w' => MarksR w (scan [] 0) e w' ∧ Below w.heap.size w w' := by
  have HH := Lib.hid (HeapM.start w)
  obtain ⟨i0, hi, hz0, hz1, hz2⟩ := info_parts mark_info
  go_enter Tryd.func13, Tryd.ntmps13
  go_wp2_with fail
  go_step3
  go_wp2_with fail
  go_step3
  rename_i hK
  refine hK _ _ ?_
  go_wp2_with (at_builtin; refine wpList_append_own _ rfl (.tmp 15) (.tmp 18) 27 rfl (w.heap.size + 2) 36 i0 _ 4 48 Tryd.underlying27 hi hz0 hz1 hz2 rfl (by decide) _ _ _ rfl (HH.out.own.alloc _) ⟨w.heap.size + 2, 0, none⟩ 1 1 [.int .i64 4, .string ⟨#[]⟩, .complex .f64 0 0, .int .i64 0] rfl rfl ?c1 ?c2 ?c3 ?c4 ?c5 ?_)
  case c1 =>
    intro j u hj
    match j, hj with
    | 0, hj => simp at hj; subst hj; simp [Addr.add, go_sem]
    | 1, hj => simp at hj; subst hj; simp [Addr.add, go_sem]
    | 2, hj => simp at hj; subst hj; simp [Addr.add, go_sem]
    | 3, hj => simp at hj; subst hj; simp [Addr.add, go_sem]
  case c2 => intro u hu; simp at hu; rcases hu with rfl | rfl | rfl | rfl <;> rfl
  case c3 => unfold maxLen; simp
  case c4 => simp
  case c5 => simp
  intro v' w1 hown' hgrow _
  rw [show [Value.int .i64 4, .string ⟨#[]⟩, .complex .f64 0 0, .int .i64 0] = cellsM ⟨4, [], (0, 0), 0⟩ from cells_plain 4 ⟨#[]⟩ 0] at hown'
  have H1 := HH.out.app hown' hgrow
  clear hown' hgrow
  have H1' := Lib.hid H1
  obtain ⟨-, f0, f1, ff, -, -, -, -, -, -, -⟩ := H1
  go_wp2_with fail
  rw [Exit.noGoto_ret]
  refine bodyPost_ret (v := .tuple #[v', .agg #[.int .i64 0, .int .i64 0]]) (by simp [results, Tryd.results13, go_sem, f0, f1]) rfl ⟨Or.inl ⟨_, _, scan_nil 0, rfl, ?_⟩, ?_⟩
  · exact own_base (ownsRow_setCell_below (ownsRow_setCell_below H1'.out.own (by show w.heap.size < _; omega) _) (by show w.heap.size < _; omega) _) (by omega)
  · exact (H1'.out.below.setCell (p := ⟨w.heap.size, 0, none⟩) (Nat.le_refl _) _).setCell (p := ⟨w.heap.size, 1, none⟩) (Nat.le_refl _) _
/-- Marks, at every text of at most 2^24 bytes -/
theorem marks_any (p : Option Addr) (c : Nat) (t : List UInt8) (hnc : t.length ≤ c) (hb : t.length ≤ 16777216) (w : World) (hT : Txt w p t) (hI : Inv w) (hS : Spc w) :
    Calls Tryd.prog 13 #[.slice p t.length c] w fun e w' => MarksR w (scan t 0) e w' ∧ Below w.heap.size w w' := by
  by_cases ht : t = []
  · subst ht; exact marks_none p c w
  · obtain ⟨b, o, rfl, hc⟩ := hT ht
    exact marks_some b o t.length c t rfl hnc hb w hc hI hS
end Go.Proofs.YtedgcllgifiajaaDoor
