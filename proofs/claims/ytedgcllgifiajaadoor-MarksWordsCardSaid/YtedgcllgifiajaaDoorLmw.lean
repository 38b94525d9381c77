/- The law MarksWords: its walk. -/
import Derived.Test.YtedgcllgifiajaaDoorMkf
import Derived.Deep.LoopGhost
import Derived.Deep.RegionHeld3
namespace Go.Proofs.YtedgcllgifiajaaDoor
open Go.RowKit Flo Mk
theorem refwords_any (w : World) :
    Calls Tryd.prog 10 #[] w fun e w' => e = .returned (.slice (some ⟨w.heap.size, 0, none⟩) 19 19) ∧ w' = w.alloc (.cells (resvS.map Value.string).toArray 9) := by
  go_enter Tryd.func10, Tryd.ntmps10
  go_wp2_with fail
  go_ret
  exact ⟨rfl, rfl⟩
def rw' (j : Nat) : ByteArray := resvS.getD j ⟨#[]⟩
theorem resv_row (X : World) (j : Nat) (hj : j < 19) : (X.alloc (.cells (resvS.map Value.string).toArray 9)).cell? ⟨X.heap.size, j, none⟩ = some (.string (rw' j)) := by
  rw [World.cell?_alloc_at _ _ _ _ rfl]
  have : j < resvS.length := hj
  simp [rw', List.getD, this]
theorem resv_mem (s : ByteArray) : (s.data.toList ∈ resv) ↔ ∃ j, j < 19 ∧ rw' j = s := by
  have h0 := contains_resv s
  rw [Bool.eq_iff_iff, Lib.containsS_iff, decide_eq_true_eq] at h0
  rw [← h0]
  show s ∈ resvS ↔ _
  constructor
  · intro h
    obtain ⟨j, hj, rfl⟩ := List.mem_iff_getElem.1 h
    exact ⟨j, hj, by simp [rw', List.getD, hj]⟩
  · rintro ⟨j, hj, rfl⟩
    have : j < resvS.length := hj
    simp [rw', List.getD, this]
set_option maxHeartbeats 4000000 in
theorem refreserved_any (s : ByteArray) (w : World) :
    Calls Tryd.prog 12 #[.string s] w fun e w' => e = .returned (.bool (decide (s.data.toList ∈ resv))) ∧ Below w.heap.size w w' := by
  have HB := Lib.hid (below_alloc w (.cells (resvS.map Value.string).toArray 9))
  have HC := Lib.hid (resv_row w)
  have HR := Lib.hid (resv_mem s)
  obtain ⟨X, hX⟩ : ∃ X, w.alloc (.cells (resvS.map Value.string).toArray 9) = X := ⟨_, rfl⟩
  have HQ := Lib.hid (refwords_any w)
  rw [hX] at HB HC HQ
  obtain ⟨B, hB⟩ : ∃ B, w.heap.size = B := ⟨_, rfl⟩
  have HB' := Lib.hid (hB ▸ HB.out)
  rw [hB] at HC HQ ⊢
  clear hX hB HB
  go_enter Tryd.func12, Tryd.ntmps12
  go_wp2_with fail
  refine HQ.out.mono ?_; rintro e w' ⟨rfl, rfl⟩
  go_wp2_with fail
  go_loopg [4] 19 (fun g s4 wx => ∃ k : Nat, k + g = 19 ∧ s4 = .int .i64 (k : Int) ∧ wx = w' ∧ Hid (∀ j, j < k → rw' j ≠ s))
  case atStart => exact ⟨0, rfl, rfl, rfl, fun j hj => absurd hj (Nat.not_lt_zero j)⟩
  case round =>
    obtain ⟨k, hk, rfl, rfl, hne⟩ := hrel
    cases gk with
    | zero =>
      obtain rfl : k = 19 := by omega
      have HF : Hid (decide (s.data.toList ∈ resv) = false) := Lib.hid (decide_eq_false fun h => by
        obtain ⟨j, hj, e⟩ := HR.out.1 h
        exact hne.out j hj e)
      go_wp2_with fail
      go_ret
      exact ⟨ret2 (congrArg Value.bool HF.out.symm), HB'.out⟩
    | succ g =>
      have hkl : k < 19 := by omega
      have hkz : (k : Int) < 19 := by omega
      have hc := HC.out k hkl
      obtain ⟨x, hx⟩ : ∃ x, rw' k = x := ⟨_, rfl⟩
      rw [hx] at hc
      have HX := Lib.hid hx
      clear hx
      by_cases he : x = s
      · subst he
        have HF : Hid (decide (x.data.toList ∈ resv) = true) := Lib.hid (decide_eq_true (HR.out.2 ⟨k, hkl, HX.out⟩))
        go_wp2_with fail
        go_ret
        exact ⟨ret2 (congrArg Value.bool HF.out.symm), HB'.out⟩
      · have hb : (x.toList == s.toList) = false := beq_eq_false_iff_ne.2 fun h => he (by
          rw [Lib.toList_data, Lib.toList_data] at h
          apply ByteArray.ext; exact Array.toList_inj.1 h)
        have HNE : Hid (∀ j, j < k + 1 → rw' j ≠ s) := Lib.hid fun j hj => by
          rcases Nat.lt_or_eq_of_le (Nat.le_of_lt_succ hj) with h | rfl
          · exact hne.out j h
          · rw [HX.out]; exact he
        clear hne he
        go_wp2_with fail
        go_roundg g
        case measure => omega
        case rel => exact ⟨k + 1, by omega, by go_num, rfl, HNE⟩
/-- the two lists of words in memory, the first one written over up to k -/
structure WordsAt (w : World) (B k : Nat) (X : World) : Prop where
  below : Below w.heap.size w X
  lt : B + 1 < X.heap.size
  base : w.heap.size ≤ B
  r1 : ∀ j, k ≤ j → j < 19 → X.cell? ⟨B, j, none⟩ = some (.string (rw' j))
  f1 : ∀ j, X.frozen? ⟨B, j, none⟩ = false
  r2 : ∀ j, j < 19 → X.cell? ⟨B + 1, j, none⟩ = some (.string (rw' j))
theorem WordsAt.on {w X Y : World} {B k : Nat} (h : WordsAt w B k X) (hb : Below X.heap.size X Y) : WordsAt w B k Y := by
  have hl := h.lt
  exact ⟨h.below.trans (hb.mono h.below.size), Nat.lt_of_lt_of_le h.lt hb.size, h.base,
    fun j h1 h2 => (hb.cell (p := ⟨B, j, none⟩) (by show B < _; omega)).trans (h.r1 j h1 h2),
    fun j => (hb.frozen (p := ⟨B, j, none⟩) (by show B < _; omega)).trans (h.f1 j),
    fun j h1 => (hb.cell (p := ⟨B + 1, j, none⟩) (by show B + 1 < _; omega)).trans (h.r2 j h1)⟩
theorem WordsAt.store {w X : World} {B k : Nat} (h : WordsAt w B k X) (v : Value) : WordsAt w B (k + 1) (X.setCell ⟨B, k, none⟩ v) := by
  refine ⟨h.below.setCell (p := ⟨B, k, none⟩) h.base _, by simpa [World.setCell] using h.lt, h.base, fun j h1 h2 => ?_, fun j => ?_, fun j h1 => ?_⟩
  · have hne : j ≠ k := by omega
    rw [← h.r1 j (by omega) h2]; simp [go_sem]
  · rw [← h.f1 j]; simp [go_sem]
  · rw [← h.r2 j h1]; simp [go_sem]
theorem reservedB (s : ByteArray) (w : World) (hT : Spc w) :
    Calls Tryd.prog 11 #[.string s] w fun e w' => e = .returned (.bool (decide (s.data.toList ∈ resv))) ∧ Below w.heap.size w w' :=
  (reserved_any s w hT).mono fun _ _ ⟨h1, h2⟩ => ⟨h1, by rw [h2]; exact below_alloc _ _⟩
set_option maxHeartbeats 8000000 in
set_option maxRecDepth 100000 in
theorem marksWords_any (s : ByteArray) (w : World) (hI : Inv w) (hS : Spc w) :
    Calls Tryd.prog 3 #[.string s] w fun e w' => e = .returned (.bool true) ∧ Below w.heap.size w w' := by
  have HS := Lib.hid hS
  have HA := Lib.hid (awake_any w hI hS)
  clear hI hS
  go_enter Tryd.func3, Tryd.ntmps3
  go_wp2_with fail
  refine HA.out.mono ?_; rintro e w1 ⟨rfl, hb1⟩
  have HB1 := Lib.hid hb1
  clear hb1
  go_wp2_with fail
  refine (words_any _ (HS.out.below' HB1.out)).mono ?_; rintro e w' ⟨rfl, rfl⟩
  go_wp2_with fail
  refine (refwords_any _).mono ?_; rintro e w' ⟨rfl, hw'⟩
  have hsz : (w1.alloc (.cells (resvS.map Value.string).toArray 9)).heap.size = w1.heap.size + 1 := by simp
  have K0 : Hid (WordsAt w w1.heap.size 0 w') := Lib.hid (by
    have h2 := below_alloc (w1.alloc (.cells (resvS.map Value.string).toArray 9)) (.cells (resvS.map Value.string).toArray 9)
    rw [← hw'] at h2
    refine ⟨(HB1.out.alloc HB1.out.size _).trans (h2.mono (by rw [hsz]; have := HB1.out.size; omega)), by rw [hw']; simp, HB1.out.size, fun j _ hj => ?_, fun j => ?_, fun j hj => ?_⟩
    · rw [h2.cell (p := ⟨w1.heap.size, j, none⟩) (by rw [hsz]; exact Nat.lt_succ_self _)]; exact resv_row w1 j hj
    · rw [h2.frozen (p := ⟨w1.heap.size, j, none⟩) (by rw [hsz]; exact Nat.lt_succ_self _)]; exact World.frozen?_alloc_at _ _ _ _ rfl
    · have := resv_row (w1.alloc (.cells (resvS.map Value.string).toArray 9)) j hj
      rw [hsz] at this; rw [hw']; exact this)
  rw [hsz]
  clear hsz hw'
  obtain ⟨B, hB⟩ : ∃ B, w1.heap.size = B := ⟨_, rfl⟩
  rw [hB] at K0 ⊢
  clear hB
  go_wp2_with fail
  go_loopg [5] 19 (fun g s5 wx => ∃ k : Nat, k + g = 19 ∧ s5 = .int .i64 (k : Int) ∧ Hid (WordsAt w B k wx))
  case atStart => exact ⟨0, rfl, rfl, K0⟩
  case round =>
    obtain ⟨k, hk, rfl, HK⟩ := hrel
    cases gk with
    | zero =>
      obtain rfl : k = 19 := by omega
      go_wp2_with fail
      refine (words_any _ (HS.out.below' HK.out.below)).mono ?_; rintro e w2 ⟨rfl, hw2⟩
      have K2 : Hid (WordsAt w B 19 w2) := Lib.hid (HK.out.on (by rw [hw2]; exact below_alloc _ _))
      have a0 : w2.cell? ⟨wr.heap.size, 0, none⟩ = some (.string (rw' 0)) := by rw [hw2]; exact resv_row wr 0 (by decide)
      have g0 : wr.heap.size < w2.heap.size := by rw [hw2]; simp
      clear hw2
      obtain ⟨C, hC⟩ : ∃ C, wr.heap.size = C := ⟨_, rfl⟩
      rw [hC] at a0 g0 ⊢
      clear hC
      have a1 := K2.out.r2 0 (by decide)
      obtain ⟨x, hx⟩ : ∃ x, rw' 0 = x := ⟨_, rfl⟩
      rw [hx] at a0 a1
      clear hx
      obtain ⟨q, hq⟩ : ∃ q, decide (s.data.toList ∈ resv) = q := ⟨_, rfl⟩
      have HQ1 := Lib.hid (fun X (h : Spc X) => reservedB s X h)
      have HQ2 := Lib.hid (fun X => refreserved_any s X)
      rw [hq] at HQ1 HQ2
      clear hq
      have J1 : WordsAt w B 19 _ := K2.out.on (below_drew _)
      have onC : ∀ X Y, Below X.heap.size X Y → X.cell? ⟨C, 0, none⟩ = some (.string x) → Y.cell? ⟨C, 0, none⟩ = some (.string x) := fun X Y hb h => (hb.cell (World.block_lt_of_cell? X _ h)).trans h
      have onB : ∀ X Y, Below X.heap.size X Y → X.cell? ⟨B + 1, 0, none⟩ = some (.string x) → Y.cell? ⟨B + 1, 0, none⟩ = some (.string x) := fun X Y hb h => (hb.cell (World.block_lt_of_cell? X _ h)).trans h
      have P0 : w2.drew.cell? ⟨C, 0, none⟩ = some (.string x) ∧ w2.drew.cell? ⟨B + 1, 0, none⟩ = some (.string x) ∧ WordsAt w B 19 w2.drew := ⟨onC _ _ (below_drew _) a0, onB _ _ (below_drew _) a1, J1⟩
      have onP : ∀ X Y, Below X.heap.size X Y → (X.cell? ⟨C, 0, none⟩ = some (.string x) ∧ X.cell? ⟨B + 1, 0, none⟩ = some (.string x) ∧ WordsAt w B 19 X) → (Y.cell? ⟨C, 0, none⟩ = some (.string x) ∧ Y.cell? ⟨B + 1, 0, none⟩ = some (.string x) ∧ WordsAt w B 19 Y) := fun X Y hb ⟨h1, h2, h3⟩ => ⟨onC _ _ hb h1, onB _ _ hb h2, h3.on hb⟩
      clear J1 a0 a1 onC onB
      go_wp2_with fail
      go_region_held3 (fun Y => Y.cell? ⟨C, 0, none⟩ = some (.string x) ∧ Y.cell? ⟨B + 1, 0, none⟩ = some (.string x) ∧ WordsAt w B 19 Y) (first | exact P1 | exact P0)
        (first | (go_at_call 11; refine (HQ1.out _ (HS.out.below' (And.right (And.right (by assumption : _ ∧ _ ∧ WordsAt w B 19 _))).below)).mono ?_; rintro e w3 ⟨rfl, hb3⟩; have P1 := onP _ _ hb3 (by assumption)) | (go_at_call 12; refine (HQ2.out _).mono ?_; rintro e w3 ⟨rfl, hb3⟩; have P1 := onP _ _ hb3 (by assumption)))
      have PE := (And.right (And.right P1)).below
      clear P0 P1 onP
      go_wp2_with fail
      go_ret
      exact ⟨rfl, PE⟩
    | succ g =>
      have hkl : k < 19 := by omega
      have hkz : (k : Int) < 19 := by omega
      obtain ⟨x, hx⟩ : ∃ x, rw' k = x := ⟨_, rfl⟩
      have HX := Lib.hid hx
      have P0 : wr.drew.cell? ⟨B, k, none⟩ = some (.string x) ∧ wr.drew.cell? ⟨B + 1, k, none⟩ = some (.string x) ∧ WordsAt w B k wr.drew := by
        have h := HK.out.on (below_drew wr)
        exact ⟨by rw [h.r1 k (Nat.le_refl _) hkl, hx], by rw [h.r2 k hkl, hx], h⟩
      have onP : ∀ X Y, Below X.heap.size X Y → (X.cell? ⟨B, k, none⟩ = some (.string x) ∧ X.cell? ⟨B + 1, k, none⟩ = some (.string x) ∧ WordsAt w B k X) → (Y.cell? ⟨B, k, none⟩ = some (.string x) ∧ Y.cell? ⟨B + 1, k, none⟩ = some (.string x) ∧ WordsAt w B k Y) := fun X Y hb ⟨_, _, h3⟩ => by
        have h := h3.on hb
        exact ⟨by rw [h.r1 k (Nat.le_refl _) hkl, HX.out], by rw [h.r2 k hkl, HX.out], h⟩
      have HQ1 := Lib.hid (fun X (h : Spc X) => reservedB x X h)
      rw [decide_eq_true ((resv_mem x).2 ⟨k, hkl, hx⟩)] at HQ1
      clear hx
      go_wp2_with fail
      go_region_held3 (fun Y => Y.cell? ⟨B, k, none⟩ = some (.string x) ∧ Y.cell? ⟨B + 1, k, none⟩ = some (.string x) ∧ WordsAt w B k Y) (first | exact P1 | exact P0)
        (first | (go_at_call 11; refine (HQ1.out _ (HS.out.below' (And.right (And.right (by assumption : _ ∧ _ ∧ WordsAt w B k _))).below)).mono ?_; rintro e w3 ⟨rfl, hb3⟩; have P1 := onP _ _ hb3 (by assumption)))
      have hc := And.left P1
      have hf := (And.right (And.right P1)).f1 k
      have HE := Lib.hid ((And.right (And.right P1)).store (.string ⟨#[119, 114, 105, 116, 116, 101, 110, 32, 111, 118, 101, 114]⟩))
      clear P0 P1 onP
      go_wp2_with fail
      go_roundg g
      case measure => omega
      case rel => exact ⟨k + 1, by omega, by go_num, HE⟩
end Go.Proofs.YtedgcllgifiajaaDoor
