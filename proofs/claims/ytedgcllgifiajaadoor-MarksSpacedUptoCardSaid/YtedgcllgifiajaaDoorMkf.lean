/- The awake call of layer 3. -/
import Derived.Test.YtedgcllgifiajaaDoorMke
import Derived.Lib.SmallJoins
import Derived.Lib.SlBytesConst
namespace Go.Proofs.YtedgcllgifiajaaDoor
open Go.RowKit Flo Mk
abbrev tA : List UInt8 := [97, 45, 62, 51, 105, 32, 35, 32, 120]
abbrev tB : List UInt8 := [120, 32, 48, 48, 55]
theorem dig1 (u : Nat) (h : u < 10) : Lib.decDigits u = [UInt8.ofNat (48 + u)] := Lib.decDigits_one h
theorem refParse_3i : refParse [51, 105] = some (0, 3) := by
  have h := refParse_text (x := 0) (y := 3) (by decide)
  rw [show textL 0 3 = [51, 105] by
    unfold textL Lib.itoa
    rw [if_neg (by decide), if_pos rfl, if_neg (by decide), show Int.toNat 3 = 3 from rfl, dig1 3 (by decide)]; rfl] at h
  exact h
theorem refParse_007 : refParse [48, 48, 55] = none := by
  unfold refParse
  rw [if_neg (by decide +kernel), if_neg]
  rintro ⟨_, h⟩
  have : refHalves [48, 48, 55] = (7, 0) := by decide +kernel
  rw [this] at h
  revert h
  show textL 7 0 ≠ _
  rw [show textL 7 0 = [55] by
    unfold textL Lib.itoa
    rw [if_pos rfl, if_neg (by decide), show Int.toNat 7 = 7 from rfl, dig1 7 (by decide)]; rfl]
  decide
theorem one_num {l : List UInt8} {at' : Nat} (h1 : (l.head?.map runB) = some true) (h2 : ((l.takeWhile runB).head?.map digB) = some true) : one l at' = (refParse (l.takeWhile runB)).map (fun p => ⟨2, l.takeWhile runB, p, at'⟩) := by
  unfold one wordM; rw [if_pos h1, if_pos h2]
theorem scan_tA : scan tA 0 = .ok [⟨0, [97], (0, 0), 0⟩, ⟨3, [45, 62], (0, 0), 1⟩, ⟨2, [51, 105], (0, 3), 3⟩, ⟨4, [], (0, 0), 9⟩] := by
  rw [scan_one (by decide) (by decide), show one tA 0 = some ⟨0, [97], (0, 0), 0⟩ by decide +kernel]
  show pre _ (scan [45, 62, 51, 105, 32, 35, 32, 120] 1) = _
  rw [scan_one (by decide) (by decide), show one [45, 62, 51, 105, 32, 35, 32, 120] 1 = some ⟨3, [45, 62], (0, 0), 1⟩ by decide +kernel]
  show pre _ (pre _ (scan [51, 105, 32, 35, 32, 120] 3)) = _
  rw [scan_one (by decide) (by decide), one_num (by decide) (by decide), show List.takeWhile runB [51, 105, 32, 35, 32, 120] = [51, 105] by decide, refParse_3i]
  show pre _ (pre _ (pre _ (scan [32, 35, 32, 120] 5))) = _
  rw [scan_blank (by decide), scan_hash, rem_cons (by decide), rem_cons (by decide), rem_cons (by decide), rem_nil]
  rfl
theorem scan_tB : scan tB 0 = .error 2 := by
  rw [scan_one (by decide) (by decide), show one tB 0 = some ⟨0, [120], (0, 0), 0⟩ by decide +kernel]
  show pre _ (scan [32, 48, 48, 55] 1) = _
  rw [scan_blank (by decide), scan_one (by decide) (by decide), one_num (by decide) (by decide), show List.takeWhile runB [48, 48, 55] = [48, 48, 55] by decide, refParse_007]
  rfl
theorem W3 : W 3 = 4613937818241073152 := by decide +kernel
/-- bytes just laid are a text -/
theorem Txt.new (w : World) (t : List UInt8) (T : TypeId) (fz : Nat × Nat) : Txt (w.alloc (.cells (t.map byteC).toArray T fz)) (some ⟨w.heap.size, 0, none⟩) t := fun _ => by
  refine ⟨_, _, rfl, fun j x hx => ?_⟩
  rw [World.cell?_alloc_mark]
  simp [hx, byteC]
theorem conv_const (w : World) (C : Array Value) (n c k : Nat) (hk : w.heap.size = k) :
    (convert 26 26 (.slice (some ⟨k, 0, none⟩) n c)).run Tryd.prog (w.alloc (.cells C 5)) = .ok (.slice (some ⟨k, 0, none⟩) n c) (w.alloc (.cells C 5 (C.size, C.size + 1))) := by
  subst hk
  exact Lib.run_convert_bytes_const (P := Tryd.prog) w 26 5 C n c Tryd.underlying26 Tryd.underlying5
/-- Marks of a constant text -/
theorem marks_const (t : List UInt8) (n k : Nat) (hn : t.length = n) (hb : n ≤ 16777216) (fz : Nat × Nat) (w : World) (hk : w.heap.size = k) (hI : Inv w) (hS : Spc w) :
    Calls Tryd.prog 13 #[.slice (some ⟨k, 0, none⟩) n n] (w.alloc (.cells (t.map byteC).toArray 5 fz)) fun e w' => MarksR w (scan t 0) e w' ∧ Below w.heap.size w w' := by
  subst hn hk
  refine (marks_any _ _ t (Nat.le_refl _) hb _ (Txt.new w t _ _) (hI.below (below_alloc _ _)) (hS.below' (below_alloc _ _))).mono ?_
  rintro e w' ⟨hm, hb1⟩
  refine ⟨?_, (below_alloc w _).trans (hb1.mono (below_alloc w _).size)⟩
  rcases hm with ⟨ms, v, h1, h2, h3⟩ | ⟨a, h1, h2⟩
  · exact Or.inl ⟨ms, v, h1, h2, own_base h3 (below_alloc w _).size⟩
  · exact Or.inr ⟨a, h1, h2⟩
theorem own_cell {w : World} {B : Nat} {e : TypeId} {g n cap : Nat} {ms : List M} (h : w.ownsRow B e 4 (.slice (some ⟨g, 0, none⟩) n cap) n (rowM ms)) {j : Nat} {u : Value} (hj : (rowM ms)[j]? = some u) : w.cell? ⟨g, j, none⟩ = some u ∧ g < w.heap.size := by
  have h1 := h.cells (g := g) rfl j u hj
  rw [Go.WideShapes.add_plain, Nat.zero_add] at h1
  exact ⟨h1, World.block_lt_of_cell? w _ h1⟩
set_option maxHeartbeats 8000000 in
set_option maxRecDepth 100000 in
theorem awake_any (w : World) (hI : Inv w) (hS : Spc w) :
    Calls Tryd.prog 8 #[] w fun e w' => e = .returned (.bool true) ∧ Below w.heap.size w w' := by
  have HI := Lib.hid hI
  have HS := Lib.hid hS
  have HR := Lib.hid (fun w => reserved_any ⟨#[110, 105, 108]⟩ w)
  clear hI hS
  have hcv := conv_const w
  go_enter Tryd.func8, Tryd.ntmps8
  go_wp2_with fail
  refine (marks_const tA 9 _ rfl (by decide) (9, 10) w rfl HI.out HS.out).mono ?_
  rintro e w1 ⟨hm, hb1⟩
  clear hcv
  rcases hm with ⟨ms, v, hR, rfl, hown⟩ | ⟨a, hR, rfl⟩
  · rw [scan_tA] at hR
    cases hR
    obtain ⟨g, cap, rfl⟩ := Joins.ownsRow_form hown (by decide)
    have c0 := own_cell hown (j := 5) rfl
    have c1 := own_cell hown (j := 10) rfl
    have c2 := own_cell hown (j := 12) rfl
    have c3 := own_cell hown (j := 15) rfl
    have K1 : Keep w [(g, 5, .string ⟨#[45, 62]⟩), (g, 10, .complex .f64 (W 0) (W 3)), (g, 12, .int .i64 4), (g, 15, .int .i64 9)] w1 := ⟨⟨c0.1, c0.2, c1.1, c1.2, c2.1, c2.2, c3.1, c3.2, trivial⟩, hb1⟩
    clear c0 c1 c2 c3 hown hb1
    rw [zero00, W3] at K1
    have K2 := Keep.alloc2 (.int .i64 0) (.int .i64 0) 30 rfl K1
    have hcv := conv_const (w1.alloc (.cells #[.int .i64 0, .int .i64 0] 30))
    have hk1 : (w1.alloc (.cells #[.int .i64 0, .int .i64 0] 30)).heap.size = w1.heap.size + 1 := by simp
    have hcv2 := fun C n c => hcv C n c _ hk1
    have HK := Lib.hid hk1
    clear hcv hk1
    go_wp2_with fail
    refine (marks_const tB 5 _ rfl (by decide) (5, 6) _ HK.out (HI.out.below (And.right K2)) (HS.out.below' (And.right K2))).mono ?_
    rintro e w2 ⟨hm, hb2⟩
    rcases hm with ⟨ms, v, hR, rfl, hown⟩ | ⟨a, hR, rfl⟩
    · rw [scan_tB] at hR; cases hR
    · rw [scan_tB] at hR
      cases hR
      clear hcv2
      have K3 := Keep.below hb2 K2
      have K4 := Keep.alloc2 (.int .i64 20) (.int .i64 2) 30 rfl K3
      have KB := Lib.hid (And.right K4)
      obtain ⟨⟨a0, l0, a1, l1, b0, m0, b1, m1, c0, n0, c1, n1, c2, n2, c3, n3, _⟩, hB⟩ := id K4
      have o1 : (FloatKind.f64.format.order 0 0 == some .eq) = true := by decide +kernel
      have o2 : (FloatKind.f64.format.order 4613937818241073152 4613937818241073152 == some .eq) = true := by decide +kernel
      clear hb2 hB K1 K2 K3 K4
      go_wp2_with fail
      refine (HR.out _ (HS.out.below' KB.out)).mono ?_; rintro e w3 ⟨rfl, rfl⟩
      go_wp2_with fail
      go_ret
      exact ⟨rfl, KB.out.alloc KB.out.size _⟩
  · rw [scan_tA] at hR; cases hR
end Go.Proofs.YtedgcllgifiajaaDoor
