/- Texts joined: Rmw Rmc Rmd Rme. -/
import Derived.Test.YtgddkgbidhhheaaDoorKoat
import Derived.Deep.LoopGhost
import Derived.Test.YtgddkgbidhhheaaDoorKoag
import Derived.Lib.SlBytesConst
/- The reference's Words and Reserved. -/
namespace Go.Proofs.YtgddkgbidhhheaaDoor
open Go.RowKit Flo Mk
theorem refwords_any (w : World) :
    Calls Tryd.prog 62 #[] w fun e w' => e = .returned (.slice (some ⟨w.heap.size, 0, none⟩) 19 19) ∧ w' = w.alloc (.cells (resvS.map Value.string).toArray 9) := by
  go_enter Tryd.func62, Tryd.ntmps62
  go_wp2_with fail
  go_ret
  exact ⟨rfl, rfl⟩
def rw' (j : Nat) : ByteArray := resvS.getD j ⟨#[]⟩
theorem resv_row (X : World) (j : Nat) (hj : j < 19) : (X.alloc (.cells (resvS.map Value.string).toArray 9)).cell? ⟨X.heap.size, j, none⟩ = some (.string (rw' j)) := by
  rw [World.cell?_alloc_at _ _ _ _ rfl]
  have : j < resvS.length := hj
  simp [rw', List.getD, this]
theorem resv_mem (s : ByteArray) : (s.data.toList ∈ resv) ↔ ∃ j, j < 19 ∧ rw' j = s := by
  have h0 := contains_resv s
  rw [Bool.eq_iff_iff, Lib.containsS_iff, decide_eq_true_eq] at h0
  rw [← h0]
  show s ∈ resvS ↔ _
  constructor
  · intro h
    obtain ⟨j, hj, rfl⟩ := List.mem_iff_getElem.1 h
    exact ⟨j, hj, by simp [rw', List.getD, hj]⟩
  · rintro ⟨j, hj, rfl⟩
    have : j < resvS.length := hj
    simp [rw', List.getD, this]
set_option maxHeartbeats 4000000 in
theorem refreserved_any (s : ByteArray) (w : World) :
    Calls Tryd.prog 48 #[.string s] w fun e w' => e = .returned (.bool (decide (s.data.toList ∈ resv))) ∧ Below w.heap.size w w' := by
  have HB := Lib.hid (below_alloc w (.cells (resvS.map Value.string).toArray 9))
  have HC := Lib.hid (resv_row w)
  have HR := Lib.hid (resv_mem s)
  obtain ⟨X, hX⟩ : ∃ X, w.alloc (.cells (resvS.map Value.string).toArray 9) = X := ⟨_, rfl⟩
  have HQ := Lib.hid (refwords_any w)
  rw [hX] at HB HC HQ
  obtain ⟨B, hB⟩ : ∃ B, w.heap.size = B := ⟨_, rfl⟩
  have HB' := Lib.hid (hB ▸ HB.out)
  rw [hB] at HC HQ ⊢
  clear hX hB HB
  go_enter Tryd.func48, Tryd.ntmps48
  go_wp2_with fail
  refine HQ.out.mono ?_; rintro e w' ⟨rfl, rfl⟩
  go_wp2_with fail
  go_loopg [4] 19 (fun g s4 wx => ∃ k : Nat, k + g = 19 ∧ s4 = .int .i64 (k : Int) ∧ wx = w' ∧ Hid (∀ j, j < k → rw' j ≠ s))
  case atStart => exact ⟨0, rfl, rfl, rfl, fun j hj => absurd hj (Nat.not_lt_zero j)⟩
  case round =>
    obtain ⟨k, hk, rfl, rfl, hne⟩ := hrel
    cases gk with
    | zero =>
      obtain rfl : k = 19 := by omega
      have HF : Hid (decide (s.data.toList ∈ resv) = false) := Lib.hid (decide_eq_false fun h => by
        obtain ⟨j, hj, e⟩ := HR.out.1 h
        exact hne.out j hj e)
      go_wp2_with fail
      go_ret
      exact ⟨ret2 (congrArg Value.bool HF.out.symm), HB'.out⟩
    | succ g =>
      have hkl : k < 19 := by omega
      have hkz : (k : Int) < 19 := by omega
      have hc := HC.out k hkl
      obtain ⟨x, hx⟩ : ∃ x, rw' k = x := ⟨_, rfl⟩
      rw [hx] at hc
      have HX := Lib.hid hx
      clear hx
      by_cases he : x = s
      · subst he
        have HF : Hid (decide (x.data.toList ∈ resv) = true) := Lib.hid (decide_eq_true (HR.out.2 ⟨k, hkl, HX.out⟩))
        go_wp2_with fail
        go_ret
        exact ⟨ret2 (congrArg Value.bool HF.out.symm), HB'.out⟩
      · have hb : (x.toList == s.toList) = false := beq_eq_false_iff_ne.2 fun h => he (by
          rw [Lib.toList_data, Lib.toList_data] at h
          apply ByteArray.ext; exact Array.toList_inj.1 h)
        have HNE : Hid (∀ j, j < k + 1 → rw' j ≠ s) := Lib.hid fun j hj => by
          rcases Nat.lt_or_eq_of_le (Nat.le_of_lt_succ hj) with h | rfl
          · exact hne.out j h
          · rw [HX.out]; exact he
        clear hne he
        go_wp2_with fail
        go_roundg g
        case measure => omega
        case rel => exact ⟨k + 1, by omega, by go_num, rfl, HNE⟩
end Go.Proofs.YtgddkgbidhhheaaDoor
/- The mark with which a text begins, as the reference reads it. -/
namespace Go.Proofs.YtgddkgbidhhheaaDoor
open Go.RowKit Flo Mk
/-- the two boxes of 'one': the answer's, and the mark's -/
structure BoxO (w X : World) (m0 m1 m2 m3 : Value) : Prop where
  below : Below w.heap.size w X
  r0 : X.cell? ⟨w.heap.size, 0, none⟩ = some (.int .i64 0)
  r1 : X.cell? ⟨w.heap.size, 1, none⟩ = some (.string ⟨#[]⟩)
  r2 : X.cell? ⟨w.heap.size, 2, none⟩ = some (.complex .f64 0 0)
  r3 : X.cell? ⟨w.heap.size, 3, none⟩ = some (.int .i64 0)
  rf : ∀ o, X.frozen? ⟨w.heap.size, o, none⟩ = false
  m0 : X.cell? ⟨w.heap.size + 1, 0, none⟩ = some m0
  m1 : X.cell? ⟨w.heap.size + 1, 1, none⟩ = some m1
  m2 : X.cell? ⟨w.heap.size + 1, 2, none⟩ = some m2
  m3 : X.cell? ⟨w.heap.size + 1, 3, none⟩ = some m3
  mf : ∀ o, X.frozen? ⟨w.heap.size + 1, o, none⟩ = false
  size : w.heap.size + 2 ≤ X.heap.size
theorem BoxO.on {w X Y : World} {m0 m1 m2 m3 : Value} (h : BoxO w X m0 m1 m2 m3) (hb : Below X.heap.size X Y) : BoxO w Y m0 m1 m2 m3 := by
  have hs := h.size
  have c0 : ∀ k, Y.cell? ⟨w.heap.size, k, none⟩ = X.cell? ⟨w.heap.size, k, none⟩ := fun k => hb.cell (p := ⟨w.heap.size, k, none⟩) (by show w.heap.size < _; omega)
  have c1 : ∀ k, Y.cell? ⟨w.heap.size + 1, k, none⟩ = X.cell? ⟨w.heap.size + 1, k, none⟩ := fun k => hb.cell (p := ⟨w.heap.size + 1, k, none⟩) (by show w.heap.size + 1 < _; omega)
  exact ⟨h.below.trans (hb.mono h.below.size), (c0 0).trans h.r0, (c0 1).trans h.r1, (c0 2).trans h.r2, (c0 3).trans h.r3,
    fun o => (hb.frozen (p := ⟨w.heap.size, o, none⟩) (by show w.heap.size < _; omega)).trans (h.rf o),
    (c1 0).trans h.m0, (c1 1).trans h.m1, (c1 2).trans h.m2, (c1 3).trans h.m3,
    fun o => (hb.frozen (p := ⟨w.heap.size + 1, o, none⟩) (by show w.heap.size + 1 < _; omega)).trans (h.mf o), by have := hb.size; omega⟩
theorem BoxO.start (w : World) (S : ByteArray) (a : Int) : BoxO w ((w.alloc (.cells #[.int .i64 0, .string ⟨#[]⟩, .complex .f64 0 0, .int .i64 0] 98)).alloc (.cells #[.int .i64 0, .string S, .complex .f64 0 0, .int .i64 a] 98)) (.int .i64 0) (.string S) (.complex .f64 0 0) (.int .i64 a) := by
  refine ⟨((Below.refl _ _).alloc (Nat.le_refl _) _).alloc (by simp) _, ?_, ?_, ?_, ?_, ?_, ?_, ?_, ?_, ?_, ?_, by simp⟩
  all_goals first | (intro o; simp [go_sem]; done) | (simp [go_sem]; done)
theorem BoxO.set {w X : World} {m0 m1 m2 m3 : Value} (h : BoxO w X m0 m1 m2 m3) (k : Nat) (v : Value) (hk : k < 4) :
    BoxO w (X.setCell ⟨w.heap.size + 1, k, none⟩ v) (if k = 0 then v else m0) (if k = 1 then v else m1) (if k = 2 then v else m2) (if k = 3 then v else m3) := by
  obtain ⟨hb, r0, r1, r2, r3, rf, k0, k1, k2, k3, mf, size⟩ := h
  refine ⟨hb.setCell (p := ⟨w.heap.size + 1, k, none⟩) (Nat.le_succ _) _, ?_, ?_, ?_, ?_, ?_, ?_, ?_, ?_, ?_, ?_, by simpa [World.setCell] using size⟩
  · simp [go_sem, r0]
  · simp [go_sem, r1]
  · simp [go_sem, r2]
  · simp [go_sem, r3]
  · intro o; simp [go_sem, rf]
  · rcases (show k = 0 ∨ k = 1 ∨ k = 2 ∨ k = 3 by omega) with rfl | rfl | rfl | rfl <;> simp [go_sem, k0]
  · rcases (show k = 0 ∨ k = 1 ∨ k = 2 ∨ k = 3 by omega) with rfl | rfl | rfl | rfl <;> simp [go_sem, k1]
  · rcases (show k = 0 ∨ k = 1 ∨ k = 2 ∨ k = 3 by omega) with rfl | rfl | rfl | rfl <;> simp [go_sem, k2]
  · rcases (show k = 0 ∨ k = 1 ∨ k = 2 ∨ k = 3 by omega) with rfl | rfl | rfl | rfl <;> simp [go_sem, k3]
  · intro o; simp [go_sem, mf]
/-- what 'one' answers -/
def OneR (l : List UInt8) (a : Nat) (e : Ending) : Prop :=
  (∃ m, one l a = some m ∧ e = .returned (.tuple #[aggM m, .bool true])) ∨
  (one l a = none ∧ ∃ k s x y at', e = .returned (.tuple #[markV k s x y at', .bool false]))
set_option maxHeartbeats 16000000 in
set_option maxRecDepth 100000 in
theorem refone_run (b o n c a : Nat) (t : List UInt8) (hn : t.length = n) (hnc : n ≤ c) (hb : n ≤ 16777216) (ha : a < n) (w : World) (hT : ∀ j x, t[j]? = some x → w.cell? ⟨b, o + j, none⟩ = some (.int .u8 (x.toNat : Int))) (x : UInt8) (hx : t[a]? = some x) (hr : runB x = true) :
    Calls Tryd.prog 37 #[.slice (some ⟨b, o, none⟩) n c, .int .i64 (a : Int)] w fun e w' => OneR (t.drop a) a e ∧ Below w.heap.size w w' := by
  obtain ⟨r, hrl⟩ : ∃ r, ((t.drop a).takeWhile runB).length = r := ⟨_, rfl⟩
  have hdr := drop_cons hx
  have hr0 : 0 < r := by rw [← hrl, hdr, List.takeWhile_cons, if_pos hr]; simp
  have hrn : a + r ≤ n := by
    have h := tw_len runB (t.drop a)
    rw [hrl, List.length_drop, hn] at h; omega
  obtain ⟨S, hSd⟩ : ∃ S : ByteArray, S.data.toList = (t.drop a).takeWhile runB := ⟨⟨((t.drop a).takeWhile runB).toArray⟩, by simp⟩
  have hST : S.data.toList = (t.drop a).take r := by rw [hSd, ← hrl, tw_take]
  have hOne : one (t.drop a) a = wordM S.data.toList a := by
    unfold one
    rw [if_pos (by rw [hdr]; show some (runB x) = _; rw [hr]), hSd]
  have hhd : S.data.toList.head? = some x := by rw [hSd, hdr, List.takeWhile_cons, if_pos hr]; rfl
  have hQ := fun W hW => refrun_any b o n c a t hn hb (Nat.le_of_lt ha) W hW
  rw [hrl] at hQ
  have rd0 : ∀ o', ∀ j y, t[j]? = some y → (w.alloc o').cell? ⟨b, o + j, none⟩ = some (.int .u8 (y.toNat : Int)) := fun o' j y hj => Lib.cell?_alloc_marked o' (hT j y hj)
  have hcv := fun o' => conv_txt (w.alloc o') b (o + a) r (c - a) S (by rw [hSd]; exact hrl) (fun j y hy => by
    rw [hST, List.getElem?_take] at hy
    split at hy
    · rw [List.getElem?_drop] at hy
      have := rd0 o' _ y hy
      rw [← Nat.add_assoc] at this; exact this
    · cases hy)
  have hcx := hT a x hx
  have hcx2 : ∀ o1 o2, ((w.alloc o1).alloc o2).cell? ⟨b, o + a, none⟩ = some (.int .u8 (x.toNat : Int)) := fun o1 o2 => Lib.cell?_alloc_marked o2 (Lib.cell?_alloc_marked o1 hcx)
  have haz : (a : Int) < (n : Int) := by omega
  have hrz : (0 : Int) < (r : Int) := by omega
  have hSl : S.size ≤ 140737488351232 := by rw [Lib.size_eq, hSd, hrl]; omega
  have HST := Lib.hid (BoxO.start w S (a : Int))
  have HQ := Lib.hid hQ
  have HRD := Lib.hid rd0
  have HO := Lib.hid hOne
  have HHD := Lib.hid hhd
  have HSL := Lib.hid hSl
  have HD := Lib.hid (fun w => refdigit_any x w)
  have h95 : ((x.toNat : Int) == 95) = (x == 95) := eqb x 95
  clear hQ rd0 hOne hhd hSl hSd hST hdr hrl hT hx hn
  obtain ⟨d, hd⟩ : ∃ d, digB x = d := ⟨_, rfl⟩
  rw [hd] at HD
  obtain ⟨u, hu⟩ : ∃ u, (x == 95) = u := ⟨_, rfl⟩
  rw [hu] at h95
  cases d
  · cases u
    · have hx95 : ¬ x = 95 := fun h => by rw [h] at hu; cases hu
      obtain ⟨q, hq⟩ : ∃ q, decide (S.data.toList ∈ resv) = q := ⟨_, rfl⟩
      have HRV := Lib.hid (fun w => refreserved_any S w)
      rw [hq] at HRV
      have hnd : ¬ (S.data.toList.head?.map digB) = some true := by
        rw [HHD.out]; show ¬ some (digB x) = some true; rw [hd]; simp
      have hw : wordM S.data.toList a = some ⟨if q then 1 else 0, S.data.toList, (0, 0), a⟩ := by
        unfold wordM
        rw [if_neg hnd]
        cases q with
        | true => rw [if_pos (of_decide_eq_true hq)]; rfl
        | false => rw [if_neg (of_decide_eq_false hq), if_neg (by rw [HHD.out]; exact fun e => hx95 (Option.some.inj e))]; rfl
      have HW := Lib.hid (HO.out.trans hw)
      clear hd hu hx95 hnd hw hq
      have HM : ∀ k : Nat, Hid (aggM ⟨k, S.data.toList, (0, 0), a⟩ = markV k S 0 0 a) := fun k => Lib.hid (by
        show Value.agg #[_, .string ⟨S.data.toList.toArray⟩, .complex .f64 (W 0) (W 0), _] = _
        rw [← ba_list (rfl : S.data.toList = S.data.toList), zero00])
      have HM0 := HM 0
      have HM1 := HM 1
      clear HM
      cases q
      all_goals
        go_enter Tryd.func37, Tryd.ntmps37
        go_wp2_with fail
        refine (HQ.out _ (HRD.out _)).mono ?_; rintro e w' ⟨rfl, rfl⟩
        go_wp2_with (go_at_call 45; refine (HD.out _).mono ?_; rintro e w' ⟨rfl, rfl⟩)
        refine (HRV.out _).mono ?_; rintro e w2 ⟨rfl, hb2⟩
        have BX := Lib.hid (HST.out.on hb2)
        obtain ⟨-, r0, r1, r2, r3, rf, k0, k1, k2, k3, mf, -⟩ := HST.out.on hb2
        clear hb2
        go_wp2_with fail
      · exact bodyPost_ret (v := .tuple #[markV 0 S 0 0 a, .bool true]) (by simp [results, Tryd.results37, go_sem, r0, r1, r2, r3]) rfl ⟨Or.inl ⟨_, HW.out, by rw [← HM0.out]; rfl⟩, by
          repeat (first | exact BX.out.below | refine Below.setCell ?_ (by first | exact Nat.le_refl _ | exact Nat.le_succ _) _)⟩
      · exact bodyPost_ret (v := .tuple #[markV 1 S 0 0 a, .bool true]) (by simp [results, Tryd.results37, go_sem, r0, r1, r2, r3]) rfl ⟨Or.inl ⟨_, HW.out, by rw [← HM1.out]; rfl⟩, by
          repeat (first | exact BX.out.below | refine Below.setCell ?_ (by first | exact Nat.le_refl _ | exact Nat.le_succ _) _)⟩
    · have HN : Hid (one (t.drop a) a = none) := Lib.hid (by
        rw [HO.out]
        unfold wordM
        rw [HHD.out]
        have hx95 : x = 95 := beq_iff_eq.1 hu
        rw [if_neg (by show ¬ some (digB x) = some true; rw [hd]; simp), if_neg, if_pos (by rw [hx95])]
        intro hm
        have h1 := (resv_head _ hm).1
        have hall : ∀ l ∈ resv, l.head? ≠ some 95 := by decide
        exact hall _ hm (by rw [HHD.out, hx95]))
      clear hd hu
      go_enter Tryd.func37, Tryd.ntmps37
      go_wp2_with fail
      refine (HQ.out _ (HRD.out _)).mono ?_; rintro e w' ⟨rfl, rfl⟩
      go_wp2_with (go_at_call 45; refine (HD.out _).mono ?_; rintro e w' ⟨rfl, rfl⟩)
      exact bodyPost_ret (v := .tuple #[markV 0 S 0 0 a, .bool false]) (by simp [results, Tryd.results37, go_sem]) rfl ⟨Or.inr ⟨HN.out, _, _, _, _, _, rfl⟩, by repeat (first | exact Below.refl _ _ | refine Below.setCell ?_ (by first | exact Nat.le_refl _ | exact Nat.le_succ _) _ | refine Below.drew ?_ | refine Go.below_drewN ?_ _ | refine Below.alloc ?_ (by simp <;> omega) _)⟩
  · obtain ⟨p, hp⟩ : ∃ p, refParse S.data.toList = p := ⟨_, rfl⟩
    have HP := Lib.hid (fun w => refParse_any S HSL.out w)
    rw [hp] at HP
    have hw : wordM S.data.toList a = p.map (fun p => ⟨2, S.data.toList, p, a⟩) := by
      unfold wordM
      rw [if_pos (by rw [HHD.out]; show some (digB x) = some true; rw [hd]), hp]
    have HW := Lib.hid (HO.out.trans hw)
    have HZ := Lib.hid refZ_any
    clear hd hu hw hp
    obtain ⟨X, Y, er, hv, hcase⟩ : ∃ (X Y er : Int), refA p = .tuple #[.agg #[.int .i64 X, .int .i64 Y], .int .i64 er] ∧ ((p = some (X, Y) ∧ er = 0) ∨ (p = none ∧ er = 10)) := by
      cases p with
      | none => exact ⟨0, 0, 10, rfl, Or.inr ⟨rfl, rfl⟩⟩
      | some q => exact ⟨q.1, q.2, 0, rfl, Or.inl ⟨rfl, rfl⟩⟩
    rw [hv] at HP
    have HC := Lib.hid hcase
    clear hv hcase
    go_enter Tryd.func37, Tryd.ntmps37
    go_wp2_with fail
    refine (HQ.out _ (HRD.out _)).mono ?_; rintro e w' ⟨rfl, rfl⟩
    go_wp2_with (go_at_call 45; refine (HD.out _).mono ?_; rintro e w' ⟨rfl, rfl⟩)
    refine (HP.out _).mono ?_; rintro e w2 ⟨rfl, hb2⟩
    have B0 := HST.out.on hb2
    have B1 := B0.on (below_alloc w2 (.cells #[.int .i64 X, .int .i64 Y] 63))
    have B2 : BoxO w ((w2.alloc (.cells #[.int .i64 X, .int .i64 Y] 63)).setCell ⟨w.heap.size + 1, 0, none⟩ (.int .i64 2)) (.int .i64 2) (.string S) (.complex .f64 0 0) (.int .i64 (a : Int)) := B1.set 0 (.int .i64 2) (by decide)
    have HB2 := Lib.hid B2
    have hn1 : ¬ (w2.heap.size = w.heap.size + 1) := by have := B0.size; omega
    have hn2 : ¬ (w.heap.size + 1 = w2.heap.size) := by have := B0.size; omega
    obtain ⟨-, r0, r1, r2, r3, rf, k0, k1, k2, k3, mf, hsz⟩ := B1
    clear hb2 B0 B2
    go_wp2_with fail
    refine (HZ.out X Y _).mono ?_; rintro e w3 ⟨rfl, hb3⟩
    have B3 := HB2.out.on hb3
    have HB3 := Lib.hid B3
    clear hb3 r0 r1 r2 r3 rf k0 k1 k2 k3 mf hsz hn1 hn2
    obtain ⟨-, r0, r1, r2, r3, rf, k0, k1, k2, k3, mf, hsz⟩ := B3
    obtain ⟨u1, hu1⟩ : ∃ u1, W X = u1 := ⟨_, rfl⟩
    obtain ⟨u2, hu2⟩ : ∃ u2, W Y = u2 := ⟨_, rfl⟩
    rw [hu1, hu2]
    have HU := Lib.hid (And.intro hu1 hu2)
    clear hu1 hu2
    rcases HC.out with ⟨rfl, rfl⟩ | ⟨rfl, rfl⟩
    · go_wp2_with fail
      refine bodyPost_ret (v := .tuple #[markV 2 S u1 u2 a, .bool true]) (by simp [results, Tryd.results37, go_sem, r0, r1, r2, r3]) rfl ⟨Or.inl ⟨_, HW.out, ?_⟩, by
          repeat (first | exact HB3.out.below | refine Below.setCell ?_ (by first | exact Nat.le_refl _ | exact Nat.le_succ _) _)⟩
      obtain ⟨hu1, hu2⟩ := HU.out
      show _ = Ending.returned (.tuple #[.agg #[_, .string ⟨S.data.toList.toArray⟩, .complex .f64 (W X) (W Y), _], _])
      rw [← ba_list (rfl : S.data.toList = S.data.toList), hu1, hu2]
    · go_wp2_with fail
      exact bodyPost_ret (v := .tuple #[markV 2 S u1 u2 a, .bool false]) (by simp [results, Tryd.results37, go_sem, r0, r1, r2, r3]) rfl ⟨Or.inr ⟨HW.out, _, _, _, _, _, rfl⟩, by
          repeat (first | exact HB3.out.below | refine Below.setCell ?_ (by first | exact Nat.le_refl _ | exact Nat.le_succ _) _)⟩
end Go.Proofs.YtgddkgbidhhheaaDoor
/- The mark with which a text begins, as the reference reads it: a sign, or none. -/
namespace Go.Proofs.YtgddkgbidhhheaaDoor
open Go.RowKit Flo Mk
set_option maxHeartbeats 16000000 in
set_option maxRecDepth 100000 in
theorem refone_sign (b o n c a : Nat) (t : List UInt8) (hn : t.length = n) (hnc : n ≤ c) (hb : n ≤ 16777216) (ha : a < n) (w : World) (hT : ∀ j x, t[j]? = some x → w.cell? ⟨b, o + j, none⟩ = some (.int .u8 (x.toNat : Int))) (x : UInt8) (hx : t[a]? = some x) (hr : runB x = false) :
    Calls Tryd.prog 37 #[.slice (some ⟨b, o, none⟩) n c, .int .i64 (a : Int)] w fun e w' => OneR (t.drop a) a e ∧ Below w.heap.size w w' := by
  have hdr := drop_cons hx
  have hrl : ((t.drop a).takeWhile runB).length = 0 := by rw [hdr, List.takeWhile_cons, hr]; rfl
  obtain ⟨sl, hsl⟩ : ∃ sl, signL (t.drop a) = sl := ⟨_, rfl⟩
  have hle : sl ≤ 2 ∧ a + sl ≤ n := by
    have h1 := signL_two (t.drop a)
    have h2 := signL_le (t.drop a)
    rw [List.length_drop, hn] at h2
    omega
  have hOne : one (t.drop a) a = if sl = 0 then none else some ⟨3, (t.drop a).take sl, (0, 0), a⟩ := by
    unfold one
    rw [if_neg (by rw [hdr]; show ¬ some (runB x) = some true; rw [hr]; simp), hsl]
  obtain ⟨S3, hS3⟩ : ∃ S : ByteArray, S.data.toList = (t.drop a).take sl := ⟨⟨((t.drop a).take sl).toArray⟩, by simp⟩
  have hQ := fun W hW => refrun_any b o n c a t hn hb (Nat.le_of_lt ha) W hW
  rw [hrl] at hQ
  have hG := fun W hW => refsign_any b o n c a t hn hb ha W hW
  rw [hsl] at hG
  have rd : ∀ X, Below w.heap.size w X → ∀ j y, t[j]? = some y → X.cell? ⟨b, o + j, none⟩ = some (.int .u8 (y.toNat : Int)) := fun X hX j y hj => (hX.cell (World.block_lt_of_cell? w _ (hT j y hj))).trans (hT j y hj)
  have B0 := BoxO.start w ⟨#[]⟩ (a : Int)
  have hcv0 := fun o' => conv_txt (w.alloc o') b (o + a) 0 (c - a) ⟨#[]⟩ rfl (fun j y hy => by simp at hy)
  have hcv3 := fun o1 o2 => conv_txt ((w.alloc o1).alloc o2) b (o + a) sl (c - a) S3 (by rw [hS3, List.length_take, List.length_drop, hn]; omega) (fun j y hy => by
    rw [hS3, List.getElem?_take] at hy
    split at hy
    · rw [List.getElem?_drop] at hy
      have := rd _ (((Below.refl _ _).alloc (Nat.le_refl _) o1).alloc (by simp) o2) _ y hy
      rw [← Nat.add_assoc] at this; exact this
    · cases hy)
  have haz : (a : Int) < (n : Int) := by omega
  have HRD := Lib.hid rd
  have HQ := Lib.hid hQ
  have HG := Lib.hid hG
  have HO := Lib.hid hOne
  have HS3 := Lib.hid hS3
  have HB0 := Lib.hid B0
  have HL := Lib.hid (show ((t.drop a).take sl).length = sl by rw [List.length_take, List.length_drop, hn]; omega)
  clear hQ hG hOne hS3 rd hdr hrl hsl hT hx hr hn B0
  rcases (show sl = 0 ∨ sl = 1 ∨ sl = 2 by omega) with rfl | rfl | rfl
  all_goals
    go_enter Tryd.func37, Tryd.ntmps37
    go_wp2_with fail
    refine (HQ.out _ (HRD.out _ (below_alloc _ _))).mono ?_; rintro e w' ⟨rfl, rfl⟩
    go_wp2_with fail
    refine (HG.out _ (HRD.out _ HB0.out.below)).mono ?_; rintro e w' ⟨rfl, rfl⟩
    go_wp2_with fail
  · exact bodyPost_ret (v := .tuple #[markV 3 S3 0 0 a, .bool false]) (by simp [results, Tryd.results37, go_sem]) rfl ⟨Or.inr ⟨HO.out, _, _, _, _, _, rfl⟩, ((Below.refl _ _).alloc (Nat.le_refl _) _).alloc (by simp) _⟩
  · refine bodyPost_ret (v := .tuple #[markV 3 S3 0 0 a, .bool true]) (by simp [results, Tryd.results37, go_sem]) rfl ⟨Or.inl ⟨_, HO.out, ?_⟩, ((Below.refl _ _).alloc (Nat.le_refl _) _).alloc (by simp) _⟩
    show _ = Ending.returned (.tuple #[.agg #[_, .string ⟨((t.drop a).take 1).toArray⟩, .complex .f64 (W 0) (W 0), _], _])
    rw [← HS3.out, ← ba_list (rfl : S3.data.toList = S3.data.toList), zero00]
  · refine bodyPost_ret (v := .tuple #[markV 3 S3 0 0 a, .bool true]) (by simp [results, Tryd.results37, go_sem]) rfl ⟨Or.inl ⟨_, HO.out, ?_⟩, ((Below.refl _ _).alloc (Nat.le_refl _) _).alloc (by simp) _⟩
    show _ = Ending.returned (.tuple #[.agg #[_, .string ⟨((t.drop a).take 2).toArray⟩, .complex .f64 (W 0) (W 0), _], _])
    rw [← HS3.out, ← ba_list (rfl : S3.data.toList = S3.data.toList), zero00]
/-- the mark at a place, as the reference reads it -/
theorem refone_any (b o n c a : Nat) (t : List UInt8) (hn : t.length = n) (hnc : n ≤ c) (hb : n ≤ 16777216) (ha : a < n) (w : World) (hT : ∀ j x, t[j]? = some x → w.cell? ⟨b, o + j, none⟩ = some (.int .u8 (x.toNat : Int))) :
    Calls Tryd.prog 37 #[.slice (some ⟨b, o, none⟩) n c, .int .i64 (a : Int)] w fun e w' => OneR (t.drop a) a e ∧ Below w.heap.size w w' := by
  obtain ⟨x, hx⟩ : ∃ x, t[a]? = some x := ⟨_, List.getElem?_eq_getElem (by rw [hn]; exact ha)⟩
  cases hr : runB x with
  | true => exact refone_run b o n c a t hn hnc hb ha w hT x hx hr
  | false => exact refone_sign b o n c a t hn hnc hb ha w hT x hx hr
end Go.Proofs.YtgddkgbidhhheaaDoor
/- The marks of a text, as the reference reads them: the walk. -/
namespace Go.Proofs.YtgddkgbidhhheaaDoor
open Go.RowKit Flo Mk
/-- what the reference's Marks answers -/
def RefR (w : World) (R : Except Nat (List M)) (e : Ending) (w' : World) : Prop :=
  (∃ ms v, R = .ok ms ∧ e = .returned (.tuple #[v, .int .i64 (-1)]) ∧ w'.ownsRow w.heap.size 98 4 v ms.length (rowM ms)) ∨
  (∃ a : Nat, R = .error a ∧ e = .returned (.tuple #[.slice none 0 0, .int .i64 (a : Int)]))
set_option maxHeartbeats 16000000 in
set_option maxRecDepth 100000 in
theorem refmarks_some (b o n c : Nat) (t : List UInt8) (hn : t.length = n) (hnc : n ≤ c) (hb : n ≤ 16777216) (w : World) (hT : ∀ j x, t[j]? = some x → w.cell? ⟨b, o + j, none⟩ = some (.int .u8 (x.toNat : Int))) :
    Calls Tryd.prog 25 #[.slice (some ⟨b, o, none⟩) n c] w fun e w' => RefR w (scan t 0) e w' ∧ Below w.heap.size w w' := by
  have HT := Lib.hid hT
  have HN := Lib.hid hn
  clear hT hn
  obtain ⟨i0, hi, hz0, hz1, hz2⟩ := info_parts mark_info
  go_enter Tryd.func25, Tryd.ntmps25
  go_wp2_with fail
  go_loopg [4, 5] n (fun g s4 s5 wx => ∃ (i : Nat) (acc : List M), i + g = n ∧ s5 = .int .i64 (i : Int) ∧ acc.length ≤ i ∧ Hid (fin acc (scan (t.drop i) i) = scan t 0) ∧ Hid (Below w.heap.size w wx) ∧ Hid (wx.ownsRow w.heap.size 98 4 s4 acc.length (rowM acc)))
  case atStart => exact ⟨0, [], by omega, rfl, Nat.le_refl _, Lib.hid (by rw [List.drop_zero, fin_nil]), Below.refl _ _, World.ownsRow_nil _ _ _ _⟩
  case round =>
    obtain ⟨i, acc, hig, rfl, hal, HR, HB, HOw⟩ := hrel
    cases gk with
    | zero =>
      obtain rfl : i = n := by omega
      have HE : Hid (scan t 0 = .ok (acc ++ [⟨4, [], (0, 0), i⟩])) := Lib.hid (by
        rw [← HR.out, List.drop_of_length_le (by rw [HN.out]; exact Nat.le_refl _), scan_nil]; rfl)
      go_wp2_with (at_builtin; refine wpList_append_own _ rfl (.tmp 55) (.tmp 59) 72 rfl w.heap.size 98 i0 _ 4 48 Tryd.underlying72 hi hz0 hz1 hz2 rfl (by decide) _ _ _ rfl (HOw.out.alloc _) ⟨wr.heap.size, 0, none⟩ 1 1 [.int .i64 4, .string ⟨#[]⟩, .complex .f64 0 0, .int .i64 (i : Int)] rfl rfl ?c1 ?c2 ?c3 ?c4 ?c5 ?_)
      case c1 =>
        intro j u hj
        match j, hj with
        | 0, hj => simp at hj; subst hj; simp [Addr.add]
        | 1, hj => simp at hj; subst hj; simp [Addr.add]
        | 2, hj => simp at hj; subst hj; simp [Addr.add]
        | 3, hj => simp at hj; subst hj; simp [Addr.add]
      case c2 => intro u hu; simp at hu; rcases hu with rfl | rfl | rfl | rfl <;> rfl
      case c3 => unfold maxLen; omega
      case c4 => omega
      case c5 => have := HB.out.size; simp; omega
      intro v' w1 hown' hgrow _
      rw [show [Value.int .i64 4, .string ⟨#[]⟩, .complex .f64 0 0, .int .i64 (i : Int)] = cellsM ⟨4, [], (0, 0), i⟩ from cells_plain 4 ⟨#[]⟩ i] at hown'
      have HO1 := Lib.hid hown'
      have HB1 := Lib.hid ((HB.out.alloc HB.out.size _).grown hgrow (by have := HB.out.size; simp; omega) (fun k hk => (HOw.out.lt k hk).1))
      clear hown' hgrow
      go_wp2_with fail
      go_ret2
      refine ⟨Or.inl ⟨_, _, HE.out, rfl, ?_⟩, HB1.out⟩
      rw [List.length_append, rowM_app, show rowM [⟨4, [], (0, 0), i⟩] = cellsM ⟨4, [], (0, 0), i⟩ by simp [rowM]]
      exact HO1.out
    | succ g =>
      have hlt : i < n := by omega
      obtain ⟨x, hx⟩ : ∃ x, t[i]? = some x := ⟨_, List.getElem?_eq_getElem (by rw [HN.out]; exact hlt)⟩
      have hcx : wr.cell? ⟨b, o + i, none⟩ = some (.int .u8 (x.toNat : Int)) := by
        have h := HT.out i x hx
        exact (HB.out.cell (World.block_lt_of_cell? w _ h)).trans h
      have HD : Hid (t.drop i = x :: t.drop (i + 1)) := Lib.hid (drop_cons hx)
      have HX := Lib.hid hx
      have hltz : (i : Int) < (n : Int) := by omega
      have HQ := Lib.hid (fun w => blank_any x w)
      clear hx
      cases hbl : blankB x with
      | true =>
        rw [hbl] at HQ
        have HG : Hid (fin acc (scan (t.drop (i + 1)) (i + 1)) = scan t 0) := Lib.hid (by rw [← HR.out, HD.out, scan_blank hbl])
        clear hbl
        go_wp2_with (go_at_call 36; refine (HQ.out _).mono ?_; rintro e w' ⟨rfl, rfl⟩)
        go_roundg g
        case measure => omega
        case rel => exact ⟨i + 1, acc, by omega, by go_num, by omega, HG, HB, HOw⟩
      | false =>
        rw [hbl] at HQ
        by_cases h35 : x = 35
        · subst h35
          have HG : Hid (fin acc (rem (t.drop i) i) = scan t 0) := Lib.hid (by rw [← HR.out, HD.out, scan_hash])
          clear hbl
          go_wp2_with (go_at_call 36; refine (HQ.out _).mono ?_; rintro e w' ⟨rfl, rfl⟩)
          go_loopg [5] (g + 1) (fun g2 s5 wx => ∃ j : Nat, j + g2 = n ∧ s5 = .int .i64 (j : Int) ∧ i ≤ j ∧ Hid (i < j ∨ t[j]? = some 35) ∧ Hid (fin acc (rem (t.drop j) j) = scan t 0) ∧ wx = wr)
          case atStart => exact ⟨i, by omega, rfl, Nat.le_refl _, Lib.hid (Or.inr HX.out), HG, rfl⟩
          case round =>
            obtain ⟨j, hjg, rfl, hij, HJ, HRm, rfl⟩ := hrel
            cases gk with
            | zero =>
              obtain rfl : j = n := by omega
              have HG2 : Hid (fin acc (scan (t.drop j) j) = scan t 0) := Lib.hid (by
                rw [← HRm.out, List.drop_of_length_le (by rw [HN.out]; exact Nat.le_refl _), rem_nil])
              go_wp2_with fail
              go_roundg 0
              case measure => omega
              case rel => exact ⟨j, acc, by omega, rfl, by omega, HG2, HB, HOw⟩
            | succ g2 =>
              have hjn : j < n := by omega
              obtain ⟨y, hy⟩ : ∃ y, t[j]? = some y := ⟨_, List.getElem?_eq_getElem (by rw [HN.out]; exact hjn)⟩
              have hcy : wr.cell? ⟨b, o + j, none⟩ = some (.int .u8 (y.toNat : Int)) := by
                have h := HT.out j y hy
                exact (HB.out.cell (World.block_lt_of_cell? w _ h)).trans h
              have hjz : (j : Int) < (n : Int) := by omega
              have hdr := drop_cons hy
              by_cases h10 : y = 10
              · subst h10
                have hlt2 : i < j := by
                  rcases HJ.out with h | h
                  · exact h
                  · rw [hy] at h; cases h
                have HG2 : Hid (fin acc (scan (t.drop j) j) = scan t 0) := Lib.hid (by rw [← HRm.out, hdr, rem_nl])
                clear hy hdr
                go_wp2_with fail
                go_roundg (n - j)
                case measure => omega
                case rel => exact ⟨j, acc, by omega, rfl, by omega, HG2, HB, HOw⟩
              · have e5 : ((y.toNat : Int) == 10) = false := (eqb y 10).trans (beq_eq_false_iff_ne.2 h10)
                have e6 : ((y.toNat : Int) != 10) = true := by rw [bne, e5]; rfl
                have HG2 : Hid (fin acc (rem (t.drop (j + 1)) (j + 1)) = scan t 0) := Lib.hid (by rw [← HRm.out, hdr, rem_cons h10])
                clear hy hdr h10
                go_wp2_with fail
                go_roundg g2
                case measure => omega
                case rel => exact ⟨j + 1, by omega, by go_num, by omega, Lib.hid (Or.inl (by omega)), HG2, rfl⟩
        · have e5 : ((x.toNat : Int) == 35) = false := (eqb x 35).trans (beq_eq_false_iff_ne.2 h35)
          have HSC := Lib.hid (scan_one hbl h35 (t.drop (i + 1)) i)
          have HONE := Lib.hid (refone_any b o n c i t HN.out hnc hb hlt wr (fun j y hj => (HB.out.cell (World.block_lt_of_cell? w _ (HT.out j y hj))).trans (HT.out j y hj)))
          clear hbl h35
          go_wp2_with (go_at_call 36; refine (HQ.out _).mono ?_; rintro e w' ⟨rfl, rfl⟩)
          refine HONE.out.mono ?_
          rintro e w1 ⟨hm, hb1⟩
          have HB1 := Lib.hid (HB.out.trans (hb1.mono HB.out.size))
          have HO1 := Lib.hid (own_below HOw.out hb1)
          have HHD : Hid (fin acc (match one (t.drop i) i with | none => .error i | some m => pre m (scan ((t.drop i).drop m.text.length) (i + m.text.length))) = scan t 0) := Lib.hid (by rw [← HR.out, HD.out, HSC.out]; rfl)
          clear hb1
          rcases hm with ⟨mk, hone, he⟩ | ⟨hone, kk, s1, a1, a2, ps, he⟩
          · obtain ⟨_, _, o3, o4⟩ := one_text hone
            rw [List.length_drop, HN.out] at o4
            have HG : Hid (fin (acc ++ [mk]) (scan (t.drop (i + mk.text.length)) (i + mk.text.length)) = scan t 0) := Lib.hid (by
              rw [← HHD.out, hone]
              show _ = fin acc (pre mk (scan ((t.drop i).drop mk.text.length) (i + mk.text.length)))
              rw [fin_pre, List.drop_drop])
            rw [show aggM mk = .agg #[.int .i64 mk.kind, .string ⟨mk.text.toArray⟩, .complex .f64 (W mk.num.1) (W mk.num.2), .int .i64 mk.pos] from rfl] at he
            have HC : Hid ([Value.int .i64 mk.kind, .string ⟨mk.text.toArray⟩, .complex .f64 (W mk.num.1) (W mk.num.2), .int .i64 mk.pos] = cellsM mk) := Lib.hid rfl
            obtain ⟨L, hL⟩ : ∃ L, mk.text.length = L := ⟨_, rfl⟩
            have htl : (⟨mk.text.toArray⟩ : ByteArray).size = L := by rw [Lib.size_eq]; simpa using hL
            obtain ⟨kk, hkk⟩ : ∃ k : Int, (mk.kind : Int) = k := ⟨_, rfl⟩
            obtain ⟨tx, htx⟩ : ∃ k : ByteArray, ⟨mk.text.toArray⟩ = k := ⟨_, rfl⟩
            obtain ⟨a1, ha1⟩ : ∃ k, W mk.num.1 = k := ⟨_, rfl⟩
            obtain ⟨a2, ha2⟩ : ∃ k, W mk.num.2 = k := ⟨_, rfl⟩
            obtain ⟨ps, hps⟩ : ∃ k : Int, (mk.pos : Int) = k := ⟨_, rfl⟩
            rw [hkk, htx, ha1, ha2, hps] at he HC
            rw [htx] at htl
            rw [hL] at HG o3 o4
            subst he
            have hsz : ((w1.alloc (.cells #[.int .i64 kk, .string tx, .complex .f64 a1 a2, .int .i64 ps] 98))).heap.size = w1.heap.size + 1 := by simp
            have HSZ := Lib.hid hsz
            clear hkk htx ha1 ha2 hps hL hsz hone
            go_wp2_with (at_builtin; refine wpList_append_own _ rfl (.tmp 46) (.tmp 48) 72 rfl w.heap.size 98 i0 _ 4 48 Tryd.underlying72 hi hz0 hz1 hz2 rfl (by decide) _ _ _ rfl ((HO1.out.alloc _).alloc _) ⟨w1.heap.size + 1, 0, none⟩ 1 1 [.int .i64 kk, .string tx, .complex .f64 a1 a2, .int .i64 ps] rfl rfl ?d1 ?d2 ?d3 ?d4 ?d5 ?_)
            case d1 =>
              intro j u hj
              match j, hj with
              | 0, hj => simp at hj; subst hj; simp [Addr.add, go_sem]
              | 1, hj => simp at hj; subst hj; simp [Addr.add, go_sem]
              | 2, hj => simp at hj; subst hj; simp [Addr.add, go_sem]
              | 3, hj => simp at hj; subst hj; simp [Addr.add, go_sem]
            case d2 => intro u hu; simp at hu; rcases hu with rfl | rfl | rfl | rfl <;> rfl
            case d3 => unfold maxLen; omega
            case d4 => omega
            case d5 => have := HB1.out.size; simp; omega
            intro v' w2 hown' hgrow _
            have hbx : w2.cell? ⟨w1.heap.size, 1, none⟩ = some (.string tx) := hgrow.cell (a := ⟨w1.heap.size, 1, none⟩) (by simp [go_sem]) (fun e => by have := (HO1.out.lt _ e.symm).2; exact absurd this (Nat.lt_irrefl _))
            have HB2 := Lib.hid (((HB1.out.alloc HB1.out.size _).alloc (by have := HB1.out.size; simp; omega) _).grown hgrow (by have := HB1.out.size; simp; omega) (fun k hk => (HO1.out.lt k hk).1))
            rw [HC.out] at hown'
            have HO2 : Hid (w2.ownsRow w.heap.size 98 4 v' (acc ++ [mk]).length (rowM (acc ++ [mk]))) := Lib.hid (by
              rw [List.length_append, rowM_app, show rowM [mk] = cellsM mk by simp [rowM]]; exact hown')
            clear hgrow hown'
            go_wp2_with fail
            go_roundg (n - (i + L))
            case measure => omega
            case rel => exact ⟨i + L, acc ++ [mk], by omega, by go_num, by rw [List.length_append]; show acc.length + 1 ≤ i + L; omega, HG, HB2, HO2⟩
          · subst he
            have HE : Hid (scan t 0 = .error i) := Lib.hid (by rw [← HHD.out, hone]; rfl)
            clear hone
            go_wp2_with fail
            go_ret2
            exact ⟨Or.inr ⟨i, HE.out, rfl⟩, HB1.out.alloc HB1.out.size _⟩
set_option maxHeartbeats 16000000 in
set_option maxRecDepth 100000 in
theorem refmarks_none (p : Option Addr) (c : Nat) (w : World) :
    Calls Tryd.prog 25 #[.slice p 0 c] w fun e w' => RefR w (scan [] 0) e w' ∧ Below w.heap.size w w' := by
  obtain ⟨i0, hi, hz0, hz1, hz2⟩ := info_parts mark_info
  go_enter Tryd.func25, Tryd.ntmps25
  go_wp2_with fail
  go_loopg [4, 5] 0 (fun g s4 s5 wx => s4 = .slice none 0 0 ∧ s5 = .int .i64 0 ∧ wx = w)
  case atStart => exact ⟨rfl, rfl, rfl⟩
  case round =>
    obtain ⟨rfl, rfl, rfl⟩ := hrel
    go_wp2_with (at_builtin; refine wpList_append_own _ rfl (.tmp 55) (.tmp 59) 72 rfl wr.heap.size 98 i0 _ 4 48 Tryd.underlying72 hi hz0 hz1 hz2 rfl (by decide) _ 0 [] rfl ((World.ownsRow_nil _ _ _ _).alloc _) ⟨wr.heap.size, 0, none⟩ 1 1 [.int .i64 4, .string ⟨#[]⟩, .complex .f64 0 0, .int .i64 0] rfl rfl ?c1 ?c2 ?c3 ?c4 ?c5 ?_)
    case c1 =>
      intro j u hj
      match j, hj with
      | 0, hj => simp at hj; subst hj; simp [Addr.add]
      | 1, hj => simp at hj; subst hj; simp [Addr.add]
      | 2, hj => simp at hj; subst hj; simp [Addr.add]
      | 3, hj => simp at hj; subst hj; simp [Addr.add]
    case c2 => intro u hu; simp at hu; rcases hu with rfl | rfl | rfl | rfl <;> rfl
    case c3 => unfold maxLen; simp
    case c4 => simp
    case c5 => simp
    intro v' w1 hown' hgrow _
    have hown2 : w1.ownsRow wr.heap.size 98 4 v' 1 [Value.int .i64 4, .string ⟨#[]⟩, .complex .f64 0 0, .int .i64 0] := by simpa using hown'
    rw [show [Value.int .i64 4, .string ⟨#[]⟩, .complex .f64 0 0, .int .i64 0] = cellsM ⟨4, [], (0, 0), 0⟩ from cells_plain 4 ⟨#[]⟩ 0] at hown2
    have HO1 := Lib.hid hown2
    have HB1 := Lib.hid ((below_alloc wr _).grown hgrow (below_alloc wr _).size (fun k hk => by simp [Value.ownBlock] at hk))
    clear hown' hgrow hown2
    go_wp2_with fail
    go_ret2
    exact ⟨Or.inl ⟨_, _, scan_nil 0, rfl, HO1.out⟩, HB1.out⟩
/-- the reference's Marks, at every text of at most 2^24 bytes -/
theorem refmarks_any (p : Option Addr) (c : Nat) (t : List UInt8) (hnc : t.length ≤ c) (hb : t.length ≤ 16777216) (w : World) (hT : Txt w p t) :
    Calls Tryd.prog 25 #[.slice p t.length c] w fun e w' => RefR w (scan t 0) e w' ∧ Below w.heap.size w w' := by
  by_cases ht : t = []
  · subst ht; exact refmarks_none p c w
  · obtain ⟨b, o, rfl, hc⟩ := hT ht
    exact refmarks_some b o t.length c t rfl hnc hb w hc
end Go.Proofs.YtgddkgbidhhheaaDoor
