/- The mark with which a text begins, as the reference reads it. -/
import Derived.Test.YtedgcllgifiajaaGreatDoorRmb
import Derived.Test.YtedgcllgifiajaaGreatDoorRparse
import Derived.Test.YtedgcllgifiajaaGreatDoorRmw
import Derived.Lib.SlBytesConst
namespace Go.Proofs.YtedgcllgifiajaaGreatDoor
open Go.RowKit Flo Mk
/-- the two boxes of 'one': the answer's, and the mark's -/
structure BoxO (w X : World) (m0 m1 m2 m3 : Value) : Prop where
  below : Below w.heap.size w X
  r0 : X.cell? ⟨w.heap.size, 0, none⟩ = some (.int .i64 0)
  r1 : X.cell? ⟨w.heap.size, 1, none⟩ = some (.string ⟨#[]⟩)
  r2 : X.cell? ⟨w.heap.size, 2, none⟩ = some (.complex .f64 0 0)
  r3 : X.cell? ⟨w.heap.size, 3, none⟩ = some (.int .i64 0)
  rf : ∀ o, X.frozen? ⟨w.heap.size, o, none⟩ = false
  m0 : X.cell? ⟨w.heap.size + 1, 0, none⟩ = some m0
  m1 : X.cell? ⟨w.heap.size + 1, 1, none⟩ = some m1
  m2 : X.cell? ⟨w.heap.size + 1, 2, none⟩ = some m2
  m3 : X.cell? ⟨w.heap.size + 1, 3, none⟩ = some m3
  mf : ∀ o, X.frozen? ⟨w.heap.size + 1, o, none⟩ = false
  size : w.heap.size + 2 ≤ X.heap.size
theorem BoxO.on {w X Y : World} {m0 m1 m2 m3 : Value} (h : BoxO w X m0 m1 m2 m3) (hb : Below X.heap.size X Y) : BoxO w Y m0 m1 m2 m3 := by
  have hs := h.size
  have c0 : ∀ k, Y.cell? ⟨w.heap.size, k, none⟩ = X.cell? ⟨w.heap.size, k, none⟩ := fun k => hb.cell (p := ⟨w.heap.size, k, none⟩) (by show w.heap.size < _; omega)
  have c1 : ∀ k, Y.cell? ⟨w.heap.size + 1, k, none⟩ = X.cell? ⟨w.heap.size + 1, k, none⟩ := fun k => hb.cell (p := ⟨w.heap.size + 1, k, none⟩) (by show w.heap.size + 1 < _; omega)
  exact ⟨h.below.trans (hb.mono h.below.size), (c0 0).trans h.r0, (c0 1).trans h.r1, (c0 2).trans h.r2, (c0 3).trans h.r3,
    fun o => (hb.frozen (p := ⟨w.heap.size, o, none⟩) (by show w.heap.size < _; omega)).trans (h.rf o),
    (c1 0).trans h.m0, (c1 1).trans h.m1, (c1 2).trans h.m2, (c1 3).trans h.m3,
    fun o => (hb.frozen (p := ⟨w.heap.size + 1, o, none⟩) (by show w.heap.size + 1 < _; omega)).trans (h.mf o), by have := hb.size; omega⟩
theorem BoxO.start (w : World) (S : ByteArray) (a : Int) : BoxO w ((w.alloc (.cells #[.int .i64 0, .string ⟨#[]⟩, .complex .f64 0 0, .int .i64 0] 37)).alloc (.cells #[.int .i64 0, .string S, .complex .f64 0 0, .int .i64 a] 37)) (.int .i64 0) (.string S) (.complex .f64 0 0) (.int .i64 a) := by
  refine ⟨((Below.refl _ _).alloc (Nat.le_refl _) _).alloc (by simp) _, ?_, ?_, ?_, ?_, ?_, ?_, ?_, ?_, ?_, ?_, by simp⟩
  all_goals first | (intro o; simp [go_sem]; done) | (simp [go_sem]; done)
theorem BoxO.set {w X : World} {m0 m1 m2 m3 : Value} (h : BoxO w X m0 m1 m2 m3) (k : Nat) (v : Value) (hk : k < 4) :
    BoxO w (X.setCell ⟨w.heap.size + 1, k, none⟩ v) (if k = 0 then v else m0) (if k = 1 then v else m1) (if k = 2 then v else m2) (if k = 3 then v else m3) := by
  obtain ⟨hb, r0, r1, r2, r3, rf, k0, k1, k2, k3, mf, size⟩ := h
  refine ⟨hb.setCell (p := ⟨w.heap.size + 1, k, none⟩) (Nat.le_succ _) _, ?_, ?_, ?_, ?_, ?_, ?_, ?_, ?_, ?_, ?_, by simpa [World.setCell] using size⟩
  · simp [go_sem, r0]
  · simp [go_sem, r1]
  · simp [go_sem, r2]
  · simp [go_sem, r3]
  · intro o; simp [go_sem, rf]
  · rcases (show k = 0 ∨ k = 1 ∨ k = 2 ∨ k = 3 by omega) with rfl | rfl | rfl | rfl <;> simp [go_sem, k0]
  · rcases (show k = 0 ∨ k = 1 ∨ k = 2 ∨ k = 3 by omega) with rfl | rfl | rfl | rfl <;> simp [go_sem, k1]
  · rcases (show k = 0 ∨ k = 1 ∨ k = 2 ∨ k = 3 by omega) with rfl | rfl | rfl | rfl <;> simp [go_sem, k2]
  · rcases (show k = 0 ∨ k = 1 ∨ k = 2 ∨ k = 3 by omega) with rfl | rfl | rfl | rfl <;> simp [go_sem, k3]
  · intro o; simp [go_sem, mf]
/-- what 'one' answers -/
def OneR (l : List UInt8) (a : Nat) (e : Ending) : Prop :=
  (∃ m, one l a = some m ∧ e = .returned (.tuple #[aggM m, .bool true])) ∨
  (one l a = none ∧ ∃ k s x y at', e = .returned (.tuple #[markV k s x y at', .bool false]))
set_option maxHeartbeats 16000000 in
set_option maxRecDepth 100000 in
theorem refone_run (b o n c a : Nat) (t : List UInt8) (hn : t.length = n) (hnc : n ≤ c) (hb : n ≤ 16777216) (ha : a < n) (w : World) (hT : ∀ j x, t[j]? = some x → w.cell? ⟨b, o + j, none⟩ = some (.int .u8 (x.toNat : Int))) (x : UInt8) (hx : t[a]? = some x) (hr : runB x = true) :
    Calls Tryz.prog 14 #[.slice (some ⟨b, o, none⟩) n c, .int .i64 (a : Int)] w fun e w' => OneR (t.drop a) a e ∧ Below w.heap.size w w' := by
  obtain ⟨r, hrl⟩ : ∃ r, ((t.drop a).takeWhile runB).length = r := ⟨_, rfl⟩
  have hdr := drop_cons hx
  have hr0 : 0 < r := by rw [← hrl, hdr, List.takeWhile_cons, if_pos hr]; simp
  have hrn : a + r ≤ n := by
    have h := tw_len runB (t.drop a)
    rw [hrl, List.length_drop, hn] at h; omega
  obtain ⟨S, hSd⟩ : ∃ S : ByteArray, S.data.toList = (t.drop a).takeWhile runB := ⟨⟨((t.drop a).takeWhile runB).toArray⟩, by simp⟩
  have hST : S.data.toList = (t.drop a).take r := by rw [hSd, ← hrl, tw_take]
  have hOne : one (t.drop a) a = wordM S.data.toList a := by
    unfold one
    rw [if_pos (by rw [hdr]; show some (runB x) = _; rw [hr]), hSd]
  have hhd : S.data.toList.head? = some x := by rw [hSd, hdr, List.takeWhile_cons, if_pos hr]; rfl
  have hQ := fun W hW => refrun_any b o n c a t hn hb (Nat.le_of_lt ha) W hW
  rw [hrl] at hQ
  have rd0 : ∀ o', ∀ j y, t[j]? = some y → (w.alloc o').cell? ⟨b, o + j, none⟩ = some (.int .u8 (y.toNat : Int)) := fun o' j y hj => Lib.cell?_alloc_marked o' (hT j y hj)
  have hcv := fun o' => conv_txt (w.alloc o') b (o + a) r (c - a) S (by rw [hSd]; exact hrl) (fun j y hy => by
    rw [hST, List.getElem?_take] at hy
    split at hy
    · rw [List.getElem?_drop] at hy
      have := rd0 o' _ y hy
      rw [← Nat.add_assoc] at this; exact this
    · cases hy)
  have hcx := hT a x hx
  have hcx2 : ∀ o1 o2, ((w.alloc o1).alloc o2).cell? ⟨b, o + a, none⟩ = some (.int .u8 (x.toNat : Int)) := fun o1 o2 => Lib.cell?_alloc_marked o2 (Lib.cell?_alloc_marked o1 hcx)
  have haz : (a : Int) < (n : Int) := by omega
  have hrz : (0 : Int) < (r : Int) := by omega
  have hSl : S.size ≤ 140737488351232 := by rw [Lib.size_eq, hSd, hrl]; omega
  have HST := Lib.hid (BoxO.start w S (a : Int))
  have HQ := Lib.hid hQ
  have HRD := Lib.hid rd0
  have HO := Lib.hid hOne
  have HHD := Lib.hid hhd
  have HSL := Lib.hid hSl
  have HD := Lib.hid (fun w => refdigit_any x w)
  have h95 : ((x.toNat : Int) == 95) = (x == 95) := eqb x 95
  clear hQ rd0 hOne hhd hSl hSd hST hdr hrl hT hx hn
  obtain ⟨d, hd⟩ : ∃ d, digB x = d := ⟨_, rfl⟩
  rw [hd] at HD
  obtain ⟨u, hu⟩ : ∃ u, (x == 95) = u := ⟨_, rfl⟩
  rw [hu] at h95
  cases d
  · cases u
    · have hx95 : ¬ x = 95 := fun h => by rw [h] at hu; cases hu
      obtain ⟨q, hq⟩ : ∃ q, decide (S.data.toList ∈ resv) = q := ⟨_, rfl⟩
      have HRV := Lib.hid (fun w => refreserved_any S w)
      rw [hq] at HRV
      have hnd : ¬ (S.data.toList.head?.map digB) = some true := by
        rw [HHD.out]; show ¬ some (digB x) = some true; rw [hd]; simp
      have hw : wordM S.data.toList a = some ⟨if q then 1 else 0, S.data.toList, (0, 0), a⟩ := by
        unfold wordM
        rw [if_neg hnd]
        cases q with
        | true => rw [if_pos (of_decide_eq_true hq)]; rfl
        | false => rw [if_neg (of_decide_eq_false hq), if_neg (by rw [HHD.out]; exact fun e => hx95 (Option.some.inj e))]; rfl
      have HW := Lib.hid (HO.out.trans hw)
      clear hd hu hx95 hnd hw hq
      have HM : ∀ k : Nat, Hid (aggM ⟨k, S.data.toList, (0, 0), a⟩ = markV k S 0 0 a) := fun k => Lib.hid (by
        show Value.agg #[_, .string ⟨S.data.toList.toArray⟩, .complex .f64 (W 0) (W 0), _] = _
        rw [← ba_list (rfl : S.data.toList = S.data.toList), zero00])
      have HM0 := HM 0
      have HM1 := HM 1
      clear HM
      cases q
      all_goals
        go_enter Tryz.func14, Tryz.ntmps14
        go_wp2_with fail
        refine (HQ.out _ (HRD.out _)).mono ?_; rintro e w' ⟨rfl, rfl⟩
        go_wp2_with (go_at_call 21; refine (HD.out _).mono ?_; rintro e w' ⟨rfl, rfl⟩)
        refine (HRV.out _).mono ?_; rintro e w2 ⟨rfl, hb2⟩
        have BX := Lib.hid (HST.out.on hb2)
        obtain ⟨-, r0, r1, r2, r3, rf, k0, k1, k2, k3, mf, -⟩ := HST.out.on hb2
        clear hb2
        go_wp2_with fail
      · exact bodyPost_ret (v := .tuple #[markV 0 S 0 0 a, .bool true]) (by simp [results, Tryz.results14, go_sem, r0, r1, r2, r3]) rfl ⟨Or.inl ⟨_, HW.out, by rw [← HM0.out]; rfl⟩, by
          repeat (first | exact BX.out.below | refine Below.setCell ?_ (by first | exact Nat.le_refl _ | exact Nat.le_succ _) _)⟩
      · exact bodyPost_ret (v := .tuple #[markV 1 S 0 0 a, .bool true]) (by simp [results, Tryz.results14, go_sem, r0, r1, r2, r3]) rfl ⟨Or.inl ⟨_, HW.out, by rw [← HM1.out]; rfl⟩, by
          repeat (first | exact BX.out.below | refine Below.setCell ?_ (by first | exact Nat.le_refl _ | exact Nat.le_succ _) _)⟩
    · have HN : Hid (one (t.drop a) a = none) := Lib.hid (by
        rw [HO.out]
        unfold wordM
        rw [HHD.out]
        have hx95 : x = 95 := beq_iff_eq.1 hu
        rw [if_neg (by show ¬ some (digB x) = some true; rw [hd]; simp), if_neg, if_pos (by rw [hx95])]
        intro hm
        have h1 := (resv_head _ hm).1
        have hall : ∀ l ∈ resv, l.head? ≠ some 95 := by decide
        exact hall _ hm (by rw [HHD.out, hx95]))
      clear hd hu
      go_enter Tryz.func14, Tryz.ntmps14
      go_wp2_with fail
      refine (HQ.out _ (HRD.out _)).mono ?_; rintro e w' ⟨rfl, rfl⟩
      go_wp2_with (go_at_call 21; refine (HD.out _).mono ?_; rintro e w' ⟨rfl, rfl⟩)
      exact bodyPost_ret (v := .tuple #[markV 0 S 0 0 a, .bool false]) (by simp [results, Tryz.results14, go_sem]) rfl ⟨Or.inr ⟨HN.out, _, _, _, _, _, rfl⟩, by repeat (first | exact Below.refl _ _ | refine Below.setCell ?_ (by first | exact Nat.le_refl _ | exact Nat.le_succ _) _ | refine Below.drew ?_ | refine Go.below_drewN ?_ _ | refine Below.alloc ?_ (by simp <;> omega) _)⟩
  · obtain ⟨p, hp⟩ : ∃ p, refParse S.data.toList = p := ⟨_, rfl⟩
    have HP := Lib.hid (fun w => refParse_any S HSL.out w)
    rw [hp] at HP
    have hw : wordM S.data.toList a = p.map (fun p => ⟨2, S.data.toList, p, a⟩) := by
      unfold wordM
      rw [if_pos (by rw [HHD.out]; show some (digB x) = some true; rw [hd]), hp]
    have HW := Lib.hid (HO.out.trans hw)
    have HZ := Lib.hid refZ_any
    clear hd hu hw hp
    obtain ⟨X, Y, er, hv, hcase⟩ : ∃ (X Y er : Int), refA p = .tuple #[.agg #[.int .i64 X, .int .i64 Y], .int .i64 er] ∧ ((p = some (X, Y) ∧ er = 0) ∨ (p = none ∧ er = 10)) := by
      cases p with
      | none => exact ⟨0, 0, 10, rfl, Or.inr ⟨rfl, rfl⟩⟩
      | some q => exact ⟨q.1, q.2, 0, rfl, Or.inl ⟨rfl, rfl⟩⟩
    rw [hv] at HP
    have HC := Lib.hid hcase
    clear hv hcase
    go_enter Tryz.func14, Tryz.ntmps14
    go_wp2_with fail
    refine (HQ.out _ (HRD.out _)).mono ?_; rintro e w' ⟨rfl, rfl⟩
    go_wp2_with (go_at_call 21; refine (HD.out _).mono ?_; rintro e w' ⟨rfl, rfl⟩)
    refine (HP.out _).mono ?_; rintro e w2 ⟨rfl, hb2⟩
    have B0 := HST.out.on hb2
    have B1 := B0.on (below_alloc w2 (.cells #[.int .i64 X, .int .i64 Y] 53))
    have B2 : BoxO w ((w2.alloc (.cells #[.int .i64 X, .int .i64 Y] 53)).setCell ⟨w.heap.size + 1, 0, none⟩ (.int .i64 2)) (.int .i64 2) (.string S) (.complex .f64 0 0) (.int .i64 (a : Int)) := B1.set 0 (.int .i64 2) (by decide)
    have HB2 := Lib.hid B2
    have hn1 : ¬ (w2.heap.size = w.heap.size + 1) := by have := B0.size; omega
    have hn2 : ¬ (w.heap.size + 1 = w2.heap.size) := by have := B0.size; omega
    obtain ⟨-, r0, r1, r2, r3, rf, k0, k1, k2, k3, mf, hsz⟩ := B1
    clear hb2 B0 B2
    go_wp2_with fail
    refine (HZ.out X Y _).mono ?_; rintro e w3 ⟨rfl, hb3⟩
    have B3 := HB2.out.on hb3
    have HB3 := Lib.hid B3
    clear hb3 r0 r1 r2 r3 rf k0 k1 k2 k3 mf hsz hn1 hn2
    obtain ⟨-, r0, r1, r2, r3, rf, k0, k1, k2, k3, mf, hsz⟩ := B3
    obtain ⟨u1, hu1⟩ : ∃ u1, W X = u1 := ⟨_, rfl⟩
    obtain ⟨u2, hu2⟩ : ∃ u2, W Y = u2 := ⟨_, rfl⟩
    rw [hu1, hu2]
    have HU := Lib.hid (And.intro hu1 hu2)
    clear hu1 hu2
    rcases HC.out with ⟨rfl, rfl⟩ | ⟨rfl, rfl⟩
    · go_wp2_with fail
      refine bodyPost_ret (v := .tuple #[markV 2 S u1 u2 a, .bool true]) (by simp [results, Tryz.results14, go_sem, r0, r1, r2, r3]) rfl ⟨Or.inl ⟨_, HW.out, ?_⟩, by
          repeat (first | exact HB3.out.below | refine Below.setCell ?_ (by first | exact Nat.le_refl _ | exact Nat.le_succ _) _)⟩
      obtain ⟨hu1, hu2⟩ := HU.out
      show _ = Ending.returned (.tuple #[.agg #[_, .string ⟨S.data.toList.toArray⟩, .complex .f64 (W X) (W Y), _], _])
      rw [← ba_list (rfl : S.data.toList = S.data.toList), hu1, hu2]
    · go_wp2_with fail
      exact bodyPost_ret (v := .tuple #[markV 2 S u1 u2 a, .bool false]) (by simp [results, Tryz.results14, go_sem, r0, r1, r2, r3]) rfl ⟨Or.inr ⟨HW.out, _, _, _, _, _, rfl⟩, by
          repeat (first | exact HB3.out.below | refine Below.setCell ?_ (by first | exact Nat.le_refl _ | exact Nat.le_succ _) _)⟩
end Go.Proofs.YtedgcllgifiajaaGreatDoor
