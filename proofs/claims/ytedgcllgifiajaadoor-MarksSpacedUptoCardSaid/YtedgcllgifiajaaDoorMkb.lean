/- What width and word of the package marks answer. -/
import Derived.Test.YtedgcllgifiajaaDoorMka
namespace Go.Proofs.YtedgcllgifiajaaDoor
open Go.RowKit Flo Mk
theorem ba_list {a : ByteArray} {l : List UInt8} (h : a.data.toList = l) : a = ⟨l.toArray⟩ := by
  apply ByteArray.ext; apply Array.toList_inj.1; simpa using h
theorem Keep.alloc4 {W X : World} {l : List (Nat × Nat × Value)} {k : Nat} (a b c d : Value) (T : TypeId) (hk : X.heap.size = k) (h : Keep W l X) : Keep W ((k, 0, a) :: (k, 1, b) :: (k, 2, c) :: (k, 3, d) :: l) (X.alloc (.cells #[a, b, c, d] T)) := by
  subst hk
  exact ⟨⟨by simp [go_sem], by simp, by simp [go_sem], by simp, by simp [go_sem], by simp, by simp [go_sem], by simp, (h.alloc _).1⟩, (h.alloc _).2⟩
abbrev signS : ByteArray := ⟨#[40, 41, 44, 58, 59, 61, 43, 45, 42, 47, 60, 124]⟩
theorem sign_at (c : UInt8) : decide (0 ≤ Lib.indexByte signS.data.toList c) = sign1 c := by
  refine u8_all (p := fun c => decide (0 ≤ Lib.indexByte signS.data.toList c) = sign1 c) ?_ c
  decide +kernel
set_option maxHeartbeats 4000000 in
theorem width_any (s : ByteArray) (c : UInt8) (r : List UInt8) (hs : s.data.toList = c :: r) (hl : s.size ≤ 2) (w : World) :
    Calls Tryd.prog 20 #[.string s] w fun e w' => e = .returned (.int .i64 (signL (c :: r) : Int)) ∧ w = w' := by
  have hsz : s.size = r.length + 1 := by rw [Lib.size_eq, hs]; rfl
  have hpos : 0 < s.size := by omega
  have hx : s.extract 0 1 = ⟨#[c]⟩ := by
    apply ByteArray.ext; apply Array.toList_inj.1
    rw [Lib.extract_eq, hs]; rfl
  have e1 : (s.toList == [45, 62]) = (c == 45 && r.head? == some 62) := by
    rw [Lib.toList_data, hs]
    cases r with
    | nil => simp
    | cons d u =>
      cases u with
      | nil => simp [List.cons_beq_cons]
      | cons _ _ => simp only [List.length_cons] at hsz; omega
  have e2 : (s.toList == [61, 61]) = (c == 61 && r.head? == some 61) := by
    rw [Lib.toList_data, hs]
    cases r with
    | nil => simp
    | cons d u =>
      cases u with
      | nil => simp [List.cons_beq_cons]
      | cons _ _ => simp only [List.length_cons] at hsz; omega
  obtain ⟨b1, hb1⟩ : ∃ b, (c == 45 && r.head? == some 62) = b := ⟨_, rfl⟩
  obtain ⟨b2, hb2⟩ : ∃ b, (c == 61 && r.head? == some 61) = b := ⟨_, rfl⟩
  have HS : Hid ((signL (c :: r) : Int) = if b1 || b2 then 2 else if sign1 c then 1 else 0) := Lib.hid (by
    show ((if _ then 2 else if _ then 1 else 0 : Nat) : Int) = _
    rw [hb1, hb2]
    split
    · rfl
    · split <;> rfl)
  obtain ⟨n, hn⟩ : ∃ n : Int, (signL (c :: r) : Int) = n := ⟨_, rfl⟩
  obtain ⟨q, hq⟩ : ∃ q, sign1 c = q := ⟨_, rfl⟩
  have hC := Tryd.strings_Contains_one signS c w
  rw [sign_at, hq] at hC
  have HC := Lib.hid hC
  rw [hb1] at e1; rw [hb2] at e2; rw [hq, hn] at HS; rw [hn]
  clear hb1 hb2 hq hC hn hs hl hsz
  cases b1 <;> cases b2 <;> cases q
  all_goals
    go_enter Tryd.func20, Tryd.ntmps20
    go_wp2_with (go_at_call 27; refine HC.out.mono ?_; rintro e w' ⟨rfl, rfl⟩)
    go_ret
    exact ⟨ret2 (congrArg (Value.int .i64) (by rw [HS.out]; rfl)), rfl⟩
theorem Spc.below' {w w' : World} (h : Spc w) (hb : Below w.heap.size w w') : Spc w' :=
  Joins.tab_stays (show Tryd.prog.globalNamed "strings.asciiSpace" = some 0 by kernel_rfl) h hb (Nat.le_refl _)
abbrev markV (k : Nat) (s : ByteArray) (a b at' : Nat) : Value := .agg #[.int .i64 (k : Int), .string s, .complex .f64 a b, .int .i64 (at' : Int)]
theorem ba_get (s : ByteArray) (i : Nat) (h : i < s.size) : s.data.toList[i]? = some (s[i]'h) := by
  rw [Array.getElem?_toList, Array.getElem?_eq_getElem (by simpa using h)]; rfl
/-- what word answers: a mark, or none -/
def WordR (s : ByteArray) (at' : Nat) (e : Ending) : Prop :=
  (∃ m, wordM s.data.toList at' = some m ∧ e = .returned (.tuple #[aggM m, .bool true])) ∨
  (wordM s.data.toList at' = none ∧ ∃ k a b, e = .returned (.tuple #[markV k s a b at', .bool false]))
theorem zero00 : W 0 = 0 := by decide +kernel
set_option maxHeartbeats 4000000 in
set_option maxRecDepth 100000 in
theorem word_any (s : ByteArray) (c : UInt8) (r : List UInt8) (hs : s.data.toList = c :: r) (hz : s.size ≤ 140737488351232) (at' : Nat) (w : World) (hI : Inv w) (hT : Spc w) :
    Calls Tryd.prog 19 #[.string s, .int .i64 (at' : Int)] w fun e w' => WordR s at' e ∧ Below w.heap.size w w' := by
  have hsz : s.size = r.length + 1 := by rw [Lib.size_eq, hs]; rfl
  have hpos : 0 < s.size := by omega
  have h0 : s[0]'hpos = c := by
    have := ba_get s 0 hpos
    rw [hs] at this; exact (Option.some.inj this).symm
  have hc := c.toNat_lt
  have HD := Lib.hid (fun w => digit_any c w)
  have HG := Lib.hid (fun w (h : Inv w) => gparse_any s hz w h)
  have HR := Lib.hid (fun w (h : Spc w) => reserved_any s w h)
  have HI := Lib.hid hI
  have HT := Lib.hid hT
  have HL := Lib.hid hs
  clear hI hT hz hs hsz
  obtain ⟨d, hd⟩ : ∃ d, digB c = d := ⟨_, rfl⟩
  rw [hd] at HD
  cases d
  · clear HG
    obtain ⟨q, hq⟩ : ∃ q, decide (s.data.toList ∈ resv) = q := ⟨_, rfl⟩
    rw [hq] at HR
    have hnd : ¬ (s.data.toList.head?.map digB) = some true := by
      rw [HL.out]; show ¬ some (digB c) = some true; rw [hd]; simp
    cases q
    · have h95 : ((c.toNat : Int) == 95) = (c == 95) := by
        refine u8_all (p := fun c => ((c.toNat : Int) == 95) = (c == 95)) ?_ c
        decide +kernel
      have HW : Hid (wordM s.data.toList at' = if c = 95 then none else some ⟨0, s.data.toList, (0, 0), at'⟩) := Lib.hid (by
        unfold wordM
        rw [if_neg hnd, if_neg (of_decide_eq_false hq), HL.out]
        by_cases h : c = 95
        · rw [if_pos h, if_pos (by rw [h]; rfl)]
        · rw [if_neg h, if_neg (show ¬ (c :: r).head? = some 95 from fun e => h (Option.some.inj e))])
      have HM : Hid (aggM ⟨0, s.data.toList, (0, 0), at'⟩ = markV 0 s 0 0 at') := Lib.hid (by
        show Value.agg #[_, .string ⟨s.data.toList.toArray⟩, .complex .f64 (W 0) (W 0), _] = _
        rw [← ba_list (rfl : s.data.toList = s.data.toList), zero00])
      clear hd hq hnd
      go_enter Tryd.func19, Tryd.ntmps19
      go_wp2_with fail
      refine (HD.out _).mono ?_; rintro e w' ⟨rfl, rfl⟩
      go_wp2_with fail
      refine (HR.out _ (HT.out.below' (below_alloc w _))).mono ?_; rintro e w' ⟨rfl, rfl⟩
      go_wp2_with fail
      go_region
      go_wp2_with fail
      refine bodyPost_ret (v := .tuple #[markV 0 s 0 0 at', .bool ((c.toNat : Int) != 95)]) (by simp [results, Tryd.results19, go_sem]) rfl ⟨?_, by repeat (first | exact Below.refl _ _ | refine Below.setCell ?_ (Nat.le_refl _) _ | refine Below.drew ?_ | refine Go.below_drewN ?_ _ | refine Below.alloc ?_ (by simp <;> omega) _)⟩
      show WordR s at' (.returned (.tuple #[_, .bool (!((c.toNat : Int) == 95))]))
      rw [h95]
      by_cases h : c = 95
      · refine Or.inr ⟨by rw [HW.out, if_pos h], 0, 0, 0, ?_⟩
        rw [beq_iff_eq.2 h]; rfl
      · refine Or.inl ⟨_, by rw [HW.out, if_neg h], ?_⟩
        rw [beq_eq_false_iff_ne.2 h, HM.out]; rfl
    · have HW : Hid (wordM s.data.toList at' = some ⟨1, s.data.toList, (0, 0), at'⟩) := Lib.hid (by
        unfold wordM
        rw [if_neg hnd, if_pos (of_decide_eq_true hq)])
      have HM : Hid (aggM ⟨1, s.data.toList, (0, 0), at'⟩ = markV 1 s 0 0 at') := Lib.hid (by
        show Value.agg #[_, .string ⟨s.data.toList.toArray⟩, .complex .f64 (W 0) (W 0), _] = _
        rw [← ba_list (rfl : s.data.toList = s.data.toList), zero00])
      clear hd hq hnd
      go_enter Tryd.func19, Tryd.ntmps19
      go_wp2_with fail
      refine (HD.out _).mono ?_; rintro e w' ⟨rfl, rfl⟩
      go_wp2_with fail
      refine (HR.out _ (HT.out.below' (below_alloc w _))).mono ?_; rintro e w' ⟨rfl, rfl⟩
      go_wp2_with fail
      exact bodyPost_ret (v := .tuple #[markV 1 s 0 0 at', .bool true]) (by simp [results, Tryd.results19, go_sem]) rfl ⟨Or.inl ⟨_, HW.out, by rw [HM.out]⟩, by repeat (first | exact Below.refl _ _ | refine Below.setCell ?_ (Nat.le_refl _) _ | refine Below.drew ?_ | refine Go.below_drewN ?_ _ | refine Below.alloc ?_ (by simp <;> omega) _)⟩
  · obtain ⟨x, hx⟩ : ∃ x, refParse s.data.toList = x := ⟨_, rfl⟩
    have HX : Hid (refParse s.data.toList = x) := Lib.hid hx
    rw [hx] at HG
    have HW : Hid (wordM s.data.toList at' = x.map (fun p => ⟨2, s.data.toList, p, at'⟩)) := Lib.hid (by
      unfold wordM
      rw [if_pos (by rw [HL.out]; show some (digB c) = some true; rw [hd]), hx])
    clear hx hd
    cases x with
    | none =>
      go_enter Tryd.func19, Tryd.ntmps19
      go_wp2_with fail
      refine (HD.out _).mono ?_; rintro e w' ⟨rfl, rfl⟩
      go_wp2_with fail
      refine (HG.out _ (HI.out.below (below_alloc w _))).mono ?_; rintro e w1 ⟨he, hb1⟩
      rw [show parseA none = .tuple #[.complex .f64 0 0, .int .i64 10] from rfl] at he
      subst he
      have K1 : Keep w [(w.heap.size, 0, .int .i64 0), (w.heap.size, 1, .string ⟨#[]⟩), (w.heap.size, 2, .complex .f64 0 0), (w.heap.size, 3, .int .i64 0)] w1 := Keep.below hb1 (Keep.alloc4 (k := w.heap.size) _ _ _ _ 36 (by simp) (Keep.start w))
      have F1 : ∀ o, w1.frozen? ⟨w.heap.size, o, none⟩ = false := fun o => (hb1.frozen (p := ⟨w.heap.size, o, none⟩) (by simp <;> omega)).trans (by simp [go_sem])
      clear hb1
      obtain ⟨⟨k0, z0, k1, z1, k2, z2, k3, z3, _⟩, hB⟩ := id K1
      clear hB
      go_wp2_with fail
      exact bodyPost_ret (v := .tuple #[markV 2 s 0 0 at', .bool false]) (by simp [results, Tryd.results19, go_sem, k0, k1, k2, k3]) rfl ⟨Or.inr ⟨by rw [HW.out]; rfl, _, _, _, rfl⟩, ((((And.right K1).setCell (p := ⟨w.heap.size, 0, none⟩) (Nat.le_refl _) _).setCell (p := ⟨w.heap.size, 1, none⟩) (Nat.le_refl _) _).setCell (p := ⟨w.heap.size, 2, none⟩) (Nat.le_refl _) _).setCell (p := ⟨w.heap.size, 3, none⟩) (Nat.le_refl _) _⟩
    | some p =>
      obtain ⟨x, y⟩ := p
      have HM : Hid (aggM ⟨2, s.data.toList, (x, y), at'⟩ = markV 2 s (W x) (W y) at') := Lib.hid (by
        show Value.agg #[_, .string ⟨s.data.toList.toArray⟩, _, _] = _
        rw [← ba_list (rfl : s.data.toList = s.data.toList)])
      obtain ⟨a, ha⟩ : ∃ a, W x = a := ⟨_, rfl⟩
      obtain ⟨b, hb⟩ : ∃ b, W y = b := ⟨_, rfl⟩
      rw [ha, hb] at HM
      go_enter Tryd.func19, Tryd.ntmps19
      go_wp2_with fail
      refine (HD.out _).mono ?_; rintro e w' ⟨rfl, rfl⟩
      go_wp2_with fail
      refine (HG.out _ (HI.out.below (below_alloc w _))).mono ?_; rintro e w1 ⟨he, hb1⟩
      rw [show parseA (some (x, y)) = .tuple #[.complex .f64 (W x) (W y), .int .i64 0] from rfl, ha, hb] at he
      subst he
      clear ha hb
      have K1 : Keep w [(w.heap.size, 0, .int .i64 0), (w.heap.size, 1, .string ⟨#[]⟩), (w.heap.size, 2, .complex .f64 0 0), (w.heap.size, 3, .int .i64 0)] w1 := Keep.below hb1 (Keep.alloc4 (k := w.heap.size) _ _ _ _ 36 (by simp) (Keep.start w))
      have F1 : ∀ o, w1.frozen? ⟨w.heap.size, o, none⟩ = false := fun o => (hb1.frozen (p := ⟨w.heap.size, o, none⟩) (by simp <;> omega)).trans (by simp [go_sem])
      clear hb1
      obtain ⟨⟨k0, z0, k1, z1, k2, z2, k3, z3, _⟩, hB⟩ := id K1
      clear hB
      go_wp2_with fail
      exact bodyPost_ret (v := .tuple #[markV 2 s a b at', .bool true]) (by simp [results, Tryd.results19, go_sem, k0, k1, k2, k3]) rfl ⟨Or.inl ⟨_, HW.out, by rw [HM.out]⟩, ((((And.right K1).setCell (p := ⟨w.heap.size, 0, none⟩) (Nat.le_refl _) _).setCell (p := ⟨w.heap.size, 1, none⟩) (Nat.le_refl _) _).setCell (p := ⟨w.heap.size, 2, none⟩) (Nat.le_refl _) _).setCell (p := ⟨w.heap.size, 3, none⟩) (Nat.le_refl _) _⟩
end Go.Proofs.YtedgcllgifiajaaDoor
