/- The law MarksFaults: its walk. (printed by gen/faults.py) -/
import Derived.Test.YtedgcllgifiajaaDoorChain
import Derived.Deep.RegionHeld3
namespace Go.Proofs.YtedgcllgifiajaaDoor
open Go.RowKit Flo Mk
theorem fault_law {t u : List UInt8} {a : Nat} (h : scan t 0 = .error a) : a < t.length ∧ scan (t ++ [10] ++ u) 0 = .error a ∧ ∃ D : List M, scan (t.take a ++ [10]) 0 = .ok (D ++ [⟨4, [], (0, 0), a + 1⟩]) ∧ scan ((t.take a ++ [10]) ++ u) 0 = fin D (scan u (a + 1)) ∧ (∀ m ∈ D, okM m) ∧ D.length ≤ t.length + 1 := by
  obtain ⟨_, b2⟩ := scan_bad _ _ _ _ (Nat.lt_succ_self _) h
  obtain ⟨ms, hm⟩ := scan_cut _ _ _ _ (Nat.lt_succ_self _) h
  rw [Nat.sub_zero] at hm
  have hl : (t.take a).length = a := by rw [List.length_take]; omega
  refine ⟨by omega, by rw [List.append_assoc]; show scan (t ++ 10 :: u) 0 = _; rw [scan_app u _ t 0 (Nat.lt_succ_self _), h]; rfl, ms.dropLast, ?_, ?_, fun m hx => scan_oks hm m (List.dropLast_subset _ hx), ?_⟩
  · rw [scan_app [] _ (t.take a) 0 (Nat.lt_succ_self _), hm, hl]
    show fin ms.dropLast (scan [] (0 + a + 1)) = _
    rw [scan_nil, Nat.zero_add]; rfl
  · rw [List.append_assoc]
    show scan (t.take a ++ 10 :: u) 0 = _
    rw [scan_app u _ (t.take a) 0 (Nat.lt_succ_self _), hm, hl, Nat.zero_add]; rfl
  · have := scan_len _ _ _ _ (Nat.lt_succ_self _) hm
    rw [List.length_dropLast]; omega
theorem wrap64_id {x : Int} (h1 : -1000000000000 ≤ x) (h2 : x ≤ 1000000000000) : IntKind.i64.wrap x = x := by
  rw [IntKind.wrap_i64]; omega
theorem own_cap {X : World} {B : Nat} {e : TypeId} {k g n cap : Nat} {xs : List Value} (h : X.ownsRow B e k (.slice (some ⟨g, 0, none⟩) n cap) n xs) : n ≤ cap := by
  rcases h.2 with ⟨h1, _⟩ | ⟨g', cap', cur, h1, _, _, h4, _⟩
  · cases h1
  · cases h1; exact h4
set_option maxHeartbeats 16000000 in
set_option maxRecDepth 100000 in
theorem marksFaults_any (p1 p2 : Option Addr) (c1 c2 : Nat) (t u : List UInt8) (h1 : t.length ≤ c1) (_h2 : u.length ≤ c2) (hb1 : t.length ≤ 1048576) (hb2 : u.length ≤ 1048576) (w : World) (T1 : Txt w p1 t) (T2 : Txt w p2 u) (z2 : p2 = none → c2 = 0 ∧ u = []) (hI : Inv w) (hS : Spc w) :
    Calls Tryd.prog 7 #[.slice p1 t.length c1, .slice p2 u.length c2] w fun e w' => e = .returned (.bool true) ∧ Below w.heap.size w w' := by
  have TX1 := Lib.hid T1; have TX2 := Lib.hid T2; have ZZ2 := Lib.hid z2
  have HI := Lib.hid hI; have HS := Lib.hid hS
  have HA := Lib.hid (awake_any w hI hS)
  clear T1 T2 z2 hI hS
  obtain ⟨i0, hi, hz0, hz1, hz2⟩ := info_parts byte_info
  go_enter Tryd.func7, Tryd.ntmps7
  go_wp2_with fail
  refine HA.out.mono ?_; rintro e w1 ⟨rfl, hb⟩
  have B1 := Lib.hid hb; clear hb
  go_wp2_with fail
  refine (marks_any p1 c1 t h1 (by omega) _ (TX1.out.below B1.out) (HI.out.below B1.out) (HS.out.below' B1.out)).mono ?_
  rintro e w2 ⟨hm, hb⟩
  have B2 : Hid (Below w.heap.size w w2) := Lib.hid (B1.out.trans (hb.mono B1.out.size)); clear hb
  rcases hm with ⟨ms, v, hR, rfl, hown⟩ | ⟨a, hR, rfl⟩
  · have hpos : 0 < ms.length := List.length_pos_iff.2 (scan_ne _ _ _ _ (Nat.lt_succ_self _) hR)
    obtain ⟨g, cap, rfl⟩ := Joins.ownsRow_form hown hpos
    have hpz : (0 : Int) < (ms.length : Int) := by omega
    clear hown hR
    go_wp2_with fail
    go_ret
    exact ⟨rfl, B2.out.alloc B2.out.size _⟩
  · obtain ⟨hat, hall, D, hhead, hlast, hokD, hDlen⟩ := fault_law (u := u) hR
    have HR := Lib.hid hR; have HALL := Lib.hid hall; have HHEAD := Lib.hid hhead; have HLAST := Lib.hid hlast; have HOKD := Lib.hid hokD
    clear hR hall hhead hlast hokD
    have hne : t ≠ [] := fun e => by rw [e] at hat; exact Nat.not_lt_zero _ hat
    obtain ⟨b, oo, rfl, hcc⟩ := TX1.out hne
    clear hcc hne
    have haz : (a : Int) < (t.length : Int) := by omega
    have hac : a ≤ c1 := by omega
    have hnl : ¬ t.length ≤ a := by omega
    have K2 := Keep.alloc2 (.int .i64 20) (.int .i64 (a : Int)) 30 (k := w2.heap.size) rfl (show Keep w [] w2 from ⟨trivial, B2.out⟩)
    obtain ⟨⟨f0, y0, f1, y1, _⟩, hB⟩ := id K2
    clear hB
    go_wp2_with (at_builtin; refine wpList_append_txt rfl (.tmp 43) (.tmp 44) 26 rfl (w2.heap.size + 1) 5 i0 _ Tryd.underlying26 hi hz0 hz1 hz2 rfl _ 0 [] rfl (own_empty _ _ (by simp)) _ _ c1 t rfl rfl (fun h => by cases h) (TX1.out.below ((And.right K2).alloc (And.right K2).size _)) ?h1 ?h2 ?_)
    case h1 => omega
    case h2 => simp
    intro v1 w3 hown hgrow _
    have C1 := Ch.first (X0 := w2.alloc (.cells #[.int .i64 20, .int .i64 (a : Int)] 30)) (by simp) hown hgrow
    clear hown hgrow
    go_wp2_with (at_builtin; refine wpList_append_txt rfl (.tmp 45) (.tmp 46) 26 rfl _ 5 i0 _ Tryd.underlying26 hi hz0 hz1 hz2 rfl _ _ t rfl (C1.alloc (.cells #[.int .u8 10] 5)).2 _ _ 1 [10] rfl rfl (fun h => by cases h) (Txt.new _ [10] _ _) (by simp only [List.length_cons, List.length_nil]; omega) (C1.alloc (.cells #[.int .u8 10] 5)).1.size ?_)
    intro v2 w4 hown hgrow _
    have C2 : Ch _ w4 v2 (t ++ [10]) := Ch.app (C1.alloc (.cells #[.int .u8 10] 5)) (by simpa using hown) hgrow
    clear hown hgrow
    go_wp2_with (at_builtin; refine wpList_append_txt rfl (.tmp 47) (.tmp 48) 26 rfl _ 5 i0 _ Tryd.underlying26 hi hz0 hz1 hz2 rfl _ _ (t ++ [10]) rfl (C2).2 p2 _ c2 u rfl rfl ZZ2.out (TX2.out.below (((And.right K2)).trans (C2.1.mono (And.right K2).size))) (by simp only [List.length_append, List.length_cons, List.length_nil]; omega) (C2).1.size ?_)
    intro v3 w5 hown hgrow _
    have C3 : Ch _ w5 v3 (t ++ [10] ++ u) := Ch.app (C2) (by simpa using hown) hgrow
    clear hown hgrow
    obtain ⟨pv, cv, rfl, hcv, hTv, hzv⟩ := C3.shape
    have K3 := Keep.below C3.1 K2
    have HTv := Lib.hid hTv
    clear hTv hzv f0 f1 y0 y1 K2 C1 C2 C3
    go_wp2_with fail
    refine (marks_at pv _ cv (t ++ [10] ++ u) (by simp) (by simpa using hcv) (by omega) _ HTv.out (HI.out.below (And.right K3)) (HS.out.below' (And.right K3))).mono ?_
    rintro e w6 ⟨hm, hb⟩
    have K4 := Keep.below hb K3
    rw [HALL.out] at hm
    rcases hm with ⟨ms, v, hR, rfl, hown⟩ | ⟨a', hR, rfl⟩
    · cases hR
    cases hR
    clear hb K3 HTv hcv
    have K5 := Keep.alloc2 (.int .i64 20) (.int .i64 (a : Int)) 30 (k := w6.heap.size) rfl K4
    clear K4
    obtain ⟨⟨g0, y0, g1, y1, f0, x0, f1, x1, _⟩, hB⟩ := id K5
    have f1' := fun o => Lib.cell?_alloc_marked o f1
    clear hB
    go_wp2_with (at_builtin; refine wpList_append_txt rfl (.tmp 55) (.tmp 59) 26 rfl (w6.heap.size + 1) 5 i0 _ Tryd.underlying26 hi hz0 hz1 hz2 rfl _ 0 [] rfl (own_empty _ _ (by simp)) (some ⟨b, oo, none⟩) _ c1 (t.take a) rfl (by rw [List.length_take]; omega) (fun h => by cases h) ((TX1.out.below ((And.right K5).alloc (And.right K5).size _)).take a) (by simp only [List.length_take]; omega) (by simp) ?_)
    intro v4 w7 hown hgrow _
    have C4 : Ch (w6.alloc (.cells #[.int .i64 20, .int .i64 (a : Int)] 30)) w7 v4 ((t.take a)) := Ch.first (X0 := w6.alloc (.cells #[.int .i64 20, .int .i64 (a : Int)] 30)) (by simp) (by simpa using hown) hgrow
    clear hown hgrow
    go_wp2_with (at_builtin; refine wpList_append_txt rfl (.tmp 60) (.tmp 61) 26 rfl _ 5 i0 _ Tryd.underlying26 hi hz0 hz1 hz2 rfl _ _ (t.take a) rfl (C4.alloc (.cells #[.int .u8 10] 5)).2 _ _ 1 [10] rfl rfl (fun h => by cases h) (Txt.new _ [10] _ _) (by simp only [List.length_cons, List.length_nil, List.length_take]; omega) (C4.alloc (.cells #[.int .u8 10] 5)).1.size ?_)
    intro v5 w8 hown hgrow _
    have C5 : Ch _ w8 v5 (t.take a ++ [10]) := Ch.app (C4.alloc (.cells #[.int .u8 10] 5)) (by simpa using hown) hgrow
    clear hown hgrow
    obtain ⟨p3, c3, rfl, hc3, hT3, hz3⟩ := C5.shape
    have K6 := Keep.below C5.1 K5
    have HT3 := Lib.hid hT3
    have HZ3 := Lib.hid hz3
    clear hT3 hz3 f0 f1 f1' y0 y1 g0 g1 x0 x1 K5 C4 C5
    have htk : (t.take a).length = a := by rw [List.length_take]; omega
    have HTK := Lib.hid htk
    clear htk
    go_wp2_with fail
    refine (marks_at p3 _ c3 (t.take a ++ [10]) (by simp) (by simpa using hc3) (by first | omega | (simp only [List.length_append, List.length_take, List.length_cons, List.length_nil]; omega)) _ HT3.out (HI.out.below (And.right K6)) (HS.out.below' (And.right K6))).mono ?_
    rintro e w9 ⟨hm, hb⟩
    have K7 := Keep.below hb K6
    rw [HHEAD.out] at hm
    rcases hm with ⟨ms, v, hR, rfl, hown⟩ | ⟨a', hR, rfl⟩
    rotate_left
    · cases hR
    cases hR
    obtain ⟨ga, ca, rfl⟩ := Joins.ownsRow_form hown (by simp)
    have RA := Lib.hid (RowAt.take (RowAt.own hown))
    have hca : D.length + 1 ≤ ca := by have := own_cap hown; simpa using this
    have HT4 := Lib.hid (HT3.out.below hb)
    clear hb K6 HT3 hown
    have K8 := Keep.alloc2 (.int .i64 0) (.int .i64 0) 30 (k := w9.heap.size) rfl K7
    obtain ⟨⟨e0, y0, e1, y1, g0, r0, g1, r1, f0, x0, f1, x1, _⟩, hB⟩ := id K8
    clear hB K7
    have hnz : ¬ ((D.length : Int) + 1 = 0) := by omega
    go_wp2_with (at_builtin; refine wpList_append_txt rfl (.tmp 69) (.tmp 70) 26 rfl (w9.heap.size + 1) 5 i0 _ Tryd.underlying26 hi hz0 hz1 hz2 rfl _ 0 [] rfl (own_empty _ _ (by simp)) p3 _ c3 (t.take a ++ [10]) rfl (by simp) HZ3.out (HT4.out.below ((below_alloc w9 _).trans ((below_alloc _ _).mono (below_alloc w9 _).size))) (by simp only [List.length_take, List.length_append, List.length_cons, List.length_nil]; omega) (by simp) ?_)
    intro v6 w10 hown hgrow _
    have C6 : Ch (w9.alloc (.cells #[.int .i64 0, .int .i64 0] 30)) w10 v6 ((t.take a ++ [10])) := Ch.first (X0 := w9.alloc (.cells #[.int .i64 0, .int .i64 0] 30)) (by simp) (by simpa using hown) hgrow
    clear hown hgrow
    go_wp2_with (at_builtin; refine wpList_append_txt rfl (.tmp 71) (.tmp 72) 26 rfl _ 5 i0 _ Tryd.underlying26 hi hz0 hz1 hz2 rfl _ _ (t.take a ++ [10]) rfl (C6).2 p2 _ c2 u rfl rfl ZZ2.out (TX2.out.below ((And.right K8).trans (C6.1.mono (And.right K8).size))) (by simp only [List.length_append, List.length_cons, List.length_nil, List.length_take]; omega) (C6).1.size ?_)
    intro v7 w11 hown hgrow _
    have C7 : Ch _ w11 v7 (t.take a ++ [10] ++ u) := Ch.app (C6) (by simpa using hown) hgrow
    clear hown hgrow
    obtain ⟨p4, c4, rfl, hc4, hT5, hz4⟩ := C7.shape
    have K9 := Keep.below C7.1 K8
    have RA2 := Lib.hid ((RA.out.below (below_alloc w9 (.cells #[.int .i64 0, .int .i64 0] 30))).below C7.1)
    have HT6 := Lib.hid hT5
    clear hT5 hz4 e0 e1 f0 f1 y0 y1 g0 g1 x0 x1 r0 r1 K8 C6 C7 HT4 RA
    go_wp2_with fail
    refine (marks_at p4 _ c4 (t.take a ++ [10] ++ u) (by simp) (by simpa using hc4) (by first | omega | (simp; omega)) _ HT6.out (HI.out.below (And.right K9)) (HS.out.below' (And.right K9))).mono ?_
    rintro e w12 ⟨hm, hb⟩
    have K10 := Keep.below hb K9
    have RA3 := Lib.hid (RA2.out.below hb)
    rw [HLAST.out] at hm
    cases hsu : scan u (a + 1) with
    | error e1 =>
      have hge := (scan_bad _ _ _ _ (Nat.lt_succ_self _) hsu).1
      have hgz : (a : Int) ≤ (e1 : Int) := by omega
      rw [hsu] at hm
      rcases hm with ⟨ms, v, hR, rfl, hown⟩ | ⟨a', hR, rfl⟩
      · cases hR
      cases hR
      have K11 := Keep.alloc2 (.int .i64 20) (.int .i64 (e1 : Int)) 30 (k := w12.heap.size) rfl K10
      obtain ⟨⟨h0, q0, h1, q1, e0, y0, e1, y1, g0, r0, g1, r1, f0, x0, f1, x1, _⟩, hB⟩ := id K11
      clear hB hsu
      go_wp2_with fail
      go_ret
      exact ⟨rfl, And.right K11⟩
    | ok us =>
      have hus : 0 < us.length := List.length_pos_iff.2 (scan_ne _ _ _ _ (Nat.lt_succ_self _) hsu)
      rw [hsu] at hm
      rcases hm with ⟨ms, v, hR, rfl, hown⟩ | ⟨a', hR, rfl⟩
      rotate_left
      · cases hR
      cases hR
      obtain ⟨gb, cb, rfl⟩ := Joins.ownsRow_form hown (by simp; omega)
      have RB := Lib.hid (RowAt.take (RowAt.own hown))
      have hcb : D.length + us.length ≤ cb := by have := own_cap hown; simpa using this
      clear hown
      have K11 := Keep.alloc2 (.int .i64 0) (.int .i64 0) 30 (k := w12.heap.size) rfl K10
      obtain ⟨⟨h0, q0, h1, q1, e0, y0, e1, y1, g0, r0, g1, r1, f0, x0, f1, x1, _⟩, hB⟩ := id K11
      have hge2 : (D.length : Int) + 1 ≤ (D.length : Int) + (us.length : Int) := by omega
      have P0 : RowAt (w12.alloc (.cells #[.int .i64 0, .int .i64 0] 30)).drew (some ⟨ga, 0, none⟩) D ∧ RowAt (w12.alloc (.cells #[.int .i64 0, .int .i64 0] 30)).drew (some ⟨gb, 0, none⟩) D ∧ Below w.heap.size w (w12.alloc (.cells #[.int .i64 0, .int .i64 0] 30)).drew :=
        ⟨(RA3.out.below (below_alloc _ _)).below (below_drew _), (RB.out.below (below_alloc _ _)).below (below_drew _), (And.right K11).drew⟩
      have onP : ∀ X Y, Below X.heap.size X Y → (RowAt X (some ⟨ga, 0, none⟩) D ∧ RowAt X (some ⟨gb, 0, none⟩) D ∧ Below w.heap.size w X) → (RowAt Y (some ⟨ga, 0, none⟩) D ∧ RowAt Y (some ⟨gb, 0, none⟩) D ∧ Below w.heap.size w Y) := fun X Y hb ⟨h1, h2, h3⟩ => ⟨h1.below hb, h2.below hb, h3.trans (hb.mono h3.size)⟩
      have HSM : Hid (∀ X, (RowAt X (some ⟨ga, 0, none⟩) D ∧ RowAt X (some ⟨gb, 0, none⟩) D ∧ Below w.heap.size w X) → Calls Tryd.prog 15 #[.slice (some ⟨ga, 0, none⟩) D.length ca, .slice (some ⟨gb, 0, none⟩) D.length cb, .bool true] X fun e w' => e = .returned (.bool true) ∧ Below X.heap.size X w') :=
        Lib.hid (fun X h => same_any true _ _ ca cb D.length D D rfl rfl (by omega) HOKD.out X h.1 h.2.1)
      have HON := Lib.hid onP
      have HP0 := Lib.hid P0
      clear hB hsu K10 K11 onP P0
      go_wp2_with fail
      have P0 := HP0.out
      have s1 : D.length ≤ ca := by omega
      have hDz : (D.length : Int) ≤ 1048577 := by omega
      have u1 : IntKind.i64.wrap ((D.length : Int) + 1 - 1) = (D.length : Int) := by rw [show (D.length : Int) + 1 - 1 = (D.length : Int) by omega]; exact wrap64_id (by omega) (by omega)
      have u3 : IntKind.i64.wrap (D.length : Int) = (D.length : Int) := wrap64_id (by omega) (by omega)
      have u4 : ((D.length : Int) + 9223372036854775808) % 18446744073709551616 - 9223372036854775808 = (D.length : Int) := by omega
      have u5 : ((D.length : Int) + 1 - 1 + 9223372036854775808) % 18446744073709551616 - 9223372036854775808 = (D.length : Int) := by omega
      have u2 : IntKind.i64.wrap (((D.length + 1 : Nat) : Int) - 1) = (D.length : Int) := by rw [show ((D.length + 1 : Nat) : Int) - 1 = (D.length : Int) by omega]; exact wrap64_id (by omega) (by omega)
      have s2 : D.length ≤ cb := by omega
      have s3 : (D.length : Int) ≤ (ca : Int) := by omega
      have s4 : (D.length : Int) ≤ (cb : Int) := by omega
      have s5 : (0 : Int) ≤ (D.length : Int) := by omega
      have s6 : ¬ (ca < D.length) := by omega
      have s7 : ¬ (cb < D.length) := by omega
      go_region_held3 (fun Y => RowAt Y (some ⟨ga, 0, none⟩) D ∧ RowAt Y (some ⟨gb, 0, none⟩) D ∧ Below w.heap.size w Y) (first | exact P1 | exact P0)
        (first | (go_at_call 15; refine (HSM.out _ (by assumption)).mono ?_; rintro e w13 ⟨rfl, hb13⟩; have P1 := HON.out _ _ hb13 (by assumption)))
      have PE := And.right (And.right P1)
      clear P0 P1
      go_wp2_with fail
      go_ret
      exact ⟨rfl, PE⟩
end Go.Proofs.YtedgcllgifiajaaDoor
