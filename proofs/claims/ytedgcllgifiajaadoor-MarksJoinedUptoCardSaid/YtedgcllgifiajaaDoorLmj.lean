/- The law MarksJoined: its walk. (printed by gen/joined.py) -/
import Derived.Test.YtedgcllgifiajaaDoorJoin
import Derived.Test.YtedgcllgifiajaaDoorLmf
import Derived.Deep.LoopGhost
import Derived.Deep.RegionHeld3
namespace Go.Proofs.YtedgcllgifiajaaDoor
open Go.RowKit Flo Mk
/-- what Marks answers, in one shape -/
theorem marksE {w w' : World} {R : Except Nat (List M)} {e : Ending} (h : MarksR w R e w') : ∃ (v : Value) (why at' : Int), e = .returned (.tuple #[v, .agg #[.int .i64 why, .int .i64 at']]) ∧
    ((∃ ms, R = .ok ms ∧ why = 0 ∧ at' = 0 ∧ w'.ownsRow w.heap.size 36 4 v ms.length (rowM ms)) ∨ (∃ a : Nat, R = .error a ∧ why = 20 ∧ at' = (a : Int) ∧ v = .slice none 0 0)) := by
  rcases h with ⟨ms, v, h1, h2, h3⟩ | ⟨a, h1, h2⟩
  · exact ⟨v, 0, 0, h2, Or.inl ⟨ms, h1, rfl, rfl, h3⟩⟩
  · exact ⟨_, 20, (a : Int), h2, Or.inr ⟨a, h1, rfl, rfl, rfl⟩⟩
set_option maxHeartbeats 16000000 in
set_option maxRecDepth 100000 in
theorem marksJoined_any (p1 p2 : Option Addr) (c1 c2 : Nat) (t u : List UInt8) (h1 : t.length ≤ c1) (h2 : u.length ≤ c2) (hb1 : t.length ≤ 1048576) (hb2 : u.length ≤ 1048576) (w : World) (T1 : Txt w p1 t) (T2 : Txt w p2 u) (z1 : p1 = none → c1 = 0 ∧ t = []) (z2 : p2 = none → c2 = 0 ∧ u = []) (hI : Inv w) (hS : Spc w) :
    Calls Tryd.prog 5 #[.slice p1 t.length c1, .slice p2 u.length c2] w fun e w' => e = .returned (.bool true) ∧ Below w.heap.size w w' := by
  have TX1 := Lib.hid T1; have TX2 := Lib.hid T2; have ZZ1 := Lib.hid z1; have ZZ2 := Lib.hid z2
  have HI := Lib.hid hI; have HS := Lib.hid hS
  have HA := Lib.hid (awake_any w hI hS)
  clear T1 T2 z1 z2 hI hS
  obtain ⟨i0, hi, hz0, hz1, hz2⟩ := info_parts byte_info
  go_enter Tryd.func5, Tryd.ntmps5
  go_wp2_with fail
  refine HA.out.mono ?_; rintro e w1 ⟨rfl, hb⟩
  have B1 := Lib.hid hb; clear hb
  go_wp2_with fail
  refine (marks_any p1 c1 t h1 (by omega) _ (TX1.out.below B1.out) (HI.out.below B1.out) (HS.out.below' B1.out)).mono ?_
  rintro e w2 ⟨hm, hb⟩
  obtain ⟨vx, y1, e1, rfl, hx⟩ := marksE hm
  have HX := Lib.hid hx
  have B2 : Hid (Below w.heap.size w w2) := Lib.hid (B1.out.trans (hb.mono B1.out.size))
  have S2 : Hid (w1.heap.size ≤ w2.heap.size ∧ w.heap.size ≤ w1.heap.size) := Lib.hid ⟨hb.size, B1.out.size⟩
  clear hb hm hx
  have K2 := Keep.alloc2 (.int .i64 y1) (.int .i64 e1) 30 (k := w2.heap.size) rfl (show Keep w [] w2 from ⟨trivial, B2.out⟩)
  have KK2 := Lib.hid K2
  clear K2
  go_wp2_with fail
  refine (marks_any p2 c2 u h2 (by omega) _ (TX2.out.below (And.right KK2.out)) (HI.out.below (And.right KK2.out)) (HS.out.below' (And.right KK2.out))).mono ?_
  rintro e w3 ⟨hm, hb⟩
  obtain ⟨vy, y2, e2, rfl, hx⟩ := marksE hm
  have HY := Lib.hid hx
  have K3 := Keep.below hb KK2.out
  have S3 : Hid (Below w2.heap.size w2 w3) := Lib.hid ((below_alloc w2 _).trans (hb.mono (below_alloc w2 _).size))
  clear hb hm hx
  have K4 := Lib.hid (Keep.alloc2 (.int .i64 y2) (.int .i64 e2) 30 (k := w3.heap.size) rfl K3)
  clear K3 KK2
  go_wp2_with (at_builtin; refine wpList_append_txt rfl (.tmp 29) (.tmp 30) 26 rfl (w3.heap.size + 1) 5 i0 _ Tryd.underlying26 hi hz0 hz1 hz2 rfl _ 0 [] rfl (own_empty _ _ (by simp)) p1 _ c1 t rfl rfl ZZ1.out (TX1.out.below ((And.right K4.out).alloc (And.right K4.out).size _)) (by first | omega | (simp only [List.length_append, List.length_take, List.length_cons, List.length_nil]; omega)) (by simp) ?_)
  intro v1 w4 hown hgrow _
  have C1 : Ch (w3.alloc (.cells #[.int .i64 y2, .int .i64 e2] 30)) w4 v1 (t) := Ch.first (X0 := w3.alloc (.cells #[.int .i64 y2, .int .i64 e2] 30)) (by simp) (by simpa using hown) hgrow
  clear hown hgrow
  go_wp2_with (at_builtin; refine wpList_append_txt rfl (.tmp 31) (.tmp 32) 26 rfl _ 5 i0 _ Tryd.underlying26 hi hz0 hz1 hz2 rfl _ _ (t) rfl (C1.alloc (.cells #[.int .u8 10] 5)).2 _ _ 1 [10] rfl rfl (fun h => by cases h) (Txt.new _ [10] _ _) (by first | omega | (simp only [List.length_cons, List.length_nil]; omega)) (C1.alloc (.cells #[.int .u8 10] 5)).1.size ?_)
  intro v2 w5 hown hgrow _
  have C2 : Ch _ w5 v2 (t ++ [10]) := Ch.app (C1.alloc (.cells #[.int .u8 10] 5)) (by simpa using hown) hgrow
  clear hown hgrow
  go_wp2_with (at_builtin; refine wpList_append_txt rfl (.tmp 35) (.tmp 36) 26 rfl _ 5 i0 _ Tryd.underlying26 hi hz0 hz1 hz2 rfl _ _ (t ++ [10]) rfl (C2).2 p2 _ c2 u rfl rfl ZZ2.out (TX2.out.below ((And.right K4.out).trans (C2.1.mono (And.right K4.out).size))) (by first | omega | (simp only [List.length_append, List.length_cons, List.length_nil]; omega)) (C2).1.size ?_)
  intro v3 w6 hown hgrow _
  have C3 : Ch _ w6 v3 (t ++ [10] ++ u) := Ch.app (C2) (by simpa using hown) hgrow
  clear hown hgrow
  obtain ⟨pv, cv, rfl, hcv, hTv, hzv⟩ := C3.shape
  have K5 := Lib.hid (Keep.below C3.1 K4.out)
  have S4 : Hid (Below w3.heap.size w3 w6) := Lib.hid ((below_alloc w3 _).trans (C3.1.mono (below_alloc w3 _).size))
  have HTv := Lib.hid hTv
  clear hTv hzv K4 C1 C2 C3
  go_wp2_with fail
  refine (marks_at pv _ cv (t ++ [10] ++ u) (by simp) (by simpa using hcv) (by first | omega | (simp; omega)) _ HTv.out (HI.out.below (And.right K5.out)) (HS.out.below' (And.right K5.out))).mono ?_
  rintro e w7 ⟨hm, hb⟩
  obtain ⟨vz, y3, e3, rfl, hz⟩ := marksE hm
  have HZ := Lib.hid hz
  have K6 := Keep.below hb K5.out
  have S5 : Hid (Below w6.heap.size w6 w7) := Lib.hid hb
  clear hb hm hz hcv HTv K5
  have K7 := Keep.alloc2 (.int .i64 y3) (.int .i64 e3) 30 (k := w7.heap.size) rfl K6
  obtain ⟨⟨h0, q0, h1, q1, g0, r0, g1, r1, f0, x0, f1, x1, _⟩, hB⟩ := id K7
  clear hB K6
  have HK := Lib.hid (And.right K7)
  clear K7
  rcases HX.out with ⟨ms, hX, rfl, rfl, hownx⟩ | ⟨a, hX, rfl, rfl, rfl⟩
  · obtain ⟨D, E, rfl⟩ : ∃ D E, ms = D ++ [E] := ⟨ms.dropLast, ms.getLast (scan_ne _ _ _ _ (Nat.lt_succ_self _) hX), (List.dropLast_concat_getLast _).symm⟩
    have hZZ : scan (t ++ [10] ++ u) 0 = fin D (mvR (t.length + 1) (scan u 0)) := by
      have := join_ok (u := u) hX
      rwa [List.dropLast_concat] at this
    have hokX := scan_oks hX
    have hlX := scan_len _ _ _ _ (Nat.lt_succ_self _) hX
    rw [List.length_append, List.length_singleton] at hlX
    rcases HY.out with ⟨us, hY, rfl, rfl, howny⟩ | ⟨a2, hY, rfl, rfl, rfl⟩
    rotate_left
    · have hlt := (scan_bad _ _ _ _ (Nat.lt_succ_self _) hY).2
      rw [hY] at hZZ
      rcases HZ.out with ⟨zs, hZ, rfl, rfl, hownz⟩ | ⟨a3, hZ, rfl, he3, rfl⟩
      · rw [hZZ] at hZ; cases hZ
      · rw [hZZ] at hZ
        cases hZ
        obtain ⟨gx, cx, rfl⟩ := Joins.ownsRow_form hownx (by simp)
        obtain rfl : e3 = (a2 : Int) + ((t.length : Int) + 1) := by omega
        have HXX := Lib.hid HX.out
        clear hownx hX hokX hZZ he3
        go_wp2_with fail
        go_ret
        exact ⟨rfl, HK.out⟩
    · rw [hY] at hZZ
      have hokY := scan_oks hY
      have hlY := scan_len _ _ _ _ (Nat.lt_succ_self _) hY
      have hpY := scan_pos _ _ _ _ (Nat.lt_succ_self _) hY
      have hneY := scan_ne _ _ _ _ (Nat.lt_succ_self _) hY
      have hpos : 0 < us.length := List.length_pos_iff.2 hneY
      rcases HZ.out with ⟨zs, hZ, rfl, rfl, hownz⟩ | ⟨a3, hZ, rfl, rfl, rfl⟩
      rotate_left
      · rw [hZZ] at hZ; cases hZ
      rw [hZZ] at hZ
      cases hZ
      obtain ⟨gx, cx, rfl⟩ := Joins.ownsRow_form hownx (by simp)
      obtain ⟨gy, cy, rfl⟩ := Joins.ownsRow_form howny hpos
      obtain ⟨gz, cz, rfl⟩ := Joins.ownsRow_form hownz (by simp; omega)
      have bx := (hownx.lt gx rfl).2
      have bY := howny.lt gy rfl
      have bz := (hownz.lt gz rfl).1
      have hsz2 : (w2.alloc (.cells #[.int .i64 0, .int .i64 0] 30)).heap.size = w2.heap.size + 1 := by simp
      rw [hsz2] at bY
      have hcx : D.length + 1 ≤ cx := by have := own_cap hownx; simpa using this
      have hcz : D.length + us.length ≤ cz := by have := own_cap hownz; simpa using this
      have b7 := below_alloc w7 (.cells #[.int .i64 0, .int .i64 0] 30)
      have s36 := S4.out.size
      have J0 : Hid (JoinAt w (w7.alloc (.cells #[.int .i64 0, .int .i64 0] 30)) gx gz gy D us (D ++ us.map (mv (t.length + 1))) (t.length + 1) 0) := Lib.hid (JoinAt.start HK.out
        (((((RowAt.take (RowAt.own hownx)).below S3.out).below S4.out).below S5.out).below b7)
        ((RowAt.own hownz).below b7)
        ((((RowAt.own howny).below S4.out).below S5.out).below b7)
        (fun j => (b7.frozen (p := ⟨gy, j, none⟩) (by show gy < _; have := S5.out.size; omega)).trans ((S5.out.frozen (p := ⟨gy, j, none⟩) (by show gy < _; omega)).trans ((S4.out.frozen (p := ⟨gy, j, none⟩) bY.2).trans (howny.frozenAt j))))
        (by omega) (by omega) (by have := S2.out; omega))
      have HHU : Hid (∀ m ∈ us, okM m ∧ m.pos ≤ 1048576) := Lib.hid (fun m hm => ⟨hokY m hm, by have := hpY m hm; omega⟩)
      have HHD : Hid (∀ m ∈ D, okM m) := Lib.hid (fun m hm => hokX m (by simp [hm]))
      have qb1 : ((D.length : Int) + 1 == 0) = false := beq_eq_false_iff_ne.2 (by omega)
      have qb2 : ((us.length : Int) == 0) = false := beq_eq_false_iff_ne.2 (by omega)
      have qb3 : ((D.length : Int) + (us.length : Int) != (D.length : Int) + 1 + (us.length : Int) - 1) = false := by
        rw [bne, beq_iff_eq.2 (show (D.length : Int) + (us.length : Int) = (D.length : Int) + 1 + (us.length : Int) - 1 by omega)]; rfl
      clear hownx howny hownz hX hY hZZ hokX hokY hpY hneY bx bz bY hsz2 b7 s36
      go_wp2_with fail
      go_loopg [13] us.length (fun g s13 wx => ∃ k : Nat, k + g = us.length ∧ s13 = .int .i64 (k : Int) ∧ Hid (JoinAt w wx gx gz gy D us (D ++ us.map (mv (t.length + 1))) (t.length + 1) k))
      case atStart => exact ⟨0, by omega, rfl, J0⟩
      case round =>
        obtain ⟨k, hk, rfl, HJ⟩ := hrel
        cases gk with
        | zero =>
          obtain rfl : k = us.length := by omega
          obtain ⟨US, hUS⟩ : ∃ US, us.map (mv (t.length + 1)) = US := ⟨_, rfl⟩
          have hrow : RowAt wr (some ⟨gy, 0, none⟩) US := by have := HJ.out.row; rwa [mvk_all, hUS] at this
          have hlen : US.length = us.length := by rw [← hUS, List.length_map]
          have hokU : ∀ m ∈ US, okM m := fun m hm => by
            rw [← hUS] at hm
            obtain ⟨x, hx, rfl⟩ := List.mem_map.1 hm
            exact (HHU.out x hx).1
          have hzz := HJ.out.rz
          rw [hUS] at hzz
          obtain ⟨off, hoff⟩ : ∃ off, 0 + 4 * D.length = off := ⟨_, rfl⟩
          have hdrop := RowAt.drop hzz
          rw [hoff] at hdrop
          have HOFF : Hid (off = 4 * D.length) := Lib.hid (by omega)
          clear hoff
          have P0 : RowAt wr.drew (some ⟨gz, 0, none⟩) D ∧ RowAt wr.drew (some ⟨gx, 0, none⟩) D ∧ RowAt wr.drew (some ⟨gz, off, none⟩) US ∧ RowAt wr.drew (some ⟨gy, 0, none⟩) US ∧ Below w.heap.size w wr.drew :=
            ⟨(RowAt.take hzz).below (below_drew _), HJ.out.rx.below (below_drew _), (hdrop.below (below_drew _)), hrow.below (below_drew _), HJ.out.below.drew⟩
          have onP : ∀ X Y, Below X.heap.size X Y → (RowAt X (some ⟨gz, 0, none⟩) D ∧ RowAt X (some ⟨gx, 0, none⟩) D ∧ RowAt X (some ⟨gz, off, none⟩) US ∧ RowAt X (some ⟨gy, 0, none⟩) US ∧ Below w.heap.size w X) →
              (RowAt Y (some ⟨gz, 0, none⟩) D ∧ RowAt Y (some ⟨gx, 0, none⟩) D ∧ RowAt Y (some ⟨gz, off, none⟩) US ∧ RowAt Y (some ⟨gy, 0, none⟩) US ∧ Below w.heap.size w Y) := fun X Y hb ⟨h1, h2, h3, h4, h5⟩ => ⟨h1.below hb, h2.below hb, h3.below hb, h4.below hb, h5.trans (hb.mono h5.size)⟩
          have HSM : Hid (∀ X g1 o1 g2 m1 m2 ca cb, (m1 = m2 ∧ ((g1 = gz ∧ o1 = 0 ∧ g2 = gx ∧ m2 = D.length) ∨ (g1 = gz ∧ o1 = off ∧ g2 = gy ∧ m2 = us.length))) → (RowAt X (some ⟨gz, 0, none⟩) D ∧ RowAt X (some ⟨gx, 0, none⟩) D ∧ RowAt X (some ⟨gz, off, none⟩) US ∧ RowAt X (some ⟨gy, 0, none⟩) US ∧ Below w.heap.size w X) →
              Calls Tryd.prog 15 #[.slice (some ⟨g1, o1, none⟩) m1 ca, .slice (some ⟨g2, 0, none⟩) m2 cb, .bool true] X fun e w' => e = .returned (.bool true) ∧ Below X.heap.size X w') :=
            Lib.hid (fun X g1 o1 g2 m1 m2 ca cb he h => by
              obtain ⟨rfl, ⟨rfl, rfl, rfl, rfl⟩ | ⟨rfl, rfl, rfl, rfl⟩⟩ := he
              · exact same_any true _ _ ca cb D.length D D rfl rfl (by omega) HHD.out X h.1 h.2.1
              · exact same_any true _ _ ca cb us.length US US hlen rfl (by omega) hokU X h.2.2.1 h.2.2.2.1)
          have HON := Lib.hid onP
          have HP0 := Lib.hid P0
          clear hzz hdrop hrow hokU hlen hUS onP P0 HJ J0
          have s1 : D.length ≤ cx := by omega
          have s2 : D.length ≤ cz := by omega
          have s3 : (D.length : Int) ≤ (cx : Int) := by omega
          have s4 : (D.length : Int) ≤ (cz : Int) := by omega
          have s5 : (0 : Int) ≤ (D.length : Int) := by omega
          have s6 : (D.length : Int) ≤ (D.length : Int) + (us.length : Int) := by omega
          have s7 : (D.length : Int) + (us.length : Int) ≤ (cz : Int) := by omega
          have s8 : (D.length : Int) ≤ ((D.length + us.length : Nat) : Int) := by omega
          have s9 : D.length ≤ D.length + us.length := by omega
          have s10 : D.length + us.length ≤ cz := by omega
          have s11 : (0 : Int) ≤ (us.length : Int) := by omega
          have s12 : ¬ (cz = D.length) := by omega
          have s13 : ¬ (D.length = cz) := by omega
          have s14 : ¬ (cz - D.length = 0) := by omega
          have s15 : ¬ (cz ≤ D.length) := by omega
          have s16 : D.length < cz := by omega
          have s17 : ¬ (0 = cz - D.length) := by omega
          have u1 : IntKind.i64.wrap ((D.length : Int) + 1 - 1) = (D.length : Int) := by rw [show (D.length : Int) + 1 - 1 = (D.length : Int) by omega]; exact wrap64_id (by omega) (by omega)
          have u3 : IntKind.i64.wrap (D.length : Int) = (D.length : Int) := wrap64_id (by omega) (by omega)
          have u4 : ((D.length : Int) + 9223372036854775808) % 18446744073709551616 - 9223372036854775808 = (D.length : Int) := by omega
          have u5 : ((D.length : Int) + 1 - 1 + 9223372036854775808) % 18446744073709551616 - 9223372036854775808 = (D.length : Int) := by omega
          go_wp2_with fail
          have P0 := HP0.out
          go_region_held3 (fun Y => RowAt Y (some ⟨gz, 0, none⟩) D ∧ RowAt Y (some ⟨gx, 0, none⟩) D ∧ RowAt Y (some ⟨gz, off, none⟩) US ∧ RowAt Y (some ⟨gy, 0, none⟩) US ∧ Below w.heap.size w Y) (first | exact P1 | exact P0)
            (first | (go_at_call 15; refine (HSM.out _ _ _ _ _ _ _ _ (by first | exact ⟨rfl, Or.inl ⟨rfl, rfl, rfl, rfl⟩⟩ | exact ⟨by simp, Or.inr ⟨rfl, by rw [HOFF.out, Nat.mul_comm], rfl, by simp⟩⟩) (by assumption)).mono ?_; rintro e w8 ⟨rfl, hb8⟩; have P1 := HON.out _ _ hb8 (by assumption)))
          have PE := And.right (And.right (And.right (And.right P1)))
          clear P0 P1
          go_wp2_with fail
          go_ret
          exact ⟨rfl, PE⟩
        | succ g =>
          have hku : k < us.length := by omega
          obtain ⟨m, hm⟩ : ∃ m, us[k]? = some m := ⟨_, List.getElem?_eq_getElem hku⟩
          have hps := (HHU.out m (List.mem_of_getElem? hm)).2
          have c3 := (HJ.out.ry k m (by rw [mvk_at, if_neg (Nat.lt_irrefl _), hm])).2.2.2
          have ff := HJ.out.fy (k * 4 + 3)
          have HE := HJ.out.step hm
          rw [show ((m.pos + (t.length + 1) : Nat) : Int) = (m.pos : Int) + ((t.length : Int) + 1) by omega] at HE
          have HE' := Lib.hid HE
          clear HE hm
          go_wp2_with fail
          go_roundg g
          case measure => omega
          case rel => exact ⟨k + 1, by omega, by go_num, HE'⟩
  · rcases HZ.out with ⟨zs, hZ, rfl, rfl, hownz⟩ | ⟨a3, hZ, rfl, rfl, rfl⟩
    · rw [join_bad hX] at hZ; cases hZ
    · rw [join_bad hX] at hZ
      cases hZ
      go_wp2_with fail
      go_ret
      exact ⟨rfl, HK.out⟩
end Go.Proofs.YtedgcllgifiajaaDoor
