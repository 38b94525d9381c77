/- The marks of a text, as the reference reads them: the walk. -/
import Derived.Test.YtedgcllgifiajaaGreatDoorRmd
namespace Go.Proofs.YtedgcllgifiajaaGreatDoor
open Go.RowKit Flo Mk
/-- what the reference's Marks answers -/
def RefR (w : World) (R : Except Nat (List M)) (e : Ending) (w' : World) : Prop :=
  (∃ ms v, R = .ok ms ∧ e = .returned (.tuple #[v, .int .i64 (-1)]) ∧ w'.ownsRow w.heap.size 37 4 v ms.length (rowM ms)) ∨
  (∃ a : Nat, R = .error a ∧ e = .returned (.tuple #[.slice none 0 0, .int .i64 (a : Int)]))
theorem RefR_len {t : List UInt8} {i : Nat} {acc : List M} (h : acc.length ≤ i) (hi : i ≤ t.length) : acc.length ≤ t.length := Nat.le_trans h hi
set_option maxHeartbeats 16000000 in
set_option maxRecDepth 100000 in
theorem refmarks_some (b o n c : Nat) (t : List UInt8) (hn : t.length = n) (hnc : n ≤ c) (hb : n ≤ 16777216) (w : World) (hT : ∀ j x, t[j]? = some x → w.cell? ⟨b, o + j, none⟩ = some (.int .u8 (x.toNat : Int))) :
    Calls Tryz.prog 7 #[.slice (some ⟨b, o, none⟩) n c] w fun e w' => RefR w (scan t 0) e w' ∧ Below w.heap.size w w' := by
  have HT := Lib.hid hT
  have HN := Lib.hid hn
  clear hT hn
  obtain ⟨i0, hi, hz0, hz1, hz2⟩ := info_parts mark_info
  go_enter Tryz.func7, Tryz.ntmps7
  go_wp2_with fail
  go_loopg [4, 5] n (fun g s4 s5 wx => ∃ (i : Nat) (acc : List M), i + g = n ∧ s5 = .int .i64 (i : Int) ∧ acc.length ≤ i ∧ Hid (fin acc (scan (t.drop i) i) = scan t 0) ∧ Hid (Below w.heap.size w wx) ∧ Hid (wx.ownsRow w.heap.size 37 4 s4 acc.length (rowM acc)))
  case atStart => exact ⟨0, [], by omega, rfl, Nat.le_refl _, Lib.hid (by rw [List.drop_zero, fin_nil]), Below.refl _ _, World.ownsRow_nil _ _ _ _⟩
  case round =>
    obtain ⟨i, acc, hig, rfl, hal, HR, HB, HOw⟩ := hrel
    cases gk with
    | zero =>
      obtain rfl : i = n := by omega
      have HE : Hid (scan t 0 = .ok (acc ++ [⟨4, [], (0, 0), i⟩])) := Lib.hid (by
        rw [← HR.out, List.drop_of_length_le (by rw [HN.out]; exact Nat.le_refl _), scan_nil]; rfl)
      go_wp2_with (at_builtin; refine wpList_append_own _ rfl (.tmp 55) (.tmp 59) 24 rfl w.heap.size 37 i0 _ 4 48 Tryz.underlying24 hi hz0 hz1 hz2 rfl (by decide) _ _ _ rfl (HOw.out.alloc _) ⟨wr.heap.size, 0, none⟩ 1 1 [.int .i64 4, .string ⟨#[]⟩, .complex .f64 0 0, .int .i64 (i : Int)] rfl rfl ?c1 ?c2 ?c3 ?c4 ?c5 ?_)
      case c1 =>
        intro j u hj
        match j, hj with
        | 0, hj => simp at hj; subst hj; simp [Addr.add]
        | 1, hj => simp at hj; subst hj; simp [Addr.add]
        | 2, hj => simp at hj; subst hj; simp [Addr.add]
        | 3, hj => simp at hj; subst hj; simp [Addr.add]
      case c2 => intro u hu; simp at hu; rcases hu with rfl | rfl | rfl | rfl <;> rfl
      case c3 => unfold maxLen; omega
      case c4 => omega
      case c5 => have := HB.out.size; simp; omega
      intro v' w1 hown' hgrow _
      rw [show [Value.int .i64 4, .string ⟨#[]⟩, .complex .f64 0 0, .int .i64 (i : Int)] = cellsM ⟨4, [], (0, 0), i⟩ from cells_plain 4 ⟨#[]⟩ i] at hown'
      have HO1 := Lib.hid hown'
      have HB1 := Lib.hid ((HB.out.alloc HB.out.size _).grown hgrow (by have := HB.out.size; simp; omega) (fun k hk => (HOw.out.lt k hk).1))
      clear hown' hgrow
      go_wp2_with fail
      go_ret2
      refine ⟨Or.inl ⟨_, _, HE.out, rfl, ?_⟩, HB1.out⟩
      rw [List.length_append, rowM_app, show rowM [⟨4, [], (0, 0), i⟩] = cellsM ⟨4, [], (0, 0), i⟩ by simp [rowM]]
      exact HO1.out
    | succ g =>
      have hlt : i < n := by omega
      obtain ⟨x, hx⟩ : ∃ x, t[i]? = some x := ⟨_, List.getElem?_eq_getElem (by rw [HN.out]; exact hlt)⟩
      have hcx : wr.cell? ⟨b, o + i, none⟩ = some (.int .u8 (x.toNat : Int)) := by
        have h := HT.out i x hx
        exact (HB.out.cell (World.block_lt_of_cell? w _ h)).trans h
      have HD : Hid (t.drop i = x :: t.drop (i + 1)) := Lib.hid (drop_cons hx)
      have HX := Lib.hid hx
      have hltz : (i : Int) < (n : Int) := by omega
      have HQ := Lib.hid (fun w => blank_any x w)
      clear hx
      cases hbl : blankB x with
      | true =>
        rw [hbl] at HQ
        have HG : Hid (fin acc (scan (t.drop (i + 1)) (i + 1)) = scan t 0) := Lib.hid (by rw [← HR.out, HD.out, scan_blank hbl])
        clear hbl
        go_wp2_with (go_at_call 13; refine (HQ.out _).mono ?_; rintro e w' ⟨rfl, rfl⟩)
        go_roundg g
        case measure => omega
        case rel => exact ⟨i + 1, acc, by omega, by go_num, by omega, HG, HB, HOw⟩
      | false =>
        rw [hbl] at HQ
        by_cases h35 : x = 35
        · subst h35
          have HG : Hid (fin acc (rem (t.drop i) i) = scan t 0) := Lib.hid (by rw [← HR.out, HD.out, scan_hash])
          clear hbl
          go_wp2_with (go_at_call 13; refine (HQ.out _).mono ?_; rintro e w' ⟨rfl, rfl⟩)
          go_loopg [5] (g + 1) (fun g2 s5 wx => ∃ j : Nat, j + g2 = n ∧ s5 = .int .i64 (j : Int) ∧ i ≤ j ∧ Hid (i < j ∨ t[j]? = some 35) ∧ Hid (fin acc (rem (t.drop j) j) = scan t 0) ∧ wx = wr)
          case atStart => exact ⟨i, by omega, rfl, Nat.le_refl _, Lib.hid (Or.inr HX.out), HG, rfl⟩
          case round =>
            obtain ⟨j, hjg, rfl, hij, HJ, HRm, rfl⟩ := hrel
            cases gk with
            | zero =>
              obtain rfl : j = n := by omega
              have HG2 : Hid (fin acc (scan (t.drop j) j) = scan t 0) := Lib.hid (by
                rw [← HRm.out, List.drop_of_length_le (by rw [HN.out]; exact Nat.le_refl _), rem_nil])
              go_wp2_with fail
              go_roundg 0
              case measure => omega
              case rel => exact ⟨j, acc, by omega, rfl, by omega, HG2, HB, HOw⟩
            | succ g2 =>
              have hjn : j < n := by omega
              obtain ⟨y, hy⟩ : ∃ y, t[j]? = some y := ⟨_, List.getElem?_eq_getElem (by rw [HN.out]; exact hjn)⟩
              have hcy : wr.cell? ⟨b, o + j, none⟩ = some (.int .u8 (y.toNat : Int)) := by
                have h := HT.out j y hy
                exact (HB.out.cell (World.block_lt_of_cell? w _ h)).trans h
              have hjz : (j : Int) < (n : Int) := by omega
              have hdr := drop_cons hy
              by_cases h10 : y = 10
              · subst h10
                have hlt2 : i < j := by
                  rcases HJ.out with h | h
                  · exact h
                  · rw [hy] at h; cases h
                have HG2 : Hid (fin acc (scan (t.drop j) j) = scan t 0) := Lib.hid (by rw [← HRm.out, hdr, rem_nl])
                clear hy hdr
                go_wp2_with fail
                go_roundg (n - j)
                case measure => omega
                case rel => exact ⟨j, acc, by omega, rfl, by omega, HG2, HB, HOw⟩
              · have e5 : ((y.toNat : Int) == 10) = false := (eqb y 10).trans (beq_eq_false_iff_ne.2 h10)
                have e6 : ((y.toNat : Int) != 10) = true := by rw [bne, e5]; rfl
                have HG2 : Hid (fin acc (rem (t.drop (j + 1)) (j + 1)) = scan t 0) := Lib.hid (by rw [← HRm.out, hdr, rem_cons h10])
                clear hy hdr h10
                go_wp2_with fail
                go_roundg g2
                case measure => omega
                case rel => exact ⟨j + 1, by omega, by go_num, by omega, Lib.hid (Or.inl (by omega)), HG2, rfl⟩
        · have e5 : ((x.toNat : Int) == 35) = false := (eqb x 35).trans (beq_eq_false_iff_ne.2 h35)
          have HSC := Lib.hid (scan_one hbl h35 (t.drop (i + 1)) i)
          have HONE := Lib.hid (refone_any b o n c i t HN.out hnc hb hlt wr (fun j y hj => (HB.out.cell (World.block_lt_of_cell? w _ (HT.out j y hj))).trans (HT.out j y hj)))
          clear hbl h35
          go_wp2_with (go_at_call 13; refine (HQ.out _).mono ?_; rintro e w' ⟨rfl, rfl⟩)
          refine HONE.out.mono ?_
          rintro e w1 ⟨hm, hb1⟩
          have HB1 := Lib.hid (HB.out.trans (hb1.mono HB.out.size))
          have HO1 := Lib.hid (own_below HOw.out hb1)
          have HHD : Hid (fin acc (match one (t.drop i) i with | none => .error i | some m => pre m (scan ((t.drop i).drop m.text.length) (i + m.text.length))) = scan t 0) := Lib.hid (by rw [← HR.out, HD.out, HSC.out]; rfl)
          clear hb1
          rcases hm with ⟨mk, hone, he⟩ | ⟨hone, kk, s1, a1, a2, ps, he⟩
          · obtain ⟨_, _, o3, o4⟩ := one_text hone
            rw [List.length_drop, HN.out] at o4
            have HG : Hid (fin (acc ++ [mk]) (scan (t.drop (i + mk.text.length)) (i + mk.text.length)) = scan t 0) := Lib.hid (by
              rw [← HHD.out, hone]
              show _ = fin acc (pre mk (scan ((t.drop i).drop mk.text.length) (i + mk.text.length)))
              rw [fin_pre, List.drop_drop])
            rw [show aggM mk = .agg #[.int .i64 mk.kind, .string ⟨mk.text.toArray⟩, .complex .f64 (W mk.num.1) (W mk.num.2), .int .i64 mk.pos] from rfl] at he
            have HC : Hid ([Value.int .i64 mk.kind, .string ⟨mk.text.toArray⟩, .complex .f64 (W mk.num.1) (W mk.num.2), .int .i64 mk.pos] = cellsM mk) := Lib.hid rfl
            obtain ⟨L, hL⟩ : ∃ L, mk.text.length = L := ⟨_, rfl⟩
            have htl : (⟨mk.text.toArray⟩ : ByteArray).size = L := by rw [Lib.size_eq]; simpa using hL
            obtain ⟨kk, hkk⟩ : ∃ k : Int, (mk.kind : Int) = k := ⟨_, rfl⟩
            obtain ⟨tx, htx⟩ : ∃ k : ByteArray, ⟨mk.text.toArray⟩ = k := ⟨_, rfl⟩
            obtain ⟨a1, ha1⟩ : ∃ k, W mk.num.1 = k := ⟨_, rfl⟩
            obtain ⟨a2, ha2⟩ : ∃ k, W mk.num.2 = k := ⟨_, rfl⟩
            obtain ⟨ps, hps⟩ : ∃ k : Int, (mk.pos : Int) = k := ⟨_, rfl⟩
            rw [hkk, htx, ha1, ha2, hps] at he HC
            rw [htx] at htl
            rw [hL] at HG o3 o4
            subst he
            have hsz : ((w1.alloc (.cells #[.int .i64 kk, .string tx, .complex .f64 a1 a2, .int .i64 ps] 37))).heap.size = w1.heap.size + 1 := by simp
            have HSZ := Lib.hid hsz
            clear hkk htx ha1 ha2 hps hL hsz hone
            go_wp2_with (at_builtin; refine wpList_append_own _ rfl (.tmp 46) (.tmp 48) 24 rfl w.heap.size 37 i0 _ 4 48 Tryz.underlying24 hi hz0 hz1 hz2 rfl (by decide) _ _ _ rfl ((HO1.out.alloc _).alloc _) ⟨w1.heap.size + 1, 0, none⟩ 1 1 [.int .i64 kk, .string tx, .complex .f64 a1 a2, .int .i64 ps] rfl rfl ?d1 ?d2 ?d3 ?d4 ?d5 ?_)
            case d1 =>
              intro j u hj
              match j, hj with
              | 0, hj => simp at hj; subst hj; simp [Addr.add, go_sem]
              | 1, hj => simp at hj; subst hj; simp [Addr.add, go_sem]
              | 2, hj => simp at hj; subst hj; simp [Addr.add, go_sem]
              | 3, hj => simp at hj; subst hj; simp [Addr.add, go_sem]
            case d2 => intro u hu; simp at hu; rcases hu with rfl | rfl | rfl | rfl <;> rfl
            case d3 => unfold maxLen; omega
            case d4 => omega
            case d5 => have := HB1.out.size; simp; omega
            intro v' w2 hown' hgrow _
            have hbx : w2.cell? ⟨w1.heap.size, 1, none⟩ = some (.string tx) := hgrow.cell (a := ⟨w1.heap.size, 1, none⟩) (by simp [go_sem]) (fun e => by have := (HO1.out.lt _ e.symm).2; exact absurd this (Nat.lt_irrefl _))
            have HB2 := Lib.hid (((HB1.out.alloc HB1.out.size _).alloc (by have := HB1.out.size; simp; omega) _).grown hgrow (by have := HB1.out.size; simp; omega) (fun k hk => (HO1.out.lt k hk).1))
            rw [HC.out] at hown'
            have HO2 : Hid (w2.ownsRow w.heap.size 37 4 v' (acc ++ [mk]).length (rowM (acc ++ [mk]))) := Lib.hid (by
              rw [List.length_append, rowM_app, show rowM [mk] = cellsM mk by simp [rowM]]; exact hown')
            clear hgrow hown'
            go_wp2_with fail
            go_roundg (n - (i + L))
            case measure => omega
            case rel => exact ⟨i + L, acc ++ [mk], by omega, by go_num, by rw [List.length_append]; show acc.length + 1 ≤ i + L; omega, HG, HB2, HO2⟩
          · subst he
            have HE : Hid (scan t 0 = .error i) := Lib.hid (by rw [← HHD.out, hone]; rfl)
            clear hone
            go_wp2_with fail
            go_ret2
            exact ⟨Or.inr ⟨i, HE.out, rfl⟩, HB1.out.alloc HB1.out.size _⟩
set_option maxHeartbeats 16000000 in
set_option maxRecDepth 100000 in
theorem refmarks_none (p : Option Addr) (c : Nat) (w : World) :
    Calls Tryz.prog 7 #[.slice p 0 c] w fun e w' => RefR w (scan [] 0) e w' ∧ Below w.heap.size w w' := by
  obtain ⟨i0, hi, hz0, hz1, hz2⟩ := info_parts mark_info
  go_enter Tryz.func7, Tryz.ntmps7
  go_wp2_with fail
  go_loopg [4, 5] 0 (fun g s4 s5 wx => s4 = .slice none 0 0 ∧ s5 = .int .i64 0 ∧ wx = w)
  case atStart => exact ⟨rfl, rfl, rfl⟩
  case round =>
    obtain ⟨rfl, rfl, rfl⟩ := hrel
    go_wp2_with (at_builtin; refine wpList_append_own _ rfl (.tmp 55) (.tmp 59) 24 rfl wr.heap.size 37 i0 _ 4 48 Tryz.underlying24 hi hz0 hz1 hz2 rfl (by decide) _ 0 [] rfl ((World.ownsRow_nil _ _ _ _).alloc _) ⟨wr.heap.size, 0, none⟩ 1 1 [.int .i64 4, .string ⟨#[]⟩, .complex .f64 0 0, .int .i64 0] rfl rfl ?c1 ?c2 ?c3 ?c4 ?c5 ?_)
    case c1 =>
      intro j u hj
      match j, hj with
      | 0, hj => simp at hj; subst hj; simp [Addr.add]
      | 1, hj => simp at hj; subst hj; simp [Addr.add]
      | 2, hj => simp at hj; subst hj; simp [Addr.add]
      | 3, hj => simp at hj; subst hj; simp [Addr.add]
    case c2 => intro u hu; simp at hu; rcases hu with rfl | rfl | rfl | rfl <;> rfl
    case c3 => unfold maxLen; simp
    case c4 => simp
    case c5 => simp
    intro v' w1 hown' hgrow _
    have hown2 : w1.ownsRow wr.heap.size 37 4 v' 1 [Value.int .i64 4, .string ⟨#[]⟩, .complex .f64 0 0, .int .i64 0] := by simpa using hown'
    rw [show [Value.int .i64 4, .string ⟨#[]⟩, .complex .f64 0 0, .int .i64 0] = cellsM ⟨4, [], (0, 0), 0⟩ from cells_plain 4 ⟨#[]⟩ 0] at hown2
    have HO1 := Lib.hid hown2
    have HB1 := Lib.hid ((below_alloc wr _).grown hgrow (below_alloc wr _).size (fun k hk => by simp [Value.ownBlock] at hk))
    clear hown' hgrow hown2
    go_wp2_with fail
    go_ret2
    exact ⟨Or.inl ⟨_, _, scan_nil 0, rfl, HO1.out⟩, HB1.out⟩
/-- the reference's Marks, at every text of at most 2^24 bytes -/
theorem refmarks_any (p : Option Addr) (c : Nat) (t : List UInt8) (hnc : t.length ≤ c) (hb : t.length ≤ 16777216) (w : World) (hT : Txt w p t) :
    Calls Tryz.prog 7 #[.slice p t.length c] w fun e w' => RefR w (scan t 0) e w' ∧ Below w.heap.size w w' := by
  by_cases ht : t = []
  · subst ht; exact refmarks_none p c w
  · obtain ⟨b, o, rfl, hc⟩ := hT ht
    exact refmarks_some b o t.length c t rfl hnc hb w hc
set_option maxHeartbeats 16000000 in
set_option maxRecDepth 100000 in
theorem marksReads_any (p1 : Option Addr) (c1 : Nat) (t : List UInt8) (h1 : t.length ≤ c1) (hb1 : t.length ≤ 1048576) (w : World) (T1 : Txt w p1 t) (z1 : p1 = none → c1 = 0 ∧ t = []) (hI : Inv w) (hS : Spc w) :
    Calls Tryz.prog 3 #[.slice p1 t.length c1] w fun e w' => e = .returned (.bool true) ∧ Below w.heap.size w w' := by
  have TX1 := Lib.hid T1; have ZZ1 := Lib.hid z1
  have HI := Lib.hid hI; have HS := Lib.hid hS
  have HA := Lib.hid (awake_any w hI hS)
  clear T1 z1 hI hS
  obtain ⟨i0, hi, hz0, hz1, hz2⟩ := info_parts byte_info
  go_enter Tryz.func3, Tryz.ntmps3
  go_wp2_with fail
  refine HA.out.mono ?_; rintro e w1 ⟨rfl, hb⟩
  have B1 := Lib.hid hb; clear hb
  go_wp2_with (at_builtin; refine wpList_append_txt rfl (.tmp 10) (.tmp 11) 22 rfl w1.heap.size 5 i0 _ Tryz.underlying22 hi hz0 hz1 hz2 rfl _ 0 [] rfl (own_empty _ _ rfl) p1 _ c1 t rfl rfl ZZ1.out (TX1.out.below (B1.out.alloc B1.out.size _)) (by omega) (by simp) ?_)
  intro v1 w2 hown hgrow _
  have C1 : Ch w1 w2 v1 t := Ch.first (X0 := w1) rfl (by simpa using hown) hgrow
  clear hown hgrow
  obtain ⟨pv, cv, rfl, hcv, hTv, hzv⟩ := C1.shape
  have B2 := Lib.hid (B1.out.trans (C1.1.mono B1.out.size))
  have HTv := Lib.hid hTv
  clear C1 hTv hzv
  go_wp2_with fail
  refine (marks_at pv _ cv t rfl hcv (by omega) _ HTv.out (HI.out.below B2.out) (HS.out.below' B2.out)).mono ?_
  rintro e w3 ⟨hm, hb⟩
  have B3 := Lib.hid (B2.out.trans (hb.mono B2.out.size))
  clear hb HTv hcv
  rcases hm with ⟨ms, v, hR, rfl, hown⟩ | ⟨a, hR, rfl⟩
  · have hpos : 0 < ms.length := List.length_pos_iff.2 (scan_ne _ _ _ _ (Nat.lt_succ_self _) hR)
    obtain ⟨ga, ca, rfl⟩ := Joins.ownsRow_form hown hpos
    have RA := Lib.hid (RowAt.own hown)
    have hlen := scan_len _ _ _ _ (Nat.lt_succ_self _) hR
    have HOK := Lib.hid (scan_oks hR)
    have K3 := Lib.hid (Keep.alloc2 (.int .i64 0) (.int .i64 0) 27 (k := w3.heap.size) rfl (show Keep w [] w3 from ⟨trivial, B3.out⟩))
    clear hown
    go_wp2_with fail
    refine (refmarks_any p1 c1 t h1 (by omega) _ (TX1.out.below (And.right K3.out))).mono ?_
    rintro e w4 ⟨hm, hb⟩
    have K4 := Keep.below hb K3.out
    have RA4 := Lib.hid ((RA.out.below (below_alloc w3 _)).below hb)
    rw [hR] at hm
    rcases hm with ⟨ms', v', hR', rfl, hown'⟩ | ⟨a', hR', rfl⟩
    rotate_left
    · cases hR'
    cases hR'
    obtain ⟨gb, cb, rfl⟩ := Joins.ownsRow_form hown' hpos
    have RB4 := Lib.hid (RowAt.own hown')
    obtain ⟨⟨f0, x0, f1, x1, _⟩, hB⟩ := id K4
    have HK4 := Lib.hid (And.right K4)
    clear hB hb hown' hR K4 K3
    go_wp2_with fail
    refine (same_any true _ _ ca cb ms.length ms ms rfl rfl (by omega) HOK.out _ RA4.out RB4.out).mono ?_
    rintro e w5 ⟨rfl, hb⟩
    have HK5 := Lib.hid (HK4.out.trans (hb.mono HK4.out.size))
    clear hb
    go_wp2_with fail
    go_ret
    exact ⟨rfl, HK5.out⟩
  · have K3 := Lib.hid (Keep.alloc2 (.int .i64 20) (.int .i64 (a : Int)) 27 (k := w3.heap.size) rfl (show Keep w [] w3 from ⟨trivial, B3.out⟩))
    go_wp2_with fail
    refine (refmarks_any p1 c1 t h1 (by omega) _ (TX1.out.below (And.right K3.out))).mono ?_
    rintro e w4 ⟨hm, hb⟩
    have K4 := Keep.below hb K3.out
    rw [hR] at hm
    rcases hm with ⟨ms', v', hR', rfl, hown'⟩ | ⟨a', hR', rfl⟩
    · cases hR'
    cases hR'
    obtain ⟨⟨f0, x0, f1, x1, _⟩, hB⟩ := id K4
    have HK4 := Lib.hid (And.right K4)
    clear hB hb hR K4 K3
    go_wp2_with fail
    go_ret
    exact ⟨rfl, HK4.out⟩
end Go.Proofs.YtedgcllgifiajaaGreatDoor
