/- Texts joined: Mkd Mke Mkf Same Chain Rma Rmb Rmw Rmc Rmd Rme. -/
import Derived.Test.YtgddkgbidhhheaaGreatDoorKwav
import Derived.Lib.SmallJoins
import Derived.Lib.SlBytesConst
import Derived.Deep.LoopGhost
import Derived.Test.YtgddkgbidhhheaaGreatDoorKwao
namespace Go.Proofs.YtgddkgbidhhheaaGreatDoor
open Go.RowKit Flo Mk
theorem mark_info:(Tryz.prog.info? 40).map (fun i=>(i.zero,i.size,i.bytes))=some (some (.agg #[.int .i64 0,.string ByteArray.empty,.complex .f64 0 0,.int .i64 0]),4,48):=by kernel_rfl
theorem drop_cons {t:List UInt8} {i:Nat} {x:UInt8} (h:t[i]? = some x):t.drop i=x :: t.drop (i + 1):=by
 obtain ⟨hi,rfl⟩:=List.getElem?_eq_some_iff.1 h
 exact List.drop_eq_getElem_cons hi
theorem conv_txt (wr : World) (b o n cap : Nat) (S : ByteArray) (hl : S.data.toList.length = n) (hc : ∀ j x, S.data.toList[j]? = some x → wr.cell? ⟨b, o + j, none⟩ = some (.int .u8 (x.toNat : Int))) :
    (convert 22 9 (.slice (some ⟨b, o, none⟩) n cap)).run Tryz.prog wr = .ok (.string S) wr := by
  subst hl
  have h := run_convert_bytes_back (P := Tryz.prog) wr 22 9 5 ⟨b, o, none⟩ cap S.data.toList Tryz.underlying22 Tryz.underlying5 Tryz.underlying9 (fun j hj => by
    rw [Go.WideShapes.add_plain]; exact hc j _ (List.getElem?_eq_getElem hj))
  rw [h, ← ba_list (rfl : S.data.toList = S.data.toList)]
theorem sign_two (c:UInt8) (r:List UInt8) (k:Nat) (h:1≤k):signL (c :: r.take k)=signL (c :: r):=by
 show (if (c == 45 && (r.take k).head? == some 62) || (c == 61 && (r.take k).head? == some 61) then 2 else if sign1 c then 1 else 0)=_
 have:(r.take k).head? = r.head?:=by
  obtain ⟨j,rfl⟩:∃ j,k=j + 1:=⟨k - 1,by omega⟩
  cases r<;>rfl
 rw [this]; rfl
theorem signL_two (l:List UInt8):signL l≤2:=by
 cases l with
 | nil=>exact Nat.zero_le _
 | cons c r=>
  show (if _ then 2 else if _ then 1 else 0)≤2
  split
  ·omega
  ·split<;>omega
theorem cells_plain (k:Nat) (s:ByteArray) (at':Nat):[Value.int .i64 (k:Int),.string s,.complex .f64 0 0,.int .i64 (at':Int)]=cellsM ⟨k,s.data.toList,(0,0),at'⟩:=by
 show _=([_,.string ⟨s.data.toList.toArray⟩,.complex .f64 (W 0) (W 0),_]:List Value)
 rw [← ba_list (rfl:s.data.toList=s.data.toList),zero00]
set_option maxHeartbeats 8000000 in
set_option maxRecDepth 100000 in
theorem marks_some (b o n c : Nat) (t : List UInt8) (hn : t.length = n) (hnc : n ≤ c) (hb : n ≤ 16777216) (w : World) (hT : ∀ j x, t[j]? = some x → w.cell? ⟨b, o + j, none⟩ = some (.int .u8 (x.toNat : Int))) (hI : Inv w) (hS : Spc w) :
    Calls Tryz.prog 16 #[.slice (some ⟨b, o, none⟩) n c] w fun e w' => MarksR w (scan t 0) e w' ∧ Below w.heap.size w w' := by
  have HT := Lib.hid hT
  have HI := Lib.hid hI
  have HS := Lib.hid hS
  have HN := Lib.hid hn
  clear hT hI hS hn
  obtain ⟨i0, hi, hz0, hz1, hz2⟩ := info_parts mark_info
  go_enter Tryz.func16, Tryz.ntmps16
  go_wp2_with fail
  refine wp_scope_from (fun m l a wr => JM w (some ⟨b, o, none⟩) n c t (scan t 0) m l a wr) ?_ ?_
  rotate_left
  · intro hp
    go_wp2_with fail
    go_step3
    rename_i hK
    refine hK _ _ ?_
    refine hp (268435456 * (n - 0) + 201326592) 0 _ _ _ ?hJ rfl
    refine ⟨0, 0, [], .slice none 0 0, false, .int .i64 0, .string ⟨#[]⟩, .complex .f64 0 0, .int .i64 0, ⟨rfl, rfl, rfl, rfl, rfl, rfl, rfl, rfl, rfl, rfl⟩, ⟨?_, ?_, ?_, ?_, ?_, ?_, ?_, ?_, ?_, World.ownsRow_nil _ _ _ _, by simp⟩, Nat.le_refl _, Nat.zero_le _, Or.inl ⟨rfl, Nat.zero_le _, by rw [List.drop_zero, fin_nil], rfl⟩⟩
    · exact ((Below.refl _ _).alloc (Nat.le_refl _) _).alloc (by simp) _
    all_goals first | (intro o; simp [go_sem]; done) | (simp [go_sem]; done)
  · rintro m l a wr ⟨i, fr, acc, v, ok, m0, m1, m2, m3, hF, hH, hfi, hin, hcase⟩ hih
    have IH := Lib.hid hih
    clear hih
    obtain ⟨U, rfl⟩ := hF.open
    clear hF
    have HH := Lib.hid hH
    obtain ⟨-, f0, f1, ff, k0, k1, k2, k3, mf, -, -⟩ := hH
    rcases hcase with ⟨rfl, hal, hR, rfl⟩ | ⟨rfl, hal, hx, hR, rfl⟩ | ⟨rfl, hal, hx, hR, rfl⟩ | ⟨rfl, hal, rfl, hx, hR, rfl⟩ | ⟨rfl, hal, hfn, hx, ho, hR, rfl⟩
    · refine ⟨_, rfl, ?_⟩
      have HR := Lib.hid hR
      clear hR
      by_cases hin' : i = n
      · subst hin'
        go_wp2_with (at_builtin; refine wpList_append_own _ rfl (.tmp 15) (.tmp 18) 31 rfl (w.heap.size + 2) 40 i0 _ 4 48 Tryz.underlying31 hi hz0 hz1 hz2 rfl (by decide) _ _ _ rfl (HH.out.own.alloc _) ⟨wr.heap.size, 0, none⟩ 1 1 [.int .i64 4, .string ⟨#[]⟩, .complex .f64 0 0, .int .i64 (i : Int)] rfl rfl ?c1 ?c2 ?c3 ?c4 ?c5 ?_)
        case c1 =>
          intro j u hj
          match j, hj with
          | 0, hj => simp at hj; subst hj; simp [Addr.add]
          | 1, hj => simp at hj; subst hj; simp [Addr.add]
          | 2, hj => simp at hj; subst hj; simp [Addr.add]
          | 3, hj => simp at hj; subst hj; simp [Addr.add]
        case c2 => intro u hu; simp at hu; rcases hu with rfl | rfl | rfl | rfl <;> rfl
        case c3 => unfold maxLen; omega
        case c4 => omega
        case c5 => have := HH.out.size; simp; omega
        intro v' w1 hown' hgrow _
        rw [show [Value.int .i64 4, .string ⟨#[]⟩, .complex .f64 0 0, .int .i64 (i : Int)] = cellsM ⟨4, [], (0, 0), i⟩ from cells_plain 4 ⟨#[]⟩ i] at hown'
        have H1 := HH.out.app hown' hgrow
        clear f0 f1 ff k0 k1 k2 k3 mf hown' hgrow
        have H1' := Lib.hid H1
        obtain ⟨-, f0, f1, ff, -, -, -, -, -, -, -⟩ := H1
        have HE : Hid (scan t 0 = .ok (acc ++ [⟨4, [], (0, 0), i⟩])) := Lib.hid (by
          rw [← HR.out, List.drop_of_length_le (by rw [HN.out]; exact Nat.le_refl _), scan_nil]; rfl)
        go_wp2_with fail
        simp only [jumpsQ]
        refine bodyPost_ret (v := .tuple #[v', .agg #[.int .i64 0, .int .i64 0]]) (by simp [results, Tryz.results16, go_sem, f0, f1]) rfl ⟨Or.inl ⟨_, _, HE.out, rfl, ?_⟩, ?_⟩
        · exact own_base (ownsRow_setCell_below (ownsRow_setCell_below H1'.out.own (by show w.heap.size < _; omega) _) (by show w.heap.size < _; omega) _) (by omega)
        · exact (H1'.out.below.setCell (p := ⟨w.heap.size, 0, none⟩) (Nat.le_refl _) _).setCell (p := ⟨w.heap.size, 1, none⟩) (Nat.le_refl _) _
      · have hlt : i < n := by omega
        obtain ⟨x, hx⟩ : ∃ x, t[i]? = some x := ⟨_, List.getElem?_eq_getElem (by rw [HN.out]; exact hlt)⟩
        have hcx : wr.cell? ⟨b, o + i, none⟩ = some (.int .u8 (x.toNat : Int)) := by
          have h := HT.out i x hx
          exact (HH.out.below.cell (World.block_lt_of_cell? w _ h)).trans h
        have HD : Hid (t.drop i = x :: t.drop (i + 1)) := Lib.hid (drop_cons hx)
        have HX := Lib.hid hx
        clear hx hin'
        have hxl := x.toNat_lt
        by_cases hbl : blankB x = true
        · have HB := Lib.hid hbl
          unfold blankB at hbl
          simp only [Bool.or_eq_true, beq_iff_eq] at hbl
          have HG : Hid (fin acc (scan (t.drop (i + 1)) (i + 1)) = scan t 0) := Lib.hid (by rw [← HR.out, HD.out, scan_blank HB.out])
          rcases hbl with ((rfl | rfl) | rfl) | rfl
          all_goals
            go_wp2_with fail
            go_step3
            show ∃ n', JM w (some ⟨b, o, none⟩) n c t (scan t 0) n' 0 _ _ ∧ n' < _
            exact ⟨268435456 * (n - (i + 1)) + 201326592, ⟨i + 1, i, acc, v, ok, m0, m1, m2, m3, ⟨rfl, rfl, rfl, rfl, rfl, rfl, rfl, rfl, rfl, rfl⟩, HH.out, by omega, by omega, Or.inl ⟨rfl, by omega, HG.out, rfl⟩⟩, by omega⟩
        · have hbl' : blankB x = false := by simpa using hbl
          have hbb : ((x.toNat : Int) == 32) = false ∧ ((x.toNat : Int) == 9) = false ∧ ((x.toNat : Int) == 10) = false ∧ ((x.toNat : Int) == 13) = false := by
            refine u8_all (p := fun x => blankB x = false → ((x.toNat : Int) == 32) = false ∧ ((x.toNat : Int) == 9) = false ∧ ((x.toNat : Int) == 10) = false ∧ ((x.toNat : Int) == 13) = false) ?_ x hbl'
            decide +kernel
          obtain ⟨e1, e2, e3, e4⟩ := hbb
          have HB := Lib.hid hbl'
          clear hbl hbl'
          by_cases h35 : x = 35
          · subst h35
            have HG : Hid (fin acc (rem (t.drop i) i) = scan t 0) := Lib.hid (by rw [← HR.out, HD.out, scan_hash])
            go_wp2_with fail
            go_step3
            show ∃ n', JM w (some ⟨b, o, none⟩) n c t (scan t 0) n' 1 _ _ ∧ n' < _
            exact ⟨268435456 * (n - i) + 134217728 + (n - i), ⟨i, i, acc, v, ok, m0, m1, m2, m3, ⟨rfl, rfl, rfl, rfl, rfl, rfl, rfl, rfl, rfl, rfl⟩, HH.out, by omega, by omega, Or.inr (Or.inl ⟨rfl, by omega, Or.inr HX.out, HG.out, rfl⟩)⟩, by omega⟩
          · have e5 : ((x.toNat : Int) == 35) = false := by
              refine beq_eq_false_iff_ne.2 fun h => h35 (UInt8.toNat_inj.1 ?_)
              have h2 : (x.toNat : Int) = 35 := h
              show x.toNat = 35
              omega
            have H35 := Lib.hid h35
            clear h35
            obtain ⟨q, hq⟩ : ∃ q, runB x = q := ⟨_, rfl⟩
            have HQ := Lib.hid (fun w => runs_any x w)
            rw [hq] at HQ
            have HX2 := Lib.hid hq
            clear hq
            cases q
            · go_wp2_with (go_at_call 30; refine (HQ.out _).mono ?_; rintro e w' ⟨rfl, rfl⟩)
              go_step3
              show ∃ n', JM w (some ⟨b, o, none⟩) n c t (scan t 0) n' 3 _ _ ∧ n' < _
              exact ⟨268435456 * (n - i) + 134217728, ⟨i, i, acc, v, ok, m0, m1, m2, m3, ⟨rfl, rfl, rfl, rfl, rfl, rfl, rfl, rfl, rfl, rfl⟩, HH.out, by omega, by omega, Or.inr (Or.inr (Or.inr (Or.inl ⟨rfl, by omega, rfl, ⟨x, HX.out, HB.out, H35.out, HX2.out⟩, HR.out, rfl⟩)))⟩, by omega⟩
            · go_wp2_with (go_at_call 30; refine (HQ.out _).mono ?_; rintro e w' ⟨rfl, rfl⟩)
              go_step3
              show ∃ n', JM w (some ⟨b, o, none⟩) n c t (scan t 0) n' 2 _ _ ∧ n' < _
              exact ⟨268435456 * (n - i) + 134217728 + (n - i), ⟨i, i, acc, v, ok, m0, m1, m2, m3, ⟨rfl, rfl, rfl, rfl, rfl, rfl, rfl, rfl, rfl, rfl⟩, HH.out, by omega, by omega, Or.inr (Or.inr (Or.inl ⟨rfl, by omega, ⟨by rw [Nat.sub_self]; rfl, x, HX.out, HX2.out⟩, HR.out, rfl⟩))⟩, by omega⟩
    · refine ⟨_, rfl, ?_⟩
      have HR := Lib.hid hR
      clear hR
      by_cases hin' : i = n
      · subst hin'
        have hfi' : fr < i := by
          rcases hx with h | h
          · exact h
          · rw [List.getElem?_eq_none (by rw [HN.out]; exact Nat.le_refl _)] at h; cases h
        have HG : Hid (fin acc (scan (t.drop i) i) = scan t 0) := Lib.hid (by
          rw [← HR.out, List.drop_of_length_le (by rw [HN.out]; exact Nat.le_refl _), rem_nil])
        clear hx
        go_wp2_with fail
        go_step3
        show ∃ n', JM w (some ⟨b, o, none⟩) i c t (scan t 0) n' 0 _ _ ∧ n' < _
        exact ⟨268435456 * (i - i) + 201326592, ⟨i, fr, acc, v, ok, m0, m1, m2, m3, ⟨rfl, rfl, rfl, rfl, rfl, rfl, rfl, rfl, rfl, rfl⟩, HH.out, by omega, by omega, Or.inl ⟨rfl, by omega, HG.out, rfl⟩⟩, by omega⟩
      · have hlt : i < n := by omega
        obtain ⟨x, hx'⟩ : ∃ x, t[i]? = some x := ⟨_, List.getElem?_eq_getElem (by rw [HN.out]; exact hlt)⟩
        have hcx : wr.cell? ⟨b, o + i, none⟩ = some (.int .u8 (x.toNat : Int)) := by
          have h := HT.out i x hx'
          exact (HH.out.below.cell (World.block_lt_of_cell? w _ h)).trans h
        have HD : Hid (t.drop i = x :: t.drop (i + 1)) := Lib.hid (drop_cons hx')
        have hxl := x.toNat_lt
        by_cases h10 : x = 10
        · subst h10
          have hfi' : fr < i := by
            rcases hx with h | h
            · exact h
            · rw [hx'] at h; cases h
          have HG : Hid (fin acc (scan (t.drop i) i) = scan t 0) := Lib.hid (by rw [← HR.out, HD.out, rem_nl])
          clear hx hx' hin'
          go_wp2_with fail
          go_step3
          show ∃ n', JM w (some ⟨b, o, none⟩) n c t (scan t 0) n' 0 _ _ ∧ n' < _
          exact ⟨268435456 * (n - i) + 201326592, ⟨i, fr, acc, v, ok, m0, m1, m2, m3, ⟨rfl, rfl, rfl, rfl, rfl, rfl, rfl, rfl, rfl, rfl⟩, HH.out, by omega, by omega, Or.inl ⟨rfl, by omega, HG.out, rfl⟩⟩, by omega⟩
        · have e5 : ((x.toNat : Int) == 10) = false := by
            refine beq_eq_false_iff_ne.2 fun h => h10 (UInt8.toNat_inj.1 ?_)
            have h2 : (x.toNat : Int) = 10 := h
            show x.toNat = 10
            omega
          have e6 : ((x.toNat : Int) != 10) = true := by rw [bne, e5]; rfl
          have HG : Hid (fin acc (rem (t.drop (i + 1)) (i + 1)) = scan t 0) := Lib.hid (by rw [← HR.out, HD.out, rem_cons h10])
          clear hx hx' hin' h10
          go_wp2_with fail
          go_step3
          show ∃ n', JM w (some ⟨b, o, none⟩) n c t (scan t 0) n' 1 _ _ ∧ n' < _
          exact ⟨268435456 * (n - fr) + 134217728 + (n - (i + 1)), ⟨i + 1, fr, acc, v, ok, m0, m1, m2, m3, ⟨rfl, rfl, rfl, rfl, rfl, rfl, rfl, rfl, rfl, rfl⟩, HH.out, by omega, by omega, Or.inr (Or.inl ⟨rfl, by omega, Or.inl (by omega), HG.out, rfl⟩)⟩, by omega⟩
    · refine ⟨_, rfl, ?_⟩
      have HR := Lib.hid hR
      clear hR
      obtain ⟨hrun, y, hy, hyr⟩ := hx
      have hfn : fr < n := by rw [← HN.out]; exact (List.getElem?_eq_some_iff.1 hy).1
      have HY := Lib.hid hy
      have HYR := Lib.hid hyr
      have HRun := Lib.hid hrun
      clear hrun hy hyr
      have fin2 : (∀ x, t[i]? = some x → runB x = false) → (t.drop fr).takeWhile runB = (t.drop fr).take (i - fr) ∧ fr < i := fun hstop => by
        have h1 := HRun.out
        have h2 : (t.drop i).takeWhile runB = [] := by
          cases hd : t.drop i with
          | nil => rfl
          | cons x r =>
            have hx : t[i]? = some x := by
              have := congrArg (fun l => l[0]?) hd
              simpa [List.getElem?_drop] using this
            rw [List.takeWhile_cons, hstop x hx]; rfl
        rw [h2, List.append_nil] at h1
        refine ⟨h1, ?_⟩
        rcases Nat.lt_or_ge fr i with h | h
        · exact h
        · obtain rfl : i = fr := by omega
          have := hstop y HY.out
          rw [HYR.out] at this; cases this
      have HF2 := Lib.hid fin2
      clear fin2
      have HNB : Hid (blankB y = false ∧ y ≠ 35) := Lib.hid (by
        refine u8_all (p := fun y => runB y = true → blankB y = false ∧ y ≠ 35) ?_ y HYR.out
        decide +kernel)
      by_cases hgo : ∃ x, t[i]? = some x ∧ runB x = true
      · obtain ⟨x, hx, hxr⟩ := hgo
        have hlt : i < n := by rw [← HN.out]; exact (List.getElem?_eq_some_iff.1 hx).1
        have hcx : wr.cell? ⟨b, o + i, none⟩ = some (.int .u8 (x.toNat : Int)) := by
          have h := HT.out i x hx
          exact (HH.out.below.cell (World.block_lt_of_cell? w _ h)).trans h
        have hxl := x.toNat_lt
        have HQ := Lib.hid (fun w => runs_any x w)
        rw [hxr] at HQ
        have HG : Hid (RunAt t fr (i + 1)) := Lib.hid (by
          refine ⟨?_, y, HY.out, HYR.out⟩
          rw [HRun.out, drop_cons hx, List.takeWhile_cons, if_pos hxr, show i + 1 - fr = (i - fr) + 1 by omega, List.take_add_one]
          rw [List.getElem?_drop, show fr + (i - fr) = i by omega, hx, List.append_assoc]; rfl)
        clear hx hxr
        go_wp2_with (go_at_call 30; refine (HQ.out _).mono ?_; rintro e w' ⟨rfl, rfl⟩)
        go_step3
        show ∃ n', JM w (some ⟨b, o, none⟩) n c t (scan t 0) n' 2 _ _ ∧ n' < _
        exact ⟨268435456 * (n - fr) + 134217728 + (n - (i + 1)), ⟨i + 1, fr, acc, v, ok, m0, m1, m2, m3, ⟨rfl, rfl, rfl, rfl, rfl, rfl, rfl, rfl, rfl, rfl⟩, HH.out, by omega, by omega, Or.inr (Or.inr (Or.inl ⟨rfl, by omega, HG.out, HR.out, rfl⟩))⟩, by omega⟩
      · have hstop : ∀ x, t[i]? = some x → runB x = false := fun x hx => by
          cases h : runB x with
          | false => rfl
          | true => exact absurd ⟨x, hx, h⟩ hgo
        obtain ⟨htw, hfi'⟩ := HF2.out hstop
        have HHd : Hid ((t.drop fr).head? = some y) := Lib.hid (by rw [drop_cons HY.out]; rfl)
        obtain ⟨S, hSd⟩ : ∃ S : ByteArray, S.data.toList = (t.drop fr).take (i - fr) := ⟨⟨((t.drop fr).take (i - fr)).toArray⟩, by simp⟩
        have HSL : Hid (S.data.toList.length = i - fr) := Lib.hid (by rw [hSd, List.length_take, List.length_drop, HN.out]; omega)
        have HOne : Hid (one (t.drop fr) fr = wordM S.data.toList fr) := Lib.hid (by
          unfold one
          rw [if_pos (by rw [HHd.out]; show some (runB y) = _; rw [HYR.out]), htw, hSd])
        obtain ⟨r, hr⟩ : ∃ r, S.data.toList = y :: r := by
          rw [hSd, drop_cons HY.out, show i - fr = (i - fr - 1) + 1 by omega, List.take_succ_cons]
          exact ⟨_, rfl⟩
        have HSC := Lib.hid hr
        have hcv := conv_txt wr b (o + fr) (i - fr) (c - fr) S HSL.out (fun j x hx => by
          rw [hSd, List.getElem?_take] at hx
          split at hx
          · rw [List.getElem?_drop] at hx
            have h := HT.out _ x hx
            rw [← Nat.add_assoc] at h
            exact (HH.out.below.cell (World.block_lt_of_cell? w _ h)).trans h
          · cases hx)
        have HST := Lib.hid hstop
        clear hgo hstop htw hSd hr
        by_cases hin' : i = n
        · subst hin'
          go_wp2_with fail
          refine (word_any S y r HSC.out (by rw [Lib.size_eq, HSL.out]; omega) fr wr (HI.out.below HH.out.below) (HS.out.below' HH.out.below)).mono ?_
          rintro e w1 ⟨hw, hb1⟩
          have H1 := HH.out.call hb1
          have H1' := Lib.hid H1
          obtain ⟨-, -, -, -, k0, k1, k2, k3, mf, -, -⟩ := H1
          clear hb1
          rcases hw with ⟨mk, hm, he⟩ | ⟨hm, kk, a1, a2, he⟩
          · have HM : Hid (one (t.drop fr) fr = some mk) := Lib.hid (by rw [HOne.out, hm])
            have HL : Hid (mk.text.length = i - fr) := Lib.hid (by rw [(wordM_text hm).1]; exact HSL.out)
            clear hm
            rw [show aggM mk = .agg #[.int .i64 mk.kind, .string ⟨mk.text.toArray⟩, .complex .f64 (W mk.num.1) (W mk.num.2), .int .i64 mk.pos] from rfl] at he
            obtain ⟨kk, hkk⟩ : ∃ k : Int, (mk.kind : Int) = k := ⟨_, rfl⟩
            obtain ⟨tx, htx⟩ : ∃ k : ByteArray, ⟨mk.text.toArray⟩ = k := ⟨_, rfl⟩
            obtain ⟨a1, ha1⟩ : ∃ k, W mk.num.1 = k := ⟨_, rfl⟩
            obtain ⟨a2, ha2⟩ : ∃ k, W mk.num.2 = k := ⟨_, rfl⟩
            obtain ⟨ps, hps⟩ : ∃ k : Int, (mk.pos : Int) = k := ⟨_, rfl⟩
            rw [hkk, htx, ha1, ha2, hps] at he
            subst he
            have HE : Hid ((mk.kind : Int) = kk ∧ (⟨mk.text.toArray⟩ : ByteArray) = tx ∧ W mk.num.1 = a1 ∧ W mk.num.2 = a2 ∧ (mk.pos : Int) = ps) := Lib.hid ⟨hkk, htx, ha1, ha2, hps⟩
            clear hkk htx ha1 ha2 hps
            go_wp2_with fail
            go_step3
            show ∃ n', JM w (some ⟨b, o, none⟩) i c t (scan t 0) n' 4 _ _ ∧ n' < _
            obtain ⟨q1, q2, q3, q4, q5⟩ := HE.out
            have hl := HL.out
            exact ⟨268435456 * (i - fr) + 67108864, ⟨i, fr, acc, v, true, .int .i64 kk, .string tx, .complex .f64 a1 a2, .int .i64 ps, ⟨rfl, rfl, rfl, rfl, rfl, rfl, rfl, rfl, rfl, rfl⟩, H1'.out.store _ _ _ _, by omega, by omega, Or.inr (Or.inr (Or.inr (Or.inr ⟨rfl, by omega, by omega, ⟨y, HY.out, HNB.out⟩, Or.inr ⟨rfl, mk, HM.out, by omega, by rw [q1], by rw [q2], by rw [q3, q4], by rw [q5]⟩, HR.out, rfl⟩)))⟩, by omega⟩
          · have HM : Hid (one (t.drop fr) fr = none) := Lib.hid (by rw [HOne.out, hm])
            clear hm
            subst he
            go_wp2_with fail
            go_step3
            show ∃ n', JM w (some ⟨b, o, none⟩) i c t (scan t 0) n' 4 _ _ ∧ n' < _
            exact ⟨268435456 * (i - fr) + 67108864, ⟨i, fr, acc, v, false, _, _, _, _, ⟨rfl, rfl, rfl, rfl, rfl, rfl, rfl, rfl, rfl, rfl⟩, H1'.out.store _ _ _ _, by omega, by omega, Or.inr (Or.inr (Or.inr (Or.inr ⟨rfl, by omega, by omega, ⟨y, HY.out, HNB.out⟩, Or.inl ⟨rfl, HM.out⟩, HR.out, rfl⟩)))⟩, by omega⟩
        · have hlt : i < n := by omega
          obtain ⟨x, hx⟩ : ∃ x, t[i]? = some x := ⟨_, List.getElem?_eq_getElem (by rw [HN.out]; exact hlt)⟩
          have hcx : wr.cell? ⟨b, o + i, none⟩ = some (.int .u8 (x.toNat : Int)) := by
            have h := HT.out i x hx
            exact (HH.out.below.cell (World.block_lt_of_cell? w _ h)).trans h
          have hxl := x.toNat_lt
          have HQ := Lib.hid (fun w => runs_any x w)
          rw [HST.out x hx] at HQ
          clear hx hin'
          go_wp2_with (go_at_call 30; refine (HQ.out _).mono ?_; rintro e w' ⟨rfl, rfl⟩)
          refine (word_any S y r HSC.out (by rw [Lib.size_eq, HSL.out]; omega) fr wr (HI.out.below HH.out.below) (HS.out.below' HH.out.below)).mono ?_
          rintro e w1 ⟨hw, hb1⟩
          have H1 := HH.out.call hb1
          have H1' := Lib.hid H1
          obtain ⟨-, -, -, -, k0, k1, k2, k3, mf, -, -⟩ := H1
          clear hb1
          rcases hw with ⟨mk, hm, he⟩ | ⟨hm, kk, a1, a2, he⟩
          · have HM : Hid (one (t.drop fr) fr = some mk) := Lib.hid (by rw [HOne.out, hm])
            have HL : Hid (mk.text.length = i - fr) := Lib.hid (by rw [(wordM_text hm).1]; exact HSL.out)
            clear hm
            rw [show aggM mk = .agg #[.int .i64 mk.kind, .string ⟨mk.text.toArray⟩, .complex .f64 (W mk.num.1) (W mk.num.2), .int .i64 mk.pos] from rfl] at he
            obtain ⟨kk, hkk⟩ : ∃ k : Int, (mk.kind : Int) = k := ⟨_, rfl⟩
            obtain ⟨tx, htx⟩ : ∃ k : ByteArray, ⟨mk.text.toArray⟩ = k := ⟨_, rfl⟩
            obtain ⟨a1, ha1⟩ : ∃ k, W mk.num.1 = k := ⟨_, rfl⟩
            obtain ⟨a2, ha2⟩ : ∃ k, W mk.num.2 = k := ⟨_, rfl⟩
            obtain ⟨ps, hps⟩ : ∃ k : Int, (mk.pos : Int) = k := ⟨_, rfl⟩
            rw [hkk, htx, ha1, ha2, hps] at he
            subst he
            have HE : Hid ((mk.kind : Int) = kk ∧ (⟨mk.text.toArray⟩ : ByteArray) = tx ∧ W mk.num.1 = a1 ∧ W mk.num.2 = a2 ∧ (mk.pos : Int) = ps) := Lib.hid ⟨hkk, htx, ha1, ha2, hps⟩
            clear hkk htx ha1 ha2 hps
            go_wp2_with fail
            go_step3
            show ∃ n', JM w (some ⟨b, o, none⟩) n c t (scan t 0) n' 4 _ _ ∧ n' < _
            obtain ⟨q1, q2, q3, q4, q5⟩ := HE.out
            have hl := HL.out
            exact ⟨268435456 * (n - fr) + 67108864, ⟨i, fr, acc, v, true, .int .i64 kk, .string tx, .complex .f64 a1 a2, .int .i64 ps, ⟨rfl, rfl, rfl, rfl, rfl, rfl, rfl, rfl, rfl, rfl⟩, H1'.out.store _ _ _ _, by omega, by omega, Or.inr (Or.inr (Or.inr (Or.inr ⟨rfl, by omega, by omega, ⟨y, HY.out, HNB.out⟩, Or.inr ⟨rfl, mk, HM.out, by omega, by rw [q1], by rw [q2], by rw [q3, q4], by rw [q5]⟩, HR.out, rfl⟩)))⟩, by omega⟩
          · have HM : Hid (one (t.drop fr) fr = none) := Lib.hid (by rw [HOne.out, hm])
            clear hm
            subst he
            go_wp2_with fail
            go_step3
            show ∃ n', JM w (some ⟨b, o, none⟩) n c t (scan t 0) n' 4 _ _ ∧ n' < _
            exact ⟨268435456 * (n - fr) + 67108864, ⟨i, fr, acc, v, false, _, _, _, _, ⟨rfl, rfl, rfl, rfl, rfl, rfl, rfl, rfl, rfl, rfl⟩, H1'.out.store _ _ _ _, by omega, by omega, Or.inr (Or.inr (Or.inr (Or.inr ⟨rfl, by omega, by omega, ⟨y, HY.out, HNB.out⟩, Or.inl ⟨rfl, HM.out⟩, HR.out, rfl⟩)))⟩, by omega⟩
    · refine ⟨_, rfl, ?_⟩
      obtain ⟨x, hx, hbx, h35, hrx⟩ := hx
      have HR := Lib.hid hR
      clear hR
      have hfn : i < n := by rw [← HN.out]; exact (List.getElem?_eq_some_iff.1 hx).1
      have HX := Lib.hid hx
      have HNB := Lib.hid (show blankB x = false ∧ x ≠ 35 from ⟨hbx, h35⟩)
      have HRX := Lib.hid hrx
      obtain ⟨S2, hS2⟩ : ∃ S : ByteArray, S.data.toList = x :: (t.drop (i + 1)).take (min (i + 2) n - (i + 1)) := ⟨⟨(x :: (t.drop (i + 1)).take (min (i + 2) n - (i + 1))).toArray⟩, by simp⟩
      have HTk : Hid (x :: (t.drop (i + 1)).take (min (i + 2) n - (i + 1)) = (t.drop i).take (min (i + 2) n - i)) := Lib.hid (by
        rw [drop_cons HX.out, show min (i + 2) n - i = (min (i + 2) n - (i + 1)) + 1 by omega, List.take_succ_cons])
      have HSL : Hid (S2.data.toList.length = min (i + 2) n - i) := Lib.hid (by rw [hS2, HTk.out, List.length_take, List.length_drop, HN.out]; omega)
      have rd : ∀ j y, t[j]? = some y → wr.cell? ⟨b, o + j, none⟩ = some (.int .u8 (y.toNat : Int)) := fun j y hj => by
        have h := HT.out j y hj
        exact (HH.out.below.cell (World.block_lt_of_cell? w _ h)).trans h
      have RD := Lib.hid rd
      have hcv := conv_txt wr b (o + i) (min (i + 2) n - i) (c - i) S2 HSL.out (fun j y hy => by
        rw [hS2, HTk.out, List.getElem?_take] at hy
        split at hy
        · rw [List.getElem?_drop] at hy
          have := RD.out _ y hy
          rw [← Nat.add_assoc] at this; exact this
        · cases hy)
      obtain ⟨sl, hsl⟩ : ∃ sl, signL (t.drop i) = sl := ⟨_, rfl⟩
      have HW : Hid (Calls Tryz.prog 32 #[.string S2] wr fun e w' => e = .returned (.int .i64 (sl : Int)) ∧ wr = w') := Lib.hid (by
        have h := width_any S2 x _ hS2 (by rw [Lib.size_eq, HSL.out]; omega) wr
        rw [← hsl, drop_cons HX.out]
        by_cases h1 : n ≤ i + 1
        · rw [show t.drop (i + 1) = [] from List.drop_of_length_le (by rw [HN.out]; exact h1)] at h ⊢
          rw [List.take_nil] at h; exact h
        · rw [sign_two x _ _ (by omega)] at h; exact h)
      have hle : sl ≤ 2 ∧ i + sl ≤ n := by
        have h1 := signL_two (t.drop i)
        have h2 := signL_le (t.drop i)
        rw [List.length_drop, HN.out] at h2
        omega
      have HOne : Hid (one (t.drop i) i = if sl = 0 then none else some ⟨3, (t.drop i).take sl, (0, 0), i⟩) := Lib.hid (by
        unfold one
        rw [if_neg (by rw [drop_cons HX.out]; show ¬ some (runB x) = some true; rw [HRX.out]; simp), hsl])
      obtain ⟨S3, hS3⟩ : ∃ S : ByteArray, S.data.toList = (t.drop i).take sl := ⟨⟨((t.drop i).take sl).toArray⟩, by simp⟩
      have hcv3 := conv_txt wr b (o + i) (i + sl - i) (c - i) S3 (by rw [hS3, List.length_take, List.length_drop, HN.out]; omega) (fun j y hy => by
        rw [hS3, List.getElem?_take] at hy
        split at hy
        · rw [List.getElem?_drop] at hy
          have := RD.out _ y hy
          rw [← Nat.add_assoc] at this; exact this
        · cases hy)
      have HS3 := Lib.hid hS3
      clear hS2 hsl hS3 rd hx hbx h35 hrx
      obtain ⟨q, hq⟩ : ∃ q : Nat, min (i + 2) n = q := ⟨_, rfl⟩
      have hq1 : min ((i : Int) + 2) (n : Int) = (q : Int) := by omega
      have hq2 : i ≤ q ∧ q ≤ n := by omega
      rw [hq] at hcv
      have HQ := Lib.hid hq
      clear hq
      rcases (show sl = 0 ∨ sl = 1 ∨ sl = 2 by omega) with rfl | rfl | rfl
      · have hcv4 := hcv3
        rw [show i + 0 - i = 0 by omega] at hcv4
        go_wp2_with fail
        refine HW.out.mono ?_; rintro e w' ⟨rfl, rfl⟩
        go_wp2_with fail
        go_step3
        rename_i hK
        refine hK _ _ ?_
        refine IH.out (268435456 * (n - i) + 67108864) 4 _ _ _ (by omega) ?_ rfl
        exact ⟨i, i, acc, v, false, _, _, _, _, ⟨rfl, rfl, rfl, rfl, rfl, rfl, rfl, rfl, rfl, rfl⟩, HH.out.store _ _ _ _, by omega, by omega, Or.inr (Or.inr (Or.inr (Or.inr ⟨rfl, by omega, by omega, ⟨x, HX.out, HNB.out⟩, Or.inl ⟨rfl, by rw [HOne.out]; rfl⟩, HR.out, rfl⟩)))⟩
      · have hcv4 := hcv3
        rw [show i + 1 - i = 1 by omega] at hcv4
        have hlt1 : (i : Int) < (i : Int) + 1 := by omega
        go_wp2_with fail
        refine HW.out.mono ?_; rintro e w' ⟨rfl, rfl⟩
        go_wp2_with fail
        go_step3
        rename_i hK
        refine hK _ _ ?_
        refine IH.out (268435456 * (n - i) + 67108864) 4 _ _ _ (by omega) ?_ rfl
        have hl3 : ((t.drop i).take 1).length = 1 := by rw [List.length_take, List.length_drop, HN.out]; omega
        exact ⟨i + 1, i, acc, v, true, _, _, _, _, ⟨rfl, rfl, rfl, rfl, rfl, rfl, rfl, rfl, rfl, rfl⟩, HH.out.store _ _ _ _, by omega, by omega, Or.inr (Or.inr (Or.inr (Or.inr ⟨rfl, by omega, by omega, ⟨x, HX.out, HNB.out⟩, Or.inr ⟨rfl, ⟨3, (t.drop i).take 1, (0, 0), i⟩, by rw [HOne.out]; rfl, by rw [hl3], rfl, by rw [← HS3.out, ← ba_list (rfl : S3.data.toList = S3.data.toList)], by rw [zero00], rfl⟩, HR.out, rfl⟩)))⟩
      · have hcv4 := hcv3
        rw [show i + 2 - i = 2 by omega] at hcv4
        have hlt1 : (i : Int) < (i : Int) + 2 := by omega
        go_wp2_with fail
        refine HW.out.mono ?_; rintro e w' ⟨rfl, rfl⟩
        go_wp2_with fail
        go_step3
        rename_i hK
        refine hK _ _ ?_
        refine IH.out (268435456 * (n - i) + 67108864) 4 _ _ _ (by omega) ?_ rfl
        have hl3 : ((t.drop i).take 2).length = 2 := by rw [List.length_take, List.length_drop, HN.out]; omega
        exact ⟨i + 2, i, acc, v, true, _, _, _, _, ⟨rfl, rfl, rfl, rfl, rfl, rfl, rfl, rfl, rfl, rfl⟩, HH.out.store _ _ _ _, by omega, by omega, Or.inr (Or.inr (Or.inr (Or.inr ⟨rfl, by omega, by omega, ⟨x, HX.out, HNB.out⟩, Or.inr ⟨rfl, ⟨3, (t.drop i).take 2, (0, 0), i⟩, by rw [HOne.out]; rfl, by rw [hl3], rfl, by rw [← HS3.out, ← ba_list (rfl : S3.data.toList = S3.data.toList)], by rw [zero00], rfl⟩, HR.out, rfl⟩)))⟩
    · refine ⟨_, rfl, ?_⟩
      obtain ⟨x, hx, hnb⟩ := hx
      have HX := Lib.hid hx
      have HNB := Lib.hid hnb
      have HR := Lib.hid hR
      clear hx hnb hR
      rcases ho with ⟨rfl, hone⟩ | ⟨rfl, mk, hone, hil, rfl, rfl, rfl, rfl⟩
      · have HE : Hid (scan t 0 = .error fr) := Lib.hid (by
          rw [← HR.out, drop_cons HX.out, scan_one HNB.out.1 HNB.out.2, ← drop_cons HX.out, hone]; rfl)
        clear hone
        go_wp2_with fail
        simp only [jumpsQ]
        refine bodyPost_ret (v := .tuple #[.slice none 0 0, .agg #[.int .i64 20, .int .i64 (fr : Int)]]) (by simp [results, Tryz.results16, go_sem, f0, f1]) rfl ⟨Or.inr ⟨_, HE.out, rfl⟩, ?_⟩
        exact (HH.out.below.setCell (p := ⟨w.heap.size, 0, none⟩) (Nat.le_refl _) _).setCell (p := ⟨w.heap.size, 1, none⟩) (Nat.le_refl _) _
      · have HG : Hid (fin (acc ++ [mk]) (scan (t.drop i) i) = scan t 0) := Lib.hid (by
          rw [← HR.out, drop_cons HX.out, scan_one HNB.out.1 HNB.out.2, ← drop_cons HX.out, hone]
          show _ = fin acc (pre mk (scan ((t.drop fr).drop mk.text.length) (fr + mk.text.length)))
          rw [fin_pre, List.drop_drop, ← hil])
        have hlen : 0 < mk.text.length := (one_text hone).2.2.1
        have HC : Hid ([Value.int .i64 mk.kind, .string ⟨mk.text.toArray⟩, .complex .f64 (W mk.num.1) (W mk.num.2), .int .i64 mk.pos] = cellsM mk) := Lib.hid rfl
        obtain ⟨kk, hkk⟩ : ∃ k : Int, (mk.kind : Int) = k := ⟨_, rfl⟩
        obtain ⟨tx, htx⟩ : ∃ k : ByteArray, ⟨mk.text.toArray⟩ = k := ⟨_, rfl⟩
        obtain ⟨a1, ha1⟩ : ∃ k, W mk.num.1 = k := ⟨_, rfl⟩
        obtain ⟨a2, ha2⟩ : ∃ k, W mk.num.2 = k := ⟨_, rfl⟩
        obtain ⟨ps, hps⟩ : ∃ k : Int, (mk.pos : Int) = k := ⟨_, rfl⟩
        rw [hkk] at k0; rw [htx] at k1; rw [ha1, ha2] at k2; rw [hps] at k3
        rw [hkk, htx, ha1, ha2, hps] at HH HC
        have hfi' : fr < i := by omega
        clear hkk htx ha1 ha2 hps hone hil hlen
        go_wp2_with (at_builtin; refine wpList_append_own _ rfl (.tmp 118) (.tmp 120) 31 rfl (w.heap.size + 2) 40 i0 _ 4 48 Tryz.underlying31 hi hz0 hz1 hz2 rfl (by decide) _ _ _ rfl (HH.out.own.alloc _) ⟨wr.heap.size, 0, none⟩ 1 1 [.int .i64 kk, .string tx, .complex .f64 a1 a2, .int .i64 ps] rfl rfl ?d1 ?d2 ?d3 ?d4 ?d5 ?_)
        case d1 =>
          intro j u hj
          match j, hj with
          | 0, hj => simp at hj; subst hj; simp [Addr.add]
          | 1, hj => simp at hj; subst hj; simp [Addr.add]
          | 2, hj => simp at hj; subst hj; simp [Addr.add]
          | 3, hj => simp at hj; subst hj; simp [Addr.add]
        case d2 => intro u hu; simp at hu; rcases hu with rfl | rfl | rfl | rfl <;> rfl
        case d3 => unfold maxLen; omega
        case d4 => omega
        case d5 => have := HH.out.size; simp; omega
        intro v' w1 hown' hgrow _
        rw [HC.out] at hown'
        have H1 := HH.out.app hown' hgrow
        clear f0 f1 ff k0 k1 k2 k3 mf hown' hgrow
        have H1' := Lib.hid H1
        clear H1
        go_wp2_with fail
        go_step3
        show ∃ n', JM w (some ⟨b, o, none⟩) n c t (scan t 0) n' 0 _ _ ∧ n' < _
        exact ⟨268435456 * (n - i) + 201326592, ⟨i, fr, acc ++ [mk], v', true, _, _, _, _, ⟨rfl, rfl, rfl, rfl, rfl, rfl, rfl, rfl, rfl, rfl⟩, H1'.out, by omega, by omega, Or.inl ⟨rfl, by rw [List.length_append]; show acc.length + 1 ≤ i; omega, HG.out, rfl⟩⟩, by omega⟩
end Go.Proofs.YtgddkgbidhhheaaGreatDoor
namespace Go.Proofs.YtgddkgbidhhheaaGreatDoor
open Go.RowKit Flo Mk
theorem HeapM.start (w:World):HeapM w ((w.alloc (.cells #[.int .i64 0,.int .i64 0] 34)).alloc (.cells #[.int .i64 0,.string ⟨#[]⟩,.complex .f64 0 0,.int .i64 0] 40)) [] (.slice none 0 0) (.int .i64 0) (.string ⟨#[]⟩) (.complex .f64 0 0) (.int .i64 0):=by
 refine ⟨((Below.refl _ _).alloc (Nat.le_refl _) _).alloc (by simp) _,?_,?_,?_,?_,?_,?_,?_,?_,World.ownsRow_nil _ _ _ _,by simp⟩
 all_goals first | (intro o; simp [go_sem]; done) | (simp [go_sem]; done)
set_option maxHeartbeats 8000000 in
set_option maxRecDepth 100000 in
theorem marks_none (p:Option Addr) (c:Nat) (w:World) :
  Calls Tryz.prog 16 #[.slice p 0 c] w fun e w'=>MarksR w (scan [] 0) e w'∧Below w.heap.size w w':=by
 have HH:=Lib.hid (HeapM.start w)
 obtain ⟨i0,hi,hz0,hz1,hz2⟩:=info_parts mark_info
 go_enter Tryz.func16,Tryz.ntmps16
 go_wp2_with fail
 go_step3
 go_wp2_with fail
 go_step3
 rename_i hK
 refine hK _ _ ?_
 go_wp2_with (at_builtin; refine wpList_append_own _ rfl (.tmp 15) (.tmp 18) 31 rfl (w.heap.size + 2) 40 i0 _ 4 48 Tryz.underlying31 hi hz0 hz1 hz2 rfl (by decide) _ _ _ rfl (HH.out.own.alloc _) ⟨w.heap.size + 2,0,none⟩ 1 1 [.int .i64 4,.string ⟨#[]⟩,.complex .f64 0 0,.int .i64 0] rfl rfl ?c1 ?c2 ?c3 ?c4 ?c5 ?_)
 case c1=>
  intro j u hj
  match j,hj with
  | 0,hj=>simp at hj; subst hj; simp [Addr.add,go_sem]
  | 1,hj=>simp at hj; subst hj; simp [Addr.add,go_sem]
  | 2,hj=>simp at hj; subst hj; simp [Addr.add,go_sem]
  | 3,hj=>simp at hj; subst hj; simp [Addr.add,go_sem]
 case c2=>intro u hu; simp at hu; rcases hu with rfl | rfl | rfl | rfl<;>rfl
 case c3=>unfold maxLen; simp
 case c4=>simp
 case c5=>simp
 intro v' w1 hown' hgrow _
 rw [show [Value.int .i64 4,.string ⟨#[]⟩,.complex .f64 0 0,.int .i64 0]=cellsM ⟨4,[],(0,0),0⟩ from cells_plain 4 ⟨#[]⟩ 0] at hown'
 have H1:=HH.out.app hown' hgrow
 clear hown' hgrow
 have H1':=Lib.hid H1
 obtain ⟨-,f0,f1,ff,-,-,-,-,-,-,-⟩:=H1
 go_wp2_with fail
 rw [Exit.noGoto_ret]
 refine bodyPost_ret (v:=.tuple #[v',.agg #[.int .i64 0,.int .i64 0]]) (by simp [results,Tryz.results16,go_sem,f0,f1]) rfl ⟨Or.inl ⟨_,_,scan_nil 0,rfl,?_⟩,?_⟩
 ·exact own_base (ownsRow_setCell_below (ownsRow_setCell_below H1'.out.own (by show w.heap.size < _; omega) _) (by show w.heap.size < _; omega) _) (by omega)
 ·exact (H1'.out.below.setCell (p:=⟨w.heap.size,0,none⟩) (Nat.le_refl _) _).setCell (p:=⟨w.heap.size,1,none⟩) (Nat.le_refl _) _
theorem marks_any (p:Option Addr) (c:Nat) (t:List UInt8) (hnc:t.length≤c) (hb:t.length≤16777216) (w:World) (hT:Txt w p t) (hI:Inv w) (hS:Spc w) :
  Calls Tryz.prog 16 #[.slice p t.length c] w fun e w'=>MarksR w (scan t 0) e w'∧Below w.heap.size w w':=by
 by_cases ht:t=[]
 ·subst ht; exact marks_none p c w
 ·obtain ⟨b,o,rfl,hc⟩:=hT ht
  exact marks_some b o t.length c t rfl hnc hb w hc hI hS
end Go.Proofs.YtgddkgbidhhheaaGreatDoor
namespace Go.Proofs.YtgddkgbidhhheaaGreatDoor
open Go.RowKit Flo Mk
abbrev tB:List UInt8:=[120,32,48,48,55]
end Go.Proofs.YtgddkgbidhhheaaGreatDoor
namespace Go.Proofs.YtgddkgbidhhheaaGreatDoor
open Go.RowKit Flo Mk
def RowAt (X:World) (p:Option Addr) (ms:List M):Prop:=ms≠[]→∃ g o,p=some ⟨g,o,none⟩∧∀ j u,(rowM ms)[j]? = some u→X.cell? ⟨g,o + j,none⟩=some u
end Go.Proofs.YtgddkgbidhhheaaGreatDoor
namespace Go.Proofs.YtgddkgbidhhheaaGreatDoor
open Go.RowKit Flo Mk
end Go.Proofs.YtgddkgbidhhheaaGreatDoor
namespace Go.Proofs.YtgddkgbidhhheaaGreatDoor
open Go.RowKit Flo Mk
theorem eqb (c d:UInt8):((c.toNat:Int) == (d.toNat:Int))=(c == d):=by
 rw [Bool.eq_iff_iff,beq_iff_eq,beq_iff_eq]
 constructor
 ·intro h; exact UInt8.toNat_inj.1 (by omega)
 ·intro h; rw [h]
end Go.Proofs.YtgddkgbidhhheaaGreatDoor
namespace Go.Proofs.YtgddkgbidhhheaaGreatDoor
open Go.RowKit Flo Mk
end Go.Proofs.YtgddkgbidhhheaaGreatDoor
namespace Go.Proofs.YtgddkgbidhhheaaGreatDoor
open Go.RowKit Flo Mk
end Go.Proofs.YtgddkgbidhhheaaGreatDoor
namespace Go.Proofs.YtgddkgbidhhheaaGreatDoor
open Go.RowKit Flo Mk
structure BoxO (w X:World) (m0 m1 m2 m3:Value):Prop where
 below:Below w.heap.size w X
 r0:X.cell? ⟨w.heap.size,0,none⟩=some (.int .i64 0)
 r1:X.cell? ⟨w.heap.size,1,none⟩=some (.string ⟨#[]⟩)
 r2:X.cell? ⟨w.heap.size,2,none⟩=some (.complex .f64 0 0)
 r3:X.cell? ⟨w.heap.size,3,none⟩=some (.int .i64 0)
 rf:∀ o,X.frozen? ⟨w.heap.size,o,none⟩=false
 m0:X.cell? ⟨w.heap.size + 1,0,none⟩=some m0
 m1:X.cell? ⟨w.heap.size + 1,1,none⟩=some m1
 m2:X.cell? ⟨w.heap.size + 1,2,none⟩=some m2
 m3:X.cell? ⟨w.heap.size + 1,3,none⟩=some m3
 mf:∀ o,X.frozen? ⟨w.heap.size + 1,o,none⟩=false
 size:w.heap.size + 2≤X.heap.size
end Go.Proofs.YtgddkgbidhhheaaGreatDoor
namespace Go.Proofs.YtgddkgbidhhheaaGreatDoor
open Go.RowKit Flo Mk
end Go.Proofs.YtgddkgbidhhheaaGreatDoor
namespace Go.Proofs.YtgddkgbidhhheaaGreatDoor
open Go.RowKit Flo Mk
end Go.Proofs.YtgddkgbidhhheaaGreatDoor
