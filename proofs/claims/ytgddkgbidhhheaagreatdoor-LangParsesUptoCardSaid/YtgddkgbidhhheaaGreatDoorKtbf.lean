/- Texts joined: Rme Prm Acb. -/
import Derived.Test.YtgddkgbidhhheaaGreatDoorKtbe
import Derived.Test.YtgddkgbidhhheaaGreatDoorKtbb
import Derived.Test.YtgddkgbidhhheaaGreatDoorKtam
namespace Go.Proofs.YtgddkgbidhhheaaGreatDoor
open Go.RowKit Flo Mk
def RefR (w:World) (R:Except Nat (List M)) (e:Ending) (w':World):Prop:=
 (∃ ms v,R=.ok ms∧e=.returned (.tuple #[v,.int .i64 (-1)])∧w'.ownsRow w.heap.size 40 4 v ms.length (rowM ms)) ∨
 (∃ a:Nat,R=.error a∧e=.returned (.tuple #[.slice none 0 0,.int .i64 (a:Int)]))
set_option maxHeartbeats 16000000 in
set_option maxRecDepth 100000 in
theorem refmarks_some (b o n c : Nat) (t : List UInt8) (hn : t.length = n) (hnc : n ≤ c) (hb : n ≤ 16777216) (w : World) (hT : ∀ j x, t[j]? = some x → w.cell? ⟨b, o + j, none⟩ = some (.int .u8 (x.toNat : Int))) :
    Calls Tryz.prog 36 #[.slice (some ⟨b, o, none⟩) n c] w fun e w' => RefR w (scan t 0) e w' ∧ Below w.heap.size w w' := by
  have HT := Lib.hid hT
  have HN := Lib.hid hn
  clear hT hn
  obtain ⟨i0, hi, hz0, hz1, hz2⟩ := info_parts mark_info
  go_enter Tryz.func36, Tryz.ntmps36
  go_wp2_with fail
  go_loopg [4, 5] n (fun g s4 s5 wx => ∃ (i : Nat) (acc : List M), i + g = n ∧ s5 = .int .i64 (i : Int) ∧ acc.length ≤ i ∧ Hid (fin acc (scan (t.drop i) i) = scan t 0) ∧ Hid (Below w.heap.size w wx) ∧ Hid (wx.ownsRow w.heap.size 40 4 s4 acc.length (rowM acc)))
  case atStart => exact ⟨0, [], by omega, rfl, Nat.le_refl _, Lib.hid (by rw [List.drop_zero, fin_nil]), Below.refl _ _, World.ownsRow_nil _ _ _ _⟩
  case round =>
    obtain ⟨i, acc, hig, rfl, hal, HR, HB, HOw⟩ := hrel
    cases gk with
    | zero =>
      obtain rfl : i = n := by omega
      have HE : Hid (scan t 0 = .ok (acc ++ [⟨4, [], (0, 0), i⟩])) := Lib.hid (by
        rw [← HR.out, List.drop_of_length_le (by rw [HN.out]; exact Nat.le_refl _), scan_nil]; rfl)
      go_wp2_with (at_builtin; refine wpList_append_own _ rfl (.tmp 55) (.tmp 59) 31 rfl w.heap.size 40 i0 _ 4 48 Tryz.underlying31 hi hz0 hz1 hz2 rfl (by decide) _ _ _ rfl (HOw.out.alloc _) ⟨wr.heap.size, 0, none⟩ 1 1 [.int .i64 4, .string ⟨#[]⟩, .complex .f64 0 0, .int .i64 (i : Int)] rfl rfl ?c1 ?c2 ?c3 ?c4 ?c5 ?_)
      case c1 =>
        intro j u hj
        match j, hj with
        | 0, hj => simp at hj; subst hj; simp [Addr.add]
        | 1, hj => simp at hj; subst hj; simp [Addr.add]
        | 2, hj => simp at hj; subst hj; simp [Addr.add]
        | 3, hj => simp at hj; subst hj; simp [Addr.add]
      case c2 => intro u hu; simp at hu; rcases hu with rfl | rfl | rfl | rfl <;> rfl
      case c3 => unfold maxLen; omega
      case c4 => omega
      case c5 => have := HB.out.size; simp; omega
      intro v' w1 hown' hgrow _
      rw [show [Value.int .i64 4, .string ⟨#[]⟩, .complex .f64 0 0, .int .i64 (i : Int)] = cellsM ⟨4, [], (0, 0), i⟩ from cells_plain 4 ⟨#[]⟩ i] at hown'
      have HO1 := Lib.hid hown'
      have HB1 := Lib.hid ((HB.out.alloc HB.out.size _).grown hgrow (by have := HB.out.size; simp; omega) (fun k hk => (HOw.out.lt k hk).1))
      clear hown' hgrow
      go_wp2_with fail
      go_ret2
      refine ⟨Or.inl ⟨_, _, HE.out, rfl, ?_⟩, HB1.out⟩
      rw [List.length_append, rowM_app, show rowM [⟨4, [], (0, 0), i⟩] = cellsM ⟨4, [], (0, 0), i⟩ by simp [rowM]]
      exact HO1.out
    | succ g =>
      have hlt : i < n := by omega
      obtain ⟨x, hx⟩ : ∃ x, t[i]? = some x := ⟨_, List.getElem?_eq_getElem (by rw [HN.out]; exact hlt)⟩
      have hcx : wr.cell? ⟨b, o + i, none⟩ = some (.int .u8 (x.toNat : Int)) := by
        have h := HT.out i x hx
        exact (HB.out.cell (World.block_lt_of_cell? w _ h)).trans h
      have HD : Hid (t.drop i = x :: t.drop (i + 1)) := Lib.hid (drop_cons hx)
      have HX := Lib.hid hx
      have hltz : (i : Int) < (n : Int) := by omega
      have HQ := Lib.hid (fun w => blank_any x w)
      clear hx
      cases hbl : blankB x with
      | true =>
        rw [hbl] at HQ
        have HG : Hid (fin acc (scan (t.drop (i + 1)) (i + 1)) = scan t 0) := Lib.hid (by rw [← HR.out, HD.out, scan_blank hbl])
        clear hbl
        go_wp2_with (go_at_call 46; refine (HQ.out _).mono ?_; rintro e w' ⟨rfl, rfl⟩)
        go_roundg g
        case measure => omega
        case rel => exact ⟨i + 1, acc, by omega, by go_num, by omega, HG, HB, HOw⟩
      | false =>
        rw [hbl] at HQ
        by_cases h35 : x = 35
        · subst h35
          have HG : Hid (fin acc (rem (t.drop i) i) = scan t 0) := Lib.hid (by rw [← HR.out, HD.out, scan_hash])
          clear hbl
          go_wp2_with (go_at_call 46; refine (HQ.out _).mono ?_; rintro e w' ⟨rfl, rfl⟩)
          go_loopg [5] (g + 1) (fun g2 s5 wx => ∃ j : Nat, j + g2 = n ∧ s5 = .int .i64 (j : Int) ∧ i ≤ j ∧ Hid (i < j ∨ t[j]? = some 35) ∧ Hid (fin acc (rem (t.drop j) j) = scan t 0) ∧ wx = wr)
          case atStart => exact ⟨i, by omega, rfl, Nat.le_refl _, Lib.hid (Or.inr HX.out), HG, rfl⟩
          case round =>
            obtain ⟨j, hjg, rfl, hij, HJ, HRm, rfl⟩ := hrel
            cases gk with
            | zero =>
              obtain rfl : j = n := by omega
              have HG2 : Hid (fin acc (scan (t.drop j) j) = scan t 0) := Lib.hid (by
                rw [← HRm.out, List.drop_of_length_le (by rw [HN.out]; exact Nat.le_refl _), rem_nil])
              go_wp2_with fail
              go_roundg 0
              case measure => omega
              case rel => exact ⟨j, acc, by omega, rfl, by omega, HG2, HB, HOw⟩
            | succ g2 =>
              have hjn : j < n := by omega
              obtain ⟨y, hy⟩ : ∃ y, t[j]? = some y := ⟨_, List.getElem?_eq_getElem (by rw [HN.out]; exact hjn)⟩
              have hcy : wr.cell? ⟨b, o + j, none⟩ = some (.int .u8 (y.toNat : Int)) := by
                have h := HT.out j y hy
                exact (HB.out.cell (World.block_lt_of_cell? w _ h)).trans h
              have hjz : (j : Int) < (n : Int) := by omega
              have hdr := drop_cons hy
              by_cases h10 : y = 10
              · subst h10
                have hlt2 : i < j := by
                  rcases HJ.out with h | h
                  · exact h
                  · rw [hy] at h; cases h
                have HG2 : Hid (fin acc (scan (t.drop j) j) = scan t 0) := Lib.hid (by rw [← HRm.out, hdr, rem_nl])
                clear hy hdr
                go_wp2_with fail
                go_roundg (n - j)
                case measure => omega
                case rel => exact ⟨j, acc, by omega, rfl, by omega, HG2, HB, HOw⟩
              · have e5 : ((y.toNat : Int) == 10) = false := (eqb y 10).trans (beq_eq_false_iff_ne.2 h10)
                have e6 : ((y.toNat : Int) != 10) = true := by rw [bne, e5]; rfl
                have HG2 : Hid (fin acc (rem (t.drop (j + 1)) (j + 1)) = scan t 0) := Lib.hid (by rw [← HRm.out, hdr, rem_cons h10])
                clear hy hdr h10
                go_wp2_with fail
                go_roundg g2
                case measure => omega
                case rel => exact ⟨j + 1, by omega, by go_num, by omega, Lib.hid (Or.inl (by omega)), HG2, rfl⟩
        · have e5 : ((x.toNat : Int) == 35) = false := (eqb x 35).trans (beq_eq_false_iff_ne.2 h35)
          have HSC := Lib.hid (scan_one hbl h35 (t.drop (i + 1)) i)
          have HONE := Lib.hid (refone_any b o n c i t HN.out hnc hb hlt wr (fun j y hj => (HB.out.cell (World.block_lt_of_cell? w _ (HT.out j y hj))).trans (HT.out j y hj)))
          clear hbl h35
          go_wp2_with (go_at_call 46; refine (HQ.out _).mono ?_; rintro e w' ⟨rfl, rfl⟩)
          refine HONE.out.mono ?_
          rintro e w1 ⟨hm, hb1⟩
          have HB1 := Lib.hid (HB.out.trans (hb1.mono HB.out.size))
          have HO1 := Lib.hid (own_below HOw.out hb1)
          have HHD : Hid (fin acc (match one (t.drop i) i with | none => .error i | some m => pre m (scan ((t.drop i).drop m.text.length) (i + m.text.length))) = scan t 0) := Lib.hid (by rw [← HR.out, HD.out, HSC.out]; rfl)
          clear hb1
          rcases hm with ⟨mk, hone, he⟩ | ⟨hone, kk, s1, a1, a2, ps, he⟩
          · obtain ⟨_, _, o3, o4⟩ := one_text hone
            rw [List.length_drop, HN.out] at o4
            have HG : Hid (fin (acc ++ [mk]) (scan (t.drop (i + mk.text.length)) (i + mk.text.length)) = scan t 0) := Lib.hid (by
              rw [← HHD.out, hone]
              show _ = fin acc (pre mk (scan ((t.drop i).drop mk.text.length) (i + mk.text.length)))
              rw [fin_pre, List.drop_drop])
            rw [show aggM mk = .agg #[.int .i64 mk.kind, .string ⟨mk.text.toArray⟩, .complex .f64 (W mk.num.1) (W mk.num.2), .int .i64 mk.pos] from rfl] at he
            have HC : Hid ([Value.int .i64 mk.kind, .string ⟨mk.text.toArray⟩, .complex .f64 (W mk.num.1) (W mk.num.2), .int .i64 mk.pos] = cellsM mk) := Lib.hid rfl
            obtain ⟨L, hL⟩ : ∃ L, mk.text.length = L := ⟨_, rfl⟩
            have htl : (⟨mk.text.toArray⟩ : ByteArray).size = L := by rw [Lib.size_eq]; simpa using hL
            obtain ⟨kk, hkk⟩ : ∃ k : Int, (mk.kind : Int) = k := ⟨_, rfl⟩
            obtain ⟨tx, htx⟩ : ∃ k : ByteArray, ⟨mk.text.toArray⟩ = k := ⟨_, rfl⟩
            obtain ⟨a1, ha1⟩ : ∃ k, W mk.num.1 = k := ⟨_, rfl⟩
            obtain ⟨a2, ha2⟩ : ∃ k, W mk.num.2 = k := ⟨_, rfl⟩
            obtain ⟨ps, hps⟩ : ∃ k : Int, (mk.pos : Int) = k := ⟨_, rfl⟩
            rw [hkk, htx, ha1, ha2, hps] at he HC
            rw [htx] at htl
            rw [hL] at HG o3 o4
            subst he
            have hsz : ((w1.alloc (.cells #[.int .i64 kk, .string tx, .complex .f64 a1 a2, .int .i64 ps] 40))).heap.size = w1.heap.size + 1 := by simp
            have HSZ := Lib.hid hsz
            clear hkk htx ha1 ha2 hps hL hsz hone
            go_wp2_with (at_builtin; refine wpList_append_own _ rfl (.tmp 46) (.tmp 48) 31 rfl w.heap.size 40 i0 _ 4 48 Tryz.underlying31 hi hz0 hz1 hz2 rfl (by decide) _ _ _ rfl ((HO1.out.alloc _).alloc _) ⟨w1.heap.size + 1, 0, none⟩ 1 1 [.int .i64 kk, .string tx, .complex .f64 a1 a2, .int .i64 ps] rfl rfl ?d1 ?d2 ?d3 ?d4 ?d5 ?_)
            case d1 =>
              intro j u hj
              match j, hj with
              | 0, hj => simp at hj; subst hj; simp [Addr.add, go_sem]
              | 1, hj => simp at hj; subst hj; simp [Addr.add, go_sem]
              | 2, hj => simp at hj; subst hj; simp [Addr.add, go_sem]
              | 3, hj => simp at hj; subst hj; simp [Addr.add, go_sem]
            case d2 => intro u hu; simp at hu; rcases hu with rfl | rfl | rfl | rfl <;> rfl
            case d3 => unfold maxLen; omega
            case d4 => omega
            case d5 => have := HB1.out.size; simp; omega
            intro v' w2 hown' hgrow _
            have hbx : w2.cell? ⟨w1.heap.size, 1, none⟩ = some (.string tx) := hgrow.cell (a := ⟨w1.heap.size, 1, none⟩) (by simp [go_sem]) (fun e => by have := (HO1.out.lt _ e.symm).2; exact absurd this (Nat.lt_irrefl _))
            have HB2 := Lib.hid (((HB1.out.alloc HB1.out.size _).alloc (by have := HB1.out.size; simp; omega) _).grown hgrow (by have := HB1.out.size; simp; omega) (fun k hk => (HO1.out.lt k hk).1))
            rw [HC.out] at hown'
            have HO2 : Hid (w2.ownsRow w.heap.size 40 4 v' (acc ++ [mk]).length (rowM (acc ++ [mk]))) := Lib.hid (by
              rw [List.length_append, rowM_app, show rowM [mk] = cellsM mk by simp [rowM]]; exact hown')
            clear hgrow hown'
            go_wp2_with fail
            go_roundg (n - (i + L))
            case measure => omega
            case rel => exact ⟨i + L, acc ++ [mk], by omega, by go_num, by rw [List.length_append]; show acc.length + 1 ≤ i + L; omega, HG, HB2, HO2⟩
          · subst he
            have HE : Hid (scan t 0 = .error i) := Lib.hid (by rw [← HHD.out, hone]; rfl)
            clear hone
            go_wp2_with fail
            go_ret2
            exact ⟨Or.inr ⟨i, HE.out, rfl⟩, HB1.out.alloc HB1.out.size _⟩
set_option maxHeartbeats 16000000 in
set_option maxRecDepth 100000 in
theorem refmarks_none (p:Option Addr) (c:Nat) (w:World) :
  Calls Tryz.prog 36 #[.slice p 0 c] w fun e w'=>RefR w (scan [] 0) e w'∧Below w.heap.size w w':=by
 obtain ⟨i0,hi,hz0,hz1,hz2⟩:=info_parts mark_info
 go_enter Tryz.func36,Tryz.ntmps36
 go_wp2_with fail
 go_loopg [4,5] 0 (fun g s4 s5 wx=>s4=.slice none 0 0∧s5=.int .i64 0∧wx=w)
 case atStart=>exact ⟨rfl,rfl,rfl⟩
 case round=>
  obtain ⟨rfl,rfl,rfl⟩:=hrel
  go_wp2_with (at_builtin; refine wpList_append_own _ rfl (.tmp 55) (.tmp 59) 31 rfl wr.heap.size 40 i0 _ 4 48 Tryz.underlying31 hi hz0 hz1 hz2 rfl (by decide) _ 0 [] rfl ((World.ownsRow_nil _ _ _ _).alloc _) ⟨wr.heap.size,0,none⟩ 1 1 [.int .i64 4,.string ⟨#[]⟩,.complex .f64 0 0,.int .i64 0] rfl rfl ?c1 ?c2 ?c3 ?c4 ?c5 ?_)
  case c1=>
   intro j u hj
   match j,hj with
   | 0,hj=>simp at hj; subst hj; simp [Addr.add]
   | 1,hj=>simp at hj; subst hj; simp [Addr.add]
   | 2,hj=>simp at hj; subst hj; simp [Addr.add]
   | 3,hj=>simp at hj; subst hj; simp [Addr.add]
  case c2=>intro u hu; simp at hu; rcases hu with rfl | rfl | rfl | rfl<;>rfl
  case c3=>unfold maxLen; simp
  case c4=>simp
  case c5=>simp
  intro v' w1 hown' hgrow _
  have hown2:w1.ownsRow wr.heap.size 40 4 v' 1 [Value.int .i64 4,.string ⟨#[]⟩,.complex .f64 0 0,.int .i64 0]:=by simpa using hown'
  rw [show [Value.int .i64 4,.string ⟨#[]⟩,.complex .f64 0 0,.int .i64 0]=cellsM ⟨4,[],(0,0),0⟩ from cells_plain 4 ⟨#[]⟩ 0] at hown2
  have HO1:=Lib.hid hown2
  have HB1:=Lib.hid ((below_alloc wr _).grown hgrow (below_alloc wr _).size (fun k hk=>by simp [Value.ownBlock] at hk))
  clear hown' hgrow hown2
  go_wp2_with fail
  go_ret2
  exact ⟨Or.inl ⟨_,_,scan_nil 0,rfl,HO1.out⟩,HB1.out⟩
theorem refmarks_any (p:Option Addr) (c:Nat) (t:List UInt8) (hnc:t.length≤c) (hb:t.length≤16777216) (w:World) (hT:Txt w p t) :
  Calls Tryz.prog 36 #[.slice p t.length c] w fun e w'=>RefR w (scan t 0) e w'∧Below w.heap.size w w':=by
 by_cases ht:t=[]
 ·subst ht; exact refmarks_none p c w
 ·obtain ⟨b,o,rfl,hc⟩:=hT ht
  exact refmarks_some b o t.length c t rfl hnc hb w hc
end Go.Proofs.YtgddkgbidhhheaaGreatDoor
set_option linter.unusedVariables false
set_option linter.unusedSimpArgs false
set_option maxRecDepth 100000
namespace Go.Proofs.YtgddkgbidhhheaaGreatDoor
open Go.RowKit Flo Ab Mk Pg
section
variable {G:World→Prop}
theorem resv_word:∀ s ∈ [tTrue,tFalse,tNil,tFail,tNot,tRe,tIm,tConj],s ∈ resv:=by decide
theorem wordN_resv {s:List UInt8} (h:s ∉ resv):wordN s=0:=by
 have key:∀ u ∈ [tTrue,tFalse,tNil,tFail,tNot,tRe,tIm,tConj],s≠u:=fun u hu e=>h (e ▸ resv_word u hu)
 unfold wordN
 rw [if_neg (key _ (by simp)),if_neg (key _ (by simp)),if_neg (key _ (by simp)),if_neg (key _ (by simp)),if_neg (key _ (by simp)),if_neg (key _ (by simp)),if_neg (key _ (by simp)),if_neg (key _ (by simp))]
theorem Mks.scan {t:List UInt8} {ms:List M} (ht:t.length≤32768) (h:scan t 0=.ok ms):Mks ms∧0 < ms.length:=by
 have hlen:=scan_len _ t 0 ms (Nat.lt_succ_self _) h
 obtain ⟨ts,e,rfl,hT⟩:=scan_toks _ t 0 ms (Nat.lt_succ_self _) h
 refine ⟨⟨by omega,fun a m ha hk=>?_,fun m hm hk=>?_⟩,by simp⟩
 ·rw [List.getElem?_append] at ha
  split at ha
  ·rename_i hlt; simp; omega
  ·rename_i hlt
   have hlt':=(List.getElem?_eq_some_iff.1 ha).1
   simp only [List.length_cons,List.length_nil] at hlt'
   have he:a - ts.length=0:=by omega
   rw [he] at ha
   cases ha
   exact absurd rfl hk
 ·rcases List.mem_append.1 hm with h1 | h1
  ·obtain ⟨c,r,a,ho,_,_⟩:=hT m h1
   have:=(one_kind ho).2.1
   exact wordN_resv (fun hr=>by have:=this.2 hr; omega)
  ·rw [List.mem_singleton.1 h1] at hk; cases hk
theorem _root_.Go.Proofs.YtgddkgbidhhheaaGreatDoor.Ab.RD.txt {w:World} {M:Nat→Prop} {n:Nat} {cs:List AV} {u:Value} {t:List UInt8} (h:RD w M (.sl n cs) u) (hn:n=t.length) (hc:cs=t.map byA) :
  ∃ p c,u=.slice p t.length c∧t.length≤c∧Txt w p t:=by
 cases h with
 | sl0 p cap=>
  have:t=[]:=by cases t with | nil=>rfl | cons a b=>simp at hc
  subst this
  exact ⟨p,cap,rfl,Nat.zero_le _,Txt.nil _ _⟩
 | sl b o n cap cs us hl hb hs hcell h1 hr hle=>
  subst hn; subst hc
  refine ⟨_,cap,rfl,hle,fun _=>⟨b,o,rfl,fun j x hx=>?_⟩⟩
  have hj:(t.map byA)[j]? = some (byA x):=by rw [List.getElem?_map,hx]; rfl
  have hjl:j < us.length:=by rw [hl]; exact (List.getElem?_eq_some_iff.1 hj).1
  have hu:=hr j _ us[j] hj (List.getElem?_eq_getElem hjl)
  have he:us[j]=.int .u8 (x.toNat:Int):=by
   revert hu; generalize us[j]=y; intro hu; cases hu; rfl
  rw [hcell j us[j] (List.getElem?_eq_getElem hjl),he]
theorem mksA_row (ms:List M):mksA ms=(rowM ms).map AV.v:=by
 unfold mksA rowM
 induction ms with
 | nil=>rfl
 | cons m ms ih=>rw [List.flatMap_cons,List.flatMap_cons,List.map_append,ih]; rfl
theorem rowM_flat (ms:List M):∀ u ∈ rowM ms,flat u=true:=by
 intro u hu
 obtain ⟨m,_,hm⟩:=List.mem_flatMap.1 hu
 simp only [cellsM,List.mem_cons,List.not_mem_nil,or_false] at hm
 rcases hm with rfl | rfl | rfl | rfl<;>rfl
theorem rd_marks {w w':World} {L:Nat→Prop} {e:TypeId} {v:Value} {ms:List M} (hM:∀ b,L b→b < w.heap.size) (h:w'.ownsRow w.heap.size e 4 v ms.length (rowM ms)):RD w' L (.sl ms.length (mksA ms)) v:=by
 rcases h.2 with ⟨rfl,h2⟩ | ⟨g,cap,cur,rfl,h2,h3,h4,h5,h6,h7⟩
 ·obtain rfl:=List.eq_nil_of_length_eq_zero h2
  exact .sl0 _ _
 ·have hc:=h.cells (g:=g) rfl
  rw [mksA_row]
  refine .sl g 0 _ cap _ (rowM ms) (by simp) (fun hm=>absurd (hM g hm) (by omega)) (Array.getElem?_eq_some_iff.1 h3).1 (fun j u hu=>?_) (fun u hu=>flat_one (rowM_flat ms u hu)) (fun j y u hy hu=>?_) h4
  ·have:=hc j u hu
   rw [Go.WideShapes.add_plain] at this
   simpa using this
  ·rw [List.getElem?_map,hu] at hy
   cases hy
   exact .v _ (rowM_flat ms u (List.mem_of_getElem? hu))
def RMarks (R:Except Nat (List M)) (x:AV):Prop:=(∃ ms,R=.ok ms∧x=.tup [.sl ms.length (mksA ms),iv (-1)])∨∃ a:Nat,R=.error a∧x=.tup [.v (.slice none 0 0),iv a]
theorem refmarks_ap (t:List UInt8) (ht:t.length≤16777216):AP Tryz.prog G 36 [.sl t.length (t.map byA)] (RMarks (scan t 0)):=by
 intro w0 w M vs hG hb hM h
 obtain ⟨u,rfl,hr⟩:=vs1 h
 obtain ⟨p,c,rfl,hc,hT⟩:=hr.txt rfl rfl
 refine (refmarks_any p c t hc ht w hT).mono ?_
 rintro e w' ⟨hR,hb'⟩
 rcases hR with ⟨ms,v,hR,rfl,hown⟩ | ⟨a,hR,rfl⟩
 ·exact ⟨_,_,rfl,hb',rd_two (rd_marks hM hown) (.v _ rfl),.inl ⟨ms,hR,rfl⟩⟩
 ·exact ⟨_,_,rfl,hb',rd_two (.v _ rfl) (.v _ rfl),.inr ⟨a,hR,rfl⟩⟩
def limT (L:Lim):Int:=min (max L.text 0) 32768
def ParseR (t : List UInt8) (L : Lim) (x : AV) : Prop :=
  (limT L < t.length ∧ x = .tup [.agg [.sl 0 []], .agg [iv 22, iv (limT L)]]) ∨ (t.length ≤ limT L ∧ ((∃ a : Nat, scan t 0 = .error a ∧ x = .tup [.agg [.sl 0 []], .agg [iv 20, iv a]]) ∨ ∃ ms, scan t 0 = .ok ms ∧
    ((∃ fs a, P { L with text := limT L } (.prog [] ms) (.ok [.fs fs] (ms.drop a)) ∧ x = .tup [.agg [.sl fs.length (fdsA fs)], .agg [iv 0, iv 0]]) ∨ ∃ w p, w ≠ 0 ∧ P { L with text := limT L } (.prog [] ms) (.bad w p) ∧ x = .tup [.agg [.sl 0 []], .agg [iv w, iv p]])))
theorem pparse_ap (t:List UInt8) (L:Lim):AP Tryz.prog G 25 [.sl t.length (t.map byA),.agg [iv L.text,iv L.funcs,iv L.arity,iv L.nest]] (ParseR t L):=by
 have hl:∀ (i1 i2:Decidable (L.text < 0)) (i3:Decidable ((32768:Int) < @ite Int (L.text < 0) i1 0 L.text)),@ite Int ((32768:Int) < @ite Int (L.text < 0) i1 0 L.text) i3 32768 (@ite Int (L.text < 0) i2 0 L.text)=limT L:=by
  intro i1 i2 i3
  unfold limT
  split<;>split<;>omega
 have hl2:0≤limT L∧limT L≤32768:=by unfold limT; omega
 refine AP.go hmix F_pParse (by simp) ?_
 simp -implicitDefEqProofs [c_pParse,wrOb,splice,evL,mmF,hl]
 by_cases hbig:limT L < t.length
 ·simp -implicitDefEqProofs [hbig,wrOb,splice,evP,fillA,farP,sLdd]
  exact .inl ⟨hbig,rfl⟩
 ·have hsm:(t.length:Int)≤limT L:=by omega
  have hsm':¬ limT L < t.length:=hbig
  simp -implicitDefEqProofs [hbig]
  refine SC.frz (by simp) [.sl t.length (t.map byA)] (by simp) (post:=RMarks (scan t 0)) (by simpa using refmarks_ap t (by omega)) (by simp) ?_ (a:=.mk)
  rintro x (⟨ms,hms,rfl⟩ | ⟨a,hms,rfl⟩)
  ·obtain ⟨hm,hpos⟩:=Mks.scan (by omega) hms
   simp -implicitDefEqProofs [wrOb,splice,evP,fillA]
   have hprog:=prog_ok (G:=G) (l:={ L with text:=limT L }) hm hpos
   refine SC.lent (by simp) [.ptr 3 0] (by simp) 3 (rdr ms { L with text:=limT L } 0 0 0 0) (by simp [rdr]) (rdr_deep _ _ _ _ _ _) (by simpa [toO] using hprog) ⟨0,by simp⟩ (by simp [lentO]) ?_ (a:=.mk)
   rintro x cs - (⟨fs,a,hP,rfl,rfl⟩ | ⟨w,p,fs,a,n',hP,hw,rfl,rfl⟩)
   ·simp -implicitDefEqProofs [rdr,wrOb,splice,evP,fillA,farP,sLdd]
    exact .inr ⟨hsm,.inr ⟨ms,hms,.inl ⟨fs,a,hP,rfl⟩⟩⟩
   ·simp -implicitDefEqProofs [rdr,hw,wrOb,splice,evP,fillA,farP,sLdd]
    exact .inr ⟨hsm,.inr ⟨ms,hms,.inr ⟨w,p,hw,hP,rfl⟩⟩⟩
  ·have ha:(0:Int)≤a:=by omega
   simp -implicitDefEqProofs [wrOb,splice,evP,fillA,ha]
   exact .inr ⟨hsm,.inl ⟨a,hms,rfl⟩⟩
end
end Go.Proofs.YtgddkgbidhhheaaGreatDoor
set_option linter.unusedVariables false
set_option linter.unusedSimpArgs false
namespace Go.Proofs.YtgddkgbidhhheaaGreatDoor
open Go.RowKit
namespace Ab
section
variable {P:Program} {G:Gs}
def FinV (G:Gs) (okD:DL→Prop) (w0:World) (N:Nat) (c:Cx) (H:List Ob) (Q:XQ) (e:Exit) (a':Act) (w':World):Prop:=
 (∃ (c':Cx) (F':Fr) (H':List Ob) (ls:DL),c'.w=w'∧Step c H c' H'∧St w0 c' H'∧RF c' F' a'∧a'.tmps.size=N∧DfOk c' ls a'.defers∧Q ls e F' H') ∨
 ∃ (ch:List PanicEntry) (c':Cx) (H':List Ob) (u:Value) (x:AV) (ls:DL),e=.panic ch∧c'.w=w'∧Step c H c' H'∧St w0 c' H'∧ch=[{ v:=u,recovered:=false }]∧RD c'.w c'.M x u∧RF c' G.keep a'∧DfOk c' ls a'.defers∧okD ls∧G.pan x H'
theorem FinV.trans {okD:DL→Prop} {w0:World} {N:Nat} {c c1:Cx} {H H1:List Ob} {Q:XQ} {e:Exit} {a:Act} {w:World} (h:Step c H c1 H1) (h':FinV G okD w0 N c1 H1 Q e a w):FinV G okD w0 N c H Q e a w:=by
 rcases h' with ⟨c',F',H',ls,q1,q2,q3⟩ | ⟨ch,c',H',u,x,ls,q0,q1,q2,q3⟩
 ·exact .inl ⟨c',F',H',ls,q1,h.trans q2,q3⟩
 ·exact .inr ⟨ch,c',H',u,x,ls,q0,q1,h.trans q2,q3⟩
def XV (P:Program) (G:Gs) (okD:DL→Prop) (N:Nat) (code:Code) (Q:XQ) (ls:DL) (F:Fr) (H:List Ob):Prop:=
 ∀ (w0:World) (c:Cx) (a:Act),G.inv w0→St w0 c H→RF c F a→a.tmps.size=N→DfOk c ls a.defers→code.wp P (FinV G okD w0 N c H Q) a c.w
theorem XV.ofW {okD : DL → Prop} {N : Nat} {code : Code} {Q : XQ} {ls : DL} {F : Fr} {H : List Ob} (ho : okD ls) (h : XW P G okD N code Q ls F H) : XV P G okD N code Q ls F H := fun w0 c a hG hS hF hN hd =>
  wp_mono (h w0 c a hG hS hF hN hd ho) (fun e a' w' hfin => by
    rcases hfin with ⟨c', F', H', ls', q1, q2, q3, q4, q5, q6, q7, q8⟩ | hp
    · exact .inl ⟨c', F', H', ls', q1, q2, q3, q4, q5, q6, q8⟩
    · exact .inr hp)
def xvp (P:Program) (G:Gs) (okD:DL→Prop) (N:Nat):XCode→XQ→DL→Fr→List Ob→Prop
 | .seq a b,Q,ls,F,H=>xwp P (.np G.inv) (fun _=>True) N a (thenX (xvp P G okD N b Q) Q) ls F H
 | c,Q,ls,F,H=>okD ls∧xwp P G okD N c Q ls F H
theorem compX_seq {m:Bool} {N:Nat} {code:Code} {x y:XCode} (h:compX P m N code=some (.seq x y)):∃ a b,code=.seq a b∧compX P m N a=some x∧compX P m N b=some y:=by
 cases code with
 | seq a b=>
  unfold compX at h
  rcases orX_some h with ⟨ac,_,h⟩ | h
  ·cases h
  ·split at h
   ·rename_i x' y' hx hy
    cases h
    exact ⟨a,b,rfl,hx,hy⟩
   ·cases h
 | cond q a b=>
  unfold compX at h
  rcases orX_some h with ⟨ac,_,h⟩ | h
  ·cases h
  ·split at h<;>cases h
 | block id a=>
  unfold compX at h
  rcases orX_some h with ⟨ac,_,h⟩ | h
  ·cases h
  ·split at h<;>cases h
 | scope c=>
  unfold compX at h
  split at h<;>cases h
 | region id ops d=>
  unfold compX at h
  rcases orX_some h with ⟨ac,_,h⟩ | h
  ·cases h
  ·cases d with
   | true=>
    simp only [cond_true] at h
    split at h<;>cases h
   | false=>
    simp only [cond_false] at h
    split at h<;>cases h
 | _=>
  unfold compX at h
  rcases orX_some h with ⟨ac,_,h⟩ | h<;>cases h
theorem compV_ok (hmix:P.follows .mixedOrders=true) {m:Bool} {N:Nat} {okD:DL→Prop}:∀ (xc:XCode) (code:Code),compX P m N code=some xc→∀ (Q:XQ) (ls:DL) (F:Fr) (H:List Ob),xvp P G okD N xc Q ls F H→XV P G okD N code Q ls F H
 | .seq x y,code,h,Q,ls,F,H,hw=>by
  obtain ⟨a,b,rfl,hx,hy⟩:=compX_seq h
  unfold xvp at hw
  have:=compX_ok hmix a x hx _ ls F H hw
  intro w0 c ac hG hS hF hN hd
  refine wp_seq (wp_mono (this w0 c ac hG hS hF hN hd trivial) (fun e a' w' hfin=>?_))
  rcases hfin with ⟨c',F',H',ls',rfl,q2,q3,q4,q5,q6,q7,q8⟩ | ⟨ch,c',H',u,x,ls',rfl,p1,p2,p3,p4,p5,p6,p7,p8,p9⟩
  ·have out:∀ {e:Exit},Q ls' e F' H'→FinV G okD w0 N c H Q e a' c'.w:=fun hq=>.inl ⟨c',F',H',ls',rfl,q2,q3,q4,q5,q6,hq⟩
   cases e with
   | normal=>exact wp_mono (compV_ok hmix y b hy Q ls' F' H' q8 w0 c' a' hG q3 q4 q5 q6) (fun e a2 w2 hf=>hf.trans q2)
   | exit id=>exact out q8
   | goto l=>exact out q8
   | ret=>exact out q8
   | panic ch=>exact out q8
   | outgrown=>exact out q8
  ·exact p9.elim
 | .base a,code,h,Q,ls,F,H,hw=>.ofW hw.1 (compX_ok hmix code _ h _ _ _ _ hw.2)
 | .cond p a b,code,h,Q,ls,F,H,hw=>.ofW hw.1 (compX_ok hmix code _ h _ _ _ _ hw.2)
 | .block id a,code,h,Q,ls,F,H,hw=>.ofW hw.1 (compX_ok hmix code _ h _ _ _ _ hw.2)
 | .sco p l b,code,h,Q,ls,F,H,hw=>.ofW hw.1 (compX_ok hmix code _ h _ _ _ _ hw.2)
 | .dfr o x,code,h,Q,ls,F,H,hw=>.ofW hw.1 (compX_ok hmix code _ h _ _ _ _ hw.2)
 | .tree t,code,h,Q,ls,F,H,hw=>.ofW hw.1 (compX_ok hmix code _ h _ _ _ _ hw.2)
theorem AC.ofV (hmix : P.follows .mixedOrders = true) {f : FuncId} {N : Nat} {xc : XCode} {sl : List RSlot} (hf : FunX P f N xc sl) {Gi : Gs} (hi : ∀ w, G.inv w → Gi.inv w) {okD : DL → Prop} {args : List AV} {objs : List Ob} {post : AV → List Ob → Prop} (hN : args.length ≤ N)
    (hp : endP P G Gi okD sl post) (h : xvp P Gi okD N xc (endX P G sl post) [] (argF args) objs) : AC P G f args objs post := by
  intro w0 c vs hG hS ⟨hvs, hargs⟩
  obtain ⟨fn, code, m, h1, h2, h3, h4, h5, _⟩ := hf.ex
  refine calls_of_wp_defers h1 h2 ?_
  have hsz : (vs ++ Array.replicate (fn.ntmps - vs.size) undef).size = N := by simp; omega
  have hF : RF c (argF args) { tmps := vs ++ Array.replicate (fn.ntmps - vs.size) undef, defers := [] } := fun t x ht => by
    obtain ⟨u, hu, hr⟩ := hargs t x ht
    refine ⟨u, ?_, hr⟩
    show (vs ++ Array.replicate (fn.ntmps - vs.size) undef)[t]? = _
    rw [Array.getElem?_append_left (Array.getElem?_eq_some_iff.1 hu).1]; exact hu
  have hw := compV_ok hmix xc code h4 _ _ _ _ h w0 c { tmps := vs ++ Array.replicate (fn.ntmps - vs.size) undef, defers := [] } (hi _ hG) hS hF hsz trivial
  refine wp_mono hw (fun e a' w' hfin => ?_)
  have retn : ∀ {c' : Cx} {F' : Fr} {H' : List Ob}, Step c objs c' H' → RF c' F' a' → ∀ (c2 : Cx) (H2 : List Ob), Step c' H' c2 H2 → St w0 c2 H2 → (∃ xs, rgets F' H2 sl = some xs ∧ post (rval xs) H2) →
      ∃ v, (results fn a'.tmps).run P c2.w = .ok v c2.w ∧ ((∃ (c' : Cx) (u : Value) (x : AV) (objs' : List Ob), c'.w = c2.w ∧ Ending.returned v = .returned u ∧ Step c objs c' objs' ∧ St w0 c' objs' ∧ RV c' x u ∧ post x objs') ∨
        ∃ (ch : List PanicEntry) (c' : Cx) (objs' : List Ob) (u : Value) (x : AV), Ending.returned v = .panicked ch ∧ c'.w = c2.w ∧ Step c objs c' objs' ∧ St w0 c' objs' ∧ ch = [{ v := u, recovered := false }] ∧ RD c'.w c'.M x u ∧ G.pan x objs') := by
    intro c' F' H' t1 r1 c2 H2 t2 s2 ⟨xs, hxs, hpo⟩
    obtain ⟨v, hv1, hv2⟩ := run_results h5 s2 (r1.le t2.le) hxs
    exact ⟨v, hv1, .inl ⟨c2, v, _, H2, rfl, rfl, t1.trans t2, s2, hv2, hpo⟩⟩
  have done : ∀ {c' : Cx} {F' : Fr} {H' : List Ob} {ls : DL}, c'.w = w' → Step c objs c' H' → St w0 c' H' → RF c' F' a' → DfOk c' ls a'.defers → endR P G sl post ls F' H' → Leaves P fn a'.tmps (fun e w' => (∃ (c' : Cx) (u : Value) (x : AV) (objs' : List Ob), c'.w = w' ∧ e = .returned u ∧ Step c objs c' objs' ∧ St w0 c' objs' ∧ RV c' x u ∧ post x objs') ∨
        ∃ (ch : List PanicEntry) (c' : Cx) (objs' : List Ob) (u : Value) (x : AV), e = .panicked ch ∧ c'.w = w' ∧ Step c objs c' objs' ∧ St w0 c' objs' ∧ ch = [{ v := u, recovered := false }] ∧ RD c'.w c'.M x u ∧ G.pan x objs') a'.defers .returning w' := by
    intro c' F' H' ls e1 q2 q3 q4 q6 q8
    subst e1
    refine leaves_of hG ls _ .ret .returning c' H' q6 rfl q3 q8 (fun c2 H2 m2 u2 t2 s2 hm2 ⟨hmr, hx⟩ => ?_)
    subst hmr
    refine ⟨fun _ => retn q2 q4 c2 H2 t2 s2 hx, fun ch he => ?_⟩
    rw [he] at hm2; cases hm2
  rcases hfin with ⟨c', F', H', ls, q1, q2, q3, q4, q5, q6, q8⟩ | ⟨ch, c', H', u, x, ls, rfl, rfl, q2, q3, rfl, q5, q6, q7, q8, q9⟩
  · cases e with
    | normal => exact done q1 q2 q3 q4 q6 q8
    | ret => exact done q1 q2 q3 q4 q6 q8
    | exit id => exact q8.elim
    | goto l => exact q8.elim
    | panic ch => exact q8.elim
    | outgrown => exact q8.elim
  · refine leaves_of hG ls _ (.pan x) _ c' H' q7 ⟨u, rfl, q5⟩ q3 (hp ls x H' q8 q9) (fun c2 H2 m2 u2 t2 s2 hm2 hk => ?_)
    rcases hk with ⟨rfl, hx⟩ | ⟨y, rfl, hy⟩
    · refine ⟨fun _ => retn q2 q6 c2 H2 t2 s2 hx, fun ch he => ?_⟩
      rw [he] at hm2; cases hm2
    · obtain ⟨v, rfl, hr⟩ := hm2
      refine ⟨fun he => (by cases he), fun ch he => ?_⟩
      cases he
      exact .inr ⟨_, c2, H2, v, y, rfl, rfl, q2.trans t2, s2, rfl, hr, hy⟩
theorem hid_v (P:Program) (G:Gs) (okD:DL→Prop) (N:Nat):Nonempty { f:XCode→XQ→DL→Fr→List Ob→Prop // f=xvp P G okD N }:=⟨⟨_,rfl⟩⟩
noncomputable def xv (P:Program) (G:Gs) (okD:DL→Prop) (N:Nat):XCode→XQ→DL→Fr→List Ob→Prop:=(Classical.choice (hid_v P G okD N)).1
theorem xv_is {okD:DL→Prop} {N:Nat}:xv P G okD N=xvp P G okD N:=(Classical.choice (hid_v P G okD N)).2
theorem xv_seq {okD:DL→Prop} {N:Nat} {Q:XQ} {ls:DL} {F:Fr} {H:List Ob} (a b:XCode):xv P G okD N (.seq a b) Q ls F H=xw P (.np G.inv) (fun _=>True) N a (thenX (xv P G okD N b Q) Q) ls F H:=by rw [xv_is,xw_is]; rfl
theorem xv_base {okD:DL→Prop} {N:Nat} {Q:XQ} {ls:DL} {F:Fr} {H:List Ob} (a:ACode):xv P G okD N (.base a) Q ls F H=(okD ls∧aw P G N a (Q ls) F H):=by rw [xv_is,aw_is]; rfl
theorem AC.goV (hmix:P.follows .mixedOrders=true) {f:FuncId} {N:Nat} {xc:XCode} {sl:List RSlot} (hf:FunX P f N xc sl) {Gi:Gs} (hi:∀ w,G.inv w→Gi.inv w) {okD:DL→Prop} {args:List AV} {objs:List Ob} {post:AV→List Ob→Prop} (hN:args.length≤N)
  (hp:endP P G Gi okD sl post) (h:xv P Gi okD N xc (endX P G sl post) [] (argF args) objs):AC P G f args objs post:=AC.ofV hmix hf hi hN hp (by rw [xv_is] at h; exact h)
end
attribute [simp ↓] xv_seq xv_base
end Ab
end Go.Proofs.YtgddkgbidhhheaaGreatDoor
