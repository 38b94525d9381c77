/- The law MarksSpaced: its walk, on abstract values. -/
import Derived.Test.YtedgcllgifiajaaDoorAmk
import Derived.Test.YtedgcllgifiajaaDoorCdS
import Derived.Test.YtedgcllgifiajaaDoorChain
set_option linter.unusedVariables false
set_option linter.unusedSimpArgs false
namespace Go.Proofs.YtedgcllgifiajaaDoor
open Go.RowKit Ab Mk
theorem Ab.RD.marks {w : World} {L : Nat → Prop} {n : Nat} {cs : List AV} {u : Value} {ms : List M} (h : RD w L (.sl n cs) u) (hn : n = ms.length) (hc : cs = marksA ms) : ∃ p c, u = .slice p ms.length c ∧ RowAt w p ms := by
  cases h with
  | sl0 p cap =>
    obtain rfl : ms = [] := List.eq_nil_of_length_eq_zero hn.symm
    exact ⟨p, cap, rfl, RowAt.nil _ _⟩
  | sl b o n cap cs us hl hb hs hcell h1 hr hle =>
    subst hn; subst hc
    refine ⟨_, cap, rfl, fun _ => ⟨b, o, rfl, fun j x hx => ?_⟩⟩
    have hj : (marksA ms)[j]? = some (.v x) := by rw [marksA, List.getElem?_map, hx]; rfl
    have hjl : j < us.length := by rw [hl]; exact (List.getElem?_eq_some_iff.1 hj).1
    have hu := hr j _ us[j] hj (List.getElem?_eq_getElem hjl)
    have he : us[j] = x := by
      revert hu; generalize us[j] = y; intro hu; cases hu; rfl
    rw [hcell j us[j] (List.getElem?_eq_getElem hjl), he]
theorem same_ap {G : World → Prop} (pl : Bool) (A B : List M) (he : eqvM pl A B) (hn : A.length ≤ 16777217) (hok : ∀ m ∈ A, okM m) :
    AP Tryd.prog G 15 [.sl A.length (marksA A), .sl B.length (marksA B), .v (.bool pl)] (fun x => x = .v (.bool true)) := by
  intro w0 w L vs hG hb hM ⟨hvs, hargs⟩
  obtain ⟨u, hu, hr⟩ := hargs 0 _ rfl
  obtain ⟨v, hv, hr'⟩ := hargs 1 _ rfl
  obtain ⟨y, hy, hr''⟩ := hargs 2 _ rfl
  obtain rfl : vs = #[u, v, y] := by
    apply Array.ext
    · simpa using hvs
    · intro i h1 h2
      have : i = 0 ∨ i = 1 ∨ i = 2 := by simp at h2; omega
      rcases this with rfl | rfl | rfl
      · simpa [Array.getElem?_eq_getElem h1] using hu
      · simpa [Array.getElem?_eq_getElem h1] using hv
      · simpa [Array.getElem?_eq_getElem h1] using hy
  cases hr''
  obtain ⟨p, c, rfl, hA⟩ := hr.marks rfl rfl
  obtain ⟨p', c', rfl, hB⟩ := hr'.marks rfl rfl
  have hlen := he.len
  rw [← hlen]
  refine (same_any pl p p' c c' A.length A B rfl he hn hok w hA hB).mono ?_
  rintro e w' ⟨rfl, hb'⟩
  exact ⟨_, _, rfl, hb', .v _ rfl, rfl⟩
theorem joinG_snoc (g : List UInt8) (m : M) : ∀ (gs : List (List UInt8)) (A : List M), gs.length = A.length → joinG (gs ++ [g]) (A ++ [m]) = joinG gs A ++ (g ++ m.text)
  | [], [], _ => by simp [joinG]
  | a :: gs, b :: A, h => by simp [joinG, joinG_snoc g m gs A (by simpa using h)]
  | [], b :: A, h => by simp at h
  | a :: gs, [], h => by simp at h
def kindsA : List AV := gapL.map fun g => .v (.string ⟨g.toArray⟩)
/-- the loop's round -/
structure SpS (t gaps : List UInt8) (ms : List M) (g : Nat) (F : Fr) (H : List Ob) (i at' q : Nat) (gs : List (List UInt8)) (out : List UInt8) : Prop where
  ig : i + g = ms.length
  f1 : F 1 = some (.sl gaps.length (gaps.map byA))
  f5 : F 5 = some (.sl ms.length (marksA ms))
  f7 : F 7 = some (.row q)
  f9 : F 9 = some (.v (.int .i64 i))
  hq : H[q]? = some (.own 9 1 7 kindsA)
  le : at' ≤ t.length
  cov : Cov t at' (ms.drop i)
  gl : gs.length = i
  gm : ∀ x ∈ gs, x ∈ gapL
  oe : out = joinG gs (ms.take i)
  ol : out.length ≤ 11 * i + at'
  st : (i = 0 ∧ F 8 = some (.v (.slice none 0 0))) ∨ ∃ r, r ≠ q ∧ F 8 = some (.row r) ∧ H[r]? = some (.own 5 1 out.length (out.map byA))
def SpI (t gaps : List UInt8) (ms : List M) (g : Nat) (F : Fr) (H : List Ob) : Prop := ∃ (i at' q : Nat) (gs : List (List UInt8)) (out : List UInt8), SpS t gaps ms g F H i at' q gs out
theorem gapL_len : ∀ g ∈ gapL, 0 < g.length ∧ g.length ≤ 11 := by decide
set_option maxHeartbeats 2000000 in
set_option maxRecDepth 100000 in
theorem mspaced_ap (t gaps : List UInt8) (ht : t.length ≤ 1048576) (hgp : gaps.length ≤ 1048576) : AP Tryd.prog Gm 6 [.sl t.length (t.map byA), .sl gaps.length (gaps.map byA)] (fun x => x = .v (.bool true)) := by
  refine AP.go hmix F_mspaced (by simp) ?_
  simp -implicitDefEqProofs [c_mspaced]
  refine SC.frz (by simp) [] (by simp) (by simpa using awake_ap) (by simp) ?_ (a := .mk)
  rintro x rfl
  simp -implicitDefEqProofs
  refine SC.frz (by simp) [.sl t.length (t.map byA)] (by simp) (by simpa using marks_ap t (by omega)) (by simp) ?_ (a := .mk)
  rintro x (⟨ms, hR, rfl⟩ | ⟨a, hR, rfl⟩)
  · have hpos : 0 < ms.length := List.length_pos_iff.2 (scan_ne _ _ _ _ (Nat.lt_succ_self _) hR)
    have hml : ms.length ≤ t.length + 1 := scan_len _ _ _ _ (Nat.lt_succ_self _) hR
    simp -implicitDefEqProofs [wrOb, splice, evP, fillA]
    refine LP.go (SpI t gaps ms) ms.length ⟨0, 0, 1, [], [], by omega, by simp, by simp, by simp, by simp, by simp [kindsA, gapL], Nat.zero_le _, scan_cov t _ t 0 0 false ms (Nat.lt_succ_self _) rfl (Nat.zero_le _) (Nat.le_refl _) rfl (fun h => by cases h) hR, rfl, by simp, by simp [joinG], by simp, .inl ⟨rfl, by simp⟩⟩ ?_
    unfold c_mspaced_L0
    rintro g F H ⟨i, at', q, gs, out, ⟨hig, f1, f5, f7, f9, hq, hat, HC, hgl, hgm, hoe, hol, hst⟩⟩
    by_cases hil : (i : Int) < ms.length
    · have hil' : i < ms.length := by omega
      obtain ⟨m, hm⟩ : ∃ m, ms[i]? = some m := ⟨_, List.getElem?_eq_getElem hil'⟩
      have hdr : ms.drop i = m :: ms.drop (i + 1) := by
        obtain ⟨hi', rfl⟩ := List.getElem?_eq_some_iff.1 hm
        exact List.drop_eq_getElem_cons hi'
      have htk : ms.take (i + 1) = ms.take i ++ [m] := by
        rw [List.take_add_one, hm]; rfl
      rw [hdr] at HC
      obtain ⟨v1, v2, v3, v4, v5, v6, v7, v8, v9⟩ := HC
      have hmt : (marksA ms)[i * 4 + 1]? = some (.v (.string ⟨m.text.toArray⟩)) := by
        obtain ⟨_, a1, _, _⟩ := rowM_at ms i m hm
        rw [marksA, List.getElem?_map, Nat.mul_comm, a1]; rfl
      have w3 : IntKind.i64.wrap ((i : Int) + 1) = ((i + 1 : Nat) : Int) := by rw [wrap64 _ (by omega)]; omega
      have hz : ∀ l : List UInt8, ({ data := l.toArray } : ByteArray).size = l.length := fun l => by simp [ByteArray.size]
      have hsA : ∀ l : List UInt8, strA ⟨l.toArray⟩ = l.map byA := fun l => by simp [strA]
      have hql : q < H.length := (List.getElem?_eq_some_iff.1 hq).1
      have hend : ∀ (gk : List UInt8), gk ∈ gapL → ∀ (F' : Fr) (H' : List Ob) (r : Nat), F' 1 = some (.sl gaps.length (gaps.map byA)) → F' 5 = some (.sl ms.length (marksA ms)) → F' 7 = some (.row q) → F' 9 = some (.v (.int .i64 ((i + 1 : Nat) : Int))) →
          H'[q]? = some (.own 9 1 7 kindsA) → F' 8 = some (.row r) → r ≠ q → H'[r]? = some (.own 5 1 (out.length + gk.length + m.text.length) ((out ++ (gk ++ m.text)).map byA)) → ∃ k, k < g ∧ SpI t gaps ms k F' H' := by
        intro gk hgk F' H' r e1 e5 e7 e9 eq e8 ne er
        have hlk := gapL_len gk hgk
        refine ⟨g - 1, by omega, i + 1, m.pos + m.text.length, q, gs ++ [gk], out ++ (gk ++ m.text), ⟨by omega, e1, e5, e7, e9, eq, v2, v9, by simp [hgl], fun x hx => ?_, by rw [hoe, htk, joinG_snoc _ _ _ _ (by simp; omega)], by simp; omega, .inr ⟨r, ne, e8, ?_⟩⟩⟩
        · rcases List.mem_append.1 hx with hx | hx
          · exact hgm x hx
          · rw [List.mem_singleton.1 hx]; exact hgk
        · rw [er]; simp [Nat.add_assoc]
      by_cases hig2 : (i : Int) < gaps.length
      · have hig2' : i < gaps.length := by omega
        obtain ⟨x, hx⟩ : ∃ x, gaps[i]? = some x := ⟨_, List.getElem?_eq_getElem hig2'⟩
        obtain ⟨k, hk⟩ : ∃ k : Nat, k = x.toNat % 7 := ⟨_, rfl⟩
        have hk7 : k < 7 := by omega
        have hwx : IntKind.i64.wrap (x.toNat : Int) = x.toNat := wrap64 _ (by have := x.toNat_lt; omega)
        have hmod : (x.toNat : Int).tmod 7 = (k : Int) := by rw [hk]; rfl
        obtain ⟨gk, hgk⟩ : ∃ gk, gapL[k]? = some gk := ⟨_, List.getElem?_eq_getElem (show k < gapL.length from hk7)⟩
        have hkA : kindsA[k]? = some (.v (.string ⟨gk.toArray⟩)) := by rw [kindsA, List.getElem?_map, hgk]; rfl
        have hk7' : (k : Int) < 7 := by omega
        have hgm' := List.mem_of_getElem? hgk
        have hlk := gapL_len gk hgm'
        rcases hst with ⟨hi0, f8⟩ | ⟨r, hrq, f8, hr⟩
        · have ho : out = [] := by
            rw [hoe, hi0]; cases gs <;> rfl
          have hb1 : gk.length ≤ 1073741824 := by omega
          have hb2 : gk.length + m.text.length ≤ 1073741824 := by omega
          simp -implicitDefEqProofs [f1, f5, f7, f8, f9, hil, hig2, hx, byA, hwx, hq, hmod, hk7', hkA, hz, hlk.1, hb1, hmt, hb2, hsA, w3, -Int.natCast_add]
          refine hend gk hgm' _ _ (H.length + 1) (by simp [f1]) (by simp [f5]) (by simp [f7]) (by simp) ?_ (by simp) (by omega) ?_
          · rw [List.getElem?_append_left hql]; exact hq
          · rw [List.getElem?_append_right (by simp)]; simp [ho]
        · have hb1 : out.length + gk.length ≤ 1073741824 := by omega
          have hb2 : out.length + gk.length + m.text.length ≤ 1073741824 := by omega
          simp -implicitDefEqProofs [f1, f5, f7, f8, f9, hil, hig2, hx, byA, hwx, hq, hmod, hk7', hkA, hz, hr, hb1, hmt, hb2, hsA, w3, -Int.natCast_add]
          refine hend gk hgm' _ _ (H.length + 1) (by simp [f1]) (by simp [f5]) (by simp [f7]) (by simp) ?_ (by simp) (by omega) ?_
          · rw [List.getElem?_append_left (by simpa using hql), List.getElem?_set_ne hrq]; exact hq
          · rw [List.getElem?_append_right (by simp)]; simp
      · have hgm' : [32] ∈ gapL := by decide
        rcases hst with ⟨hi0, f8⟩ | ⟨r, hrq, f8, hr⟩
        · have ho : out = [] := by
            rw [hoe, hi0]; cases gs <;> rfl
          have hb2 : 1 + m.text.length ≤ 1073741824 := by omega
          simp -implicitDefEqProofs [f1, f5, f7, f8, f9, hil, hig2, hz, hmt, hb2, hsA, w3, -Int.natCast_add]
          refine hend [32] hgm' _ _ (H.length + 1) (by simp [f1]) (by simp [f5]) (by simp [f7]) (by simp) ?_ (by simp) (by omega) ?_
          · rw [List.getElem?_append_left hql]; exact hq
          · rw [List.getElem?_append_right (by simp)]; simp [ho]
        · have hb1 : out.length + 1 ≤ 1073741824 := by omega
          have hb2 : out.length + 1 + m.text.length ≤ 1073741824 := by omega
          simp -implicitDefEqProofs [f1, f5, f7, f8, f9, hil, hig2, hz, hr, hb1, hmt, hb2, hsA, w3, -Int.natCast_add]
          refine hend [32] hgm' _ _ (H.length + 1) (by simp [f1]) (by simp [f5]) (by simp [f7]) (by simp) ?_ (by simp) (by omega) ?_
          · rw [List.getElem?_append_left (by simpa using hql), List.getElem?_set_ne hrq]; exact hq
          · rw [List.getElem?_append_right (by simp)]; simp
    · obtain rfl : i = ms.length := by omega
      obtain ⟨ts, e, hts, htk⟩ := scan_toks _ _ _ _ (Nat.lt_succ_self _) hR
      obtain ⟨gs', g0, rfl⟩ : ∃ gs' g0, gs = gs' ++ [g0] := ⟨gs.dropLast, gs.getLast (by intro h; rw [h] at hgl; simp at hgl; omega), (List.dropLast_concat_getLast _).symm⟩
      have hgl' : gs'.length = ts.length := by rw [hts] at hgl; simp at hgl; exact hgl
      have hg0 : g0 ∈ gapL := hgm g0 (by simp)
      have hout : out = joinG gs' ts ++ g0 := by rw [hoe, List.take_length, hts, joinG_snoc _ _ _ _ hgl']; simp
      obtain ⟨ms', hR', hs'⟩ := spaced g0 hg0 e ts gs' 0 hgl' (fun x hx => hgm x (by simp [hx])) htk
      rw [← hout] at hR'
      have heq : eqvM false ms ms' := by show ms.map strip = ms'.map strip; rw [hs', hts]
      rcases hst with ⟨hi0, f8⟩ | ⟨r, hrq, f8, hr⟩
      · omega
      simp -implicitDefEqProofs [f5, f8, f9, hil]
      refine SC.frz (by simp) [.row r] (by simp) (post := MarksQ (scan out 0)) (by simpa [hr] using marks_ap out (by omega)) (by simp [hr]) ?_ (a := .mk)
      rintro x (⟨ms2, hR2, rfl⟩ | ⟨a, hR2, rfl⟩)
      · rw [hR'] at hR2
        cases hR2
        simp -implicitDefEqProofs [f5, hr, wrOb, splice, evP, fillA, eqCells, eqV1, fitsT]
        refine SC.frz (by simp) [.sl ms.length (marksA ms), .sl ms'.length (marksA ms'), .v (.bool false)] (by simp) (post := fun x => x = .v (.bool true)) (by simpa using same_ap false ms ms' heq (by omega) (scan_oks hR)) (by simp) ?_ (a := .mk)
        rintro x rfl
        simp -implicitDefEqProofs
      · rw [hR'] at hR2; cases hR2
  · simp -implicitDefEqProofs [wrOb, splice]
theorem marksSpaced_any (p p' : Option Addr) (c c' : Nat) (t gaps : List UInt8) (hc : t.length ≤ c) (hc' : gaps.length ≤ c') (ht : t.length ≤ 1048576) (ht' : gaps.length ≤ 1048576) (w : World) (hT : Txt w p t) (hT' : Txt w p' gaps) (hI : Inv w) (hS : Spc w) :
    Calls Tryd.prog 6 #[.slice p t.length c, .slice p' gaps.length c'] w fun e w' => e = .returned (.bool true) ∧ Below w.heap.size w w' := by
  refine (mspaced_ap t gaps ht ht' w w (fun _ => False) #[.slice p t.length c, .slice p' gaps.length c'] ⟨hI, hS⟩ (Below.refl _ _) (fun _ h => h.elim) ⟨rfl, fun j x hx => ?_⟩).mono ?_
  · match j, hx with
    | 0, rfl => exact ⟨_, rfl, rd_txt hc hT (fun _ h => h)⟩
    | 1, rfl => exact ⟨_, rfl, rd_txt hc' hT' (fun _ h => h)⟩
  · rintro e w' ⟨u, x, rfl, hb, hr, rfl⟩
    cases hr
    exact ⟨rfl, hb⟩
end Go.Proofs.YtedgcllgifiajaaDoor
