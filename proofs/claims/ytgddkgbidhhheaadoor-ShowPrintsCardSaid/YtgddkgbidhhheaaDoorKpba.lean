/- Texts joined: Pss Wsa Wsc Wsb Bys Wsd. -/
import Derived.Test.YtgddkgbidhhheaaDoorKpaz
import Derived.Test.YtgddkgbidhhheaaDoorKpax
import Derived.Test.YtgddkgbidhhheaaDoorKpav
import Derived.Test.YtgddkgbidhhheaaDoorRows
import Derived.Test.YtgddkgbidhhheaaDoorKpas
import Derived.ProofKit
import Derived.OpenShut
import Derived.Carry
import Derived.Stop.Joined
import Derived.LaidMore
import Derived.SizedLaws
import Derived.ShapedOpen
import Derived.Lib.LaidU8
import Derived.Stop.LaidErr
import Derived.MakeChecks
/- The reference of layer 5: programs. -/
set_option linter.unusedVariables false
set_option linter.unusedSimpArgs false
set_option maxRecDepth 100000
namespace Go.Proofs.YtgddkgbidhhheaaDoor
open Go.RowKit Flo Mk Pg Ab
section
variable {G : World → Prop}
structure QnP (q n j : Nat) (f : Pg.Fd) (fds : List AV) (l : List UInt8) (g : Nat) (F : Fr) (H : List Ob) : Prop where
  k : ∃ k : Nat, k ≤ f.params.length ∧ g = f.params.length - k ∧ F 6 = some (iv k) ∧ F 3 = some (sv (l ++ commas ((f.params.map pmT).take k)))
  f1 : F 1 = some (.ptr 0 0)
  f5 : F 5 = some (.ptr q 0)
  f4 : F 4 = some (iv j)
  h0 : H[0]? = some (.var [.sl n fds])
  hq : H[q]? = some (.var (fdA f))
structure QnQ (fs : List Pg.Fd) (g : Nat) (F : Fr) (H : List Ob) : Prop where
  k : ∃ j : Nat, j ≤ fs.length ∧ g = fs.length - j ∧ F 4 = some (iv j) ∧ F 3 = some (sv ((fs.take j).flatMap fdT))
  f1 : F 1 = some (.ptr 0 0)
  h0 : H[0]? = some (.var [.sl fs.length (fdsA fs)])
set_option maxHeartbeats 8000000 in
theorem qprog_ap (fs : List Pg.Fd) (hw : ∀ f ∈ fs, wfF f) (hlen : fs.length ≤ 1000000) (hsz : (fdsT fs).length ≤ 1073741824) : AP Tryd.prog G 11 [.agg [.sl fs.length (fdsA fs)]] (fun x => x = sv (fdsT fs)) := by
  refine AP.go hmix F_qprog (by simp) ?_
  simp -implicitDefEqProofs [c_qprog, evP, fillA, splice]
  refine LP.go (QnQ fs) fs.length ⟨⟨0, Nat.zero_le _, rfl, by simp, by simp⟩, by simp, by simp⟩ ?_
  unfold c_qprog_L1
  rintro g F H ⟨⟨j, hj, rfl, h4, h3⟩, h1, h0⟩
  have hl0 : 0 < H.length := (List.getElem?_eq_some_iff.1 h0).1
  by_cases hjl : j < fs.length
  · obtain ⟨f, hfj⟩ : ∃ f, fs[j]? = some f := ⟨_, List.getElem?_eq_getElem hjl⟩
    have hwf := hw f (List.mem_of_getElem? hfj)
    have hjl' : (j : Int) < fs.length := by omega
    have hat := fdsA_at11 hfj
    have hvz : j * 11 + 11 ≤ (fdsA fs).length := by rw [fdsA_len]; omega
    have hw1 : IntKind.i64.wrap ((j : Int) + 1) = ((j + 1 : Nat) : Int) := by rw [wrap64 _ (by omega)]; omega
    have hft : (fs.take (j + 1)).flatMap fdT = (fs.take j).flatMap fdT ++ fdT f := by rw [List.take_add_one, hfj, List.flatMap_append]; simp
    have hfl : ((fs.take (j + 1)).flatMap fdT).length ≤ (fdsT fs).length := by
      have : fdsT fs = (fs.take (j + 1)).flatMap fdT ++ (fs.drop (j + 1)).flatMap fdT := by unfold fdsT; rw [← List.flatMap_append, List.take_append_drop]
      rw [this, List.length_append]; omega
    rw [hft, List.length_append] at hfl
    obtain ⟨L, hL⟩ : ∃ L, (fs.take j).flatMap fdT = L := ⟨_, rfl⟩
    rw [hL] at h3 hfl hft
    obtain ⟨name, params, ty, body, pos⟩ := f
    obtain ⟨w1, w2, w3, w4, w5⟩ := hwf
    dsimp only at w1 w2 w3 w4 w5
    have hfdT : fdT ⟨name, params, ty, body, pos⟩ = name ++ [40] ++ commas (params.map pmT) ++ [41, 58, 32] ++ letter ty ++ [32, 61, 32] ++ exT body ++ [59, 10] := by
      simp only [fdT, pmsT_commas]
    rw [hfdT] at hft hfl
    simp only [List.length_append, List.length_cons, List.length_nil] at hfl
    have hX := qexpr_ap (G := G) body w4 (by omega)
    have hcle := commas_le2 (params.map pmT)
    obtain ⟨tb, htb⟩ : ∃ t, exT body = t := ⟨_, rfl⟩
    rw [htb] at hX hft hfl
    obtain ⟨bop, bnm, btl, bty, bnum, bus, bpos⟩ := body
    simp -implicitDefEqProofs [-Int.natCast_add, h1, h0, h3, h4, hjl, hjl', hat, hvz, fdA, Ex.cells, evP, fillA, splice, wrOb, ba_cat, ba_size]
    repeat (with_reducible refine And.intro (by omega) ?_)
    refine LP.go (QnP H.length fs.length j ⟨name, params, ty, .mk bop bnm btl bty bnum bus bpos, pos⟩ (fdsA fs) (L ++ (name ++ [40]))) params.length ⟨⟨0, Nat.zero_le _, rfl, by simp, by simp [commas]⟩, by simp [h1], by simp, by simp [h4], by rw [List.getElem?_append_left hl0]; exact h0, by simp [fdA, Ex.cells]⟩ ?_
    unfold c_qprog_L0
    rintro g F2 H2 ⟨⟨k, hk, rfl, g6, g3⟩, g1, g5, g4, gh0, gq⟩
    dsimp only at hk g3
    simp only [fdA, Ex.cells, List.cons_append, List.nil_append] at gq
    by_cases hkl : k < params.length
    · obtain ⟨p, hpk⟩ : ∃ p, params[k]? = some p := ⟨_, List.getElem?_eq_getElem hkl⟩
      have hkl' : (k : Int) < params.length := by omega
      have hatp := pmsA_at3 hpk
      have hvp : k * 3 + 3 ≤ (pmsA params).length := by rw [pmsA_len3]; omega
      have hwk : IntKind.i64.wrap ((k : Int) + 1) = ((k + 1 : Nat) : Int) := by rw [wrap64 _ (by omega)]; omega
      have hw0 : IntKind.i64.wrap 1 = 1 := wrap64 _ (by omega)
      have hmk : (params.map pmT)[k]? = some (pmT p) := by rw [List.getElem?_map, hpk]; rfl
      have hct : commas ((params.map pmT).take (k + 1)) = bif k == 0 then pmT p else commas ((params.map pmT).take k) ++ [44, 32] ++ pmT p := by
        rw [List.take_add_one, hmk]
        simp only [Option.toList_some]
        rw [commas_snoc]
        cases k with
        | zero => simp
        | succ k =>
          have : ((params.map pmT).take (k + 1)).isEmpty = false := by
            cases params with
            | nil => simp at hkl
            | cons => simp
          rw [this]; rfl
      have hle := hcle (k + 1) (by simp; omega)
      have hpmT : pmT p = p.name ++ [32] ++ letter p.ty := rfl
      have hlt := letter_len p.ty
      have hLt := qletter_ap (G := G) p.ty
      have ha0 : (pmsA params)[k * 3]? = some (sv p.name) := by
        have := congrArg (fun l => l[0]?) hatp
        simpa [List.getElem?_take, List.getElem?_drop] using this
      have ha1 : (pmsA params)[k * 3 + 1]? = some (iv p.ty) := by
        have := congrArg (fun l => l[1]?) hatp
        simpa [List.getElem?_take, List.getElem?_drop] using this
      obtain ⟨tt, htt⟩ : ∃ t, letter p.ty = t := ⟨_, rfl⟩
      rw [htt] at hLt hpmT hlt
      obtain ⟨C, hC⟩ : ∃ C, params.map pmT = C := ⟨_, rfl⟩
      rw [hC] at hct hle g3 hfl hft
      have fin : ∀ (F' : Fr) (H' : List Ob), F' 6 = some (iv ((k + 1 : Nat) : Int)) → F' 3 = some (sv (L ++ (name ++ [40]) ++ commas (C.take (k + 1)))) → F' 1 = some (.ptr 0 0) → F' 5 = some (.ptr H.length 0) → F' 4 = some (iv j) → H'[0]? = some (.var [.sl fs.length (fdsA fs)]) → H'[H.length]? = some (.var (fdA ⟨name, params, ty, .mk bop bnm btl bty bnum bus bpos, pos⟩)) →
          ∃ m, m < params.length - k ∧ QnP H.length fs.length j ⟨name, params, ty, .mk bop bnm btl bty bnum bus bpos, pos⟩ (fdsA fs) (L ++ (name ++ [40])) m F' H' := fun F' H' a b c d e g q =>
        ⟨params.length - (k + 1), by omega, ⟨⟨k + 1, by show k + 1 ≤ params.length; omega, rfl, a, by rw [← hC] at b; exact b⟩, c, d, e, g, q⟩⟩
      cases k with
      | zero =>
        simp only [BEq.rfl, cond_true, hpmT] at hct
        rw [hct] at hle
        simp only [List.length_append, List.length_cons, List.length_nil] at hle
        have ha0' : (pmsA params)[0]? = some (sv p.name) := by simpa using ha0
        have ha1' : (pmsA params)[1]? = some (iv p.ty) := by simpa using ha1
        have hvz0 : 3 ≤ (pmsA params).length := by simpa using hvp
        have h0l : 0 < params.length := hkl
        simp -implicitDefEqProofs [-Int.natCast_add, g1, g3, g4, g5, g6, gh0, gq, h0l, ha0', ha1', hvz0, evP, fillA, splice, wrOb, commas, ba_cat, ba_size]
        repeat (with_reducible refine And.intro (by omega) ?_)
        refine DC.go [iv p.ty] (sv tt) (by simp) (by simpa using hLt) (by simp) (by simp) ?_ (a := .mk)
        simp -implicitDefEqProofs [-Int.natCast_add, g1, g3, g4, g5, g6, ba_cat, ba_size, hw0]
        repeat (with_reducible refine And.intro (by omega) ?_)
        exact fin _ _ (by simp [hw0]) (by rw [hct]; simp) (by simp [g1]) (by simp [g5]) (by simp [g4]) gh0 (by simpa [fdA, Ex.cells] using gq)
      | succ k =>
        simp only [show (k + 1 == 0) = false from rfl, cond_false, hpmT] at hct
        rw [hct] at hle
        simp only [List.length_append, List.length_cons, List.length_nil] at hle
        have hk0 : (0 : Int) < ((k + 1 : Nat) : Int) := by omega
        simp -implicitDefEqProofs [-Int.natCast_add, g1, g3, g4, g5, g6, gh0, gq, hkl, hkl', hk0, ha0, ha1, hvp, evP, fillA, splice, wrOb, ba_cat, ba_size]
        repeat (with_reducible refine And.intro (by omega) ?_)
        refine DC.go [iv p.ty] (sv tt) (by simp) (by simpa using hLt) (by simp) (by simp) ?_ (a := .mk)
        simp -implicitDefEqProofs [-Int.natCast_add, g1, g3, g4, g5, g6, ba_cat, ba_size, hwk]
        repeat (with_reducible refine And.intro (by omega) ?_)
        exact fin _ _ (by simp [hwk]) (by rw [hct]; simp) (by simp [g1]) (by simp [g5]) (by simp [g4]) gh0 (by simpa [fdA, Ex.cells] using gq)
    · have hke : k = params.length := by omega
      subst hke
      rw [List.take_of_length_le (by simp)] at g3
      simp -implicitDefEqProofs [-Int.natCast_add, g1, g3, g4, g5, g6, gh0, gq, evP, fillA, splice, wrOb, ba_cat, ba_size]
      have hlt := letter_len ty
      have hLt := qletter_ap (G := G) ty
      obtain ⟨tt, htt⟩ : ∃ t, letter ty = t := ⟨_, rfl⟩
      rw [htt] at hLt hlt hft
      repeat (with_reducible refine And.intro (by omega) ?_)
      refine DC.go [iv ty] (sv tt) (by simp) (by simpa using hLt) (by simp) (by simp) ?_ (a := .mk)
      simp -implicitDefEqProofs [-Int.natCast_add, g1, g3, g4, g5, g6, gh0, gq, evP, fillA, splice, wrOb, ba_cat, ba_size]
      repeat (with_reducible refine And.intro (by omega) ?_)
      refine DC.go [exA (.mk bop bnm btl bty bnum bus bpos)] (sv tb) (by simp [exA, Ex.cells]) (by simpa [exA, Ex.cells] using hX) (by simp [exA, Ex.cells]) (by simp [exA, Ex.cells]) ?_ (a := .mk)
      simp -implicitDefEqProofs [-Int.natCast_add, g1, g3, g4, g5, g6, ba_cat, ba_size, hw1]
      repeat (with_reducible refine And.intro (by omega) ?_)
      refine ⟨fs.length - (j + 1), by omega, ⟨⟨j + 1, by omega, rfl, by simp [hw1], ?_⟩, by simp [g1], gh0⟩⟩
      rw [hft]
      simp
  · have hje : j = fs.length := by omega
    subst hje
    have hp' : (fs.take fs.length).flatMap fdT = fdsT fs := by simp [fdsT]
    rw [hp'] at h3
    simp -implicitDefEqProofs [h1, h0, h3, h4]
end
end Go.Proofs.YtgddkgbidhhheaaDoor
/- The awake text of layer 5, and what read answers. -/
set_option linter.unusedVariables false
set_option linter.unusedSimpArgs false
set_option maxRecDepth 100000
namespace Go.Proofs.YtgddkgbidhhheaaDoor
open Go.RowKit Flo Mk Pg Ab
abbrev tW : List UInt8 := [102, 40, 120, 32, 78, 44, 121, 32, 76, 41, 58, 78, 61, 40, 40, 120, 41, 43, 49, 41, 42, 50, 59]
theorem digW (u : Nat) (h : u < 10) : Lib.decDigits u = [UInt8.ofNat (48 + u)] := Lib.decDigits_one h
theorem textL_1 : textL 1 0 = [49] := by
  unfold textL Lib.itoa
  rw [if_pos rfl, if_neg (by decide), show Int.toNat 1 = 1 from rfl, digW 1 (by decide)]; rfl
theorem textL_2 : textL 2 0 = [50] := by
  unfold textL Lib.itoa
  rw [if_pos rfl, if_neg (by decide), show Int.toNat 2 = 2 from rfl, digW 2 (by decide)]; rfl
theorem refParse_1 : refParse [49] = some (1, 0) := by
  have h := refParse_text (x := 1) (y := 0) (by decide)
  rw [textL_1] at h; exact h
theorem refParse_2 : refParse [50] = some (2, 0) := by
  have h := refParse_text (x := 2) (y := 0) (by decide)
  rw [textL_2] at h; exact h
theorem oneW_num {l : List UInt8} {at' : Nat} (h1 : (l.head?.map runB) = some true) (h2 : ((l.takeWhile runB).head?.map digB) = some true) : one l at' = (refParse (l.takeWhile runB)).map (fun p => ⟨2, l.takeWhile runB, p, at'⟩) := by
  unfold one wordM; rw [if_pos h1, if_pos h2]
def msW : List M := [⟨0, [102], (0, 0), 0⟩, ⟨3, [40], (0, 0), 1⟩, ⟨0, [120], (0, 0), 2⟩, ⟨1, [78], (0, 0), 4⟩, ⟨3, [44], (0, 0), 5⟩, ⟨0, [121], (0, 0), 6⟩, ⟨1, [76], (0, 0), 8⟩, ⟨3, [41], (0, 0), 9⟩, ⟨3, [58], (0, 0), 10⟩, ⟨1, [78], (0, 0), 11⟩, ⟨3, [61], (0, 0), 12⟩, ⟨3, [40], (0, 0), 13⟩, ⟨3, [40], (0, 0), 14⟩, ⟨0, [120], (0, 0), 15⟩, ⟨3, [41], (0, 0), 16⟩, ⟨3, [43], (0, 0), 17⟩, ⟨2, [49], (1, 0), 18⟩, ⟨3, [41], (0, 0), 19⟩, ⟨3, [42], (0, 0), 20⟩, ⟨2, [50], (2, 0), 21⟩, ⟨3, [59], (0, 0), 22⟩, ⟨4, [], (0, 0), 23⟩]
theorem scan_tW : scan tW 0 = .ok msW := by
  rw [scan_one (by decide) (by decide), show one [102, 40, 120, 32, 78, 44, 121, 32, 76, 41, 58, 78, 61, 40, 40, 120, 41, 43, 49, 41, 42, 50, 59] 0 = some ⟨0, [102], (0, 0), 0⟩ by decide +kernel]
  show pre _ (scan [40, 120, 32, 78, 44, 121, 32, 76, 41, 58, 78, 61, 40, 40, 120, 41, 43, 49, 41, 42, 50, 59] 1) = _
  rw [scan_one (by decide) (by decide), show one [40, 120, 32, 78, 44, 121, 32, 76, 41, 58, 78, 61, 40, 40, 120, 41, 43, 49, 41, 42, 50, 59] 1 = some ⟨3, [40], (0, 0), 1⟩ by decide +kernel]
  show pre _ (pre _ (scan [120, 32, 78, 44, 121, 32, 76, 41, 58, 78, 61, 40, 40, 120, 41, 43, 49, 41, 42, 50, 59] 2)) = _
  rw [scan_one (by decide) (by decide), show one [120, 32, 78, 44, 121, 32, 76, 41, 58, 78, 61, 40, 40, 120, 41, 43, 49, 41, 42, 50, 59] 2 = some ⟨0, [120], (0, 0), 2⟩ by decide +kernel]
  show pre _ (pre _ (pre _ (scan [32, 78, 44, 121, 32, 76, 41, 58, 78, 61, 40, 40, 120, 41, 43, 49, 41, 42, 50, 59] 3))) = _
  rw [scan_blank (by decide)]
  rw [scan_one (by decide) (by decide), show one [78, 44, 121, 32, 76, 41, 58, 78, 61, 40, 40, 120, 41, 43, 49, 41, 42, 50, 59] 4 = some ⟨1, [78], (0, 0), 4⟩ by decide +kernel]
  show pre _ (pre _ (pre _ (pre _ (scan [44, 121, 32, 76, 41, 58, 78, 61, 40, 40, 120, 41, 43, 49, 41, 42, 50, 59] 5)))) = _
  rw [scan_one (by decide) (by decide), show one [44, 121, 32, 76, 41, 58, 78, 61, 40, 40, 120, 41, 43, 49, 41, 42, 50, 59] 5 = some ⟨3, [44], (0, 0), 5⟩ by decide +kernel]
  show pre _ (pre _ (pre _ (pre _ (pre _ (scan [121, 32, 76, 41, 58, 78, 61, 40, 40, 120, 41, 43, 49, 41, 42, 50, 59] 6))))) = _
  rw [scan_one (by decide) (by decide), show one [121, 32, 76, 41, 58, 78, 61, 40, 40, 120, 41, 43, 49, 41, 42, 50, 59] 6 = some ⟨0, [121], (0, 0), 6⟩ by decide +kernel]
  show pre _ (pre _ (pre _ (pre _ (pre _ (pre _ (scan [32, 76, 41, 58, 78, 61, 40, 40, 120, 41, 43, 49, 41, 42, 50, 59] 7)))))) = _
  rw [scan_blank (by decide)]
  rw [scan_one (by decide) (by decide), show one [76, 41, 58, 78, 61, 40, 40, 120, 41, 43, 49, 41, 42, 50, 59] 8 = some ⟨1, [76], (0, 0), 8⟩ by decide +kernel]
  show pre _ (pre _ (pre _ (pre _ (pre _ (pre _ (pre _ (scan [41, 58, 78, 61, 40, 40, 120, 41, 43, 49, 41, 42, 50, 59] 9))))))) = _
  rw [scan_one (by decide) (by decide), show one [41, 58, 78, 61, 40, 40, 120, 41, 43, 49, 41, 42, 50, 59] 9 = some ⟨3, [41], (0, 0), 9⟩ by decide +kernel]
  show pre _ (pre _ (pre _ (pre _ (pre _ (pre _ (pre _ (pre _ (scan [58, 78, 61, 40, 40, 120, 41, 43, 49, 41, 42, 50, 59] 10)))))))) = _
  rw [scan_one (by decide) (by decide), show one [58, 78, 61, 40, 40, 120, 41, 43, 49, 41, 42, 50, 59] 10 = some ⟨3, [58], (0, 0), 10⟩ by decide +kernel]
  show pre _ (pre _ (pre _ (pre _ (pre _ (pre _ (pre _ (pre _ (pre _ (scan [78, 61, 40, 40, 120, 41, 43, 49, 41, 42, 50, 59] 11))))))))) = _
  rw [scan_one (by decide) (by decide), show one [78, 61, 40, 40, 120, 41, 43, 49, 41, 42, 50, 59] 11 = some ⟨1, [78], (0, 0), 11⟩ by decide +kernel]
  show pre _ (pre _ (pre _ (pre _ (pre _ (pre _ (pre _ (pre _ (pre _ (pre _ (scan [61, 40, 40, 120, 41, 43, 49, 41, 42, 50, 59] 12)))))))))) = _
  rw [scan_one (by decide) (by decide), show one [61, 40, 40, 120, 41, 43, 49, 41, 42, 50, 59] 12 = some ⟨3, [61], (0, 0), 12⟩ by decide +kernel]
  show pre _ (pre _ (pre _ (pre _ (pre _ (pre _ (pre _ (pre _ (pre _ (pre _ (pre _ (scan [40, 40, 120, 41, 43, 49, 41, 42, 50, 59] 13))))))))))) = _
  rw [scan_one (by decide) (by decide), show one [40, 40, 120, 41, 43, 49, 41, 42, 50, 59] 13 = some ⟨3, [40], (0, 0), 13⟩ by decide +kernel]
  show pre _ (pre _ (pre _ (pre _ (pre _ (pre _ (pre _ (pre _ (pre _ (pre _ (pre _ (pre _ (scan [40, 120, 41, 43, 49, 41, 42, 50, 59] 14)))))))))))) = _
  rw [scan_one (by decide) (by decide), show one [40, 120, 41, 43, 49, 41, 42, 50, 59] 14 = some ⟨3, [40], (0, 0), 14⟩ by decide +kernel]
  show pre _ (pre _ (pre _ (pre _ (pre _ (pre _ (pre _ (pre _ (pre _ (pre _ (pre _ (pre _ (pre _ (scan [120, 41, 43, 49, 41, 42, 50, 59] 15))))))))))))) = _
  rw [scan_one (by decide) (by decide), show one [120, 41, 43, 49, 41, 42, 50, 59] 15 = some ⟨0, [120], (0, 0), 15⟩ by decide +kernel]
  show pre _ (pre _ (pre _ (pre _ (pre _ (pre _ (pre _ (pre _ (pre _ (pre _ (pre _ (pre _ (pre _ (pre _ (scan [41, 43, 49, 41, 42, 50, 59] 16)))))))))))))) = _
  rw [scan_one (by decide) (by decide), show one [41, 43, 49, 41, 42, 50, 59] 16 = some ⟨3, [41], (0, 0), 16⟩ by decide +kernel]
  show pre _ (pre _ (pre _ (pre _ (pre _ (pre _ (pre _ (pre _ (pre _ (pre _ (pre _ (pre _ (pre _ (pre _ (pre _ (scan [43, 49, 41, 42, 50, 59] 17))))))))))))))) = _
  rw [scan_one (by decide) (by decide), show one [43, 49, 41, 42, 50, 59] 17 = some ⟨3, [43], (0, 0), 17⟩ by decide +kernel]
  show pre _ (pre _ (pre _ (pre _ (pre _ (pre _ (pre _ (pre _ (pre _ (pre _ (pre _ (pre _ (pre _ (pre _ (pre _ (pre _ (scan [49, 41, 42, 50, 59] 18)))))))))))))))) = _
  rw [scan_one (by decide) (by decide), oneW_num (by decide) (by decide), show List.takeWhile runB [49, 41, 42, 50, 59] = [49] by decide, refParse_1]
  show pre _ (pre _ (pre _ (pre _ (pre _ (pre _ (pre _ (pre _ (pre _ (pre _ (pre _ (pre _ (pre _ (pre _ (pre _ (pre _ (pre _ (scan [41, 42, 50, 59] 19))))))))))))))))) = _
  rw [scan_one (by decide) (by decide), show one [41, 42, 50, 59] 19 = some ⟨3, [41], (0, 0), 19⟩ by decide +kernel]
  show pre _ (pre _ (pre _ (pre _ (pre _ (pre _ (pre _ (pre _ (pre _ (pre _ (pre _ (pre _ (pre _ (pre _ (pre _ (pre _ (pre _ (pre _ (scan [42, 50, 59] 20)))))))))))))))))) = _
  rw [scan_one (by decide) (by decide), show one [42, 50, 59] 20 = some ⟨3, [42], (0, 0), 20⟩ by decide +kernel]
  show pre _ (pre _ (pre _ (pre _ (pre _ (pre _ (pre _ (pre _ (pre _ (pre _ (pre _ (pre _ (pre _ (pre _ (pre _ (pre _ (pre _ (pre _ (pre _ (scan [50, 59] 21))))))))))))))))))) = _
  rw [scan_one (by decide) (by decide), oneW_num (by decide) (by decide), show List.takeWhile runB [50, 59] = [50] by decide, refParse_2]
  show pre _ (pre _ (pre _ (pre _ (pre _ (pre _ (pre _ (pre _ (pre _ (pre _ (pre _ (pre _ (pre _ (pre _ (pre _ (pre _ (pre _ (pre _ (pre _ (pre _ (scan [59] 22)))))))))))))))))))) = _
  rw [scan_one (by decide) (by decide), show one [59] 22 = some ⟨3, [59], (0, 0), 22⟩ by decide +kernel]
  show pre _ (pre _ (pre _ (pre _ (pre _ (pre _ (pre _ (pre _ (pre _ (pre _ (pre _ (pre _ (pre _ (pre _ (pre _ (pre _ (pre _ (pre _ (pre _ (pre _ (pre _ (scan [] 23))))))))))))))))))))) = _
  rfl
def exW : Ex := .mk 10 [] [] 0 (0, 0) [.mk 8 [] [] 0 (0, 0) [.mk 6 [120] [] 0 (0, 0) [] 15, .mk 1 [] [] 0 (1, 0) [] 18] 17, .mk 1 [] [] 0 (2, 0) [] 21] 20
def fdW : Pg.Fd := ⟨[102], [⟨[120], 1, 2⟩, ⟨[121], 3, 6⟩], 1, exW, 0⟩
theorem run_W : runP wideL 60 (.prog [] msW) = some (.ok [.fs [fdW]] [⟨4, [], (0, 0), 23⟩]) := by rfl
theorem read_W : readL tW (some [fdW]) := ⟨by decide, msW, _, scan_tW, run_P _ _ _ run_W⟩
theorem exT_W : exT exW = [40, 120, 32, 43, 32, 49, 41, 32, 42, 32, 50] := by
  simp [exW, exT, exTs, nodeT, signT, textL_1, textL_2, brack, opX, levelN]
theorem fdT_W : fdsT [fdW] = [102, 40, 120, 32, 78, 44, 32, 121, 32, 76, 41, 58, 32, 78, 32, 61, 32, 40, 120, 32, 43, 32, 49, 41, 32, 42, 32, 50, 59, 10] := by
  simp [fdsT, fdT, fdW, pmsT, letter, exT_W]
section
variable {G : World → Prop}
/-- what read answers -/
def ReadR (t : List UInt8) (x : AV) : Prop := (∃ fs, readL t (some fs) ∧ x = .tup [.agg [.sl fs.length (fdsA fs)], bv true]) ∨ (readL t none ∧ x = .tup [.agg [.sl 0 []], bv false])
theorem wread_ap (t : List UInt8) : AP Tryd.prog G 7 [.sl t.length (t.map byA)] (ReadR t) := by
  refine AP.go hmix F_wread (by simp) ?_
  simp -implicitDefEqProofs [c_wread, evP, fillA, splice, wrOb]
  refine SC.frz (by simp) [] (by simp) (by simpa using pwide_ap) (by simp) ?_ (a := .mk)
  rintro x rfl
  simp -implicitDefEqProofs [evP, fillA, splice, wrOb]
  refine SC.frz (by simp) [.sl t.length (t.map byA), .agg [iv wideL.text, iv wideL.funcs, iv wideL.arity, iv wideL.nest]] (by simp) (by simpa using pread_ap t) (by simp) ?_ (a := .mk)
  rintro x (⟨fs, hr, rfl⟩ | ⟨w, hw, hr, p, rfl⟩)
  · simp -implicitDefEqProofs [evP, fillA, splice, wrOb, farP]
    exact .inl ⟨fs, hr, rfl⟩
  · simp -implicitDefEqProofs [evP, fillA, splice, wrOb, hw, farP]
    exact .inr ⟨hr, rfl⟩
set_option maxHeartbeats 4000000 in
theorem wawake_ap : AP Tryd.prog Gv 6 [] (fun x => x = bv true) := by
  refine AP.go hmix F_wawake (by simp) ?_
  simp -implicitDefEqProofs [c_wawake, evP, fillA, splice, wrOb]
  refine SC.frz (by simp) [.row 0] (by simp) (post := ReadR tW) (wread_ap tW) (by rfl) ?_ (a := .mk)
  rintro x (⟨fs, hr, rfl⟩ | ⟨hr, rfl⟩)
  · obtain rfl : fs = [fdW] := by have := readL_one hr read_W; simpa using this
    obtain ⟨hwf, hl1, hl2, hl3⟩ := readL_wf read_W
    have hP := sprog_ap [fdW] hwf (by simp) (by omega)
    have hE := sexpr0_ap exW (hwf fdW (by simp)).2.2.2.1 (by have := hl3 fdW (by simp); simp only [fdW] at this; omega)
    rw [fdT_W] at hP
    rw [exT_W] at hE
    have hcl : fdsA [fdW] = [sv [102], .sl 2 (pmsA [⟨[120], 1, 2⟩, ⟨[121], 3, 6⟩]), iv 1, iv 10, sv [], sv [], iv 0, cv (W 0) (W 0), .sl 2 (exsA [.mk 8 [] [] 0 (0, 0) [.mk 6 [120] [] 0 (0, 0) [] 15, .mk 1 [] [] 0 (1, 0) [] 18] 17, .mk 1 [] [] 0 (2, 0) [] 21]), iv 20, iv 0] := by rfl
    rw [hcl] at hP ⊢
    have hE' : exA exW = .agg [iv 10, sv [], sv [], iv 0, cv (W 0) (W 0), .sl 2 (exsA [.mk 8 [] [] 0 (0, 0) [.mk 6 [120] [] 0 (0, 0) [] 15, .mk 1 [] [] 0 (1, 0) [] 18] 17, .mk 1 [] [] 0 (2, 0) [] 21]), iv 20] := by rfl
    rw [hE'] at hE
    obtain ⟨us, hus⟩ : ∃ us, exsA [.mk 8 [] [] 0 (0, 0) [.mk 6 [120] [] 0 (0, 0) [] 15, .mk 1 [] [] 0 (1, 0) [] 18] 17, .mk 1 [] [] 0 (2, 0) [] 21] = us := ⟨_, rfl⟩
    obtain ⟨ps, hps⟩ : ∃ ps, pmsA [⟨[120], 1, 2⟩, ⟨[121], 3, 6⟩] = ps := ⟨_, rfl⟩
    rw [hus] at hP hE ⊢
    rw [hps] at hP ⊢
    simp only [List.length_cons, List.length_nil, Nat.zero_add] at hP ⊢
    simp -implicitDefEqProofs [evP, fillA, splice, wrOb]
    refine SCall.frz (xs := [.agg [.sl 1 [sv [102], .sl 2 ps, iv 1, iv 10, sv [], sv [], iv 0, cv (W 0) (W 0), .sl 2 us, iv 20, iv 0]]]) (by simp) (by simp) (by simpa using hP) (by simp) ?_
    rintro x rfl
    simp -implicitDefEqProofs [evP, fillA, splice, wrOb]
    refine SCall.frz (xs := [.agg [iv 10, sv [], sv [], iv 0, cv (W 0) (W 0), .sl 2 us, iv 20]]) (by simp) (by simp) (by simpa using hE) (by simp) ?_
    rintro x rfl
    simp -implicitDefEqProofs [evP, fillA, splice, wrOb]
  · exact absurd (readL_one hr read_W) (by simp)
end
end Go.Proofs.YtgddkgbidhhheaaDoor
/- A program is the same as itself. -/
set_option linter.unusedVariables false
set_option linter.unusedSimpArgs false
namespace Go.Proofs.YtgddkgbidhhheaaDoor
open Go.RowKit Flo Mk Pg Ab
theorem ord_refl (d : Ieee.Datum) (h : ∀ s t, d ≠ .nan s t) : d.order d = some .eq := by
  cases d with
  | number s m i => simp [Ieee.Datum.order]
  | infinity s => simp [Ieee.Datum.order]
  | nan s t => exact absurd rfl (h s t)
theorem read_rung (f : Ieee.Format) (neg : Bool) (r : Nat) (h : r ≤ f.infRung) (hs : f.infRung < f.signWeight) : ∀ s t, f.read (f.word neg r) ≠ .nan s t := by
  intro s t
  have hr : (f.word neg r) % f.signWeight = r := by
    unfold Ieee.Format.word
    cases neg
    · simp; exact Nat.mod_eq_of_lt (by omega)
    · simp; exact Nat.mod_eq_of_lt (by omega)
  unfold Ieee.Format.read
  simp only [hr]
  repeat' split
  all_goals first | (simp; done) | omega
theorem nearest_refl (f : Ieee.Format) (neg : Bool) (m : Nat) (p : Int) (hs : f.infRung < f.signWeight) : f.order (f.nearest neg m p) (f.nearest neg m p) = some .eq := by
  refine ord_refl _ ?_
  unfold Ieee.Format.nearest
  split
  · exact read_rung f neg 0 (Nat.zero_le _) hs
  · exact read_rung f neg _ (Nat.min_le_right _ _) hs
theorem ordW_self (n : Int) : FloatKind.f64.format.order (W n) (W n) = some .eq :=
  nearest_refl _ _ _ _ (by decide)
theorem cEqW_self (a b : Int) : cEq (W a) (W b) (W a) (W b) = true := by
  unfold cEq; rw [ordW_self, ordW_self]; rfl
mutual
theorem sameX_refl (pl : Bool) : ∀ e : Ex, sameX pl e e = true
  | .mk o n t ty num us p => by
    rw [sameX, cEqW_self, sameXs_refl pl us]
    simp
theorem sameXs_refl (pl : Bool) : ∀ us : List Ex, sameXs pl us us = true
  | [] => by simp [sameXs]
  | e :: r => by rw [sameXs, sameX_refl pl e, sameXs_refl pl r]; rfl
end
theorem samePs_refl (pl : Bool) : ∀ ps : List Pm, samePs pl ps ps = true
  | [] => by simp [samePs]
  | p :: r => by simp [samePs, sameP, samePs_refl pl r]
theorem sameF_refl (pl : Bool) (f : Pg.Fd) : sameF pl f f = true := by
  unfold sameF; rw [samePs_refl, sameX_refl]; simp
theorem sameFs_refl (pl : Bool) : ∀ fs : List Pg.Fd, sameFs pl fs fs = true
  | [] => by simp [sameFs]
  | f :: r => by rw [sameFs, sameF_refl, sameFs_refl pl r]; rfl
theorem sameG_refl (pl : Bool) (fs : List Pg.Fd) : sameG pl fs fs = true := by
  unfold sameG; rw [sameFs_refl]; simp
end Go.Proofs.YtgddkgbidhhheaaDoor
/- Layer 5: ShowPrints, ShowKeep. -/
set_option linter.unusedVariables false
set_option linter.unusedSimpArgs false
set_option maxRecDepth 100000
namespace Go.Proofs.YtgddkgbidhhheaaDoor
open Go.RowKit Flo Mk Pg Ab
/-- an expression of a program that was read, printed -/
structure QwI (fs : List Pg.Fd) (g : Nat) (F : Fr) (H : List Ob) : Prop where
  k : ∃ j : Nat, j ≤ fs.length ∧ g = fs.length - j ∧ F 5 = some (iv j)
  f3 : F 3 = some (.ptr 0 0)
  h0 : H[0]? = some (.var [.sl fs.length (fdsA fs)])
theorem fdsA_body {fs : List Pg.Fd} {j : Nat} {f : Pg.Fd} (h : fs[j]? = some f) : ((fdsA fs).drop (j * 11 + 3)).take 7 = f.body.cells := by
  have h1 := fdsA_at11 h
  have h2 := congrArg (fun l => (l.drop 3).take 7) h1
  obtain ⟨nm, ps, ty, ⟨bop, bnm, btl, bty, bnum, bus, bpos⟩, pos⟩ := f
  simp only [List.drop_take, List.drop_drop, List.take_take] at h2
  rw [show min 7 (11 - 3) = 7 by decide] at h2
  rw [h2]; rfl
set_option maxHeartbeats 8000000 in
theorem wprints_ap (t : List UInt8) : AP Tryd.prog Gv 3 [.sl t.length (t.map byA)] (fun x => x = bv true) := by
  refine AP.go hmix F_wprints (by simp) ?_
  simp -implicitDefEqProofs [c_wprints, evP, fillA, splice, wrOb]
  refine SC.frz (by simp) [] (by simp) (by simpa using wawake_ap) (by simp) ?_ (a := .mk)
  rintro x rfl
  simp -implicitDefEqProofs [evP, fillA, splice, wrOb]
  refine SC.frz (by simp) [.sl t.length (t.map byA)] (by simp) (post := ReadR t) (wread_ap t) (by simp) ?_ (a := .mk)
  rintro x (⟨fs, hr, rfl⟩ | ⟨hr, rfl⟩)
  · obtain ⟨hwf, hl1, hl2, hl3⟩ := readL_wf hr
    have hP := sprog_ap fs hwf hl1 (by omega)
    have hQ := qprog_ap (G := Gv) fs hwf hl1 (by omega)
    simp -implicitDefEqProofs [evP, fillA, splice, wrOb]
    refine LP.go (QwI fs) fs.length ⟨⟨0, Nat.zero_le _, rfl, by simp⟩, by simp, by simp⟩ ?_
    unfold c_wprints_L0
    rintro g F H ⟨⟨j, hj, rfl, h5⟩, h3, h0⟩
    by_cases hjl : j < fs.length
    · obtain ⟨f, hfj⟩ : ∃ f, fs[j]? = some f := ⟨_, List.getElem?_eq_getElem hjl⟩
      have hm := List.mem_of_getElem? hfj
      have hjl' : (j : Int) < fs.length := by omega
      have hat := fdsA_body hfj
      have hvz : j * 11 + 11 ≤ (fdsA fs).length := by rw [fdsA_len]; omega
      have hvz7 : j * 11 + 3 + 7 ≤ (fdsA fs).length := by omega
      have hw1 : IntKind.i64.wrap ((j : Int) + 1) = ((j + 1 : Nat) : Int) := by rw [wrap64 _ (by omega)]; omega
      have hE := sexpr0_ap f.body (hwf f hm).2.2.2.1 (by have := hl3 f hm; omega)
      have hR := qexpr_ap (G := Gv) f.body (hwf f hm).2.2.2.1 (by have := hl3 f hm; omega)
      obtain ⟨tb, htb⟩ : ∃ tb, exT f.body = tb := ⟨_, rfl⟩
      rw [htb] at hE hR
      obtain ⟨nm, ps, ty, ⟨bop, bnm, btl, bty, bnum, bus, bpos⟩, pos⟩ := f
      simp only [exA, Ex.cells] at hE hR hat
      simp -implicitDefEqProofs [-Int.natCast_add, h3, h0, h5, hjl, hjl', hat, hvz, hvz7, evP, fillA, splice, wrOb]
      refine DC.go [.agg [iv bop, sv bnm, sv btl, iv bty, cv (W bnum.1) (W bnum.2), .sl bus.length (exsA bus), iv bpos]] (sv tb) (by simp) (by simpa using hE) (by simp) (by simp) ?_ (a := .mk)
      simp -implicitDefEqProofs [-Int.natCast_add, h3, h0, h5, hjl, hjl', hat, hvz, hvz7, evP, fillA, splice, wrOb]
      refine DC.go [.agg [iv bop, sv bnm, sv btl, iv bty, cv (W bnum.1) (W bnum.2), .sl bus.length (exsA bus), iv bpos]] (sv tb) (by simp) (by simpa using hR) (by simp) (by simp) ?_ (a := .mk)
      simp -implicitDefEqProofs [-Int.natCast_add, h3, h0, h5, hw1]
      refine ⟨fs.length - (j + 1), by omega, ⟨⟨j + 1, by omega, rfl, by simp [hw1]⟩, by simp [h3], h0⟩⟩
    · have hje : j = fs.length := by omega
      subst hje
      simp -implicitDefEqProofs [h3, h0, h5]
      refine DC.go [.agg [.sl fs.length (fdsA fs)]] (sv (fdsT fs)) (by simp) (by simpa using hP) (by simp) (by simp) ?_ (a := .mk)
      simp -implicitDefEqProofs [h3, h0, h5]
      refine DC.go [.agg [.sl fs.length (fdsA fs)]] (sv (fdsT fs)) (by simp) (by simpa using hQ) (by simp) (by simp) ?_ (a := .mk)
      simp -implicitDefEqProofs [h3, h0, h5]
  · simp -implicitDefEqProofs [evP, fillA, splice, wrOb]
/-- what stays through the printing of a program's expressions -/
structure QwK (fs : List Pg.Fd) (g : Nat) (F : Fr) (H : List Ob) : Prop where
  k : ∃ j : Nat, j ≤ fs.length ∧ g = fs.length - j ∧ F 9 = some (iv j)
  f3 : F 3 = some (.ptr 0 0)
  f5 : F 5 = some (.ptr 1 0)
  f7 : F 7 = some (sv (fdsT fs))
  f8 : F 8 = some (sv (fdsT fs))
  h0 : H[0]? = some (.var [.sl fs.length (fdsA fs)])
  h1 : H[1]? = some (.var [.sl fs.length (fdsA fs)])
set_option maxHeartbeats 8000000 in
theorem wkeep_ap (t : List UInt8) : AP Tryd.prog Gv 5 [.sl t.length (t.map byA)] (fun x => x = bv true) := by
  refine AP.go hmix F_wkeep (by simp) ?_
  simp -implicitDefEqProofs [c_wkeep, evP, fillA, splice, wrOb]
  refine SC.frz (by simp) [] (by simp) (by simpa using wawake_ap) (by simp) ?_ (a := .mk)
  rintro x rfl
  simp -implicitDefEqProofs [evP, fillA, splice, wrOb]
  refine SC.frz (by simp) [.sl t.length (t.map byA)] (by simp) (post := ReadR t) (wread_ap t) (by simp) ?_ (a := .mk)
  rintro x (⟨fs, hr, rfl⟩ | ⟨hr, rfl⟩)
  · obtain ⟨hwf, hl1, hl2, hl3⟩ := readL_wf hr
    have hP := sprog_ap fs hwf hl1 (by omega)
    have hS := psame_ap (G := Gv) true fs fs (readL_small hr)
    simp -implicitDefEqProofs [evP, fillA, splice, wrOb]
    refine SC.frz (by simp) [.sl t.length (t.map byA)] (by simp) (post := ReadR t) (wread_ap t) (by simp) ?_ (a := .mk)
    rintro x (⟨fs', hr', rfl⟩ | ⟨hr', rfl⟩)
    · obtain rfl : fs' = fs := by have := readL_one hr' hr; simpa using this
      have hSt : sameG true fs' fs' = true := sameG_refl true fs'
      rw [hSt] at hS
      simp -implicitDefEqProofs [evP, fillA, splice, wrOb]
      refine SC.frz (by simp) [.agg [.sl fs'.length (fdsA fs')]] (by simp) (by simpa using hP) (by simp) ?_ (a := .mk)
      rintro x rfl
      simp -implicitDefEqProofs [evP, fillA, splice, wrOb]
      refine SC.frz (by simp) [.agg [.sl fs'.length (fdsA fs')]] (by simp) (by simpa using hP) (by simp) ?_ (a := .mk)
      rintro x rfl
      simp -implicitDefEqProofs [evP, fillA, splice, wrOb]
      refine LP.go (QwK fs') fs'.length ⟨⟨0, Nat.zero_le _, rfl, by simp⟩, by simp, by simp, by simp, by simp, by simp, by simp⟩ ?_
      unfold c_wkeep_L0
      rintro g F H ⟨⟨j, hj, rfl, h9⟩, h3, h5, h7, h8, h0, h1⟩
      by_cases hjl : j < fs'.length
      · obtain ⟨f, hfj⟩ : ∃ f, fs'[j]? = some f := ⟨_, List.getElem?_eq_getElem hjl⟩
        have hm := List.mem_of_getElem? hfj
        have hjl' : (j : Int) < fs'.length := by omega
        have hat := fdsA_body hfj
        have hvz : j * 11 + 11 ≤ (fdsA fs').length := by rw [fdsA_len]; omega
        have hvz7 : j * 11 + 3 + 7 ≤ (fdsA fs').length := by omega
        have hw1 : IntKind.i64.wrap ((j : Int) + 1) = ((j + 1 : Nat) : Int) := by rw [wrap64 _ (by omega)]; omega
        have hE := sexpr0_ap f.body (hwf f hm).2.2.2.1 (by have := hl3 f hm; omega)
        obtain ⟨tb, htb⟩ : ∃ tb, exT f.body = tb := ⟨_, rfl⟩
        rw [htb] at hE
        obtain ⟨nm, ps, ty, ⟨bop, bnm, btl, bty, bnum, bus, bpos⟩, pos⟩ := f
        simp only [exA, Ex.cells] at hE hat
        simp -implicitDefEqProofs [-Int.natCast_add, h3, h0, h9, hjl, hjl', hat, hvz, hvz7, evP, fillA, splice, wrOb]
        refine SC.frz (by simp) [.agg [iv bop, sv bnm, sv btl, iv bty, cv (W bnum.1) (W bnum.2), .sl bus.length (exsA bus), iv bpos]] (by simp) (by simpa using hE) (by simp) ?_ (a := .mk)
        rintro x rfl
        simp -implicitDefEqProofs [-Int.natCast_add, h3, h0, h9, hw1]
        refine ⟨fs'.length - (j + 1), by omega, ⟨⟨j + 1, by omega, rfl, by simp [hw1]⟩, by simp [h3], by simp [h5], by simp [h7], by simp [h8], h0, h1⟩⟩
      · have hje : j = fs'.length := by omega
        subst hje
        simp -implicitDefEqProofs [h3, h0, h1, h5, h7, h8, h9]
        refine SCall.frz (xs := [.agg [.sl fs'.length (fdsA fs')], .agg [.sl fs'.length (fdsA fs')], bv true]) (by simp) (by simp) (by simpa using hS) (by simp) ?_
        rintro x rfl
        simp -implicitDefEqProofs [h3, h0, h1, h5, h7, h8, h9]
    · exact absurd (readL_one hr' hr) (by simp)
  · simp -implicitDefEqProofs [evP, fillA, splice, wrOb]
end Go.Proofs.YtgddkgbidhhheaaDoor
/- An argument of type []byte, opened; the bound of an Upto row; a witness. -/
namespace Go.Proofs.YtgddkgbidhhheaaDoor
open Go.ChangeShapes Go.WideShapes Go.ChangeAt Go.RowKit
theorem bys_bulk_one {H : Type} (d : DataW H) : 1 ≤ Rows.uptoBulk d := by
  cases d with
  | lit l => cases l <;> simp [Rows.uptoBulk]
  | nil => simp [Rows.uptoBulk]
  | ptr d => simp [Rows.uptoBulk]
  | slice elems spare => simp [Rows.uptoBulk]
  | agg parts => simp [Rows.uptoBulk]
  | iface t d => simp [Rows.uptoBulk]
  | map entries => simp [Rows.uptoBulk]
  | held h => simp [Rows.uptoBulk]
theorem bys_bulk_len {H : Type} (l : List (DataW H)) : l.length ≤ Rows.uptoBulkAll l := by
  induction l with
  | nil => simp [Rows.uptoBulkAll]
  | cons x r ih => have := bys_bulk_one x; simp only [Rows.uptoBulkAll, List.length_cons]; omega
theorem bys_byte {x : Int} (h : (Lit.int .u8 x).wf = true) : 0 ≤ x ∧ x < 256 := by
  have h1 : IntKind.u8.min = 0 := rfl
  have h2 : IntKind.u8.max = 255 := rfl
  simp only [Lit.wf, Bool.and_eq_true, decide_eq_true_eq] at h
  omega
theorem bys_cells : Tryd.prog.cellsOf 5 = 1 := by kernel_rfl
set_option maxRecDepth 100000 in
theorem open_txt {H : Type} {enc : TypeId × Value → H} {W : World} {base : Nat} {v : Value} {d : DataW H} {p : List MemPlace} (hval : Value.okWide Tryd.prog W .any base 22 v) (h : DataW.Trod enc Tryd.prog W 0 (fun _ => true) true 22 v d p) :
    ∃ (a : Option Addr) (c : Nat) (t : List UInt8), v = .slice a t.length c ∧ t.length ≤ c ∧ Txt W a t ∧ (a = none → c = 0 ∧ t = []) ∧ t.length ≤ Rows.uptoBulk d := by
  obtain ⟨a, len, cap, rfl⟩ := okWide_slice Tryd.underlying22 hval
  obtain ⟨fuel, hf⟩ := h
  rcases open_ints Tryd.underlying22 Tryd.underlying5 bys_cells hf with ⟨hcs, hx⟩ | ⟨a', len', cap', zs, hcs, _, hl, hm, hz, hx, hcell, hwz⟩
  · simp [Value.cells] at hcs
    obtain ⟨rfl, rfl, rfl⟩ := hcs
    exact ⟨_, _, [], rfl, Nat.le_refl _, Txt.nil _ _, fun _ => ⟨rfl, rfl⟩, Nat.zero_le _⟩
  · simp [Value.cells] at hcs
    obtain ⟨rfl, rfl, rfl⟩ := hcs
    simp only [Prod.mk.injEq] at hx
    obtain ⟨rfl, rfl⟩ := hx
    simp only [if_true] at hz
    have hlen : ((zs.take len).map fun n => UInt8.ofNat n.toNat).length = len := by simp; omega
    refine ⟨some a', cap, (zs.take len).map fun n => UInt8.ofNat n.toNat, by rw [hlen], by rw [hlen]; exact hl, fun hne => ?_, fun h => (by cases h), ?_⟩
    · have hpos : 0 < len := by
        rcases Nat.eq_zero_or_pos len with h0 | h0
        · exact absurd (List.eq_nil_of_length_eq_zero (by rw [hlen]; exact h0)) hne
        · exact h0
      obtain ⟨ab, ao, spot⟩ := a'
      have hspot : spot = none := by simpa [Addr.add] using World.cell?_spot (hcell 0 (by omega))
      subst hspot
      refine ⟨ab, ao, rfl, fun j x hx => ?_⟩
      have hj : j < len := by have := (List.getElem?_eq_some_iff.1 hx).1; rw [hlen] at this; exact this
      have hcj := hcell j (by omega)
      rw [Addr.add_lit] at hcj
      rw [hcj]
      rw [List.getElem?_map, List.getElem?_take, if_pos hj, List.getElem?_eq_getElem (by omega)] at hx
      cases hx
      have hb := bys_byte (hwz _ (List.getElem_mem (show j < zs.length by omega)))
      rw [List.getD_eq_getElem?_getD, List.getElem?_eq_getElem (by omega)]
      simp only [Option.getD_some]
      congr 2
      rw [UInt8.toNat_ofNat']
      omega
    · have h1 := bys_bulk_len (lits (H := H) .u8 (zs.take len))
      have h2 : (lits (H := H) .u8 (zs.take len)).length = len := by simp [lits]; omega
      rw [hlen]
      simp only [Rows.uptoBulk]
      omega
end Go.Proofs.YtgddkgbidhhheaaDoor
/- What the laid memory holds; an argument of bytes. -/
set_option linter.unusedVariables false
set_option linter.unusedSimpArgs false
namespace Go.Proofs.YtgddkgbidhhheaaDoor
open Go.RowKit Flo Mk Pg Ab
theorem d_pow : (Rows.laid_internal_strconv_uint64pow10 : DataW Unit) = Lib.tabData .u64 Lib.pow10Tab := by kernel_rfl
theorem pow_type : Tryd.prog.globalNamed "internal/strconv.uint64pow10" = some 1 := by kernel_rfl
theorem gv_of_laid3 {W : World} (hL : laidMet Tryd.prog [("math/bits.deBruijn32tab", Rows.laid_math_bits_deBruijn32tab), ("math/bits.deBruijn64tab", Rows.laid_math_bits_deBruijn64tab), ("internal/strconv.uint64pow10", Rows.laid_internal_strconv_uint64pow10)] W) : Gv W := by
  have hp := hL.tail.tail
  rw [d_pow] at hp
  exact ⟨⟨Lib.tabIs_of_head (t := 141) (e := 107) (n := 20) pow_type (by kernel_rfl) (by kernel_rfl) (by kernel_rfl) (by kernel_rfl) (by kernel_rfl) hp⟩⟩
theorem gv_prints {W : World} (hL0 : laidMetH Tryd.prog Rows.showPrintsRow.laid W) : Gv W := by
  rw [MakeChecks.laidMetH_plain _ _ _ (by kernel_rfl)] at hL0
  exact gv_of_laid3 hL0
theorem gv_keep {W : World} (hL0 : laidMetH Tryd.prog Rows.showKeepRow.laid W) : Gv W := by
  rw [MakeChecks.laidMetH_plain _ _ _ (by kernel_rfl)] at hL0
  exact gv_of_laid3 hL0
theorem rd_txt {W : World} {a : Option Addr} {c : Nat} {t : List UInt8} (hT : Txt W a t) (hc : t.length ≤ c) : RD W (fun _ => False) (.sl t.length (t.map byA)) (.slice a t.length c) := by
  by_cases ht : t = []
  · subst ht
    exact .sl0 _ _
  · obtain ⟨b, o, rfl, hcell⟩ := hT ht
    have h0 : ∃ x, t[0]? = some x := by
      cases t with
      | nil => exact absurd rfl ht
      | cons x r => exact ⟨x, rfl⟩
    obtain ⟨x, hx⟩ := h0
    refine .sl b o _ c _ (t.map byteC) (by simp) (fun h => h) (World.block_lt_of_cell? W _ (hcell 0 x hx)) (fun j u hu => ?_) (fun u hu => ?_) (fun j y u hy hu => ?_) hc
    · rw [List.getElem?_map] at hu
      cases hj : t[j]? with
      | none => rw [hj] at hu; cases hu
      | some z => rw [hj] at hu; cases hu; exact hcell j z hj
    · obtain ⟨z, _, rfl⟩ := List.mem_map.1 hu
      rfl
    · rw [List.getElem?_map] at hu hy
      cases hj : t[j]? with
      | none => rw [hj] at hu; cases hu
      | some z => rw [hj] at hu hy; cases hu; cases hy; exact .v _ rfl
/-- a contract of a statement over one text, as a run -/
theorem calls_txt {P : Program} {G : World → Prop} {f : FuncId} {t : List UInt8} (h : AP P G f [.sl t.length (t.map byA)] (fun x => x = bv true)) (W : World) (hG : G W) {a : Option Addr} {c : Nat} (hT : Txt W a t) (hc : t.length ≤ c) :
    Calls P f #[.slice a t.length c] W fun e W' => e = .returned (.bool true) ∧ Below W.heap.size W W' := by
  refine (h W W (fun _ => False) _ hG (Below.refl _ _) (fun b hb => hb.elim) ⟨rfl, fun j x hx => ?_⟩).mono ?_
  · match j, hx with
    | 0, rfl => exact ⟨_, rfl, rd_txt hT hc⟩
  · rintro e w' ⟨u, x, rfl, hb, hr, rfl⟩
    cases hr
    exact ⟨rfl, hb⟩
end Go.Proofs.YtgddkgbidhhheaaDoor
