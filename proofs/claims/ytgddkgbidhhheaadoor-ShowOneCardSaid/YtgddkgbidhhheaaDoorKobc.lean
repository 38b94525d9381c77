/- Texts joined: Wse Wsf Open. -/
import Derived.Test.YtgddkgbidhhheaaDoorKoay
import Derived.Test.YtgddkgbidhhheaaDoorKobb
import Derived.Test.YtgddkgbidhhheaaDoorRows
import Derived.WalkKit
import Derived.ProofKit
import Derived.OpenShut
import Derived.Lib.SmallJoins
import Derived.Below
import Derived.ChangeSame
/- Layer 5: ShowOne. -/
set_option linter.unusedVariables false
set_option linter.unusedSimpArgs false
set_option maxRecDepth 100000
namespace Go.Proofs.YtgddkgbidhhheaaDoor
open Go.RowKit Flo Mk Pg Ab
set_option maxHeartbeats 8000000 in
theorem wone_ap (a b : List UInt8) : AP Tryd.prog Gv 4 [.sl a.length (a.map byA), .sl b.length (b.map byA)] (fun x => x = bv true) := by
  refine AP.go hmix F_wone (by simp) ?_
  simp -implicitDefEqProofs [c_wone, evP, fillA, splice, wrOb]
  refine SC.frz (by simp) [] (by simp) (by simpa using wawake_ap) (by simp) ?_ (a := .mk)
  rintro x rfl
  simp -implicitDefEqProofs [evP, fillA, splice, wrOb]
  refine SC.frz (by simp) [.sl a.length (a.map byA)] (by simp) (post := ReadR a) (wread_ap a) (by simp) ?_ (a := .mk)
  rintro x (⟨p, hp, rfl⟩ | ⟨hp, rfl⟩)
  · simp -implicitDefEqProofs [evP, fillA, splice, wrOb]
    refine SC.frz (by simp) [.sl b.length (b.map byA)] (by simp) (post := ReadR b) (wread_ap b) (by simp) ?_ (a := .mk)
    rintro x (⟨q, hq, rfl⟩ | ⟨hq, rfl⟩)
    · obtain ⟨pw, p1, p2, p3⟩ := readL_wf hp
      obtain ⟨qw, q1, q2, q3⟩ := readL_wf hq
      have hP := sprog_ap p pw p1 (by omega)
      have hQ := sprog_ap q qw q1 (by omega)
      have hS := psame_ap (G := Gv) false p q (readL_small hp)
      have hlaw := show_one hp hq
      have hal := hp.1
      obtain ⟨t', ht'⟩ : ∃ t', t' = [32, 35, 120, 10, 9] ++ a ++ [10, 32] := ⟨_, rfl⟩
      have hR := wread_ap (G := Gv) t'
      have e1 : t'.length = 5 + a.length + (⟨#[10, 32]⟩ : ByteArray).size := by
        have : (⟨#[10, 32]⟩ : ByteArray).size = 2 := rfl
        rw [ht', this]; simp; omega
      have e2 : t'.map byA = AV.v (.int .u8 32) :: AV.v (.int .u8 35) :: AV.v (.int .u8 120) :: AV.v (.int .u8 10) :: AV.v (.int .u8 9) :: (a.map byA ++ strA ⟨#[10, 32]⟩) := by
        rw [ht']; simp [strA, byA]
      rw [e1, e2] at hR
      have hz2 : (⟨#[10, 32]⟩ : ByteArray).size = 2 := rfl
      have hb1 : 5 + a.length ≤ 1073741824 := by omega
      have hb2 : 5 + a.length + (⟨#[10, 32]⟩ : ByteArray).size ≤ 1073741824 := by rw [hz2]; omega
      have hb3 : 5 + a.length ≤ 140737488355328 := by omega
      simp -implicitDefEqProofs [evP, fillA, splice, wrOb, hb1, hb2, hb3]
      refine SC.frz (by simp) [.row 4] (by simp) (post := ReadR t') (by simpa using hR) (by simp) ?_ (a := .mk)
      rintro x (⟨r, hr, rfl⟩ | ⟨hr, rfl⟩)
      · have hrt : fdsT p = fdsT r := again_same hp (ht' ▸ hr)
        obtain ⟨rw', r1, r2, r3⟩ := readL_wf hr
        have hRr := sprog_ap r rw' r1 (by omega)
        rw [← hrt] at hRr
        simp -implicitDefEqProofs [evP, fillA, splice, wrOb]
        refine DC.go [.agg [.sl p.length (fdsA p)]] (sv (fdsT p)) (by simp) (by simpa using hP) (by simp) (by simp) ?_ (a := .mk)
        simp -implicitDefEqProofs [evP, fillA, splice, wrOb]
        refine DC.go [.agg [.sl r.length (fdsA r)]] (sv (fdsT p)) (by simp) (by simpa using hRr) (by simp) (by simp) ?_ (a := .mk)
        simp -implicitDefEqProofs [evP, fillA, splice, wrOb]
        refine DC.go [.agg [.sl p.length (fdsA p)]] (sv (fdsT p)) (by simp) (by simpa using hP) (by simp) (by simp) ?_ (a := .mk)
        simp -implicitDefEqProofs [evP, fillA, splice, wrOb]
        refine DC.go [.agg [.sl q.length (fdsA q)]] (sv (fdsT q)) (by simp) (by simpa using hQ) (by simp) (by simp) ?_ (a := .mk)
        simp -implicitDefEqProofs [evP, fillA, splice, wrOb]
        refine DC.go [.agg [.sl p.length (fdsA p)], .agg [.sl q.length (fdsA q)], bv false] (bv (sameG false p q)) (by simp) (by simpa using hS) (by simp) (by simp) ?_ (a := .mk)
        simp -implicitDefEqProofs [evP, fillA, splice, wrOb]
        rw [Bool.eq_iff_iff, ← hlaw]
        simp [sv]
      · simp -implicitDefEqProofs [evP, fillA, splice, wrOb]
        refine DC.go [.agg [.sl p.length (fdsA p)]] (sv (fdsT p)) (by simp) (by simpa using hP) (by simp) (by simp) ?_ (a := .mk)
        simp -implicitDefEqProofs [evP, fillA, splice, wrOb]
        refine DC.go [.agg [.sl q.length (fdsA q)]] (sv (fdsT q)) (by simp) (by simpa using hQ) (by simp) (by simp) ?_ (a := .mk)
        simp -implicitDefEqProofs [evP, fillA, splice, wrOb]
        refine DC.go [.agg [.sl p.length (fdsA p)], .agg [.sl q.length (fdsA q)], bv false] (bv (sameG false p q)) (by simp) (by simpa using hS) (by simp) (by simp) ?_ (a := .mk)
        simp -implicitDefEqProofs [evP, fillA, splice, wrOb]
        rw [Bool.eq_iff_iff, ← hlaw]
        simp [sv]
    · simp -implicitDefEqProofs [evP, fillA, splice, wrOb]
  · simp -implicitDefEqProofs [evP, fillA, splice, wrOb]
    refine SC.frz (by simp) [.sl b.length (b.map byA)] (by simp) (post := ReadR b) (wread_ap b) (by simp) ?_ (a := .mk)
    rintro x (⟨q, hq, rfl⟩ | ⟨hq, rfl⟩)
    · simp -implicitDefEqProofs [evP, fillA, splice, wrOb]
    · simp -implicitDefEqProofs [evP, fillA, splice, wrOb]
end Go.Proofs.YtgddkgbidhhheaaDoor
/- Two arguments of bytes; what ShowOne's laid memory holds. -/
set_option linter.unusedVariables false
set_option linter.unusedSimpArgs false
namespace Go.Proofs.YtgddkgbidhhheaaDoor
open Go.RowKit Flo Mk Pg Ab
theorem gv_one {W : World} (hL0 : laidMetH Tryd.prog Rows.showOneRow.laid W) : Gv W := by
  rw [MakeChecks.laidMetH_plain _ _ _ (by kernel_rfl)] at hL0
  exact gv_of_laid3 hL0
theorem calls_txt2 {P : Program} {G : World → Prop} {f : FuncId} {t s : List UInt8} (h : AP P G f [.sl t.length (t.map byA), .sl s.length (s.map byA)] (fun x => x = bv true)) (W : World) (hG : G W) {a b : Option Addr} {c d : Nat} (hT : Txt W a t) (hc : t.length ≤ c) (hT2 : Txt W b s) (hd : s.length ≤ d) :
    Calls P f #[.slice a t.length c, .slice b s.length d] W fun e W' => e = .returned (.bool true) ∧ Below W.heap.size W W' := by
  refine (h W W (fun _ => False) _ hG (Below.refl _ _) (fun b hb => hb.elim) ⟨rfl, fun j x hx => ?_⟩).mono ?_
  · match j, hx with
    | 0, rfl => exact ⟨_, rfl, rd_txt hT hc⟩
    | 1, rfl => exact ⟨_, rfl, rd_txt hT2 hd⟩
  · rintro e w' ⟨u, x, rfl, hb, hr, rfl⟩
    cases hr
    exact ⟨rfl, hb⟩
end Go.Proofs.YtgddkgbidhhheaaDoor
/- How the arguments of the statements of layer 1 read, and what the rows' last steps want. -/
namespace Go.Proofs.YtgddkgbidhhheaaDoor
open Go.ChangeShapes Go.WideShapes Go.ChangeAt Go.RowKit Go.Joins
theorem ownK : ownKnob Tryd.prog.godebug = none := by kernel_rfl
section
variable {H : Type} {enc : TypeId × Value → H} {w : World} {base : Nat} {spare : Nat → Bool} {held : Bool}
end
section
variable {H : Type} {enc : TypeId × Value → H} {P : Program}
theorem post_of_below {f : Func} {s : ChangeSpec} {apart fresh handsOn again : Bool} {W W' : World} {args : Array Value} {v : Value} {ds gs : List (DataW H)} {before pa pv : List MemPlace}
    (hW : DataW.Whole enc P f.params.toList s.vars apart W args.toList ds gs before)
    (hres : ∀ (b : Nat) (sp : Nat → Bool) (hd : Bool), DataW.TrodAll enc P W' b sp hd f.resultTypes.toList (v.resultList f.resultTypes.size) (s.fn H (ds ++ gs)).results [])
    (hargs : ∀ sp : Nat → Bool, (∀ p ∈ before, sp p.block = true) → DataW.TrodAll enc P W' 0 sp true f.params.toList args.toList (s.fn H (ds ++ gs)).args pa)
    (hvars : ∀ sp : Nat → Bool, (∀ p ∈ before, sp p.block = true) → DataW.TrodVars enc P W' sp s.vars (s.fn H (ds ++ gs)).vars pv)
    (hps : before = pa ++ pv) (hb : Below W.heap.size W W')
    (hok : ∀ (j : Nat) (t : TypeId) (r : Value), f.resultTypes[j]? = some t → (v.resultList f.resultTypes.size)[j]? = some r → Value.okWide P W' .any 0 t r) :
    s.post enc P f apart fresh handsOn again W args v W' := by
  have hlt : ∀ p ∈ before, p.block < W.heap.size := fun p hp => hW.lt p hp
  have hold : ∀ p ∈ before, (fun b => decide (b < W.heap.size)) p.block = true := fun p hp => by simpa using hlt p hp
  refine ⟨ds, gs, before, [], pa, pv, hW, hres _ _ _, hargs _ hold, hvars _ hold, World.keptBut_mono (fun p hp => ⟨hp, ?_⟩) (hb.frame (· ∈ before)), fun _ => ?_⟩
  · rw [hps, List.mem_append] at hp
    exact Or.inr hp
  · obtain ⟨_, _, _, _, _, hz, hn⟩ := hW
    refine ⟨hok, _, _, ([] ++ pa) ++ pv, ⟨[] ++ pa, pv, trodAll_append (hargs _ (fun _ _ => rfl)) (hres _ _ _), hvars _ (fun _ _ => rfl), rfl, ?_, ?_⟩, ?_⟩
    · intro b off hp
      have hin : MemPlace.cell b off ∈ before := by rw [hps]; simpa using hp
      rw [hb.frozen (hlt _ hin)]
      exact hz b off hin
    · intro ha
      have := hn ha
      rw [hps] at this
      simpa using this
    · intro p hp _
      rw [hps]
      simpa using hp
end
end Go.Proofs.YtgddkgbidhhheaaDoor
