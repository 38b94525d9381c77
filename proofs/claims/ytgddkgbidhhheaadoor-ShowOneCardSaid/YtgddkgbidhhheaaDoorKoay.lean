/- Texts joined: Wsc Wsb Bys Wsd CdO. -/
import Derived.Test.YtgddkgbidhhheaaDoorKoav
import Derived.Test.YtgddkgbidhhheaaDoorKoax
import Derived.Test.YtgddkgbidhhheaaDoorRows
import Derived.Test.YtgddkgbidhhheaaDoorKoat
import Derived.ProofKit
import Derived.OpenShut
import Derived.Carry
import Derived.Stop.Joined
import Derived.LaidMore
import Derived.SizedLaws
import Derived.ShapedOpen
import Derived.Lib.LaidU8
import Derived.Stop.LaidErr
import Derived.MakeChecks
import Derived.Test.YtgddkgbidhhheaaDoorKoac
import Derived.Test.YtgddkgbidhhheaaDoorProg
import Derived.KernelRfl
/- A program is the same as itself. -/
set_option linter.unusedVariables false
set_option linter.unusedSimpArgs false
namespace Go.Proofs.YtgddkgbidhhheaaDoor
open Go.RowKit Flo Mk Pg Ab
theorem ord_refl (d : Ieee.Datum) (h : ∀ s t, d ≠ .nan s t) : d.order d = some .eq := by
  cases d with
  | number s m i => simp [Ieee.Datum.order]
  | infinity s => simp [Ieee.Datum.order]
  | nan s t => exact absurd rfl (h s t)
theorem read_rung (f : Ieee.Format) (neg : Bool) (r : Nat) (h : r ≤ f.infRung) (hs : f.infRung < f.signWeight) : ∀ s t, f.read (f.word neg r) ≠ .nan s t := by
  intro s t
  have hr : (f.word neg r) % f.signWeight = r := by
    unfold Ieee.Format.word
    cases neg
    · simp; exact Nat.mod_eq_of_lt (by omega)
    · simp; exact Nat.mod_eq_of_lt (by omega)
  unfold Ieee.Format.read
  simp only [hr]
  repeat' split
  all_goals first | (simp; done) | omega
theorem nearest_refl (f : Ieee.Format) (neg : Bool) (m : Nat) (p : Int) (hs : f.infRung < f.signWeight) : f.order (f.nearest neg m p) (f.nearest neg m p) = some .eq := by
  refine ord_refl _ ?_
  unfold Ieee.Format.nearest
  split
  · exact read_rung f neg 0 (Nat.zero_le _) hs
  · exact read_rung f neg _ (Nat.min_le_right _ _) hs
theorem ordW_self (n : Int) : FloatKind.f64.format.order (W n) (W n) = some .eq :=
  nearest_refl _ _ _ _ (by decide)
theorem cEqW_self (a b : Int) : cEq (W a) (W b) (W a) (W b) = true := by
  unfold cEq; rw [ordW_self, ordW_self]; rfl
mutual
theorem sameX_refl (pl : Bool) : ∀ e : Ex, sameX pl e e = true
  | .mk o n t ty num us p => by
    rw [sameX, cEqW_self, sameXs_refl pl us]
    simp
theorem sameXs_refl (pl : Bool) : ∀ us : List Ex, sameXs pl us us = true
  | [] => by simp [sameXs]
  | e :: r => by rw [sameXs, sameX_refl pl e, sameXs_refl pl r]; rfl
end
end Go.Proofs.YtgddkgbidhhheaaDoor
/- Layer 5: ShowPrints, ShowKeep. -/
set_option linter.unusedVariables false
set_option linter.unusedSimpArgs false
set_option maxRecDepth 100000
namespace Go.Proofs.YtgddkgbidhhheaaDoor
open Go.RowKit Flo Mk Pg Ab
/-- an expression of a program that was read, printed -/
structure QwI (fs : List Pg.Fd) (g : Nat) (F : Fr) (H : List Ob) : Prop where
  k : ∃ j : Nat, j ≤ fs.length ∧ g = fs.length - j ∧ F 5 = some (iv j)
  f3 : F 3 = some (.ptr 0 0)
  h0 : H[0]? = some (.var [.sl fs.length (fdsA fs)])
/-- what stays through the printing of a program's expressions -/
structure QwK (fs : List Pg.Fd) (g : Nat) (F : Fr) (H : List Ob) : Prop where
  k : ∃ j : Nat, j ≤ fs.length ∧ g = fs.length - j ∧ F 9 = some (iv j)
  f3 : F 3 = some (.ptr 0 0)
  f5 : F 5 = some (.ptr 1 0)
  f7 : F 7 = some (sv (fdsT fs))
  f8 : F 8 = some (sv (fdsT fs))
  h0 : H[0]? = some (.var [.sl fs.length (fdsA fs)])
  h1 : H[1]? = some (.var [.sl fs.length (fdsA fs)])
end Go.Proofs.YtgddkgbidhhheaaDoor
/- An argument of type []byte, opened; the bound of an Upto row; a witness. -/
namespace Go.Proofs.YtgddkgbidhhheaaDoor
open Go.ChangeShapes Go.WideShapes Go.ChangeAt Go.RowKit
theorem bys_bulk_one {H : Type} (d : DataW H) : 1 ≤ Rows.uptoBulk d := by
  cases d with
  | lit l => cases l <;> simp [Rows.uptoBulk]
  | nil => simp [Rows.uptoBulk]
  | ptr d => simp [Rows.uptoBulk]
  | slice elems spare => simp [Rows.uptoBulk]
  | agg parts => simp [Rows.uptoBulk]
  | iface t d => simp [Rows.uptoBulk]
  | map entries => simp [Rows.uptoBulk]
  | held h => simp [Rows.uptoBulk]
theorem bys_bulk_len {H : Type} (l : List (DataW H)) : l.length ≤ Rows.uptoBulkAll l := by
  induction l with
  | nil => simp [Rows.uptoBulkAll]
  | cons x r ih => have := bys_bulk_one x; simp only [Rows.uptoBulkAll, List.length_cons]; omega
theorem bys_byte {x : Int} (h : (Lit.int .u8 x).wf = true) : 0 ≤ x ∧ x < 256 := by
  have h1 : IntKind.u8.min = 0 := rfl
  have h2 : IntKind.u8.max = 255 := rfl
  simp only [Lit.wf, Bool.and_eq_true, decide_eq_true_eq] at h
  omega
theorem bys_cells : Tryd.prog.cellsOf 5 = 1 := by kernel_rfl
set_option maxRecDepth 100000 in
theorem open_txt {H : Type} {enc : TypeId × Value → H} {W : World} {base : Nat} {v : Value} {d : DataW H} {p : List MemPlace} (hval : Value.okWide Tryd.prog W .any base 22 v) (h : DataW.Trod enc Tryd.prog W 0 (fun _ => true) true 22 v d p) :
    ∃ (a : Option Addr) (c : Nat) (t : List UInt8), v = .slice a t.length c ∧ t.length ≤ c ∧ Txt W a t ∧ (a = none → c = 0 ∧ t = []) ∧ t.length ≤ Rows.uptoBulk d := by
  obtain ⟨a, len, cap, rfl⟩ := okWide_slice Tryd.underlying22 hval
  obtain ⟨fuel, hf⟩ := h
  rcases open_ints Tryd.underlying22 Tryd.underlying5 bys_cells hf with ⟨hcs, hx⟩ | ⟨a', len', cap', zs, hcs, _, hl, hm, hz, hx, hcell, hwz⟩
  · simp [Value.cells] at hcs
    obtain ⟨rfl, rfl, rfl⟩ := hcs
    exact ⟨_, _, [], rfl, Nat.le_refl _, Txt.nil _ _, fun _ => ⟨rfl, rfl⟩, Nat.zero_le _⟩
  · simp [Value.cells] at hcs
    obtain ⟨rfl, rfl, rfl⟩ := hcs
    simp only [Prod.mk.injEq] at hx
    obtain ⟨rfl, rfl⟩ := hx
    simp only [if_true] at hz
    have hlen : ((zs.take len).map fun n => UInt8.ofNat n.toNat).length = len := by simp; omega
    refine ⟨some a', cap, (zs.take len).map fun n => UInt8.ofNat n.toNat, by rw [hlen], by rw [hlen]; exact hl, fun hne => ?_, fun h => (by cases h), ?_⟩
    · have hpos : 0 < len := by
        rcases Nat.eq_zero_or_pos len with h0 | h0
        · exact absurd (List.eq_nil_of_length_eq_zero (by rw [hlen]; exact h0)) hne
        · exact h0
      obtain ⟨ab, ao, spot⟩ := a'
      have hspot : spot = none := by simpa [Addr.add] using World.cell?_spot (hcell 0 (by omega))
      subst hspot
      refine ⟨ab, ao, rfl, fun j x hx => ?_⟩
      have hj : j < len := by have := (List.getElem?_eq_some_iff.1 hx).1; rw [hlen] at this; exact this
      have hcj := hcell j (by omega)
      rw [Addr.add_lit] at hcj
      rw [hcj]
      rw [List.getElem?_map, List.getElem?_take, if_pos hj, List.getElem?_eq_getElem (by omega)] at hx
      cases hx
      have hb := bys_byte (hwz _ (List.getElem_mem (show j < zs.length by omega)))
      rw [List.getD_eq_getElem?_getD, List.getElem?_eq_getElem (by omega)]
      simp only [Option.getD_some]
      congr 2
      rw [UInt8.toNat_ofNat']
      omega
    · have h1 := bys_bulk_len (lits (H := H) .u8 (zs.take len))
      have h2 : (lits (H := H) .u8 (zs.take len)).length = len := by simp [lits]; omega
      rw [hlen]
      simp only [Rows.uptoBulk]
      omega
end Go.Proofs.YtgddkgbidhhheaaDoor
/- What the laid memory holds; an argument of bytes. -/
set_option linter.unusedVariables false
set_option linter.unusedSimpArgs false
namespace Go.Proofs.YtgddkgbidhhheaaDoor
open Go.RowKit Flo Mk Pg Ab
theorem d_pow : (Rows.laid_internal_strconv_uint64pow10 : DataW Unit) = Lib.tabData .u64 Lib.pow10Tab := by kernel_rfl
theorem pow_type : Tryd.prog.globalNamed "internal/strconv.uint64pow10" = some 1 := by kernel_rfl
theorem gv_of_laid3 {W : World} (hL : laidMet Tryd.prog [("math/bits.deBruijn32tab", Rows.laid_math_bits_deBruijn32tab), ("math/bits.deBruijn64tab", Rows.laid_math_bits_deBruijn64tab), ("internal/strconv.uint64pow10", Rows.laid_internal_strconv_uint64pow10)] W) : Gv W := by
  have hp := hL.tail.tail
  rw [d_pow] at hp
  exact ⟨⟨Lib.tabIs_of_head (t := 141) (e := 107) (n := 20) pow_type (by kernel_rfl) (by kernel_rfl) (by kernel_rfl) (by kernel_rfl) (by kernel_rfl) hp⟩⟩
theorem rd_txt {W : World} {a : Option Addr} {c : Nat} {t : List UInt8} (hT : Txt W a t) (hc : t.length ≤ c) : RD W (fun _ => False) (.sl t.length (t.map byA)) (.slice a t.length c) := by
  by_cases ht : t = []
  · subst ht
    exact .sl0 _ _
  · obtain ⟨b, o, rfl, hcell⟩ := hT ht
    have h0 : ∃ x, t[0]? = some x := by
      cases t with
      | nil => exact absurd rfl ht
      | cons x r => exact ⟨x, rfl⟩
    obtain ⟨x, hx⟩ := h0
    refine .sl b o _ c _ (t.map byteC) (by simp) (fun h => h) (World.block_lt_of_cell? W _ (hcell 0 x hx)) (fun j u hu => ?_) (fun u hu => ?_) (fun j y u hy hu => ?_) hc
    · rw [List.getElem?_map] at hu
      cases hj : t[j]? with
      | none => rw [hj] at hu; cases hu
      | some z => rw [hj] at hu; cases hu; exact hcell j z hj
    · obtain ⟨z, _, rfl⟩ := List.mem_map.1 hu
      rfl
    · rw [List.getElem?_map] at hu hy
      cases hj : t[j]? with
      | none => rw [hj] at hu; cases hu
      | some z => rw [hj] at hu hy; cases hu; cases hy; exact .v _ rfl
end Go.Proofs.YtgddkgbidhhheaaDoor
/- Functions' compiled code. (printed by gen/abscode.py) -/
set_option linter.unusedVariables false
namespace Go.Proofs.YtgddkgbidhhheaaDoor
open Ab
def c_wone : ACode := (.seq (.region [⟨none, (some 4), (.mov 4 (.k (.v (.bool false))))⟩]) (.seq (.seq (.region [⟨none, (some 11), (.call (some 11) 6 [])⟩, ⟨none, (some 12), (.un 12 .not (.t 11))⟩]) (.cond (.t 12) (.seq (.region [⟨none, (some 4), (.mov 4 (.k (.v (.bool false))))⟩]) .ret) .skip)) (.seq (.region [⟨none, (some 14), (.mov 14 (.t 0))⟩, ⟨none, (some 15), (.call (some 15) 7 [(.t 14)])⟩, ⟨none, (some 13), (.mov 13 (.t 15))⟩, ⟨none, (some 16), (.ext 16 0 (.t 13))⟩, ⟨none, (some 17), (.ext 17 1 (.t 13))⟩, ⟨none, (some 5), (.var 5 [(.v (.slice none 0 0))])⟩, ⟨none, none, (.st 1 (.t 5) (.t 16))⟩, ⟨none, (some 6), (.mov 6 (.t 17))⟩]) (.seq (.region [⟨none, (some 19), (.mov 19 (.t 1))⟩, ⟨none, (some 20), (.call (some 20) 7 [(.t 19)])⟩, ⟨none, (some 18), (.mov 18 (.t 20))⟩, ⟨none, (some 21), (.ext 21 0 (.t 18))⟩, ⟨none, (some 22), (.ext 22 1 (.t 18))⟩, ⟨none, (some 7), (.var 7 [(.v (.slice none 0 0))])⟩, ⟨none, none, (.st 1 (.t 7) (.t 21))⟩, ⟨none, (some 8), (.mov 8 (.t 22))⟩]) (.seq (.seq (.region [⟨none, (some 23), (.mov 23 (.t 6))⟩, ⟨none, (some 24), (.un 24 .not (.t 23))⟩, ⟨none, (some 25), (.mov 25 (.t 24))⟩, ⟨(some (25, false)), (some 26), (.mov 26 (.t 8))⟩, ⟨(some (25, false)), (some 27), (.un 27 .not (.t 26))⟩, ⟨none, (some 28), (.pick 28 (.t 25) (.k (.v (.bool true))) (.t 27))⟩]) (.cond (.t 28) (.seq (.region [⟨none, (some 4), (.mov 4 (.k (.v (.bool true))))⟩]) .ret) .skip)) (.seq (.region [⟨none, (some 30), (.bsl 30 5 1 5 [(.v (.int .u8 0)), (.v (.int .u8 0)), (.v (.int .u8 0)), (.v (.int .u8 0)), (.v (.int .u8 0))] [(0, (.k (.v (.int .u8 32)))), (1, (.k (.v (.int .u8 35)))), (2, (.k (.v (.int .u8 120)))), (3, (.k (.v (.int .u8 10)))), (4, (.k (.v (.int .u8 9))))])⟩, ⟨none, (some 31), (.cvm 31 5 false (.t 30))⟩, ⟨none, (some 32), (.mov 32 (.t 0))⟩, ⟨none, (some 33), (.app 33 5 1 1 (.t 31) (.t 32))⟩, ⟨none, (some 34), (.aps 34 5 (.t 33) (.k (.v (.string ⟨#[10, 32]⟩))))⟩, ⟨none, (some 35), (.call (some 35) 7 [(.t 34)])⟩, ⟨none, (some 29), (.mov 29 (.t 35))⟩, ⟨none, (some 36), (.ext 36 0 (.t 29))⟩, ⟨none, (some 37), (.ext 37 1 (.t 29))⟩, ⟨none, (some 9), (.var 9 [(.v (.slice none 0 0))])⟩, ⟨none, none, (.st 1 (.t 9) (.t 36))⟩, ⟨none, (some 10), (.mov 10 (.t 37))⟩]) (.seq (.seq (.draw [⟨none, (some 38), (.mov 38 (.t 10))⟩, ⟨none, (some 39), (.mov 39 (.t 38))⟩, ⟨(some (39, true)), (some 40), (.ld 40 true 1 (.t 5))⟩, ⟨(some (39, true)), (some 41), (.call (some 41) 10 [(.t 40)])⟩, ⟨(some (39, true)), (some 42), (.ld 42 true 1 (.t 9))⟩, ⟨(some (39, true)), (some 43), (.call (some 43) 10 [(.t 42)])⟩, ⟨(some (39, true)), (some 44), (.bin 44 .neq (.t 41) (.t 43))⟩, ⟨none, (some 45), (.pick 45 (.t 39) (.t 44) (.k (.v (.bool false))))⟩]) (.cond (.t 45) (.seq (.region [⟨none, (some 4), (.mov 4 (.k (.v (.bool false))))⟩]) .ret) .skip)) (.seq (.draw [⟨none, (some 46), (.ld 46 true 1 (.t 5))⟩, ⟨none, (some 47), (.call (some 47) 10 [(.t 46)])⟩, ⟨none, (some 48), (.ld 48 true 1 (.t 7))⟩, ⟨none, (some 49), (.call (some 49) 10 [(.t 48)])⟩, ⟨none, (some 50), (.bin 50 .eql (.t 47) (.t 49))⟩, ⟨none, (some 51), (.ld 51 true 1 (.t 5))⟩, ⟨none, (some 52), (.ld 52 true 1 (.t 7))⟩, ⟨none, (some 53), (.call (some 53) 12 [(.t 51), (.t 52), (.k (.v (.bool false)))])⟩, ⟨none, (some 54), (.eqb 54 false (.t 50) (.t 53))⟩, ⟨none, (some 4), (.mov 4 (.t 54))⟩]) .ret))))))))
set_option maxRecDepth 100000 in
theorem F_wone : Fun Tryd.prog 4 55 c_wone [(.tmp 4)] := Fun.of (m := false) (by as_aux_lemma => kernel_rfl)
end Go.Proofs.YtgddkgbidhhheaaDoor
