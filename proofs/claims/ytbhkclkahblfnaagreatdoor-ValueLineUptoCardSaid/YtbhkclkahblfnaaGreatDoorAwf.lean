/- The statements ValueTexts and ValueBack as contracts. (printed by gen/vlaws.py) -/
import Derived.Test.YtbhkclkahblfnaaGreatDoorAwe
set_option linter.unusedVariables false
set_option linter.unusedSimpArgs false
namespace Go.Proofs.YtbhkclkahblfnaaGreatDoor
open Go.RowKit Flo Ab
theorem Vx.wf {v : Vx} (h : v.l.length ≤ 16777216) : v.val.Wf := ⟨zw_lt _ _, zw_lt _ _, fun p hp => by
  obtain ⟨n, hn, rfl⟩ := List.mem_map.1 hp
  exact ⟨zw_lt _ _, zw_lt _ _⟩, by show (v.l.map _).length ≤ _; rw [List.length_map]; exact h⟩
theorem tx_len (v : Va) (h : v.l.length ≤ 262144) : v.tx.length ≤ 14000000 := by
  have h1 := txC_len v.a v.b
  have h2 := join_len v.l
  unfold Va.tx
  split
  · split
    · omega
    · split
      · cases v.bo <;> decide
      · simp only [List.length_append, List.length_cons, List.length_nil]; omega
  · simp
set_option maxHeartbeats 16000000 in
set_option maxRecDepth 100000 in
theorem ltexts_ap (a b : Vx) (na : a.l.length ≤ 16777216) (nb : b.l.length ≤ 16777216) : AP Tryz.prog Gv 3 [a.av, b.av] (fun x => x = bv true) := by
  have wa := Vx.wf na
  have wb := Vx.wf nb
  have ha := valv_ap (G := Gv) a na
  have hb := valv_ap (G := Gv) b nb
  have ht := vtext_ap a.val wa
  have hr := rtext_ap (G := Gv) a.val wa
  have hv := rvalid_ap (G := Gv) a.val wa
  have hc := check_ap (G := Gv) a.val wa
  have hs := vsame_ap (G := Gv) a.val b.val wa wb
  have hq := rsame_ap (G := Gv) a.val b.val wa wb
  refine AP.go hmix F_ltexts (by simp) ?_
  simp -implicitDefEqProofs [c_ltexts, Vx.av, Vx.cells]
  refine SC.frz (by simp) [] (by simp) (post := fun z => z = bv true) (by simpa using awake_ap) (by simp) ?_ (a := .mk)
  rintro z rfl
  simp -implicitDefEqProofs
  refine SC.frz (by simp) [a.av] (by simp [Vx.av, Vx.cells, Va.av]) (post := fun z => z = a.val.av) (by simpa [Vx.av, Vx.cells, Va.av] using ha) (by simp [Vx.av, Vx.cells, Va.av]) ?_ (a := .mk)
  rintro z rfl
  simp -implicitDefEqProofs [Vx.av, Vx.cells, Va.av, wrOb, splice]
  refine SC.frz (by simp) [a.val.av] (by simp [Vx.av, Vx.cells, Va.av]) (post := fun z => z = .tup [sv a.val.tx, iv (if a.val.ok then 0 else 3)]) (by simpa [Vx.av, Vx.cells, Va.av] using ht) (by simp [Vx.av, Vx.cells, Va.av]) ?_ (a := .mk)
  rintro z rfl
  simp -implicitDefEqProofs [Vx.av, Vx.cells, Va.av, wrOb, splice]
  refine SC.frz (by simp) [a.av] (by simp [Vx.av, Vx.cells, Va.av]) (post := fun z => z = a.val.av) (by simpa [Vx.av, Vx.cells, Va.av] using ha) (by simp [Vx.av, Vx.cells, Va.av]) ?_ (a := .mk)
  rintro z rfl
  simp -implicitDefEqProofs [Vx.av, Vx.cells, Va.av, wrOb, splice]
  refine SC.frz (by simp) [a.val.av] (by simp [Vx.av, Vx.cells, Va.av]) (post := fun z => z = .tup [sv a.val.tx, iv (if a.val.ok then 0 else 3)]) (by simpa [Vx.av, Vx.cells, Va.av] using hr) (by simp [Vx.av, Vx.cells, Va.av]) ?_ (a := .mk)
  rintro z rfl
  simp -implicitDefEqProofs [Vx.av, Vx.cells, Va.av, wrOb, splice]
  refine SC.frz (by simp) [a.av] (by simp [Vx.av, Vx.cells, Va.av]) (post := fun z => z = a.val.av) (by simpa [Vx.av, Vx.cells, Va.av] using ha) (by simp [Vx.av, Vx.cells, Va.av]) ?_ (a := .mk)
  rintro z rfl
  simp -implicitDefEqProofs [Vx.av, Vx.cells, Va.av, wrOb, splice]
  refine SC.frz (by simp) [a.val.av] (by simp [Vx.av, Vx.cells, Va.av]) (post := fun z => z = bv a.val.ok) (by simpa [Vx.av, Vx.cells, Va.av] using hv) (by simp [Vx.av, Vx.cells, Va.av]) ?_ (a := .mk)
  rintro z rfl
  simp -implicitDefEqProofs [Vx.av, Vx.cells, Va.av, wrOb, splice]
  refine SC.frz (by simp) [a.av] (by simp [Vx.av, Vx.cells, Va.av]) (post := fun z => z = a.val.av) (by simpa [Vx.av, Vx.cells, Va.av] using ha) (by simp [Vx.av, Vx.cells, Va.av]) ?_ (a := .mk)
  rintro z rfl
  simp -implicitDefEqProofs [Vx.av, Vx.cells, Va.av, wrOb, splice]
  refine SC.frz (by simp) [a.val.av] (by simp [Vx.av, Vx.cells, Va.av]) (post := fun z => z = iv (if a.val.ok then 0 else 3)) (by simpa [Vx.av, Vx.cells, Va.av] using hc) (by simp [Vx.av, Vx.cells, Va.av]) ?_ (a := .mk)
  rintro z rfl
  simp -implicitDefEqProofs [Vx.av, Vx.cells, Va.av, wrOb, splice]
  cases hok : a.val.ok
  · simp -implicitDefEqProofs [Vx.av, Vx.cells, Va.av]
    refine DC.go [a.av] (a.val.av) (by simp [Vx.av, Vx.cells, Va.av]) (by simpa [Vx.av, Vx.cells, Va.av] using ha) (by simp [Vx.av, Vx.cells, Va.av]) (by simp [Vx.av, Vx.cells, Va.av]) ?_ (a := .mk)
    simp -implicitDefEqProofs [Vx.av, Vx.cells, Va.av]
    refine DC.go [b.av] (b.val.av) (by simp [Vx.av, Vx.cells, Va.av]) (by simpa [Vx.av, Vx.cells, Va.av] using hb) (by simp [Vx.av, Vx.cells, Va.av]) (by simp [Vx.av, Vx.cells, Va.av]) ?_ (a := .mk)
    simp -implicitDefEqProofs [Vx.av, Vx.cells, Va.av]
    refine DC.go [a.val.av, b.val.av] (bv (a.val.same b.val)) (by simp [Vx.av, Vx.cells, Va.av]) (by simpa [Vx.av, Vx.cells, Va.av] using hs) (by simp [Vx.av, Vx.cells, Va.av]) (by simp [Vx.av, Vx.cells, Va.av]) ?_ (a := .mk)
    simp -implicitDefEqProofs [Vx.av, Vx.cells, Va.av]
    refine DC.go [a.av] (a.val.av) (by simp [Vx.av, Vx.cells, Va.av]) (by simpa [Vx.av, Vx.cells, Va.av] using ha) (by simp [Vx.av, Vx.cells, Va.av]) (by simp [Vx.av, Vx.cells, Va.av]) ?_ (a := .mk)
    simp -implicitDefEqProofs [Vx.av, Vx.cells, Va.av]
    refine DC.go [b.av] (b.val.av) (by simp [Vx.av, Vx.cells, Va.av]) (by simpa [Vx.av, Vx.cells, Va.av] using hb) (by simp [Vx.av, Vx.cells, Va.av]) (by simp [Vx.av, Vx.cells, Va.av]) ?_ (a := .mk)
    simp -implicitDefEqProofs [Vx.av, Vx.cells, Va.av]
    refine DC.go [a.val.av, b.val.av] (bv (a.val.same b.val)) (by simp [Vx.av, Vx.cells, Va.av]) (by simpa [Vx.av, Vx.cells, Va.av] using hq) (by simp [Vx.av, Vx.cells, Va.av]) (by simp [Vx.av, Vx.cells, Va.av]) ?_ (a := .mk)
    simp -implicitDefEqProofs [Vx.av, Vx.cells, Va.av]
  · simp -implicitDefEqProofs [Vx.av, Vx.cells, Va.av]
    refine DC.go [a.av] (a.val.av) (by simp [Vx.av, Vx.cells, Va.av]) (by simpa [Vx.av, Vx.cells, Va.av] using ha) (by simp [Vx.av, Vx.cells, Va.av]) (by simp [Vx.av, Vx.cells, Va.av]) ?_ (a := .mk)
    simp -implicitDefEqProofs [Vx.av, Vx.cells, Va.av]
    refine DC.go [b.av] (b.val.av) (by simp [Vx.av, Vx.cells, Va.av]) (by simpa [Vx.av, Vx.cells, Va.av] using hb) (by simp [Vx.av, Vx.cells, Va.av]) (by simp [Vx.av, Vx.cells, Va.av]) ?_ (a := .mk)
    simp -implicitDefEqProofs [Vx.av, Vx.cells, Va.av]
    refine DC.go [a.val.av, b.val.av] (bv (a.val.same b.val)) (by simp [Vx.av, Vx.cells, Va.av]) (by simpa [Vx.av, Vx.cells, Va.av] using hs) (by simp [Vx.av, Vx.cells, Va.av]) (by simp [Vx.av, Vx.cells, Va.av]) ?_ (a := .mk)
    simp -implicitDefEqProofs [Vx.av, Vx.cells, Va.av]
    refine DC.go [a.av] (a.val.av) (by simp [Vx.av, Vx.cells, Va.av]) (by simpa [Vx.av, Vx.cells, Va.av] using ha) (by simp [Vx.av, Vx.cells, Va.av]) (by simp [Vx.av, Vx.cells, Va.av]) ?_ (a := .mk)
    simp -implicitDefEqProofs [Vx.av, Vx.cells, Va.av]
    refine DC.go [b.av] (b.val.av) (by simp [Vx.av, Vx.cells, Va.av]) (by simpa [Vx.av, Vx.cells, Va.av] using hb) (by simp [Vx.av, Vx.cells, Va.av]) (by simp [Vx.av, Vx.cells, Va.av]) ?_ (a := .mk)
    simp -implicitDefEqProofs [Vx.av, Vx.cells, Va.av]
    refine DC.go [a.val.av, b.val.av] (bv (a.val.same b.val)) (by simp [Vx.av, Vx.cells, Va.av]) (by simpa [Vx.av, Vx.cells, Va.av] using hq) (by simp [Vx.av, Vx.cells, Va.av]) (by simp [Vx.av, Vx.cells, Va.av]) ?_ (a := .mk)
    simp -implicitDefEqProofs [Vx.av, Vx.cells, Va.av]
/-- what value.Parse reads, and the text of that -/
def pv (l : List UInt8) : Va := match refV l with | some v => v | none => vzero
set_option maxHeartbeats 32000000 in
set_option maxRecDepth 100000 in
theorem lback_ap (a b : Vx) (na : a.l.length ≤ 262144) (nb : b.l.length ≤ 262144) (s : List UInt8) (ns : s.length ≤ 14000000) : AP Tryz.prog Gv 5 [a.av, b.av, sv s] (fun x => x = bv true) := by
  have wa := Vx.wf (v := a) (by omega)
  have wb := Vx.wf (v := b) (by omega)
  have ha := valv_ap (G := Gv) a (by omega)
  have hb := valv_ap (G := Gv) b (by omega)
  have hta := vtext_ap a.val wa
  have htb := vtext_ap b.val wb
  have hc := check_ap (G := Gv) a.val wa
  have hab := vsame_ap (G := Gv) a.val b.val wa wb
  have hba := vsame_ap (G := Gv) b.val a.val wb wa
  rw [same_comm b.val a.val] at hba
  have hps := vparse_ap s ns
  rw [read_same] at hps
  have tlen : ∀ v : Va, v.l.length ≤ 262144 → v.tx.length ≤ 14000000 := fun v hv => tx_len v hv
  refine AP.go hmix F_lback (by simp) ?_
  simp -implicitDefEqProofs [c_lback, Vx.av, Vx.cells]
  refine SC.frz (by simp) [] (by simp) (post := fun z => z = bv true) (by simpa using awake_ap) (by simp) ?_ (a := .mk)
  rintro z rfl
  simp -implicitDefEqProofs
  refine SC.frz (by simp) [sv s] (by simp [Vx.av, Vx.cells, Va.av]) (post := fun z => z = pvA (refV s)) (by simpa [Vx.av, Vx.cells, Va.av] using hps) (by simp [Vx.av, Vx.cells, Va.av]) ?_ (a := .mk)
  rintro z rfl
  simp -implicitDefEqProofs [Vx.av, Vx.cells, Va.av, wrOb, splice]
  cases hr : refV s with
  | none =>
    simp -implicitDefEqProofs [pvA, vzero, Va.av, cvs, wrOb, splice]
    refine SC.frz (by simp) [a.av] (by simp [Vx.av, Vx.cells, Va.av]) (post := fun z => z = a.val.av) (by simpa [Vx.av, Vx.cells, Va.av] using ha) (by simp [Vx.av, Vx.cells, Va.av]) ?_ (a := .mk)
    rintro z rfl
    simp -implicitDefEqProofs [Vx.av, Vx.cells, Va.av, wrOb, splice]
    refine SC.frz (by simp) [a.val.av] (by simp [Vx.av, Vx.cells, Va.av]) (post := fun z => z = .tup [sv a.val.tx, iv (if a.val.ok then 0 else 3)]) (by simpa [Vx.av, Vx.cells, Va.av] using hta) (by simp [Vx.av, Vx.cells, Va.av]) ?_ (a := .mk)
    rintro z rfl
    simp -implicitDefEqProofs [Vx.av, Vx.cells, Va.av, wrOb, splice]
    refine SC.frz (by simp) [b.av] (by simp [Vx.av, Vx.cells, Va.av]) (post := fun z => z = b.val.av) (by simpa [Vx.av, Vx.cells, Va.av] using hb) (by simp [Vx.av, Vx.cells, Va.av]) ?_ (a := .mk)
    rintro z rfl
    simp -implicitDefEqProofs [Vx.av, Vx.cells, Va.av, wrOb, splice]
    refine SC.frz (by simp) [b.val.av] (by simp [Vx.av, Vx.cells, Va.av]) (post := fun z => z = .tup [sv b.val.tx, iv (if b.val.ok then 0 else 3)]) (by simpa [Vx.av, Vx.cells, Va.av] using htb) (by simp [Vx.av, Vx.cells, Va.av]) ?_ (a := .mk)
    rintro z rfl
    simp -implicitDefEqProofs [Vx.av, Vx.cells, Va.av, wrOb, splice]
    cases hoa : a.val.ok
    · have hno : a.val.same b.val = false := same_no (.inl hoa)
      cases hob : b.val.ok
      · simp -implicitDefEqProofs [Vx.av, Vx.cells, Va.av]
        refine DC.go [a.av] (a.val.av) (by simp [Vx.av, Vx.cells, Va.av]) (by simpa [Vx.av, Vx.cells, Va.av] using ha) (by simp [Vx.av, Vx.cells, Va.av]) (by simp [Vx.av, Vx.cells, Va.av]) ?_ (a := .mk)
        simp -implicitDefEqProofs [Vx.av, Vx.cells, Va.av]
        refine DC.go [a.val.av] (iv (if a.val.ok then 0 else 3)) (by simp [Vx.av, Vx.cells, Va.av, hoa]) (by simpa [Vx.av, Vx.cells, Va.av] using hc) (by simp [Vx.av, Vx.cells, Va.av]) (by simp [Vx.av, Vx.cells, Va.av]) ?_ (a := .mk)
        simp -implicitDefEqProofs [Vx.av, Vx.cells, Va.av, hoa]
        refine DC.go [a.av] (a.val.av) (by simp [Vx.av, Vx.cells, Va.av]) (by simpa [Vx.av, Vx.cells, Va.av] using ha) (by simp [Vx.av, Vx.cells, Va.av]) (by simp [Vx.av, Vx.cells, Va.av]) ?_ (a := .mk)
        simp -implicitDefEqProofs [Vx.av, Vx.cells, Va.av]
        refine DC.go [b.av] (b.val.av) (by simp [Vx.av, Vx.cells, Va.av]) (by simpa [Vx.av, Vx.cells, Va.av] using hb) (by simp [Vx.av, Vx.cells, Va.av]) (by simp [Vx.av, Vx.cells, Va.av]) ?_ (a := .mk)
        simp -implicitDefEqProofs [Vx.av, Vx.cells, Va.av]
        refine DC.go [a.val.av, b.val.av] (bv (a.val.same b.val)) (by simp [Vx.av, Vx.cells, Va.av, hno]) (by simpa [Vx.av, Vx.cells, Va.av] using hab) (by simp [Vx.av, Vx.cells, Va.av]) (by simp [Vx.av, Vx.cells, Va.av]) ?_ (a := .mk)
        simp -implicitDefEqProofs [Vx.av, Vx.cells, Va.av, hno]
      · simp -implicitDefEqProofs [Vx.av, Vx.cells, Va.av]
        refine DC.go [a.av] (a.val.av) (by simp [Vx.av, Vx.cells, Va.av]) (by simpa [Vx.av, Vx.cells, Va.av] using ha) (by simp [Vx.av, Vx.cells, Va.av]) (by simp [Vx.av, Vx.cells, Va.av]) ?_ (a := .mk)
        simp -implicitDefEqProofs [Vx.av, Vx.cells, Va.av]
        refine DC.go [a.val.av] (iv (if a.val.ok then 0 else 3)) (by simp [Vx.av, Vx.cells, Va.av, hoa]) (by simpa [Vx.av, Vx.cells, Va.av] using hc) (by simp [Vx.av, Vx.cells, Va.av]) (by simp [Vx.av, Vx.cells, Va.av]) ?_ (a := .mk)
        simp -implicitDefEqProofs [Vx.av, Vx.cells, Va.av, hoa]
        refine DC.go [a.av] (a.val.av) (by simp [Vx.av, Vx.cells, Va.av]) (by simpa [Vx.av, Vx.cells, Va.av] using ha) (by simp [Vx.av, Vx.cells, Va.av]) (by simp [Vx.av, Vx.cells, Va.av]) ?_ (a := .mk)
        simp -implicitDefEqProofs [Vx.av, Vx.cells, Va.av]
        refine DC.go [b.av] (b.val.av) (by simp [Vx.av, Vx.cells, Va.av]) (by simpa [Vx.av, Vx.cells, Va.av] using hb) (by simp [Vx.av, Vx.cells, Va.av]) (by simp [Vx.av, Vx.cells, Va.av]) ?_ (a := .mk)
        simp -implicitDefEqProofs [Vx.av, Vx.cells, Va.av]
        refine DC.go [a.val.av, b.val.av] (bv (a.val.same b.val)) (by simp [Vx.av, Vx.cells, Va.av, hno]) (by simpa [Vx.av, Vx.cells, Va.av] using hab) (by simp [Vx.av, Vx.cells, Va.av]) (by simp [Vx.av, Vx.cells, Va.av]) ?_ (a := .mk)
        simp -implicitDefEqProofs [Vx.av, Vx.cells, Va.av, hno]
    · cases hob : b.val.ok
      · have hno : a.val.same b.val = false := same_no (.inr hob)
        simp -implicitDefEqProofs [Vx.av, Vx.cells, Va.av]
        refine DC.go [a.av] (a.val.av) (by simp [Vx.av, Vx.cells, Va.av]) (by simpa [Vx.av, Vx.cells, Va.av] using ha) (by simp [Vx.av, Vx.cells, Va.av]) (by simp [Vx.av, Vx.cells, Va.av]) ?_ (a := .mk)
        simp -implicitDefEqProofs [Vx.av, Vx.cells, Va.av]
        refine DC.go [a.val.av] (iv (if a.val.ok then 0 else 3)) (by simp [Vx.av, Vx.cells, Va.av, hoa]) (by simpa [Vx.av, Vx.cells, Va.av] using hc) (by simp [Vx.av, Vx.cells, Va.av]) (by simp [Vx.av, Vx.cells, Va.av]) ?_ (a := .mk)
        simp -implicitDefEqProofs [Vx.av, Vx.cells, Va.av, hoa]
        refine DC.go [a.av] (a.val.av) (by simp [Vx.av, Vx.cells, Va.av]) (by simpa [Vx.av, Vx.cells, Va.av] using ha) (by simp [Vx.av, Vx.cells, Va.av]) (by simp [Vx.av, Vx.cells, Va.av]) ?_ (a := .mk)
        simp -implicitDefEqProofs [Vx.av, Vx.cells, Va.av]
        refine DC.go [b.av] (b.val.av) (by simp [Vx.av, Vx.cells, Va.av]) (by simpa [Vx.av, Vx.cells, Va.av] using hb) (by simp [Vx.av, Vx.cells, Va.av]) (by simp [Vx.av, Vx.cells, Va.av]) ?_ (a := .mk)
        simp -implicitDefEqProofs [Vx.av, Vx.cells, Va.av]
        refine DC.go [a.val.av, b.val.av] (bv (a.val.same b.val)) (by simp [Vx.av, Vx.cells, Va.av, hno]) (by simpa [Vx.av, Vx.cells, Va.av] using hab) (by simp [Vx.av, Vx.cells, Va.av]) (by simp [Vx.av, Vx.cells, Va.av]) ?_ (a := .mk)
        simp -implicitDefEqProofs [Vx.av, Vx.cells, Va.av, hno]
      · have hpt := vparse_ap a.val.tx (tlen _ (by show (a.l.map _).length ≤ _; rw [List.length_map]; exact na))
        rw [read_same, refV_tx hoa] at hpt
        simp only [pvA] at hpt
        have haa := vsame_ap (G := Gv) a.val a.val wa wa
        rw [same_refl hoa] at haa
        have heq : (a.val.tx == b.val.tx) = a.val.same b.val := by
          rw [Bool.eq_iff_iff, beq_iff_eq, same_iff hoa hob]
          exact ⟨fun h => tx_inj hoa hob h, fun h => by rw [h]⟩
        simp -implicitDefEqProofs [Vx.av, Vx.cells, Va.av]
        refine SC.frz (by simp) [sv a.val.tx] (by simp [Vx.av, Vx.cells, Va.av]) (post := fun z => z = .tup [a.val.av, iv 0]) (by simpa [Vx.av, Vx.cells, Va.av] using hpt) (by simp [Vx.av, Vx.cells, Va.av]) ?_ (a := .mk)
        rintro z rfl
        simp -implicitDefEqProofs [Vx.av, Vx.cells, Va.av, wrOb, splice]
        refine DC.go [a.av] (a.val.av) (by simp [Vx.av, Vx.cells, Va.av]) (by simpa [Vx.av, Vx.cells, Va.av] using ha) (by simp [Vx.av, Vx.cells, Va.av]) (by simp [Vx.av, Vx.cells, Va.av]) ?_ (a := .mk)
        simp -implicitDefEqProofs [Vx.av, Vx.cells, Va.av]
        refine DC.go [a.val.av, a.val.av] (bv true) (by simp [Vx.av, Vx.cells, Va.av]) (by simpa [Vx.av, Vx.cells, Va.av] using haa) (by simp [Vx.av, Vx.cells, Va.av]) (by simp [Vx.av, Vx.cells, Va.av]) ?_ (a := .mk)
        simp -implicitDefEqProofs [Vx.av, Vx.cells, Va.av]
        refine DC.go [a.av] (a.val.av) (by simp [Vx.av, Vx.cells, Va.av]) (by simpa [Vx.av, Vx.cells, Va.av] using ha) (by simp [Vx.av, Vx.cells, Va.av]) (by simp [Vx.av, Vx.cells, Va.av]) ?_ (a := .mk)
        simp -implicitDefEqProofs [Vx.av, Vx.cells, Va.av]
        refine DC.go [b.av] (b.val.av) (by simp [Vx.av, Vx.cells, Va.av]) (by simpa [Vx.av, Vx.cells, Va.av] using hb) (by simp [Vx.av, Vx.cells, Va.av]) (by simp [Vx.av, Vx.cells, Va.av]) ?_ (a := .mk)
        simp -implicitDefEqProofs [Vx.av, Vx.cells, Va.av]
        refine DC.go [a.val.av, b.val.av] (bv (a.val.same b.val)) (by simp [Vx.av, Vx.cells, Va.av, heq]) (by simpa [Vx.av, Vx.cells, Va.av] using hab) (by simp [Vx.av, Vx.cells, Va.av]) (by simp [Vx.av, Vx.cells, Va.av]) ?_ (a := .mk)
        simp -implicitDefEqProofs [Vx.av, Vx.cells, Va.av, heq]
        refine DC.go [b.av] (b.val.av) (by simp [Vx.av, Vx.cells, Va.av]) (by simpa [Vx.av, Vx.cells, Va.av] using hb) (by simp [Vx.av, Vx.cells, Va.av]) (by simp [Vx.av, Vx.cells, Va.av]) ?_ (a := .mk)
        simp -implicitDefEqProofs [Vx.av, Vx.cells, Va.av]
        refine DC.go [a.av] (a.val.av) (by simp [Vx.av, Vx.cells, Va.av]) (by simpa [Vx.av, Vx.cells, Va.av] using ha) (by simp [Vx.av, Vx.cells, Va.av]) (by simp [Vx.av, Vx.cells, Va.av]) ?_ (a := .mk)
        simp -implicitDefEqProofs [Vx.av, Vx.cells, Va.av]
        refine DC.go [b.val.av, a.val.av] (bv (a.val.same b.val)) (by simp [Vx.av, Vx.cells, Va.av]) (by simpa [Vx.av, Vx.cells, Va.av] using hba) (by simp [Vx.av, Vx.cells, Va.av]) (by simp [Vx.av, Vx.cells, Va.av]) ?_ (a := .mk)
        simp -implicitDefEqProofs [Vx.av, Vx.cells, Va.av]
        refine DC.go [a.av] (a.val.av) (by simp [Vx.av, Vx.cells, Va.av]) (by simpa [Vx.av, Vx.cells, Va.av] using ha) (by simp [Vx.av, Vx.cells, Va.av]) (by simp [Vx.av, Vx.cells, Va.av]) ?_ (a := .mk)
        simp -implicitDefEqProofs [Vx.av, Vx.cells, Va.av]
        refine DC.go [b.av] (b.val.av) (by simp [Vx.av, Vx.cells, Va.av]) (by simpa [Vx.av, Vx.cells, Va.av] using hb) (by simp [Vx.av, Vx.cells, Va.av]) (by simp [Vx.av, Vx.cells, Va.av]) ?_ (a := .mk)
        simp -implicitDefEqProofs [Vx.av, Vx.cells, Va.av]
        refine DC.go [a.val.av, b.val.av] (bv (a.val.same b.val)) (by simp [Vx.av, Vx.cells, Va.av]) (by simpa [Vx.av, Vx.cells, Va.av] using hab) (by simp [Vx.av, Vx.cells, Va.av]) (by simp [Vx.av, Vx.cells, Va.av]) ?_ (a := .mk)
        simp -implicitDefEqProofs [Vx.av, Vx.cells, Va.av]
  | some v =>
    obtain ⟨g1, g2⟩ := refV_good ns hr
    have hbk := refV_back hr
    have htv := vtext_ap v g2
    rw [g1, hbk] at htv
    have hcv := check_ap (G := Gv) v g2
    rw [g1] at hcv
    simp -implicitDefEqProofs [pvA, Va.av, wrOb, splice]
    refine SC.frz (by simp) [v.av] (by simp [Vx.av, Vx.cells, Va.av]) (post := fun z => z = .tup [sv s, iv 0]) (by simpa [Vx.av, Vx.cells, Va.av] using htv) (by simp [Vx.av, Vx.cells, Va.av]) ?_ (a := .mk)
    rintro z rfl
    simp -implicitDefEqProofs [Vx.av, Vx.cells, Va.av, wrOb, splice]
    refine SC.frz (by simp) [v.av] (by simp [Vx.av, Vx.cells, Va.av]) (post := fun z => z = iv 0) (by simpa [Vx.av, Vx.cells, Va.av] using hcv) (by simp [Vx.av, Vx.cells, Va.av]) ?_ (a := .mk)
    rintro z rfl
    simp -implicitDefEqProofs [Vx.av, Vx.cells, Va.av, wrOb, splice]
    refine SC.frz (by simp) [a.av] (by simp [Vx.av, Vx.cells, Va.av]) (post := fun z => z = a.val.av) (by simpa [Vx.av, Vx.cells, Va.av] using ha) (by simp [Vx.av, Vx.cells, Va.av]) ?_ (a := .mk)
    rintro z rfl
    simp -implicitDefEqProofs [Vx.av, Vx.cells, Va.av, wrOb, splice]
    refine SC.frz (by simp) [a.val.av] (by simp [Vx.av, Vx.cells, Va.av]) (post := fun z => z = .tup [sv a.val.tx, iv (if a.val.ok then 0 else 3)]) (by simpa [Vx.av, Vx.cells, Va.av] using hta) (by simp [Vx.av, Vx.cells, Va.av]) ?_ (a := .mk)
    rintro z rfl
    simp -implicitDefEqProofs [Vx.av, Vx.cells, Va.av, wrOb, splice]
    refine SC.frz (by simp) [b.av] (by simp [Vx.av, Vx.cells, Va.av]) (post := fun z => z = b.val.av) (by simpa [Vx.av, Vx.cells, Va.av] using hb) (by simp [Vx.av, Vx.cells, Va.av]) ?_ (a := .mk)
    rintro z rfl
    simp -implicitDefEqProofs [Vx.av, Vx.cells, Va.av, wrOb, splice]
    refine SC.frz (by simp) [b.val.av] (by simp [Vx.av, Vx.cells, Va.av]) (post := fun z => z = .tup [sv b.val.tx, iv (if b.val.ok then 0 else 3)]) (by simpa [Vx.av, Vx.cells, Va.av] using htb) (by simp [Vx.av, Vx.cells, Va.av]) ?_ (a := .mk)
    rintro z rfl
    simp -implicitDefEqProofs [Vx.av, Vx.cells, Va.av, wrOb, splice]
    cases hoa : a.val.ok
    · have hno : a.val.same b.val = false := same_no (.inl hoa)
      cases hob : b.val.ok
      · simp -implicitDefEqProofs [Vx.av, Vx.cells, Va.av]
        refine DC.go [a.av] (a.val.av) (by simp [Vx.av, Vx.cells, Va.av]) (by simpa [Vx.av, Vx.cells, Va.av] using ha) (by simp [Vx.av, Vx.cells, Va.av]) (by simp [Vx.av, Vx.cells, Va.av]) ?_ (a := .mk)
        simp -implicitDefEqProofs [Vx.av, Vx.cells, Va.av]
        refine DC.go [a.val.av] (iv (if a.val.ok then 0 else 3)) (by simp [Vx.av, Vx.cells, Va.av, hoa]) (by simpa [Vx.av, Vx.cells, Va.av] using hc) (by simp [Vx.av, Vx.cells, Va.av]) (by simp [Vx.av, Vx.cells, Va.av]) ?_ (a := .mk)
        simp -implicitDefEqProofs [Vx.av, Vx.cells, Va.av, hoa]
        refine DC.go [a.av] (a.val.av) (by simp [Vx.av, Vx.cells, Va.av]) (by simpa [Vx.av, Vx.cells, Va.av] using ha) (by simp [Vx.av, Vx.cells, Va.av]) (by simp [Vx.av, Vx.cells, Va.av]) ?_ (a := .mk)
        simp -implicitDefEqProofs [Vx.av, Vx.cells, Va.av]
        refine DC.go [b.av] (b.val.av) (by simp [Vx.av, Vx.cells, Va.av]) (by simpa [Vx.av, Vx.cells, Va.av] using hb) (by simp [Vx.av, Vx.cells, Va.av]) (by simp [Vx.av, Vx.cells, Va.av]) ?_ (a := .mk)
        simp -implicitDefEqProofs [Vx.av, Vx.cells, Va.av]
        refine DC.go [a.val.av, b.val.av] (bv (a.val.same b.val)) (by simp [Vx.av, Vx.cells, Va.av, hno]) (by simpa [Vx.av, Vx.cells, Va.av] using hab) (by simp [Vx.av, Vx.cells, Va.av]) (by simp [Vx.av, Vx.cells, Va.av]) ?_ (a := .mk)
        simp -implicitDefEqProofs [Vx.av, Vx.cells, Va.av, hno]
      · simp -implicitDefEqProofs [Vx.av, Vx.cells, Va.av]
        refine DC.go [a.av] (a.val.av) (by simp [Vx.av, Vx.cells, Va.av]) (by simpa [Vx.av, Vx.cells, Va.av] using ha) (by simp [Vx.av, Vx.cells, Va.av]) (by simp [Vx.av, Vx.cells, Va.av]) ?_ (a := .mk)
        simp -implicitDefEqProofs [Vx.av, Vx.cells, Va.av]
        refine DC.go [a.val.av] (iv (if a.val.ok then 0 else 3)) (by simp [Vx.av, Vx.cells, Va.av, hoa]) (by simpa [Vx.av, Vx.cells, Va.av] using hc) (by simp [Vx.av, Vx.cells, Va.av]) (by simp [Vx.av, Vx.cells, Va.av]) ?_ (a := .mk)
        simp -implicitDefEqProofs [Vx.av, Vx.cells, Va.av, hoa]
        refine DC.go [a.av] (a.val.av) (by simp [Vx.av, Vx.cells, Va.av]) (by simpa [Vx.av, Vx.cells, Va.av] using ha) (by simp [Vx.av, Vx.cells, Va.av]) (by simp [Vx.av, Vx.cells, Va.av]) ?_ (a := .mk)
        simp -implicitDefEqProofs [Vx.av, Vx.cells, Va.av]
        refine DC.go [b.av] (b.val.av) (by simp [Vx.av, Vx.cells, Va.av]) (by simpa [Vx.av, Vx.cells, Va.av] using hb) (by simp [Vx.av, Vx.cells, Va.av]) (by simp [Vx.av, Vx.cells, Va.av]) ?_ (a := .mk)
        simp -implicitDefEqProofs [Vx.av, Vx.cells, Va.av]
        refine DC.go [a.val.av, b.val.av] (bv (a.val.same b.val)) (by simp [Vx.av, Vx.cells, Va.av, hno]) (by simpa [Vx.av, Vx.cells, Va.av] using hab) (by simp [Vx.av, Vx.cells, Va.av]) (by simp [Vx.av, Vx.cells, Va.av]) ?_ (a := .mk)
        simp -implicitDefEqProofs [Vx.av, Vx.cells, Va.av, hno]
    · cases hob : b.val.ok
      · have hno : a.val.same b.val = false := same_no (.inr hob)
        simp -implicitDefEqProofs [Vx.av, Vx.cells, Va.av]
        refine DC.go [a.av] (a.val.av) (by simp [Vx.av, Vx.cells, Va.av]) (by simpa [Vx.av, Vx.cells, Va.av] using ha) (by simp [Vx.av, Vx.cells, Va.av]) (by simp [Vx.av, Vx.cells, Va.av]) ?_ (a := .mk)
        simp -implicitDefEqProofs [Vx.av, Vx.cells, Va.av]
        refine DC.go [a.val.av] (iv (if a.val.ok then 0 else 3)) (by simp [Vx.av, Vx.cells, Va.av, hoa]) (by simpa [Vx.av, Vx.cells, Va.av] using hc) (by simp [Vx.av, Vx.cells, Va.av]) (by simp [Vx.av, Vx.cells, Va.av]) ?_ (a := .mk)
        simp -implicitDefEqProofs [Vx.av, Vx.cells, Va.av, hoa]
        refine DC.go [a.av] (a.val.av) (by simp [Vx.av, Vx.cells, Va.av]) (by simpa [Vx.av, Vx.cells, Va.av] using ha) (by simp [Vx.av, Vx.cells, Va.av]) (by simp [Vx.av, Vx.cells, Va.av]) ?_ (a := .mk)
        simp -implicitDefEqProofs [Vx.av, Vx.cells, Va.av]
        refine DC.go [b.av] (b.val.av) (by simp [Vx.av, Vx.cells, Va.av]) (by simpa [Vx.av, Vx.cells, Va.av] using hb) (by simp [Vx.av, Vx.cells, Va.av]) (by simp [Vx.av, Vx.cells, Va.av]) ?_ (a := .mk)
        simp -implicitDefEqProofs [Vx.av, Vx.cells, Va.av]
        refine DC.go [a.val.av, b.val.av] (bv (a.val.same b.val)) (by simp [Vx.av, Vx.cells, Va.av, hno]) (by simpa [Vx.av, Vx.cells, Va.av] using hab) (by simp [Vx.av, Vx.cells, Va.av]) (by simp [Vx.av, Vx.cells, Va.av]) ?_ (a := .mk)
        simp -implicitDefEqProofs [Vx.av, Vx.cells, Va.av, hno]
      · have hpt := vparse_ap a.val.tx (tlen _ (by show (a.l.map _).length ≤ _; rw [List.length_map]; exact na))
        rw [read_same, refV_tx hoa] at hpt
        simp only [pvA] at hpt
        have haa := vsame_ap (G := Gv) a.val a.val wa wa
        rw [same_refl hoa] at haa
        have heq : (a.val.tx == b.val.tx) = a.val.same b.val := by
          rw [Bool.eq_iff_iff, beq_iff_eq, same_iff hoa hob]
          exact ⟨fun h => tx_inj hoa hob h, fun h => by rw [h]⟩
        simp -implicitDefEqProofs [Vx.av, Vx.cells, Va.av]
        refine SC.frz (by simp) [sv a.val.tx] (by simp [Vx.av, Vx.cells, Va.av]) (post := fun z => z = .tup [a.val.av, iv 0]) (by simpa [Vx.av, Vx.cells, Va.av] using hpt) (by simp [Vx.av, Vx.cells, Va.av]) ?_ (a := .mk)
        rintro z rfl
        simp -implicitDefEqProofs [Vx.av, Vx.cells, Va.av, wrOb, splice]
        refine DC.go [a.av] (a.val.av) (by simp [Vx.av, Vx.cells, Va.av]) (by simpa [Vx.av, Vx.cells, Va.av] using ha) (by simp [Vx.av, Vx.cells, Va.av]) (by simp [Vx.av, Vx.cells, Va.av]) ?_ (a := .mk)
        simp -implicitDefEqProofs [Vx.av, Vx.cells, Va.av]
        refine DC.go [a.val.av, a.val.av] (bv true) (by simp [Vx.av, Vx.cells, Va.av]) (by simpa [Vx.av, Vx.cells, Va.av] using haa) (by simp [Vx.av, Vx.cells, Va.av]) (by simp [Vx.av, Vx.cells, Va.av]) ?_ (a := .mk)
        simp -implicitDefEqProofs [Vx.av, Vx.cells, Va.av]
        refine DC.go [a.av] (a.val.av) (by simp [Vx.av, Vx.cells, Va.av]) (by simpa [Vx.av, Vx.cells, Va.av] using ha) (by simp [Vx.av, Vx.cells, Va.av]) (by simp [Vx.av, Vx.cells, Va.av]) ?_ (a := .mk)
        simp -implicitDefEqProofs [Vx.av, Vx.cells, Va.av]
        refine DC.go [b.av] (b.val.av) (by simp [Vx.av, Vx.cells, Va.av]) (by simpa [Vx.av, Vx.cells, Va.av] using hb) (by simp [Vx.av, Vx.cells, Va.av]) (by simp [Vx.av, Vx.cells, Va.av]) ?_ (a := .mk)
        simp -implicitDefEqProofs [Vx.av, Vx.cells, Va.av]
        refine DC.go [a.val.av, b.val.av] (bv (a.val.same b.val)) (by simp [Vx.av, Vx.cells, Va.av, heq]) (by simpa [Vx.av, Vx.cells, Va.av] using hab) (by simp [Vx.av, Vx.cells, Va.av]) (by simp [Vx.av, Vx.cells, Va.av]) ?_ (a := .mk)
        simp -implicitDefEqProofs [Vx.av, Vx.cells, Va.av, heq]
        refine DC.go [b.av] (b.val.av) (by simp [Vx.av, Vx.cells, Va.av]) (by simpa [Vx.av, Vx.cells, Va.av] using hb) (by simp [Vx.av, Vx.cells, Va.av]) (by simp [Vx.av, Vx.cells, Va.av]) ?_ (a := .mk)
        simp -implicitDefEqProofs [Vx.av, Vx.cells, Va.av]
        refine DC.go [a.av] (a.val.av) (by simp [Vx.av, Vx.cells, Va.av]) (by simpa [Vx.av, Vx.cells, Va.av] using ha) (by simp [Vx.av, Vx.cells, Va.av]) (by simp [Vx.av, Vx.cells, Va.av]) ?_ (a := .mk)
        simp -implicitDefEqProofs [Vx.av, Vx.cells, Va.av]
        refine DC.go [b.val.av, a.val.av] (bv (a.val.same b.val)) (by simp [Vx.av, Vx.cells, Va.av]) (by simpa [Vx.av, Vx.cells, Va.av] using hba) (by simp [Vx.av, Vx.cells, Va.av]) (by simp [Vx.av, Vx.cells, Va.av]) ?_ (a := .mk)
        simp -implicitDefEqProofs [Vx.av, Vx.cells, Va.av]
        refine DC.go [a.av] (a.val.av) (by simp [Vx.av, Vx.cells, Va.av]) (by simpa [Vx.av, Vx.cells, Va.av] using ha) (by simp [Vx.av, Vx.cells, Va.av]) (by simp [Vx.av, Vx.cells, Va.av]) ?_ (a := .mk)
        simp -implicitDefEqProofs [Vx.av, Vx.cells, Va.av]
        refine DC.go [b.av] (b.val.av) (by simp [Vx.av, Vx.cells, Va.av]) (by simpa [Vx.av, Vx.cells, Va.av] using hb) (by simp [Vx.av, Vx.cells, Va.av]) (by simp [Vx.av, Vx.cells, Va.av]) ?_ (a := .mk)
        simp -implicitDefEqProofs [Vx.av, Vx.cells, Va.av]
        refine DC.go [a.val.av, b.val.av] (bv (a.val.same b.val)) (by simp [Vx.av, Vx.cells, Va.av]) (by simpa [Vx.av, Vx.cells, Va.av] using hab) (by simp [Vx.av, Vx.cells, Va.av]) (by simp [Vx.av, Vx.cells, Va.av]) ?_ (a := .mk)
        simp -implicitDefEqProofs [Vx.av, Vx.cells, Va.av]
end Go.Proofs.YtbhkclkahblfnaaGreatDoor
