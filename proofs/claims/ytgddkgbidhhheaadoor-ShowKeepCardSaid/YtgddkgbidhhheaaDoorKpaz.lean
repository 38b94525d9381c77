/- Texts joined: Psr. -/
import Derived.Test.YtgddkgbidhhheaaDoorKpay
/- The reference of layer 5: expressions. (printed by gen/qexpr.py) -/
set_option linter.unusedVariables false
set_option linter.unusedSimpArgs false
set_option maxRecDepth 100000
namespace Go.Proofs.YtgddkgbidhhheaaDoor
open Go.RowKit Flo Mk Pg Ab
section
variable {G : World → Prop}
set_option maxHeartbeats 4000000 in
theorem qexpr_1 (nm tl : List UInt8) (ty : Int) (num : Int × Int) (us : List Ex) (pos : Int) (h1 : Flo.okR num.1 num.2 = true) (hlen : us.length ≤ 1000000) (h : ∀ u ∈ us, QrX G u) : QrX G (.mk 1 nm tl ty num us pos) := by
  intro hb
  have hT := nodeQ 1 nm tl ty num us pos
  rw [hT] at hb ⊢
  simp only [nodeP, signT] at hb ⊢
  simp -implicitDefEqProofs at hb ⊢
  try simp only [List.length_append, List.length_cons, List.length_nil] at hb
  refine AP.go hmix F_qexpr (by simp) ?_
  have hsg := qsign_ap (G := G) 1
  have hsg' : signT 1 = ([], 0, 0) := rfl
  rw [hsg'] at hsg
  obtain ⟨_, _, hw1, hw2⟩ := txC_W h1
  have hp1 := of_ap (G := G) (W num.1) (W num.2) hw1 hw2
  rw [numC_W (okR_iff.1 h1).1 (okR_iff.1 h1).2] at hp1
  have hp2 := reftext_ap (G := G) h1
  simp -implicitDefEqProofs [-Int.natCast_add, c_qexpr, exA, Ex.cells, wrOb, evP, fillA, splice]
  -- sign
  refine SC.frz (by simp) [iv 1] (by simp) (by simpa using hsg) (by simp) ?_ (a := .mk)
  rintro x rfl
  simp -implicitDefEqProofs [-Int.natCast_add, ba_cat, ba_size, wrOb, evP, fillA, splice]
  repeat (with_reducible refine And.intro (by omega) ?_)
  -- of
  refine SC.frz (by simp) [cv (W num.1) (W num.2)] (by simp) (by simpa [exA, Ex.cells, ofA] using hp1) (by simp) ?_ (a := .mk)
  rintro x rfl
  simp -implicitDefEqProofs [-Int.natCast_add, ba_cat, ba_size, wrOb, evP, fillA, splice]
  repeat (with_reducible refine And.intro (by omega) ?_)
  -- text
  refine SC.frz (by simp) [.agg [iv num.1, iv num.2]] (by simp) (by simpa [exA, Ex.cells] using hp2) (by simp) ?_ (a := .mk)
  rintro x rfl
  simp -implicitDefEqProofs [-Int.natCast_add, ba_cat, ba_size, wrOb, evP, fillA, splice]
  try omega
set_option maxHeartbeats 4000000 in
theorem qexpr_2 (nm tl : List UInt8) (ty : Int) (num : Int × Int) (us : List Ex) (pos : Int) (hlen : us.length ≤ 1000000) (h : ∀ u ∈ us, QrX G u) : QrX G (.mk 2 nm tl ty num us pos) := by
  intro hb
  have hT := nodeQ 2 nm tl ty num us pos
  rw [hT] at hb ⊢
  simp only [nodeP, signT] at hb ⊢
  simp -implicitDefEqProofs at hb ⊢
  try simp only [List.length_append, List.length_cons, List.length_nil] at hb
  refine AP.go hmix F_qexpr (by simp) ?_
  have hsg := qsign_ap (G := G) 2
  have hsg' : signT 2 = ([], 0, 0) := rfl
  rw [hsg'] at hsg
  simp -implicitDefEqProofs [-Int.natCast_add, c_qexpr, exA, Ex.cells, wrOb, evP, fillA, splice]
  -- sign
  refine SC.frz (by simp) [iv 2] (by simp) (by simpa using hsg) (by simp) ?_ (a := .mk)
  rintro x rfl
  simp -implicitDefEqProofs [-Int.natCast_add, ba_cat, ba_size, wrOb, evP, fillA, splice]
  try omega
set_option maxHeartbeats 4000000 in
theorem qexpr_3 (nm tl : List UInt8) (ty : Int) (num : Int × Int) (us : List Ex) (pos : Int) (hlen : us.length ≤ 1000000) (h : ∀ u ∈ us, QrX G u) : QrX G (.mk 3 nm tl ty num us pos) := by
  intro hb
  have hT := nodeQ 3 nm tl ty num us pos
  rw [hT] at hb ⊢
  simp only [nodeP, signT] at hb ⊢
  simp -implicitDefEqProofs at hb ⊢
  try simp only [List.length_append, List.length_cons, List.length_nil] at hb
  refine AP.go hmix F_qexpr (by simp) ?_
  have hsg := qsign_ap (G := G) 3
  have hsg' : signT 3 = ([], 0, 0) := rfl
  rw [hsg'] at hsg
  simp -implicitDefEqProofs [-Int.natCast_add, c_qexpr, exA, Ex.cells, wrOb, evP, fillA, splice]
  -- sign
  refine SC.frz (by simp) [iv 3] (by simp) (by simpa using hsg) (by simp) ?_ (a := .mk)
  rintro x rfl
  simp -implicitDefEqProofs [-Int.natCast_add, ba_cat, ba_size, wrOb, evP, fillA, splice]
  try omega
set_option maxHeartbeats 4000000 in
theorem qexpr_4 (nm tl : List UInt8) (ty : Int) (num : Int × Int) (us : List Ex) (pos : Int) (hlen : us.length ≤ 1000000) (h : ∀ u ∈ us, QrX G u) : QrX G (.mk 4 nm tl ty num us pos) := by
  intro hb
  have hT := nodeQ 4 nm tl ty num us pos
  rw [hT] at hb ⊢
  simp only [nodeP, signT] at hb ⊢
  simp -implicitDefEqProofs at hb ⊢
  try simp only [List.length_append, List.length_cons, List.length_nil] at hb
  refine AP.go hmix F_qexpr (by simp) ?_
  have hsg := qsign_ap (G := G) 4
  have hsg' : signT 4 = ([], 0, 0) := rfl
  rw [hsg'] at hsg
  simp -implicitDefEqProofs [-Int.natCast_add, c_qexpr, exA, Ex.cells, wrOb, evP, fillA, splice]
  -- sign
  refine SC.frz (by simp) [iv 4] (by simp) (by simpa using hsg) (by simp) ?_ (a := .mk)
  rintro x rfl
  simp -implicitDefEqProofs [-Int.natCast_add, ba_cat, ba_size, wrOb, evP, fillA, splice]
  try omega
set_option maxHeartbeats 4000000 in
theorem qexpr_5 (nm tl : List UInt8) (ty : Int) (num : Int × Int) (us : List Ex) (pos : Int) (hlen : us.length ≤ 1000000) (h : ∀ u ∈ us, QrX G u) : QrX G (.mk 5 nm tl ty num us pos) := by
  intro hb
  have hT := nodeQ 5 nm tl ty num us pos
  rw [hT] at hb ⊢
  simp only [nodeP, signT] at hb ⊢
  simp -implicitDefEqProofs at hb ⊢
  try simp only [List.length_append, List.length_cons, List.length_nil] at hb
  refine AP.go hmix F_qexpr (by simp) ?_
  have hsg := qsign_ap (G := G) 5
  have hsg' : signT 5 = ([], 0, 0) := rfl
  rw [hsg'] at hsg
  have hp1 := qletter_ap (G := G) ty
  have hl1 := letter_len ty
  obtain ⟨t1, ht1⟩ : ∃ t, letter ty = t := ⟨_, rfl⟩
  rw [ht1] at hp1 hb hl1
  simp -implicitDefEqProofs [-Int.natCast_add, c_qexpr, exA, Ex.cells, wrOb, evP, fillA, splice, ht1]
  -- sign
  refine SC.frz (by simp) [iv 5] (by simp) (by simpa using hsg) (by simp) ?_ (a := .mk)
  rintro x rfl
  simp -implicitDefEqProofs [-Int.natCast_add, ba_cat, ba_size, wrOb, evP, fillA, splice, ht1]
  repeat (with_reducible refine And.intro (by omega) ?_)
  -- letter
  refine SC.frz (by simp) [iv ty] (by simp) (by simpa [exA, Ex.cells] using hp1) (by simp) ?_ (a := .mk)
  rintro x rfl
  simp -implicitDefEqProofs [-Int.natCast_add, ba_cat, ba_size, wrOb, evP, fillA, splice, ht1]
  try omega
set_option maxHeartbeats 4000000 in
theorem qexpr_6 (nm tl : List UInt8) (ty : Int) (num : Int × Int) (us : List Ex) (pos : Int) (hlen : us.length ≤ 1000000) (h : ∀ u ∈ us, QrX G u) : QrX G (.mk 6 nm tl ty num us pos) := by
  intro hb
  have hT := nodeQ 6 nm tl ty num us pos
  rw [hT] at hb ⊢
  simp only [nodeP, signT] at hb ⊢
  simp -implicitDefEqProofs at hb ⊢
  try simp only [List.length_append, List.length_cons, List.length_nil] at hb
  refine AP.go hmix F_qexpr (by simp) ?_
  have hsg := qsign_ap (G := G) 6
  have hsg' : signT 6 = ([], 0, 0) := rfl
  rw [hsg'] at hsg
  simp -implicitDefEqProofs [-Int.natCast_add, c_qexpr, exA, Ex.cells, wrOb, evP, fillA, splice]
  -- sign
  refine SC.frz (by simp) [iv 6] (by simp) (by simpa using hsg) (by simp) ?_ (a := .mk)
  rintro x rfl
  simp -implicitDefEqProofs [-Int.natCast_add, ba_cat, ba_size, wrOb, evP, fillA, splice]
  try omega
set_option maxHeartbeats 4000000 in
theorem qexpr_7 (nm tl : List UInt8) (ty : Int) (num : Int × Int) (us : List Ex) (pos : Int) (hlen : us.length ≤ 1000000) (h : ∀ u ∈ us, QrX G u) : QrX G (.mk 7 nm tl ty num us pos) := by
  intro hb
  have hT := nodeQ 7 nm tl ty num us pos
  rw [hT] at hb ⊢
  simp only [nodeP, signT] at hb ⊢
  simp -implicitDefEqProofs at hb ⊢
  try simp only [List.length_append, List.length_cons, List.length_nil] at hb
  refine AP.go hmix F_qexpr (by simp) ?_
  have hsg := qsign_ap (G := G) 7
  have hsg' : signT 7 = ([], 0, 0) := rfl
  rw [hsg'] at hsg
  have hp1 := qlist_ap (G := G) 7 nm tl ty num us pos hlen h (by omega)
  obtain ⟨t1, ht1⟩ : ∃ t, commas (us.map exT) = t := ⟨_, rfl⟩
  rw [ht1] at hp1 hb
  simp -implicitDefEqProofs [-Int.natCast_add, c_qexpr, exA, Ex.cells, wrOb, evP, fillA, splice, ht1]
  -- sign
  refine SC.frz (by simp) [iv 7] (by simp) (by simpa using hsg) (by simp) ?_ (a := .mk)
  rintro x rfl
  simp -implicitDefEqProofs [-Int.natCast_add, ba_cat, ba_size, wrOb, evP, fillA, splice, ht1]
  repeat (with_reducible refine And.intro (by omega) ?_)
  -- list
  refine DC.go [.agg [iv 7, sv nm, sv tl, iv ty, cv (W num.1) (W num.2), .sl us.length (exsA us), iv pos]] (sv (40 :: (t1 ++ [41]))) (by simp) (by simpa [exA, Ex.cells] using hp1) (by simp) (by simp) ?_ (a := .mk)
  simp -implicitDefEqProofs [-Int.natCast_add, ba_cat, ba_size, wrOb, evP, fillA, splice, ht1]
  try omega
set_option maxHeartbeats 4000000 in
theorem qexpr_8 (nm tl : List UInt8) (ty : Int) (num : Int × Int) (us : List Ex) (pos : Int) (hlen : us.length ≤ 1000000) (h : ∀ u ∈ us, QrX G u) : QrX G (.mk 8 nm tl ty num us pos) := by
  intro hb
  have hT := nodeQ 8 nm tl ty num us pos
  rw [hT] at hb ⊢
  simp only [nodeP, signT] at hb ⊢
  simp -implicitDefEqProofs at hb ⊢
  try simp only [List.length_append, List.length_cons, List.length_nil] at hb
  refine AP.go hmix F_qexpr (by simp) ?_
  have hsg := qsign_ap (G := G) 8
  have hsg' : signT 8 = ([32, 43, 32], 3, 4) := rfl
  rw [hsg'] at hsg
  have hp1 := qpart_ap (G := G) 8 nm tl ty num us pos 0 3 h (by omega)
  obtain ⟨t1, ht1⟩ : ∃ t, partT us 0 3 = t := ⟨_, rfl⟩
  rw [ht1] at hp1 hb
  have hp2 := qpart_ap (G := G) 8 nm tl ty num us pos 1 4 h (by omega)
  obtain ⟨t2, ht2⟩ : ∃ t, partT us 1 4 = t := ⟨_, rfl⟩
  rw [ht2] at hp2 hb
  simp -implicitDefEqProofs [-Int.natCast_add, c_qexpr, exA, Ex.cells, wrOb, evP, fillA, splice, ht1, ht2]
  -- sign
  refine SC.frz (by simp) [iv 8] (by simp) (by simpa using hsg) (by simp) ?_ (a := .mk)
  rintro x rfl
  simp -implicitDefEqProofs [-Int.natCast_add, ba_cat, ba_size, wrOb, evP, fillA, splice, ht1, ht2]
  repeat (with_reducible refine And.intro (by omega) ?_)
  -- part
  refine DC.go [.agg [iv 8, sv nm, sv tl, iv ty, cv (W num.1) (W num.2), .sl us.length (exsA us), iv pos], iv 0, iv 3] (sv t1) (by simp) (by simpa [exA, Ex.cells] using hp1) (by simp) (by simp) ?_ (a := .mk)
  simp -implicitDefEqProofs [-Int.natCast_add, ba_cat, ba_size, wrOb, evP, fillA, splice, ht1, ht2]
  repeat (with_reducible refine And.intro (by omega) ?_)
  -- part
  refine DC.go [.agg [iv 8, sv nm, sv tl, iv ty, cv (W num.1) (W num.2), .sl us.length (exsA us), iv pos], iv 1, iv 4] (sv t2) (by simp) (by simpa [exA, Ex.cells] using hp2) (by simp) (by simp) ?_ (a := .mk)
  simp -implicitDefEqProofs [-Int.natCast_add, ba_cat, ba_size, wrOb, evP, fillA, splice, ht1, ht2]
  try omega
set_option maxHeartbeats 4000000 in
theorem qexpr_9 (nm tl : List UInt8) (ty : Int) (num : Int × Int) (us : List Ex) (pos : Int) (hlen : us.length ≤ 1000000) (h : ∀ u ∈ us, QrX G u) : QrX G (.mk 9 nm tl ty num us pos) := by
  intro hb
  have hT := nodeQ 9 nm tl ty num us pos
  rw [hT] at hb ⊢
  simp only [nodeP, signT] at hb ⊢
  simp -implicitDefEqProofs at hb ⊢
  try simp only [List.length_append, List.length_cons, List.length_nil] at hb
  refine AP.go hmix F_qexpr (by simp) ?_
  have hsg := qsign_ap (G := G) 9
  have hsg' : signT 9 = ([32, 45, 32], 3, 4) := rfl
  rw [hsg'] at hsg
  have hp1 := qpart_ap (G := G) 9 nm tl ty num us pos 0 3 h (by omega)
  obtain ⟨t1, ht1⟩ : ∃ t, partT us 0 3 = t := ⟨_, rfl⟩
  rw [ht1] at hp1 hb
  have hp2 := qpart_ap (G := G) 9 nm tl ty num us pos 1 4 h (by omega)
  obtain ⟨t2, ht2⟩ : ∃ t, partT us 1 4 = t := ⟨_, rfl⟩
  rw [ht2] at hp2 hb
  simp -implicitDefEqProofs [-Int.natCast_add, c_qexpr, exA, Ex.cells, wrOb, evP, fillA, splice, ht1, ht2]
  -- sign
  refine SC.frz (by simp) [iv 9] (by simp) (by simpa using hsg) (by simp) ?_ (a := .mk)
  rintro x rfl
  simp -implicitDefEqProofs [-Int.natCast_add, ba_cat, ba_size, wrOb, evP, fillA, splice, ht1, ht2]
  repeat (with_reducible refine And.intro (by omega) ?_)
  -- part
  refine DC.go [.agg [iv 9, sv nm, sv tl, iv ty, cv (W num.1) (W num.2), .sl us.length (exsA us), iv pos], iv 0, iv 3] (sv t1) (by simp) (by simpa [exA, Ex.cells] using hp1) (by simp) (by simp) ?_ (a := .mk)
  simp -implicitDefEqProofs [-Int.natCast_add, ba_cat, ba_size, wrOb, evP, fillA, splice, ht1, ht2]
  repeat (with_reducible refine And.intro (by omega) ?_)
  -- part
  refine DC.go [.agg [iv 9, sv nm, sv tl, iv ty, cv (W num.1) (W num.2), .sl us.length (exsA us), iv pos], iv 1, iv 4] (sv t2) (by simp) (by simpa [exA, Ex.cells] using hp2) (by simp) (by simp) ?_ (a := .mk)
  simp -implicitDefEqProofs [-Int.natCast_add, ba_cat, ba_size, wrOb, evP, fillA, splice, ht1, ht2]
  try omega
set_option maxHeartbeats 4000000 in
theorem qexpr_10 (nm tl : List UInt8) (ty : Int) (num : Int × Int) (us : List Ex) (pos : Int) (hlen : us.length ≤ 1000000) (h : ∀ u ∈ us, QrX G u) : QrX G (.mk 10 nm tl ty num us pos) := by
  intro hb
  have hT := nodeQ 10 nm tl ty num us pos
  rw [hT] at hb ⊢
  simp only [nodeP, signT] at hb ⊢
  simp -implicitDefEqProofs at hb ⊢
  try simp only [List.length_append, List.length_cons, List.length_nil] at hb
  refine AP.go hmix F_qexpr (by simp) ?_
  have hsg := qsign_ap (G := G) 10
  have hsg' : signT 10 = ([32, 42, 32], 4, 5) := rfl
  rw [hsg'] at hsg
  have hp1 := qpart_ap (G := G) 10 nm tl ty num us pos 0 4 h (by omega)
  obtain ⟨t1, ht1⟩ : ∃ t, partT us 0 4 = t := ⟨_, rfl⟩
  rw [ht1] at hp1 hb
  have hp2 := qpart_ap (G := G) 10 nm tl ty num us pos 1 5 h (by omega)
  obtain ⟨t2, ht2⟩ : ∃ t, partT us 1 5 = t := ⟨_, rfl⟩
  rw [ht2] at hp2 hb
  simp -implicitDefEqProofs [-Int.natCast_add, c_qexpr, exA, Ex.cells, wrOb, evP, fillA, splice, ht1, ht2]
  -- sign
  refine SC.frz (by simp) [iv 10] (by simp) (by simpa using hsg) (by simp) ?_ (a := .mk)
  rintro x rfl
  simp -implicitDefEqProofs [-Int.natCast_add, ba_cat, ba_size, wrOb, evP, fillA, splice, ht1, ht2]
  repeat (with_reducible refine And.intro (by omega) ?_)
  -- part
  refine DC.go [.agg [iv 10, sv nm, sv tl, iv ty, cv (W num.1) (W num.2), .sl us.length (exsA us), iv pos], iv 0, iv 4] (sv t1) (by simp) (by simpa [exA, Ex.cells] using hp1) (by simp) (by simp) ?_ (a := .mk)
  simp -implicitDefEqProofs [-Int.natCast_add, ba_cat, ba_size, wrOb, evP, fillA, splice, ht1, ht2]
  repeat (with_reducible refine And.intro (by omega) ?_)
  -- part
  refine DC.go [.agg [iv 10, sv nm, sv tl, iv ty, cv (W num.1) (W num.2), .sl us.length (exsA us), iv pos], iv 1, iv 5] (sv t2) (by simp) (by simpa [exA, Ex.cells] using hp2) (by simp) (by simp) ?_ (a := .mk)
  simp -implicitDefEqProofs [-Int.natCast_add, ba_cat, ba_size, wrOb, evP, fillA, splice, ht1, ht2]
  try omega
set_option maxHeartbeats 4000000 in
theorem qexpr_11 (nm tl : List UInt8) (ty : Int) (num : Int × Int) (us : List Ex) (pos : Int) (hlen : us.length ≤ 1000000) (h : ∀ u ∈ us, QrX G u) : QrX G (.mk 11 nm tl ty num us pos) := by
  intro hb
  have hT := nodeQ 11 nm tl ty num us pos
  rw [hT] at hb ⊢
  simp only [nodeP, signT] at hb ⊢
  simp -implicitDefEqProofs at hb ⊢
  try simp only [List.length_append, List.length_cons, List.length_nil] at hb
  refine AP.go hmix F_qexpr (by simp) ?_
  have hsg := qsign_ap (G := G) 11
  have hsg' : signT 11 = ([32, 47, 32], 4, 5) := rfl
  rw [hsg'] at hsg
  have hp1 := qpart_ap (G := G) 11 nm tl ty num us pos 0 4 h (by omega)
  obtain ⟨t1, ht1⟩ : ∃ t, partT us 0 4 = t := ⟨_, rfl⟩
  rw [ht1] at hp1 hb
  have hp2 := qpart_ap (G := G) 11 nm tl ty num us pos 1 5 h (by omega)
  obtain ⟨t2, ht2⟩ : ∃ t, partT us 1 5 = t := ⟨_, rfl⟩
  rw [ht2] at hp2 hb
  simp -implicitDefEqProofs [-Int.natCast_add, c_qexpr, exA, Ex.cells, wrOb, evP, fillA, splice, ht1, ht2]
  -- sign
  refine SC.frz (by simp) [iv 11] (by simp) (by simpa using hsg) (by simp) ?_ (a := .mk)
  rintro x rfl
  simp -implicitDefEqProofs [-Int.natCast_add, ba_cat, ba_size, wrOb, evP, fillA, splice, ht1, ht2]
  repeat (with_reducible refine And.intro (by omega) ?_)
  -- part
  refine DC.go [.agg [iv 11, sv nm, sv tl, iv ty, cv (W num.1) (W num.2), .sl us.length (exsA us), iv pos], iv 0, iv 4] (sv t1) (by simp) (by simpa [exA, Ex.cells] using hp1) (by simp) (by simp) ?_ (a := .mk)
  simp -implicitDefEqProofs [-Int.natCast_add, ba_cat, ba_size, wrOb, evP, fillA, splice, ht1, ht2]
  repeat (with_reducible refine And.intro (by omega) ?_)
  -- part
  refine DC.go [.agg [iv 11, sv nm, sv tl, iv ty, cv (W num.1) (W num.2), .sl us.length (exsA us), iv pos], iv 1, iv 5] (sv t2) (by simp) (by simpa [exA, Ex.cells] using hp2) (by simp) (by simp) ?_ (a := .mk)
  simp -implicitDefEqProofs [-Int.natCast_add, ba_cat, ba_size, wrOb, evP, fillA, splice, ht1, ht2]
  try omega
set_option maxHeartbeats 4000000 in
theorem qexpr_12 (nm tl : List UInt8) (ty : Int) (num : Int × Int) (us : List Ex) (pos : Int) (hlen : us.length ≤ 1000000) (h : ∀ u ∈ us, QrX G u) : QrX G (.mk 12 nm tl ty num us pos) := by
  intro hb
  have hT := nodeQ 12 nm tl ty num us pos
  rw [hT] at hb ⊢
  simp only [nodeP, signT] at hb ⊢
  simp -implicitDefEqProofs at hb ⊢
  try simp only [List.length_append, List.length_cons, List.length_nil] at hb
  refine AP.go hmix F_qexpr (by simp) ?_
  have hsg := qsign_ap (G := G) 12
  have hsg' : signT 12 = ([32, 61, 61, 32], 3, 3) := rfl
  rw [hsg'] at hsg
  have hp1 := qpart_ap (G := G) 12 nm tl ty num us pos 0 3 h (by omega)
  obtain ⟨t1, ht1⟩ : ∃ t, partT us 0 3 = t := ⟨_, rfl⟩
  rw [ht1] at hp1 hb
  have hp2 := qpart_ap (G := G) 12 nm tl ty num us pos 1 3 h (by omega)
  obtain ⟨t2, ht2⟩ : ∃ t, partT us 1 3 = t := ⟨_, rfl⟩
  rw [ht2] at hp2 hb
  simp -implicitDefEqProofs [-Int.natCast_add, c_qexpr, exA, Ex.cells, wrOb, evP, fillA, splice, ht1, ht2]
  -- sign
  refine SC.frz (by simp) [iv 12] (by simp) (by simpa using hsg) (by simp) ?_ (a := .mk)
  rintro x rfl
  simp -implicitDefEqProofs [-Int.natCast_add, ba_cat, ba_size, wrOb, evP, fillA, splice, ht1, ht2]
  repeat (with_reducible refine And.intro (by omega) ?_)
  -- part
  refine DC.go [.agg [iv 12, sv nm, sv tl, iv ty, cv (W num.1) (W num.2), .sl us.length (exsA us), iv pos], iv 0, iv 3] (sv t1) (by simp) (by simpa [exA, Ex.cells] using hp1) (by simp) (by simp) ?_ (a := .mk)
  simp -implicitDefEqProofs [-Int.natCast_add, ba_cat, ba_size, wrOb, evP, fillA, splice, ht1, ht2]
  repeat (with_reducible refine And.intro (by omega) ?_)
  -- part
  refine DC.go [.agg [iv 12, sv nm, sv tl, iv ty, cv (W num.1) (W num.2), .sl us.length (exsA us), iv pos], iv 1, iv 3] (sv t2) (by simp) (by simpa [exA, Ex.cells] using hp2) (by simp) (by simp) ?_ (a := .mk)
  simp -implicitDefEqProofs [-Int.natCast_add, ba_cat, ba_size, wrOb, evP, fillA, splice, ht1, ht2]
  try omega
set_option maxHeartbeats 4000000 in
theorem qexpr_13 (nm tl : List UInt8) (ty : Int) (num : Int × Int) (us : List Ex) (pos : Int) (hlen : us.length ≤ 1000000) (h : ∀ u ∈ us, QrX G u) : QrX G (.mk 13 nm tl ty num us pos) := by
  intro hb
  have hT := nodeQ 13 nm tl ty num us pos
  rw [hT] at hb ⊢
  simp only [nodeP, signT] at hb ⊢
  simp -implicitDefEqProofs at hb ⊢
  try simp only [List.length_append, List.length_cons, List.length_nil] at hb
  refine AP.go hmix F_qexpr (by simp) ?_
  have hsg := qsign_ap (G := G) 13
  have hsg' : signT 13 = ([32, 60, 32], 3, 3) := rfl
  rw [hsg'] at hsg
  have hp1 := qpart_ap (G := G) 13 nm tl ty num us pos 0 3 h (by omega)
  obtain ⟨t1, ht1⟩ : ∃ t, partT us 0 3 = t := ⟨_, rfl⟩
  rw [ht1] at hp1 hb
  have hp2 := qpart_ap (G := G) 13 nm tl ty num us pos 1 3 h (by omega)
  obtain ⟨t2, ht2⟩ : ∃ t, partT us 1 3 = t := ⟨_, rfl⟩
  rw [ht2] at hp2 hb
  simp -implicitDefEqProofs [-Int.natCast_add, c_qexpr, exA, Ex.cells, wrOb, evP, fillA, splice, ht1, ht2]
  -- sign
  refine SC.frz (by simp) [iv 13] (by simp) (by simpa using hsg) (by simp) ?_ (a := .mk)
  rintro x rfl
  simp -implicitDefEqProofs [-Int.natCast_add, ba_cat, ba_size, wrOb, evP, fillA, splice, ht1, ht2]
  repeat (with_reducible refine And.intro (by omega) ?_)
  -- part
  refine DC.go [.agg [iv 13, sv nm, sv tl, iv ty, cv (W num.1) (W num.2), .sl us.length (exsA us), iv pos], iv 0, iv 3] (sv t1) (by simp) (by simpa [exA, Ex.cells] using hp1) (by simp) (by simp) ?_ (a := .mk)
  simp -implicitDefEqProofs [-Int.natCast_add, ba_cat, ba_size, wrOb, evP, fillA, splice, ht1, ht2]
  repeat (with_reducible refine And.intro (by omega) ?_)
  -- part
  refine DC.go [.agg [iv 13, sv nm, sv tl, iv ty, cv (W num.1) (W num.2), .sl us.length (exsA us), iv pos], iv 1, iv 3] (sv t2) (by simp) (by simpa [exA, Ex.cells] using hp2) (by simp) (by simp) ?_ (a := .mk)
  simp -implicitDefEqProofs [-Int.natCast_add, ba_cat, ba_size, wrOb, evP, fillA, splice, ht1, ht2]
  try omega
set_option maxHeartbeats 4000000 in
theorem qexpr_14 (nm tl : List UInt8) (ty : Int) (num : Int × Int) (us : List Ex) (pos : Int) (hlen : us.length ≤ 1000000) (h : ∀ u ∈ us, QrX G u) : QrX G (.mk 14 nm tl ty num us pos) := by
  intro hb
  have hT := nodeQ 14 nm tl ty num us pos
  rw [hT] at hb ⊢
  simp only [nodeP, signT] at hb ⊢
  simp -implicitDefEqProofs at hb ⊢
  try simp only [List.length_append, List.length_cons, List.length_nil] at hb
  refine AP.go hmix F_qexpr (by simp) ?_
  have hsg := qsign_ap (G := G) 14
  have hsg' : signT 14 = ([], 0, 0) := rfl
  rw [hsg'] at hsg
  have hp1 := qlist_ap (G := G) 14 nm tl ty num us pos hlen h (by omega)
  obtain ⟨t1, ht1⟩ : ∃ t, commas (us.map exT) = t := ⟨_, rfl⟩
  rw [ht1] at hp1 hb
  simp -implicitDefEqProofs [-Int.natCast_add, c_qexpr, exA, Ex.cells, wrOb, evP, fillA, splice, ht1]
  -- sign
  refine SC.frz (by simp) [iv 14] (by simp) (by simpa using hsg) (by simp) ?_ (a := .mk)
  rintro x rfl
  simp -implicitDefEqProofs [-Int.natCast_add, ba_cat, ba_size, wrOb, evP, fillA, splice, ht1]
  repeat (with_reducible refine And.intro (by omega) ?_)
  -- list
  refine SC.frz (by simp) [.agg [iv 14, sv nm, sv tl, iv ty, cv (W num.1) (W num.2), .sl us.length (exsA us), iv pos]] (by simp) (by simpa [exA, Ex.cells] using hp1) (by simp) ?_ (a := .mk)
  rintro x rfl
  simp -implicitDefEqProofs [-Int.natCast_add, ba_cat, ba_size, wrOb, evP, fillA, splice, ht1]
  try omega
set_option maxHeartbeats 4000000 in
theorem qexpr_15 (nm tl : List UInt8) (ty : Int) (num : Int × Int) (us : List Ex) (pos : Int) (hlen : us.length ≤ 1000000) (h : ∀ u ∈ us, QrX G u) : QrX G (.mk 15 nm tl ty num us pos) := by
  intro hb
  have hT := nodeQ 15 nm tl ty num us pos
  rw [hT] at hb ⊢
  simp only [nodeP, signT] at hb ⊢
  simp -implicitDefEqProofs at hb ⊢
  try simp only [List.length_append, List.length_cons, List.length_nil] at hb
  refine AP.go hmix F_qexpr (by simp) ?_
  have hsg := qsign_ap (G := G) 15
  have hsg' : signT 15 = ([], 0, 0) := rfl
  rw [hsg'] at hsg
  have hp1 := qlist_ap (G := G) 15 nm tl ty num us pos hlen h (by omega)
  obtain ⟨t1, ht1⟩ : ∃ t, commas (us.map exT) = t := ⟨_, rfl⟩
  rw [ht1] at hp1 hb
  simp -implicitDefEqProofs [-Int.natCast_add, c_qexpr, exA, Ex.cells, wrOb, evP, fillA, splice, ht1]
  -- sign
  refine SC.frz (by simp) [iv 15] (by simp) (by simpa using hsg) (by simp) ?_ (a := .mk)
  rintro x rfl
  simp -implicitDefEqProofs [-Int.natCast_add, ba_cat, ba_size, wrOb, evP, fillA, splice, ht1]
  repeat (with_reducible refine And.intro (by omega) ?_)
  -- list
  refine SC.frz (by simp) [.agg [iv 15, sv nm, sv tl, iv ty, cv (W num.1) (W num.2), .sl us.length (exsA us), iv pos]] (by simp) (by simpa [exA, Ex.cells] using hp1) (by simp) ?_ (a := .mk)
  rintro x rfl
  simp -implicitDefEqProofs [-Int.natCast_add, ba_cat, ba_size, wrOb, evP, fillA, splice, ht1]
  try omega
set_option maxHeartbeats 4000000 in
theorem qexpr_16 (nm tl : List UInt8) (ty : Int) (num : Int × Int) (us : List Ex) (pos : Int) (hlen : us.length ≤ 1000000) (h : ∀ u ∈ us, QrX G u) : QrX G (.mk 16 nm tl ty num us pos) := by
  intro hb
  have hT := nodeQ 16 nm tl ty num us pos
  rw [hT] at hb ⊢
  simp only [nodeP, signT] at hb ⊢
  simp -implicitDefEqProofs at hb ⊢
  try simp only [List.length_append, List.length_cons, List.length_nil] at hb
  refine AP.go hmix F_qexpr (by simp) ?_
  have hsg := qsign_ap (G := G) 16
  have hsg' : signT 16 = ([], 0, 0) := rfl
  rw [hsg'] at hsg
  have hp1 := qlist_ap (G := G) 16 nm tl ty num us pos hlen h (by omega)
  obtain ⟨t1, ht1⟩ : ∃ t, commas (us.map exT) = t := ⟨_, rfl⟩
  rw [ht1] at hp1 hb
  simp -implicitDefEqProofs [-Int.natCast_add, c_qexpr, exA, Ex.cells, wrOb, evP, fillA, splice, ht1]
  -- sign
  refine SC.frz (by simp) [iv 16] (by simp) (by simpa using hsg) (by simp) ?_ (a := .mk)
  rintro x rfl
  simp -implicitDefEqProofs [-Int.natCast_add, ba_cat, ba_size, wrOb, evP, fillA, splice, ht1]
  repeat (with_reducible refine And.intro (by omega) ?_)
  -- list
  refine SC.frz (by simp) [.agg [iv 16, sv nm, sv tl, iv ty, cv (W num.1) (W num.2), .sl us.length (exsA us), iv pos]] (by simp) (by simpa [exA, Ex.cells] using hp1) (by simp) ?_ (a := .mk)
  rintro x rfl
  simp -implicitDefEqProofs [-Int.natCast_add, ba_cat, ba_size, wrOb, evP, fillA, splice, ht1]
  try omega
set_option maxHeartbeats 4000000 in
theorem qexpr_17 (nm tl : List UInt8) (ty : Int) (num : Int × Int) (us : List Ex) (pos : Int) (hlen : us.length ≤ 1000000) (h : ∀ u ∈ us, QrX G u) : QrX G (.mk 17 nm tl ty num us pos) := by
  intro hb
  have hT := nodeQ 17 nm tl ty num us pos
  rw [hT] at hb ⊢
  simp only [nodeP, signT] at hb ⊢
  simp -implicitDefEqProofs at hb ⊢
  try simp only [List.length_append, List.length_cons, List.length_nil] at hb
  refine AP.go hmix F_qexpr (by simp) ?_
  have hsg := qsign_ap (G := G) 17
  have hsg' : signT 17 = ([], 0, 0) := rfl
  rw [hsg'] at hsg
  have hp1 := qlist_ap (G := G) 17 nm tl ty num us pos hlen h (by omega)
  obtain ⟨t1, ht1⟩ : ∃ t, commas (us.map exT) = t := ⟨_, rfl⟩
  rw [ht1] at hp1 hb
  simp -implicitDefEqProofs [-Int.natCast_add, c_qexpr, exA, Ex.cells, wrOb, evP, fillA, splice, ht1]
  -- sign
  refine SC.frz (by simp) [iv 17] (by simp) (by simpa using hsg) (by simp) ?_ (a := .mk)
  rintro x rfl
  simp -implicitDefEqProofs [-Int.natCast_add, ba_cat, ba_size, wrOb, evP, fillA, splice, ht1]
  repeat (with_reducible refine And.intro (by omega) ?_)
  -- list
  refine SC.frz (by simp) [.agg [iv 17, sv nm, sv tl, iv ty, cv (W num.1) (W num.2), .sl us.length (exsA us), iv pos]] (by simp) (by simpa [exA, Ex.cells] using hp1) (by simp) ?_ (a := .mk)
  rintro x rfl
  simp -implicitDefEqProofs [-Int.natCast_add, ba_cat, ba_size, wrOb, evP, fillA, splice, ht1]
  try omega
set_option maxHeartbeats 4000000 in
theorem qexpr_18 (nm tl : List UInt8) (ty : Int) (num : Int × Int) (us : List Ex) (pos : Int) (hlen : us.length ≤ 1000000) (h : ∀ u ∈ us, QrX G u) : QrX G (.mk 18 nm tl ty num us pos) := by
  intro hb
  have hT := nodeQ 18 nm tl ty num us pos
  rw [hT] at hb ⊢
  simp only [nodeP, signT] at hb ⊢
  simp -implicitDefEqProofs at hb ⊢
  try simp only [List.length_append, List.length_cons, List.length_nil] at hb
  refine AP.go hmix F_qexpr (by simp) ?_
  have hsg := qsign_ap (G := G) 18
  have hsg' : signT 18 = ([32, 58, 32], 2, 1) := rfl
  rw [hsg'] at hsg
  have hp1 := qpart_ap (G := G) 18 nm tl ty num us pos 0 2 h (by omega)
  obtain ⟨t1, ht1⟩ : ∃ t, partT us 0 2 = t := ⟨_, rfl⟩
  rw [ht1] at hp1 hb
  have hp2 := qpart_ap (G := G) 18 nm tl ty num us pos 1 1 h (by omega)
  obtain ⟨t2, ht2⟩ : ∃ t, partT us 1 1 = t := ⟨_, rfl⟩
  rw [ht2] at hp2 hb
  simp -implicitDefEqProofs [-Int.natCast_add, c_qexpr, exA, Ex.cells, wrOb, evP, fillA, splice, ht1, ht2]
  -- sign
  refine SC.frz (by simp) [iv 18] (by simp) (by simpa using hsg) (by simp) ?_ (a := .mk)
  rintro x rfl
  simp -implicitDefEqProofs [-Int.natCast_add, ba_cat, ba_size, wrOb, evP, fillA, splice, ht1, ht2]
  repeat (with_reducible refine And.intro (by omega) ?_)
  -- part
  refine DC.go [.agg [iv 18, sv nm, sv tl, iv ty, cv (W num.1) (W num.2), .sl us.length (exsA us), iv pos], iv 0, iv 2] (sv t1) (by simp) (by simpa [exA, Ex.cells] using hp1) (by simp) (by simp) ?_ (a := .mk)
  simp -implicitDefEqProofs [-Int.natCast_add, ba_cat, ba_size, wrOb, evP, fillA, splice, ht1, ht2]
  repeat (with_reducible refine And.intro (by omega) ?_)
  -- part
  refine DC.go [.agg [iv 18, sv nm, sv tl, iv ty, cv (W num.1) (W num.2), .sl us.length (exsA us), iv pos], iv 1, iv 1] (sv t2) (by simp) (by simpa [exA, Ex.cells] using hp2) (by simp) (by simp) ?_ (a := .mk)
  simp -implicitDefEqProofs [-Int.natCast_add, ba_cat, ba_size, wrOb, evP, fillA, splice, ht1, ht2]
  try omega
set_option maxHeartbeats 4000000 in
theorem qexpr_19 (nm tl : List UInt8) (ty : Int) (num : Int × Int) (us : List Ex) (pos : Int) (hlen : us.length ≤ 1000000) (h : ∀ u ∈ us, QrX G u) : QrX G (.mk 19 nm tl ty num us pos) := by
  intro hb
  have hT := nodeQ 19 nm tl ty num us pos
  rw [hT] at hb ⊢
  simp only [nodeP, signT] at hb ⊢
  simp -implicitDefEqProofs at hb ⊢
  try simp only [List.length_append, List.length_cons, List.length_nil] at hb
  refine AP.go hmix F_qexpr (by simp) ?_
  have hsg := qsign_ap (G := G) 19
  have hsg' : signT 19 = ([], 0, 0) := rfl
  rw [hsg'] at hsg
  have hp1 := qpart_ap (G := G) 19 nm tl ty num us pos 0 0 h (by omega)
  obtain ⟨t1, ht1⟩ : ∃ t, partT us 0 0 = t := ⟨_, rfl⟩
  rw [ht1] at hp1 hb
  have hp2 := qpart_ap (G := G) 19 nm tl ty num us pos 1 0 h (by omega)
  obtain ⟨t2, ht2⟩ : ∃ t, partT us 1 0 = t := ⟨_, rfl⟩
  rw [ht2] at hp2 hb
  have hp3 := qpart_ap (G := G) 19 nm tl ty num us pos 2 0 h (by omega)
  obtain ⟨t3, ht3⟩ : ∃ t, partT us 2 0 = t := ⟨_, rfl⟩
  rw [ht3] at hp3 hb
  simp -implicitDefEqProofs [-Int.natCast_add, c_qexpr, exA, Ex.cells, wrOb, evP, fillA, splice, ht1, ht2, ht3]
  -- sign
  refine SC.frz (by simp) [iv 19] (by simp) (by simpa using hsg) (by simp) ?_ (a := .mk)
  rintro x rfl
  simp -implicitDefEqProofs [-Int.natCast_add, ba_cat, ba_size, wrOb, evP, fillA, splice, ht1, ht2, ht3]
  repeat (with_reducible refine And.intro (by omega) ?_)
  -- part
  refine DC.go [.agg [iv 19, sv nm, sv tl, iv ty, cv (W num.1) (W num.2), .sl us.length (exsA us), iv pos], iv 0, iv 0] (sv t1) (by simp) (by simpa [exA, Ex.cells] using hp1) (by simp) (by simp) ?_ (a := .mk)
  simp -implicitDefEqProofs [-Int.natCast_add, ba_cat, ba_size, wrOb, evP, fillA, splice, ht1, ht2, ht3]
  repeat (with_reducible refine And.intro (by omega) ?_)
  -- part
  refine DC.go [.agg [iv 19, sv nm, sv tl, iv ty, cv (W num.1) (W num.2), .sl us.length (exsA us), iv pos], iv 1, iv 0] (sv t2) (by simp) (by simpa [exA, Ex.cells] using hp2) (by simp) (by simp) ?_ (a := .mk)
  simp -implicitDefEqProofs [-Int.natCast_add, ba_cat, ba_size, wrOb, evP, fillA, splice, ht1, ht2, ht3]
  repeat (with_reducible refine And.intro (by omega) ?_)
  -- part
  refine DC.go [.agg [iv 19, sv nm, sv tl, iv ty, cv (W num.1) (W num.2), .sl us.length (exsA us), iv pos], iv 2, iv 0] (sv t3) (by simp) (by simpa [exA, Ex.cells] using hp3) (by simp) (by simp) ?_ (a := .mk)
  simp -implicitDefEqProofs [-Int.natCast_add, ba_cat, ba_size, wrOb, evP, fillA, splice, ht1, ht2, ht3]
  try omega
set_option maxHeartbeats 4000000 in
theorem qexpr_20 (nm tl : List UInt8) (ty : Int) (num : Int × Int) (us : List Ex) (pos : Int) (hlen : us.length ≤ 1000000) (h : ∀ u ∈ us, QrX G u) : QrX G (.mk 20 nm tl ty num us pos) := by
  intro hb
  have hT := nodeQ 20 nm tl ty num us pos
  rw [hT] at hb ⊢
  simp only [nodeP, signT] at hb ⊢
  simp -implicitDefEqProofs at hb ⊢
  try simp only [List.length_append, List.length_cons, List.length_nil] at hb
  refine AP.go hmix F_qexpr (by simp) ?_
  have hsg := qsign_ap (G := G) 20
  have hsg' : signT 20 = ([], 0, 0) := rfl
  rw [hsg'] at hsg
  have hp1 := qpart_ap (G := G) 20 nm tl ty num us pos 0 0 h (by omega)
  obtain ⟨t1, ht1⟩ : ∃ t, partT us 0 0 = t := ⟨_, rfl⟩
  rw [ht1] at hp1 hb
  have hp2 := qpart_ap (G := G) 20 nm tl ty num us pos 1 0 h (by omega)
  obtain ⟨t2, ht2⟩ : ∃ t, partT us 1 0 = t := ⟨_, rfl⟩
  rw [ht2] at hp2 hb
  have hp3 := qpart_ap (G := G) 20 nm tl ty num us pos 2 0 h (by omega)
  obtain ⟨t3, ht3⟩ : ∃ t, partT us 2 0 = t := ⟨_, rfl⟩
  rw [ht3] at hp3 hb
  simp -implicitDefEqProofs [-Int.natCast_add, c_qexpr, exA, Ex.cells, wrOb, evP, fillA, splice, ht1, ht2, ht3]
  -- sign
  refine SC.frz (by simp) [iv 20] (by simp) (by simpa using hsg) (by simp) ?_ (a := .mk)
  rintro x rfl
  simp -implicitDefEqProofs [-Int.natCast_add, ba_cat, ba_size, wrOb, evP, fillA, splice, ht1, ht2, ht3]
  repeat (with_reducible refine And.intro (by omega) ?_)
  -- part
  refine DC.go [.agg [iv 20, sv nm, sv tl, iv ty, cv (W num.1) (W num.2), .sl us.length (exsA us), iv pos], iv 0, iv 0] (sv t1) (by simp) (by simpa [exA, Ex.cells] using hp1) (by simp) (by simp) ?_ (a := .mk)
  simp -implicitDefEqProofs [-Int.natCast_add, ba_cat, ba_size, wrOb, evP, fillA, splice, ht1, ht2, ht3]
  repeat (with_reducible refine And.intro (by omega) ?_)
  -- part
  refine DC.go [.agg [iv 20, sv nm, sv tl, iv ty, cv (W num.1) (W num.2), .sl us.length (exsA us), iv pos], iv 1, iv 0] (sv t2) (by simp) (by simpa [exA, Ex.cells] using hp2) (by simp) (by simp) ?_ (a := .mk)
  simp -implicitDefEqProofs [-Int.natCast_add, ba_cat, ba_size, wrOb, evP, fillA, splice, ht1, ht2, ht3]
  repeat (with_reducible refine And.intro (by omega) ?_)
  -- part
  refine DC.go [.agg [iv 20, sv nm, sv tl, iv ty, cv (W num.1) (W num.2), .sl us.length (exsA us), iv pos], iv 2, iv 0] (sv t3) (by simp) (by simpa [exA, Ex.cells] using hp3) (by simp) (by simp) ?_ (a := .mk)
  simp -implicitDefEqProofs [-Int.natCast_add, ba_cat, ba_size, wrOb, evP, fillA, splice, ht1, ht2, ht3]
  try omega
set_option maxHeartbeats 4000000 in
theorem qexpr_21 (nm tl : List UInt8) (ty : Int) (num : Int × Int) (us : List Ex) (pos : Int) (hlen : us.length ≤ 1000000) (h : ∀ u ∈ us, QrX G u) : QrX G (.mk 21 nm tl ty num us pos) := by
  intro hb
  have hT := nodeQ 21 nm tl ty num us pos
  rw [hT] at hb ⊢
  simp only [nodeP, signT] at hb ⊢
  simp -implicitDefEqProofs at hb ⊢
  try simp only [List.length_append, List.length_cons, List.length_nil] at hb
  refine AP.go hmix F_qexpr (by simp) ?_
  have hsg := qsign_ap (G := G) 21
  have hsg' : signT 21 = ([], 0, 0) := rfl
  rw [hsg'] at hsg
  have hp1 := qletter_ap (G := G) ty
  have hl1 := letter_len ty
  obtain ⟨t1, ht1⟩ : ∃ t, letter ty = t := ⟨_, rfl⟩
  rw [ht1] at hp1 hb hl1
  have hp2 := qpart_ap (G := G) 21 nm tl ty num us pos 0 0 h (by omega)
  obtain ⟨t2, ht2⟩ : ∃ t, partT us 0 0 = t := ⟨_, rfl⟩
  rw [ht2] at hp2 hb
  have hp3 := qpart_ap (G := G) 21 nm tl ty num us pos 1 0 h (by omega)
  obtain ⟨t3, ht3⟩ : ∃ t, partT us 1 0 = t := ⟨_, rfl⟩
  rw [ht3] at hp3 hb
  simp -implicitDefEqProofs [-Int.natCast_add, c_qexpr, exA, Ex.cells, wrOb, evP, fillA, splice, ht1, ht2, ht3]
  -- sign
  refine SC.frz (by simp) [iv 21] (by simp) (by simpa using hsg) (by simp) ?_ (a := .mk)
  rintro x rfl
  simp -implicitDefEqProofs [-Int.natCast_add, ba_cat, ba_size, wrOb, evP, fillA, splice, ht1, ht2, ht3]
  repeat (with_reducible refine And.intro (by omega) ?_)
  -- letter
  refine DC.go [iv ty] (sv t1) (by simp) (by simpa [exA, Ex.cells] using hp1) (by simp) (by simp) ?_ (a := .mk)
  simp -implicitDefEqProofs [-Int.natCast_add, ba_cat, ba_size, wrOb, evP, fillA, splice, ht1, ht2, ht3]
  repeat (with_reducible refine And.intro (by omega) ?_)
  -- part
  refine DC.go [.agg [iv 21, sv nm, sv tl, iv ty, cv (W num.1) (W num.2), .sl us.length (exsA us), iv pos], iv 0, iv 0] (sv t2) (by simp) (by simpa [exA, Ex.cells] using hp2) (by simp) (by simp) ?_ (a := .mk)
  simp -implicitDefEqProofs [-Int.natCast_add, ba_cat, ba_size, wrOb, evP, fillA, splice, ht1, ht2, ht3]
  repeat (with_reducible refine And.intro (by omega) ?_)
  -- part
  refine DC.go [.agg [iv 21, sv nm, sv tl, iv ty, cv (W num.1) (W num.2), .sl us.length (exsA us), iv pos], iv 1, iv 0] (sv t3) (by simp) (by simpa [exA, Ex.cells] using hp3) (by simp) (by simp) ?_ (a := .mk)
  simp -implicitDefEqProofs [-Int.natCast_add, ba_cat, ba_size, wrOb, evP, fillA, splice, ht1, ht2, ht3]
  try omega
set_option maxHeartbeats 4000000 in
theorem qexpr_22 (nm tl : List UInt8) (ty : Int) (num : Int × Int) (us : List Ex) (pos : Int) (hlen : us.length ≤ 1000000) (h : ∀ u ∈ us, QrX G u) : QrX G (.mk 22 nm tl ty num us pos) := by
  intro hb
  have hT := nodeQ 22 nm tl ty num us pos
  rw [hT] at hb ⊢
  simp only [nodeP, signT] at hb ⊢
  simp -implicitDefEqProofs at hb ⊢
  try simp only [List.length_append, List.length_cons, List.length_nil] at hb
  refine AP.go hmix F_qexpr (by simp) ?_
  have hsg := qsign_ap (G := G) 22
  have hsg' : signT 22 = ([], 0, 0) := rfl
  rw [hsg'] at hsg
  have hp1 := qletter_ap (G := G) ty
  have hl1 := letter_len ty
  obtain ⟨t1, ht1⟩ : ∃ t, letter ty = t := ⟨_, rfl⟩
  rw [ht1] at hp1 hb hl1
  have hp2 := qpart_ap (G := G) 22 nm tl ty num us pos 0 0 h (by omega)
  obtain ⟨t2, ht2⟩ : ∃ t, partT us 0 0 = t := ⟨_, rfl⟩
  rw [ht2] at hp2 hb
  have hp3 := qpart_ap (G := G) 22 nm tl ty num us pos 1 0 h (by omega)
  obtain ⟨t3, ht3⟩ : ∃ t, partT us 1 0 = t := ⟨_, rfl⟩
  rw [ht3] at hp3 hb
  simp -implicitDefEqProofs [-Int.natCast_add, c_qexpr, exA, Ex.cells, wrOb, evP, fillA, splice, ht1, ht2, ht3]
  -- sign
  refine SC.frz (by simp) [iv 22] (by simp) (by simpa using hsg) (by simp) ?_ (a := .mk)
  rintro x rfl
  simp -implicitDefEqProofs [-Int.natCast_add, ba_cat, ba_size, wrOb, evP, fillA, splice, ht1, ht2, ht3]
  repeat (with_reducible refine And.intro (by omega) ?_)
  -- letter
  refine DC.go [iv ty] (sv t1) (by simp) (by simpa [exA, Ex.cells] using hp1) (by simp) (by simp) ?_ (a := .mk)
  simp -implicitDefEqProofs [-Int.natCast_add, ba_cat, ba_size, wrOb, evP, fillA, splice, ht1, ht2, ht3]
  repeat (with_reducible refine And.intro (by omega) ?_)
  -- part
  refine DC.go [.agg [iv 22, sv nm, sv tl, iv ty, cv (W num.1) (W num.2), .sl us.length (exsA us), iv pos], iv 0, iv 0] (sv t2) (by simp) (by simpa [exA, Ex.cells] using hp2) (by simp) (by simp) ?_ (a := .mk)
  simp -implicitDefEqProofs [-Int.natCast_add, ba_cat, ba_size, wrOb, evP, fillA, splice, ht1, ht2, ht3]
  repeat (with_reducible refine And.intro (by omega) ?_)
  -- part
  refine DC.go [.agg [iv 22, sv nm, sv tl, iv ty, cv (W num.1) (W num.2), .sl us.length (exsA us), iv pos], iv 1, iv 0] (sv t3) (by simp) (by simpa [exA, Ex.cells] using hp3) (by simp) (by simp) ?_ (a := .mk)
  simp -implicitDefEqProofs [-Int.natCast_add, ba_cat, ba_size, wrOb, evP, fillA, splice, ht1, ht2, ht3]
  try omega
theorem qexpr_ap : ∀ e : Ex, wfX e → QrX G e
  | .mk op nm tl ty num us pos, hw => by
    obtain ⟨⟨hk, hc⟩, hs⟩ := hw
    have ih : ∀ u ∈ us, QrX G u := fun u hu => qexpr_ap u (by
      obtain ⟨i, hi⟩ := List.mem_iff_getElem?.1 hu
      exact wfXs_at hs hi)
    rcases hc with ⟨rfl, h1⟩ | (rfl | rfl | rfl) | ⟨rfl, h1⟩ | ⟨rfl, h1⟩ | ⟨rfl, h1⟩ | (rfl | rfl | rfl | rfl) | ⟨rfl | rfl | rfl | rfl | rfl | rfl | rfl, h1⟩ | ⟨rfl, h1⟩ | ⟨rfl, h1⟩ | ⟨rfl | rfl, h1⟩
    · exact qexpr_1 nm tl ty num us pos h1 hk ih
    · exact qexpr_2 nm tl ty num us pos hk ih
    · exact qexpr_3 nm tl ty num us pos hk ih
    · exact qexpr_4 nm tl ty num us pos hk ih
    · exact qexpr_5 nm tl ty num us pos hk ih
    · exact qexpr_6 nm tl ty num us pos hk ih
    · exact qexpr_7 nm tl ty num us pos hk ih
    · exact qexpr_14 nm tl ty num us pos hk ih
    · exact qexpr_15 nm tl ty num us pos hk ih
    · exact qexpr_16 nm tl ty num us pos hk ih
    · exact qexpr_17 nm tl ty num us pos hk ih
    · exact qexpr_8 nm tl ty num us pos hk ih
    · exact qexpr_9 nm tl ty num us pos hk ih
    · exact qexpr_10 nm tl ty num us pos hk ih
    · exact qexpr_11 nm tl ty num us pos hk ih
    · exact qexpr_12 nm tl ty num us pos hk ih
    · exact qexpr_13 nm tl ty num us pos hk ih
    · exact qexpr_18 nm tl ty num us pos hk ih
    · exact qexpr_19 nm tl ty num us pos hk ih
    · exact qexpr_20 nm tl ty num us pos hk ih
    · exact qexpr_21 nm tl ty num us pos hk ih
    · exact qexpr_22 nm tl ty num us pos hk ih
termination_by e => SizeOf.sizeOf e
decreasing_by
  have := List.sizeOf_lt_of_mem hu
  simp only [Ex.mk.sizeOf_spec]
  omega
end
end Go.Proofs.YtgddkgbidhhheaaDoor
