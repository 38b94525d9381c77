/- Texts joined: She Shf Prb. -/
import Derived.Test.YtgddkgbidhhheaaDoorKoal
/- Layer 5: the kinds of expressions on the page. (printed by gen/splain.py) -/
set_option linter.unusedVariables false
set_option linter.unusedSimpArgs false
set_option maxRecDepth 100000
namespace Go.Proofs.YtgddkgbidhhheaaDoor
open Go.RowKit Flo Ab Mk Pg
theorem txC_W {a b : Int} (h : Flo.okR a b = true) : txC (W a) (W b) = textL a b ∧ (numC (W a) (W b)).isSome = true ∧ W a < 18446744073709551616 ∧ W b < 18446744073709551616 := by
  have hk := okR_iff.1 h
  unfold txC
  rw [numC_W hk.1 hk.2]
  exact ⟨rfl, rfl, W_lt' _, W_lt' _⟩
set_option maxHeartbeats 8000000 in
theorem splain_pg (op : Int) (nm tl : List UInt8) (ty : Int) (num : Int × Int) (us : List Ex) (pos : Int) (hw : wfX (.mk op nm tl ty num us pos)) (hX : ∀ e ∈ us, WrX e) (hop : levelN op = 5) :
    PgC 30 [exA (.mk op nm tl ty num us pos)] (exT (.mk op nm tl ty num us pos)) := by
  intro l os hP hsz
  have hP0 := hP.at
  have hsc := fun (word : List UInt8) (hword : word ≠ []) => scall_pg word hword op nm tl ty num us pos hw.1.1 hw.2 hX
  obtain ⟨⟨hk, hn⟩, hws⟩ := hw
  have he : (exTs us).map Prod.snd = us.map exT := by rw [exTs_map, List.map_map]; rfl
  rcases hn with ⟨rfl, h1⟩ | (rfl | rfl | rfl) | ⟨rfl, h1⟩ | ⟨rfl, h1⟩ | ⟨rfl, h1⟩ | (rfl | rfl | rfl | rfl) | ⟨rfl | rfl | rfl | rfl | rfl | rfl | rfl, h1⟩ | ⟨rfl, h1⟩ | ⟨rfl, h1⟩ | ⟨rfl | rfl, h1⟩
  · obtain ⟨t1, t2, t3, t4⟩ := txC_W h1
    have hT : exT (.mk 1 nm tl ty num us pos) = textL num.1 num.2 := by simp [exT, nodeT, signT]
    have hne := textL_ne num.1 num.2
    rw [hT] at hsz ⊢
    refine AC.go hmix F_splain (by simp) ?_
    simp -implicitDefEqProofs [c_splain, exA, Ex.cells, evP, fillA, splice]
    refine SC.frz (by simp) [cv (W num.1) (W num.2)] (by simp) (post := fun x => x = .tup [sv (textL num.1 num.2), iv 0]) (by have := gtext_ap (W num.1) (W num.2) t3 t4; rw [t1, t2] at this; simpa using this) (by simp) ?_ (a := .mk)
    rintro x rfl
    simp -implicitDefEqProofs [evP, fillA, splice]
    refine SC.add (by simp) (os.length + 1) (by simp) [.s (textL num.1 num.2)] (by simp [Pc.av]) (by simp; exact hP0.app _) (textL num.1 num.2) (by simp [Pc.tx]) (by simp [Pc.ok, hne]) (by simp) hne hsz ?_
    rintro x H1 hp1 hv1 hl1
    simp -implicitDefEqProofs
    exact hp1
  · have hT : exT (.mk 2 nm tl ty num us pos) = tTrue := by simp [exT, nodeT, signT, he]
    rw [hT] at hsz ⊢
    refine AC.go hmix F_splain (by simp) ?_
    simp -implicitDefEqProofs [c_splain, exA, Ex.cells, evP, fillA, splice]
    refine SC.add (by simp) (os.length + 1) (by simp) [.s tTrue] (by simp [Pc.av]) (by simp; exact hP0.app _) (tTrue) (by simp [Pc.tx]) (by simp [Pc.ok]) (by simp) (by simp [hk]) hsz ?_
    rintro x H1 hp1 hv1 hl1
    simp -implicitDefEqProofs
    exact hp1
  · have hT : exT (.mk 3 nm tl ty num us pos) = tFalse := by simp [exT, nodeT, signT, he]
    rw [hT] at hsz ⊢
    refine AC.go hmix F_splain (by simp) ?_
    simp -implicitDefEqProofs [c_splain, exA, Ex.cells, evP, fillA, splice]
    refine SC.add (by simp) (os.length + 1) (by simp) [.s tFalse] (by simp [Pc.av]) (by simp; exact hP0.app _) (tFalse) (by simp [Pc.tx]) (by simp [Pc.ok]) (by simp) (by simp [hk]) hsz ?_
    rintro x H1 hp1 hv1 hl1
    simp -implicitDefEqProofs
    exact hp1
  · have hT : exT (.mk 4 nm tl ty num us pos) = tNil := by simp [exT, nodeT, signT, he]
    rw [hT] at hsz ⊢
    refine AC.go hmix F_splain (by simp) ?_
    simp -implicitDefEqProofs [c_splain, exA, Ex.cells, evP, fillA, splice]
    refine SC.add (by simp) (os.length + 1) (by simp) [.s tNil] (by simp [Pc.av]) (by simp; exact hP0.app _) (tNil) (by simp [Pc.tx]) (by simp [Pc.ok]) (by simp) (by simp [hk]) hsz ?_
    rintro x H1 hp1 hv1 hl1
    simp -implicitDefEqProofs
    exact hp1
  · have hT : exT (.mk 5 nm tl ty num us pos) = tFail ++ [32] ++ letter ty := by simp [exT, nodeT, signT, he]
    rw [hT] at hsz ⊢
    refine AC.go hmix F_splain (by simp) ?_
    simp -implicitDefEqProofs [c_splain, exA, Ex.cells, evP, fillA, splice]
    refine SC.add (by simp) (os.length + 1) (by simp) [.s (tFail ++ [32]), .ty ty] (by simp [Pc.av]) (by simp; exact hP0.app _) (tFail ++ [32] ++ letter ty) (by simp [Pc.tx]) (by simp [Pc.ok, h1]) (by simp) (by simp [hk, h1]) hsz ?_
    rintro x H1 hp1 hv1 hl1
    simp -implicitDefEqProofs
    exact hp1
  · have hT : exT (.mk 6 nm tl ty num us pos) = nm := by simp [exT, nodeT, signT, he]
    rw [hT] at hsz ⊢
    refine AC.go hmix F_splain (by simp) ?_
    simp -implicitDefEqProofs [c_splain, exA, Ex.cells, evP, fillA, splice]
    refine SC.add (by simp) (os.length + 1) (by simp) [.s nm] (by simp [Pc.av]) (by simp; exact hP0.app _) (nm) (by simp [Pc.tx]) (by simp [Pc.ok, h1]) (by simp) (by simp [hk, h1]) hsz ?_
    rintro x H1 hp1 hv1 hl1
    simp -implicitDefEqProofs
    exact hp1
  · have hT : exT (.mk 7 nm tl ty num us pos) = nm ++ ([40] ++ commas (us.map exT) ++ [41]) := by simp [exT, nodeT, signT, he]
    rw [hT] at hsz ⊢
    refine AC.go hmix F_splain (by simp) ?_
    simp -implicitDefEqProofs [c_splain, exA, Ex.cells, evP, fillA, splice]
    refine SC.pg (by simp) [sv (nm), exA (.mk 7 nm tl ty num us pos)] (by simp [exA, Ex.cells]) (hP0.app _) _ (hsc (nm) h1) (by simp) hsz (by simp [exA, Ex.cells]) ?_
    rintro x H1 hp1 hv1 hl1
    simp -implicitDefEqProofs
    exact hp1
  · have hT : exT (.mk 14 nm tl ty num us pos) = tNot ++ ([40] ++ commas (us.map exT) ++ [41]) := by simp [exT, nodeT, signT, he]
    rw [hT] at hsz ⊢
    refine AC.go hmix F_splain (by simp) ?_
    simp -implicitDefEqProofs [c_splain, exA, Ex.cells, evP, fillA, splice]
    refine SC.pg (by simp) [sv (tNot), exA (.mk 14 nm tl ty num us pos)] (by simp [exA, Ex.cells]) (hP0.app _) _ (hsc (tNot) (by simp)) (by simp) hsz (by simp [exA, Ex.cells]) ?_
    rintro x H1 hp1 hv1 hl1
    simp -implicitDefEqProofs
    exact hp1
  · have hT : exT (.mk 15 nm tl ty num us pos) = tRe ++ ([40] ++ commas (us.map exT) ++ [41]) := by simp [exT, nodeT, signT, he]
    rw [hT] at hsz ⊢
    refine AC.go hmix F_splain (by simp) ?_
    simp -implicitDefEqProofs [c_splain, exA, Ex.cells, evP, fillA, splice]
    refine SC.pg (by simp) [sv (tRe), exA (.mk 15 nm tl ty num us pos)] (by simp [exA, Ex.cells]) (hP0.app _) _ (hsc (tRe) (by simp)) (by simp) hsz (by simp [exA, Ex.cells]) ?_
    rintro x H1 hp1 hv1 hl1
    simp -implicitDefEqProofs
    exact hp1
  · have hT : exT (.mk 16 nm tl ty num us pos) = tIm ++ ([40] ++ commas (us.map exT) ++ [41]) := by simp [exT, nodeT, signT, he]
    rw [hT] at hsz ⊢
    refine AC.go hmix F_splain (by simp) ?_
    simp -implicitDefEqProofs [c_splain, exA, Ex.cells, evP, fillA, splice]
    refine SC.pg (by simp) [sv (tIm), exA (.mk 16 nm tl ty num us pos)] (by simp [exA, Ex.cells]) (hP0.app _) _ (hsc (tIm) (by simp)) (by simp) hsz (by simp [exA, Ex.cells]) ?_
    rintro x H1 hp1 hv1 hl1
    simp -implicitDefEqProofs
    exact hp1
  · have hT : exT (.mk 17 nm tl ty num us pos) = tConj ++ ([40] ++ commas (us.map exT) ++ [41]) := by simp [exT, nodeT, signT, he]
    rw [hT] at hsz ⊢
    refine AC.go hmix F_splain (by simp) ?_
    simp -implicitDefEqProofs [c_splain, exA, Ex.cells, evP, fillA, splice]
    refine SC.pg (by simp) [sv (tConj), exA (.mk 17 nm tl ty num us pos)] (by simp [exA, Ex.cells]) (hP0.app _) _ (hsc (tConj) (by simp)) (by simp) hsz (by simp [exA, Ex.cells]) ?_
    rintro x H1 hp1 hv1 hl1
    simp -implicitDefEqProofs
    exact hp1
  all_goals exact absurd hop (by decide)
def signB (op : Int) : List UInt8 := (signT op).1
set_option maxHeartbeats 8000000 in
theorem stwo_pg (op a b : Int) (nm tl : List UInt8) (ty : Int) (num : Int × Int) (x y : Ex) (pos : Int) (hop : op = 8 ∨ op = 9 ∨ op = 10 ∨ op = 11 ∨ op = 12 ∨ op = 13 ∨ op = 18) (hwx : wfX x) (hwy : wfX y) (hx : WrX x) (hy : WrX y) :
    PgC 29 [exA (.mk op nm tl ty num [x, y] pos), iv a, iv b] (exTw a x ++ (signB op ++ exTw b y)) := by
  intro l os hP hsz
  have hP0 := hP.at
  have hxn := exTw_ne hwx a
  have hyn := exTw_ne hwy b
  have hox := okL_cells x
  have hoy := okL_cells y
  have hlx : x.cells.length = 7 := by obtain ⟨op, nm, tl, ty, num, bs, pos⟩ := x; simp [Ex.cells]
  have hly : y.cells.length = 7 := by obtain ⟨op, nm, tl, ty, num, bs, pos⟩ := y; simp [Ex.cells]
  have h0 : (exsA [x, y]).take 7 = x.cells := by have := exsB_at (us := [x, y]) (k := 0) rfl; simpa using this
  have h7 : ((exsA [x, y]).drop 7).take 7 = y.cells := by have := exsB_at (us := [x, y]) (k := 1) rfl; simpa using this
  have hl : (exsA [x, y]).length = 14 := exsB_len _
  generalize hes : exsA [x, y] = es at *
  simp only [List.length_append] at hsz
  rcases hop with rfl | hop
  · have hsg : signB 8 = [32, 43, 32] := by simp [signB, signT]
    rw [hsg] at hsz ⊢
    simp only [List.length_cons, List.length_nil] at hsz
    refine AC.go hmix F_stwo (by simp) ?_
    simp -implicitDefEqProofs [c_stwo, exA, Ex.cells, hes, h0, hl, mset, mfind, mst, mget, evP, fillA, splice]
    refine SC.pg (by simp) [exA x, iv a] (by simp [exA]) (hP0.app _) _ (hx a) hxn (by omega) (by simp [exA, hox]) ?_
    rintro z H1 hp1 hv1 hl1
    have hv := hv1 os.length _ (by simp; rfl)
    simp -implicitDefEqProofs [hv, evP, fillA, splice, wrOb]
    refine SC.add (by simp) (H1.length + 1) (by simp) [.s [32, 43, 32]] (by simp [Pc.av]) (by simp; exact hp1.app _) [32, 43, 32] (by simp [Pc.tx]) (by simp [Pc.ok]) (by simp) (by simp) (by simp only [List.length_append, List.length_cons, List.length_nil]; omega) ?_
    rintro z H2 hp2 hv2 hl2
    have hvb := hv2 os.length _ (by rw [List.getElem?_append_left (List.getElem?_eq_some_iff.1 hv).1]; exact hv)
    simp -implicitDefEqProofs [hvb, h7, hl]
    refine SC.pg (by simp) [exA y, iv b] (by simp [exA]) hp2 _ (hy b) hyn (by simp only [List.length_append, List.length_cons, List.length_nil]; omega) (by simp [exA, hoy]) ?_
    rintro z H3 hp3 hv3 hl3
    simp -implicitDefEqProofs
    simpa using hp3
  rcases hop with rfl | hop
  · have hsg : signB 9 = [32, 45, 32] := by simp [signB, signT]
    rw [hsg] at hsz ⊢
    simp only [List.length_cons, List.length_nil] at hsz
    refine AC.go hmix F_stwo (by simp) ?_
    simp -implicitDefEqProofs [c_stwo, exA, Ex.cells, hes, h0, hl, mset, mfind, mst, mget, evP, fillA, splice]
    refine SC.pg (by simp) [exA x, iv a] (by simp [exA]) (hP0.app _) _ (hx a) hxn (by omega) (by simp [exA, hox]) ?_
    rintro z H1 hp1 hv1 hl1
    have hv := hv1 os.length _ (by simp; rfl)
    simp -implicitDefEqProofs [hv, evP, fillA, splice, wrOb]
    refine SC.add (by simp) (H1.length + 1) (by simp) [.s [32, 45, 32]] (by simp [Pc.av]) (by simp; exact hp1.app _) [32, 45, 32] (by simp [Pc.tx]) (by simp [Pc.ok]) (by simp) (by simp) (by simp only [List.length_append, List.length_cons, List.length_nil]; omega) ?_
    rintro z H2 hp2 hv2 hl2
    have hvb := hv2 os.length _ (by rw [List.getElem?_append_left (List.getElem?_eq_some_iff.1 hv).1]; exact hv)
    simp -implicitDefEqProofs [hvb, h7, hl]
    refine SC.pg (by simp) [exA y, iv b] (by simp [exA]) hp2 _ (hy b) hyn (by simp only [List.length_append, List.length_cons, List.length_nil]; omega) (by simp [exA, hoy]) ?_
    rintro z H3 hp3 hv3 hl3
    simp -implicitDefEqProofs
    simpa using hp3
  rcases hop with rfl | hop
  · have hsg : signB 10 = [32, 42, 32] := by simp [signB, signT]
    rw [hsg] at hsz ⊢
    simp only [List.length_cons, List.length_nil] at hsz
    refine AC.go hmix F_stwo (by simp) ?_
    simp -implicitDefEqProofs [c_stwo, exA, Ex.cells, hes, h0, hl, mset, mfind, mst, mget, evP, fillA, splice]
    refine SC.pg (by simp) [exA x, iv a] (by simp [exA]) (hP0.app _) _ (hx a) hxn (by omega) (by simp [exA, hox]) ?_
    rintro z H1 hp1 hv1 hl1
    have hv := hv1 os.length _ (by simp; rfl)
    simp -implicitDefEqProofs [hv, evP, fillA, splice, wrOb]
    refine SC.add (by simp) (H1.length + 1) (by simp) [.s [32, 42, 32]] (by simp [Pc.av]) (by simp; exact hp1.app _) [32, 42, 32] (by simp [Pc.tx]) (by simp [Pc.ok]) (by simp) (by simp) (by simp only [List.length_append, List.length_cons, List.length_nil]; omega) ?_
    rintro z H2 hp2 hv2 hl2
    have hvb := hv2 os.length _ (by rw [List.getElem?_append_left (List.getElem?_eq_some_iff.1 hv).1]; exact hv)
    simp -implicitDefEqProofs [hvb, h7, hl]
    refine SC.pg (by simp) [exA y, iv b] (by simp [exA]) hp2 _ (hy b) hyn (by simp only [List.length_append, List.length_cons, List.length_nil]; omega) (by simp [exA, hoy]) ?_
    rintro z H3 hp3 hv3 hl3
    simp -implicitDefEqProofs
    simpa using hp3
  rcases hop with rfl | hop
  · have hsg : signB 11 = [32, 47, 32] := by simp [signB, signT]
    rw [hsg] at hsz ⊢
    simp only [List.length_cons, List.length_nil] at hsz
    refine AC.go hmix F_stwo (by simp) ?_
    simp -implicitDefEqProofs [c_stwo, exA, Ex.cells, hes, h0, hl, mset, mfind, mst, mget, evP, fillA, splice]
    refine SC.pg (by simp) [exA x, iv a] (by simp [exA]) (hP0.app _) _ (hx a) hxn (by omega) (by simp [exA, hox]) ?_
    rintro z H1 hp1 hv1 hl1
    have hv := hv1 os.length _ (by simp; rfl)
    simp -implicitDefEqProofs [hv, evP, fillA, splice, wrOb]
    refine SC.add (by simp) (H1.length + 1) (by simp) [.s [32, 47, 32]] (by simp [Pc.av]) (by simp; exact hp1.app _) [32, 47, 32] (by simp [Pc.tx]) (by simp [Pc.ok]) (by simp) (by simp) (by simp only [List.length_append, List.length_cons, List.length_nil]; omega) ?_
    rintro z H2 hp2 hv2 hl2
    have hvb := hv2 os.length _ (by rw [List.getElem?_append_left (List.getElem?_eq_some_iff.1 hv).1]; exact hv)
    simp -implicitDefEqProofs [hvb, h7, hl]
    refine SC.pg (by simp) [exA y, iv b] (by simp [exA]) hp2 _ (hy b) hyn (by simp only [List.length_append, List.length_cons, List.length_nil]; omega) (by simp [exA, hoy]) ?_
    rintro z H3 hp3 hv3 hl3
    simp -implicitDefEqProofs
    simpa using hp3
  rcases hop with rfl | hop
  · have hsg : signB 12 = [32, 61, 61, 32] := by simp [signB, signT]
    rw [hsg] at hsz ⊢
    simp only [List.length_cons, List.length_nil] at hsz
    refine AC.go hmix F_stwo (by simp) ?_
    simp -implicitDefEqProofs [c_stwo, exA, Ex.cells, hes, h0, hl, mset, mfind, mst, mget, evP, fillA, splice]
    refine SC.pg (by simp) [exA x, iv a] (by simp [exA]) (hP0.app _) _ (hx a) hxn (by omega) (by simp [exA, hox]) ?_
    rintro z H1 hp1 hv1 hl1
    have hv := hv1 os.length _ (by simp; rfl)
    simp -implicitDefEqProofs [hv, evP, fillA, splice, wrOb]
    refine SC.add (by simp) (H1.length + 1) (by simp) [.s [32, 61, 61, 32]] (by simp [Pc.av]) (by simp; exact hp1.app _) [32, 61, 61, 32] (by simp [Pc.tx]) (by simp [Pc.ok]) (by simp) (by simp) (by simp only [List.length_append, List.length_cons, List.length_nil]; omega) ?_
    rintro z H2 hp2 hv2 hl2
    have hvb := hv2 os.length _ (by rw [List.getElem?_append_left (List.getElem?_eq_some_iff.1 hv).1]; exact hv)
    simp -implicitDefEqProofs [hvb, h7, hl]
    refine SC.pg (by simp) [exA y, iv b] (by simp [exA]) hp2 _ (hy b) hyn (by simp only [List.length_append, List.length_cons, List.length_nil]; omega) (by simp [exA, hoy]) ?_
    rintro z H3 hp3 hv3 hl3
    simp -implicitDefEqProofs
    simpa using hp3
  rcases hop with rfl | hop
  · have hsg : signB 13 = [32, 60, 32] := by simp [signB, signT]
    rw [hsg] at hsz ⊢
    simp only [List.length_cons, List.length_nil] at hsz
    refine AC.go hmix F_stwo (by simp) ?_
    simp -implicitDefEqProofs [c_stwo, exA, Ex.cells, hes, h0, hl, mset, mfind, mst, mget, evP, fillA, splice]
    refine SC.pg (by simp) [exA x, iv a] (by simp [exA]) (hP0.app _) _ (hx a) hxn (by omega) (by simp [exA, hox]) ?_
    rintro z H1 hp1 hv1 hl1
    have hv := hv1 os.length _ (by simp; rfl)
    simp -implicitDefEqProofs [hv, evP, fillA, splice, wrOb]
    refine SC.add (by simp) (H1.length + 1) (by simp) [.s [32, 60, 32]] (by simp [Pc.av]) (by simp; exact hp1.app _) [32, 60, 32] (by simp [Pc.tx]) (by simp [Pc.ok]) (by simp) (by simp) (by simp only [List.length_append, List.length_cons, List.length_nil]; omega) ?_
    rintro z H2 hp2 hv2 hl2
    have hvb := hv2 os.length _ (by rw [List.getElem?_append_left (List.getElem?_eq_some_iff.1 hv).1]; exact hv)
    simp -implicitDefEqProofs [hvb, h7, hl]
    refine SC.pg (by simp) [exA y, iv b] (by simp [exA]) hp2 _ (hy b) hyn (by simp only [List.length_append, List.length_cons, List.length_nil]; omega) (by simp [exA, hoy]) ?_
    rintro z H3 hp3 hv3 hl3
    simp -implicitDefEqProofs
    simpa using hp3
  subst hop
  · have hsg : signB 18 = [32, 58, 32] := by simp [signB, signT]
    rw [hsg] at hsz ⊢
    simp only [List.length_cons, List.length_nil] at hsz
    refine AC.go hmix F_stwo (by simp) ?_
    simp -implicitDefEqProofs [c_stwo, exA, Ex.cells, hes, h0, hl, mset, mfind, mst, mget, evP, fillA, splice]
    refine SC.pg (by simp) [exA x, iv a] (by simp [exA]) (hP0.app _) _ (hx a) hxn (by omega) (by simp [exA, hox]) ?_
    rintro z H1 hp1 hv1 hl1
    have hv := hv1 os.length _ (by simp; rfl)
    simp -implicitDefEqProofs [hv, evP, fillA, splice, wrOb]
    refine SC.add (by simp) (H1.length + 1) (by simp) [.s [32, 58, 32]] (by simp [Pc.av]) (by simp; exact hp1.app _) [32, 58, 32] (by simp [Pc.tx]) (by simp [Pc.ok]) (by simp) (by simp) (by simp only [List.length_append, List.length_cons, List.length_nil]; omega) ?_
    rintro z H2 hp2 hv2 hl2
    have hvb := hv2 os.length _ (by rw [List.getElem?_append_left (List.getElem?_eq_some_iff.1 hv).1]; exact hv)
    simp -implicitDefEqProofs [hvb, h7, hl]
    refine SC.pg (by simp) [exA y, iv b] (by simp [exA]) hp2 _ (hy b) hyn (by simp only [List.length_append, List.length_cons, List.length_nil]; omega) (by simp [exA, hoy]) ?_
    rintro z H3 hp3 hv3 hl3
    simp -implicitDefEqProofs
    simpa using hp3
end Go.Proofs.YtgddkgbidhhheaaDoor
/- Layer 5: what goes on as far as it can; every expression on the page. (printed by gen/sopen.py) -/
set_option linter.unusedVariables false
set_option linter.unusedSimpArgs false
set_option maxRecDepth 100000
namespace Go.Proofs.YtgddkgbidhhheaaDoor
open Go.RowKit Flo Ab Mk Pg
theorem brack0 (o : Int) (s : List UInt8) : brack (decide (levelN o < 0)) s = s := by
  rw [decide_eq_false (by have := (levelN_nn o).1; omega)]; rfl
theorem cells_deep (e : Ex) : e.cells.all deep1 = true := by
  obtain ⟨op, nm, tl, ty, num, bs, pos⟩ := e
  simp [Ex.cells]
theorem XC.add {base : Nat} {qs : List Nat} {F : Fr} {H : List Ob} {K : Fr → List Ob → Prop} {d : Option Nat} {args : List Opd} (ps : List Pc) (hx : evA F args = some [.ptr 0 0, .sl ps.length (ps.map Pc.av)]) {l : List UInt8} (hP : PgAt H 0 l) (hb : base = H.length) (t : List UInt8) (ht : ps.flatMap Pc.tx = t) (hok : ∀ p ∈ ps, p.ok) (hlen : ps.length ≤ 1000) (hnz : t ≠ []) (hsz : l.length + t.length ≤ 1073741824)
    (hK : ∀ (x : AV) (H' : List Ob), PgAt H' 0 (l ++ t) → (∀ (j : Nat) (cs : List AV), H[j]? = some (.var cs) → H'[j]? = some (.var cs)) → H.length ≤ H'.length → K (putF F d x) H') {a : Tag K} : XC Tryd.prog (.np Gv) base qs d 23 args F H K a := by
  subst ht
  exact XC.pg [.sl ps.length (ps.map Pc.av)] hx hP hb (fun _ _ h => h) _ (sadd_pg ps hlen hok) hnz hsz (by simp) hK
set_option maxHeartbeats 8000000 in
theorem sopen_pg (op : Int) (nm tl : List UInt8) (ty : Int) (num : Int × Int) (us : List Ex) (pos : Int) (hw : wfX (.mk op nm tl ty num us pos)) (hX : ∀ e ∈ us, WrX e) (hop : levelN op = 0) :
    PgC 28 [exA (.mk op nm tl ty num us pos)] (exT (.mk op nm tl ty num us pos)) := by
  intro l os hP hsz
  have hP0 := hP.at
  obtain ⟨⟨hk, hn⟩, hws⟩ := hw
  have hop' : op = 19 ∨ op = 20 ∨ op = 21 ∨ op = 22 := by
    unfold levelN at hop
    split at hop
    · rename_i h
      rcases h with h | h | h | h <;> simp [h]
    · exfalso
      repeat' split at hop
      all_goals omega
  rcases hop' with rfl | rfl | rfl | rfl
  · have h1 : us.length = 3 ∧ True := by rcases hn with h | h | h | h | h | h | h | h | h | h <;> simp_all
    obtain ⟨hul, hwf⟩ := h1
    obtain ⟨x, y, z, rfl⟩ : ∃ x y z, us = [x, y, z] := by
      match us, hul with
      | [a, b, c], _ => exact ⟨a, b, c, rfl⟩
    have hwx := wfXs_at (i := 0) hws rfl
    have hxx := (hX x (by simp)).pc hwx
    have hnx := exT_ne hwx
    have hdx := cells_deep x
    have hox := okL_cells x
    have hcx : ((exsA [x, y, z]).drop 0).take 7 = x.cells := by have := exsB_at (us := [x, y, z]) (k := 0) rfl; simpa using this
    have hwy := wfXs_at (i := 1) hws rfl
    have hxy := (hX y (by simp)).pc hwy
    have hny := exT_ne hwy
    have hdy := cells_deep y
    have hoy := okL_cells y
    have hcy : ((exsA [x, y, z]).drop 7).take 7 = y.cells := by have := exsB_at (us := [x, y, z]) (k := 1) rfl; simpa using this
    have hwz := wfXs_at (i := 2) hws rfl
    have hxz := (hX z (by simp)).pc hwz
    have hnz := exT_ne hwz
    have hdz := cells_deep z
    have hoz := okL_cells z
    have hcz : ((exsA [x, y, z]).drop 14).take 7 = z.cells := by have := exsB_at (us := [x, y, z]) (k := 2) rfl; simpa using this
    have hl : (exsA [x, y, z]).length = 21 := exsB_len _
    rw [List.drop_zero] at hcx
    have hT : exT (.mk 19 nm tl ty num [x, y, z] pos) = [105, 102, 32] ++ exT x ++ [32, 116, 104, 101, 110, 32] ++ exT y ++ [32, 101, 108, 115, 101, 32] ++ exT z := by simp [exT, exTs, nodeT, signT, brack0]
    rw [hT] at hsz ⊢
    generalize hes : exsA [x, y, z] = es at *
    refine AC.go hmix F_sopen (by simp) ?_
    simp -implicitDefEqProofs [c_sopen, exA, Ex.cells, hes, hcx, hcy, hcz, hl, evP, fillA, splice, dz, hdx, hdy, hdz]
    refine XC.add [.s [105, 102, 32], .x x, .s [32, 116, 104, 101, 110, 32], .x y, .s [32, 101, 108, 115, 101, 32], .x z] (by simp [Pc.av, exA]) (hP0.app _) (by simp) ([105, 102, 32] ++ exT x ++ [32, 116, 104, 101, 110, 32] ++ exT y ++ [32, 101, 108, 115, 101, 32] ++ exT z) (by simp [Pc.tx]) (by simp [Pc.ok, hwf, hxx, hxy, hxz] <;> (simp only [Pc.ok] at *; simp_all)) (by simp) (by simp) hsz ?_
    rintro w H1 hp1 hv1 hl1
    simp -implicitDefEqProofs
    simpa using hp1
  · have h1 : us.length = 3 ∧ (nm ≠ [] ∧ tl ≠ []) := by rcases hn with h | h | h | h | h | h | h | h | h | h <;> simp_all
    obtain ⟨hul, hwf⟩ := h1
    obtain ⟨x, y, z, rfl⟩ : ∃ x y z, us = [x, y, z] := by
      match us, hul with
      | [a, b, c], _ => exact ⟨a, b, c, rfl⟩
    have hwx := wfXs_at (i := 0) hws rfl
    have hxx := (hX x (by simp)).pc hwx
    have hnx := exT_ne hwx
    have hdx := cells_deep x
    have hox := okL_cells x
    have hcx : ((exsA [x, y, z]).drop 0).take 7 = x.cells := by have := exsB_at (us := [x, y, z]) (k := 0) rfl; simpa using this
    have hwy := wfXs_at (i := 1) hws rfl
    have hxy := (hX y (by simp)).pc hwy
    have hny := exT_ne hwy
    have hdy := cells_deep y
    have hoy := okL_cells y
    have hcy : ((exsA [x, y, z]).drop 7).take 7 = y.cells := by have := exsB_at (us := [x, y, z]) (k := 1) rfl; simpa using this
    have hwz := wfXs_at (i := 2) hws rfl
    have hxz := (hX z (by simp)).pc hwz
    have hnz := exT_ne hwz
    have hdz := cells_deep z
    have hoz := okL_cells z
    have hcz : ((exsA [x, y, z]).drop 14).take 7 = z.cells := by have := exsB_at (us := [x, y, z]) (k := 2) rfl; simpa using this
    have hl : (exsA [x, y, z]).length = 21 := exsB_len _
    rw [List.drop_zero] at hcx
    have hT : exT (.mk 20 nm tl ty num [x, y, z] pos) = [99, 97, 115, 101, 32] ++ exT x ++ [32, 111, 102, 32, 110, 105, 108, 32, 45, 62, 32] ++ exT y ++ [32, 124, 32] ++ nm ++ [58] ++ tl ++ [32, 45, 62, 32] ++ exT z := by simp [exT, exTs, nodeT, signT, brack0]
    rw [hT] at hsz ⊢
    generalize hes : exsA [x, y, z] = es at *
    refine AC.go hmix F_sopen (by simp) ?_
    simp -implicitDefEqProofs [c_sopen, exA, Ex.cells, hes, hcx, hcy, hcz, hl, evP, fillA, splice, dz, hdx, hdy, hdz]
    refine XC.add [.s [99, 97, 115, 101, 32], .x x, .s [32, 111, 102, 32, 110, 105, 108, 32, 45, 62, 32], .x y, .s [32, 124, 32], .s nm, .s [58], .s tl, .s [32, 45, 62, 32], .x z] (by simp [Pc.av, exA]) (hP0.app _) (by simp) ([99, 97, 115, 101, 32] ++ exT x ++ [32, 111, 102, 32, 110, 105, 108, 32, 45, 62, 32] ++ exT y ++ [32, 124, 32] ++ nm ++ [58] ++ tl ++ [32, 45, 62, 32] ++ exT z) (by simp [Pc.tx]) (by simp [Pc.ok, hwf, hxx, hxy, hxz] <;> (simp only [Pc.ok] at *; simp_all)) (by simp) (by simp) hsz ?_
    rintro w H1 hp1 hv1 hl1
    simp -implicitDefEqProofs
    simpa using hp1
  · have h1 : us.length = 2 ∧ (nm ≠ [] ∧ tyW ty) := by rcases hn with h | h | h | h | h | h | h | h | h | h <;> simp_all
    obtain ⟨hul, hwf⟩ := h1
    obtain ⟨x, y, rfl⟩ : ∃ x y, us = [x, y] := by
      match us, hul with
      | [a, b], _ => exact ⟨a, b, rfl⟩
    have hwx := wfXs_at (i := 0) hws rfl
    have hxx := (hX x (by simp)).pc hwx
    have hnx := exT_ne hwx
    have hdx := cells_deep x
    have hox := okL_cells x
    have hcx : ((exsA [x, y]).drop 0).take 7 = x.cells := by have := exsB_at (us := [x, y]) (k := 0) rfl; simpa using this
    have hwy := wfXs_at (i := 1) hws rfl
    have hxy := (hX y (by simp)).pc hwy
    have hny := exT_ne hwy
    have hdy := cells_deep y
    have hoy := okL_cells y
    have hcy : ((exsA [x, y]).drop 7).take 7 = y.cells := by have := exsB_at (us := [x, y]) (k := 1) rfl; simpa using this
    have hl : (exsA [x, y]).length = 14 := exsB_len _
    rw [List.drop_zero] at hcx
    have hT : exT (.mk 21 nm tl ty num [x, y] pos) = [108, 101, 116, 32] ++ nm ++ [32] ++ letter ty ++ [32, 61, 32] ++ exT x ++ [32, 105, 110, 32] ++ exT y := by simp [exT, exTs, nodeT, signT, brack0]
    rw [hT] at hsz ⊢
    generalize hes : exsA [x, y] = es at *
    refine AC.go hmix F_sopen (by simp) ?_
    simp -implicitDefEqProofs [c_sopen, exA, Ex.cells, hes, hcx, hcy, hl, evP, fillA, splice, dz, hdx, hdy]
    refine XC.add [.s [108, 101, 116, 32], .s nm, .s [32], .ty ty, .s [32, 61, 32], .x x, .s [32, 105, 110, 32], .x y] (by simp [Pc.av, exA]) (hP0.app _) (by simp) ([108, 101, 116, 32] ++ nm ++ [32] ++ letter ty ++ [32, 61, 32] ++ exT x ++ [32, 105, 110, 32] ++ exT y) (by simp [Pc.tx]) (by simp [Pc.ok, hwf, hxx, hxy] <;> (simp only [Pc.ok] at *; simp_all)) (by simp) (by simp) hsz ?_
    rintro w H1 hp1 hv1 hl1
    simp -implicitDefEqProofs
    simpa using hp1
  · have h1 : us.length = 2 ∧ (nm ≠ [] ∧ tyW ty) := by rcases hn with h | h | h | h | h | h | h | h | h | h <;> simp_all
    obtain ⟨hul, hwf⟩ := h1
    obtain ⟨x, y, rfl⟩ : ∃ x y, us = [x, y] := by
      match us, hul with
      | [a, b], _ => exact ⟨a, b, rfl⟩
    have hwx := wfXs_at (i := 0) hws rfl
    have hxx := (hX x (by simp)).pc hwx
    have hnx := exT_ne hwx
    have hdx := cells_deep x
    have hox := okL_cells x
    have hcx : ((exsA [x, y]).drop 0).take 7 = x.cells := by have := exsB_at (us := [x, y]) (k := 0) rfl; simpa using this
    have hwy := wfXs_at (i := 1) hws rfl
    have hxy := (hX y (by simp)).pc hwy
    have hny := exT_ne hwy
    have hdy := cells_deep y
    have hoy := okL_cells y
    have hcy : ((exsA [x, y]).drop 7).take 7 = y.cells := by have := exsB_at (us := [x, y]) (k := 1) rfl; simpa using this
    have hl : (exsA [x, y]).length = 14 := exsB_len _
    rw [List.drop_zero] at hcx
    have hT : exT (.mk 22 nm tl ty num [x, y] pos) = [115, 116, 114, 105, 99, 116, 32] ++ nm ++ [32] ++ letter ty ++ [32, 61, 32] ++ exT x ++ [32, 105, 110, 32] ++ exT y := by simp [exT, exTs, nodeT, signT, brack0]
    rw [hT] at hsz ⊢
    generalize hes : exsA [x, y] = es at *
    refine AC.go hmix F_sopen (by simp) ?_
    simp -implicitDefEqProofs [c_sopen, exA, Ex.cells, hes, hcx, hcy, hl, evP, fillA, splice, dz, hdx, hdy]
    refine XC.add [.s [115, 116, 114, 105, 99, 116, 32], .s nm, .s [32], .ty ty, .s [32, 61, 32], .x x, .s [32, 105, 110, 32], .x y] (by simp [Pc.av, exA]) (hP0.app _) (by simp) ([115, 116, 114, 105, 99, 116, 32] ++ nm ++ [32] ++ letter ty ++ [32, 61, 32] ++ exT x ++ [32, 105, 110, 32] ++ exT y) (by simp [Pc.tx]) (by simp [Pc.ok, hwf, hxx, hxy] <;> (simp only [Pc.ok] at *; simp_all)) (by simp) (by simp) hsz ?_
    rintro w H1 hp1 hv1 hl1
    simp -implicitDefEqProofs
    simpa using hp1
/-- an expression whose parts are written: at a level that needs no brackets -/
theorem SC.apf {G : World → Prop} {N : Nat} {F : Fr} {H : List Ob} {K : Fr → List Ob → Prop} {d : Option Nat} (hdN : ∀ t, d = some t → t < N) {f : FuncId} {args : List Opd} (z : Value) (hx : evA F args = some [.v z]) {y : AV} (hz : ∀ n c, z ≠ .slice none n c)
    (hA : AP Tryd.prog G f [.v z] (fun x => x = y)) (hK : K (putF F d y) H) {a : Tag K} : SC Tryd.prog (.np G) N d f args F H K a := by
  have hf : frzT H [.v z] = (H, [.v z]) := by
    cases z with
    | slice p n c => cases p <;> first | exact absurd rfl (hz n c) | rfl
    | _ => rfl
  refine SC.frz hdN [.v z] hx (post := fun x => x = y) (by rw [hf]; exact hA) (by rw [hf]; rfl) (fun x hx => ?_)
  subst hx
  rw [hf]; exact hK
set_option maxHeartbeats 8000000 in
theorem sexpr_low (op : Int) (nm tl : List UInt8) (ty : Int) (num : Int × Int) (us : List Ex) (pos : Int) (hw : wfX (.mk op nm tl ty num us pos)) (hX : ∀ e ∈ us, WrX e) (w : Int) (hwl : w ≤ levelN op) :
    PgC 15 [exA (.mk op nm tl ty num us pos), iv w] (exT (.mk op nm tl ty num us pos)) := by
  intro l os hP hsz
  have hP0 := hP.at
  have hlv := slevel_ap (G := Gv) op
  have hne := exT_ne hw
  have hopen := sopen_pg op nm tl ty num us pos hw hX
  have hplain := splain_pg op nm tl ty num us pos hw hX
  have hnlt : ¬ levelN op < w := by omega
  -- two operands
  have htwo : ∀ a b : Int, levelN op = 1 ∨ levelN op = 2 ∨ levelN op = 3 ∨ levelN op = 4 → signT op = (signB op, a, b) → PgC 29 [exA (.mk op nm tl ty num us pos), iv a, iv b] (exT (.mk op nm tl ty num us pos)) := fun a b hl hs => by
    obtain ⟨⟨hk, hn⟩, hws⟩ := hw
    have hop : (op = 8 ∨ op = 9 ∨ op = 10 ∨ op = 11 ∨ op = 12 ∨ op = 13 ∨ op = 18) ∧ us.length = 2 := by
      rcases hn with ⟨rfl, h1⟩ | (rfl | rfl | rfl) | ⟨rfl, h1⟩ | ⟨rfl, h1⟩ | ⟨rfl, h1⟩ | (rfl | rfl | rfl | rfl) | h1 | ⟨rfl, h1⟩ | ⟨rfl, h1⟩ | ⟨rfl | rfl, h1⟩
      all_goals first | exact h1 | (exfalso; revert hl; decide)
    obtain ⟨hop, hul⟩ := hop
    obtain ⟨x, y, rfl⟩ : ∃ x y, us = [x, y] := by
      match us, hul with
      | [a, b], _ => exact ⟨a, b, rfl⟩
    have hT : exT (.mk op nm tl ty num [x, y] pos) = exTw a x ++ (signB op ++ exTw b y) := by
      have hsn : (signT op).1 ≠ [] := by rcases hop with rfl | rfl | rfl | rfl | rfl | rfl | rfl <;> simp [signT]
      simp only [exT, exTs, nodeT]
      rw [if_pos hsn, hs]
      simp [exTw]
    rw [hT]
    exact stwo_pg op a b nm tl ty num x y pos hop (wfXs_at (i := 0) hws rfl) (wfXs_at (i := 1) hws rfl) (hX x (by simp)) (hX y (by simp))
  have hlvs : levelN op = 0 ∨ levelN op = 1 ∨ levelN op = 2 ∨ levelN op = 3 ∨ levelN op = 4 ∨ levelN op = 5 := by
    unfold levelN
    repeat' split
    all_goals omega
  have hsig : (levelN op = 1 → signT op = (signB op, 2, 1)) ∧ (levelN op = 2 → signT op = (signB op, 3, 3)) ∧ (levelN op = 3 → signT op = (signB op, 3, 4)) ∧ (levelN op = 4 → signT op = (signB op, 4, 5)) := by
    refine ⟨fun h => ?_, fun h => ?_, fun h => ?_, fun h => ?_⟩
    all_goals
      unfold levelN at h
      have hopq : op = 18 ∨ op = 12 ∨ op = 13 ∨ op = 8 ∨ op = 9 ∨ op = 10 ∨ op = 11 := by
        repeat' split at h
        all_goals omega
      rcases hopq with rfl | rfl | rfl | rfl | rfl | rfl | rfl <;> first | rfl | (exfalso; revert h; decide)
  refine AC.go hmix F_sexpr (by simp) ?_
  simp -implicitDefEqProofs [c_sexpr, exA, Ex.cells]
  refine SC.apf (by simp) (.int .i64 op) (by simp) (by simp) hlv ?_
  simp -implicitDefEqProofs [hnlt]
  refine SC.apf (by simp) (.int .i64 op) (by simp) (by simp) hlv ?_
  rcases hlvs with hl | hl | hl | hl | hl | hl
  · simp -implicitDefEqProofs [hl]
    refine SC.pg (by simp) [exA (.mk op nm tl ty num us pos)] (by simp [exA, Ex.cells]) (hP0.app _) _ (hopen hl) hne hsz (by simp [exA, Ex.cells]) ?_
    rintro x H1 hp1 hv1 hl1
    simp -implicitDefEqProofs
    exact hp1
  · simp -implicitDefEqProofs [hl]
    refine SC.pg (by simp) [exA (.mk op nm tl ty num us pos), iv 2, iv 1] (by simp [exA, Ex.cells]) (hP0.app _) _ (htwo 2 1 (by omega) (hsig.1 hl)) hne hsz (by simp [exA, Ex.cells]) ?_
    rintro x H1 hp1 hv1 hl1
    simp -implicitDefEqProofs
    exact hp1
  · simp -implicitDefEqProofs [hl]
    refine SC.pg (by simp) [exA (.mk op nm tl ty num us pos), iv 3, iv 3] (by simp [exA, Ex.cells]) (hP0.app _) _ (htwo 3 3 (by omega) (hsig.2.1 hl)) hne hsz (by simp [exA, Ex.cells]) ?_
    rintro x H1 hp1 hv1 hl1
    simp -implicitDefEqProofs
    exact hp1
  · have hw4 : IntKind.i64.wrap 4 = 4 := wrap64 _ (by omega)
    simp -implicitDefEqProofs [hl, hw4]
    refine SC.pg (by simp) [exA (.mk op nm tl ty num us pos), iv 3, iv 4] (by simp [exA, Ex.cells, hw4]) (hP0.app _) _ (htwo 3 4 (by omega) (hsig.2.2.1 hl)) hne hsz (by simp [exA, Ex.cells]) ?_
    rintro x H1 hp1 hv1 hl1
    simp -implicitDefEqProofs
    exact hp1
  · have hw5 : IntKind.i64.wrap 5 = 5 := wrap64 _ (by omega)
    simp -implicitDefEqProofs [hl, hw5]
    refine SC.pg (by simp) [exA (.mk op nm tl ty num us pos), iv 4, iv 5] (by simp [exA, Ex.cells, hw5]) (hP0.app _) _ (htwo 4 5 (by omega) (hsig.2.2.2 hl)) hne hsz (by simp [exA, Ex.cells]) ?_
    rintro x H1 hp1 hv1 hl1
    simp -implicitDefEqProofs
    exact hp1
  · simp -implicitDefEqProofs [hl]
    refine SC.pg (by simp) [exA (.mk op nm tl ty num us pos)] (by simp [exA, Ex.cells]) (hP0.app _) _ (hplain hl) hne hsz (by simp [exA, Ex.cells]) ?_
    rintro x H1 hp1 hv1 hl1
    simp -implicitDefEqProofs
    exact hp1
set_option maxHeartbeats 8000000 in
theorem sexpr_pg (op : Int) (nm tl : List UInt8) (ty : Int) (num : Int × Int) (us : List Ex) (pos : Int) (hw : wfX (.mk op nm tl ty num us pos)) (hX : ∀ e ∈ us, WrX e) : WrX (.mk op nm tl ty num us pos) := by
  intro w
  by_cases hlt : levelN op < w
  · have hT : exTw w (.mk op nm tl ty num us pos) = [40] ++ exT (.mk op nm tl ty num us pos) ++ [41] := by
      unfold exTw brack
      rw [decide_eq_true (by exact hlt)]; rfl
    have hin := sexpr_low op nm tl ty num us pos hw hX 0 (levelN_nn op).1
    have hne := exT_ne hw
    have hok : (Pc.x (.mk op nm tl ty num us pos)).ok := ⟨hne, hin⟩
    intro l os hP hsz
    have hP0 := hP.at
    rw [hT] at hsz ⊢
    have hlv := slevel_ap (G := Gv) op
    refine AC.go hmix F_sexpr (by simp) ?_
    simp -implicitDefEqProofs [c_sexpr, exA, Ex.cells]
    refine SC.apf (by simp) (.int .i64 op) (by simp) (by simp) hlv ?_
    simp -implicitDefEqProofs [hlt, evP, fillA, splice]
    refine SC.add (by simp) (os.length + 1) (by simp) [.s [40], .x (.mk op nm tl ty num us pos), .s [41]] (by simp [Pc.av, exA, Ex.cells]) (by simp; exact hP0.app _) ([40] ++ exT (.mk op nm tl ty num us pos) ++ [41]) (by simp [Pc.tx]) (by
      intro p hp
      simp only [List.mem_cons, List.not_mem_nil, or_false] at hp
      rcases hp with rfl | rfl | rfl
      · simp [Pc.ok]
      · exact hok
      · simp [Pc.ok]) (by simp) (by simp) hsz ?_
    rintro x H1 hp1 hv1 hl1
    simp -implicitDefEqProofs
    simpa using hp1
  · have hT : exTw w (.mk op nm tl ty num us pos) = exT (.mk op nm tl ty num us pos) := by
      unfold exTw brack
      rw [decide_eq_false (by exact hlt)]; rfl
    rw [hT]
    exact sexpr_low op nm tl ty num us pos hw hX w (by omega)
mutual
theorem sexpr_all : ∀ (e : Ex), wfX e → WrX e
  | .mk op nm tl ty num us pos, hw => sexpr_pg op nm tl ty num us pos hw (sexpr_alls us hw.2)
theorem sexpr_alls : ∀ (us : List Ex), wfXs us → ∀ e ∈ us, WrX e
  | [], _, e, h => by simp at h
  | u :: r, hw, e, h => by
    rcases List.mem_cons.1 h with he | h
    · rw [he]; exact sexpr_all u hw.1
    · exact sexpr_alls r hw.2 e h
end
end Go.Proofs.YtgddkgbidhhheaaDoor
/- The reference parser: expressions of two operands; words; what the methods do once there is a fault. -/
set_option linter.unusedVariables false
set_option linter.unusedSimpArgs false
set_option maxRecDepth 100000
namespace Go.Proofs.YtgddkgbidhhheaaDoor
open Go.RowKit Flo Ab Mk Pg
section
variable {G : World → Prop}
theorem zeroE_cells : Ex.zero.cells = [iv 0, sv [], sv [], iv 0, cv 0 0, .sl 0 [], iv 0] := by simp [Ex.zero, Ex.cells, exsA, W0]
theorem ptwo_ap (op : Int) (a b : Ex) (m : M) : AP Tryd.prog G 70 [iv op, exA a, exA b, .agg (mcells m)] (fun x => x = exA (two op a b m.pos)) := by
  obtain ⟨ao, an, at', aty, anum, aargs, apos⟩ := a
  obtain ⟨bo, bn, bt, bty, bnum, bargs, bpos⟩ := b
  refine AP.go hmix F_ptwo (by simp) ?_
  simp -implicitDefEqProofs [c_ptwo, exA, Ex.cells, mcells, two, exsA, W0, evP, fillA, wrOb, splice]
def wordN (s : List UInt8) : Int := if s = tTrue then 2 else if s = tFalse then 3 else if s = tNil then 4 else if s = tFail then 5 else if s = tNot then 14 else if s = tRe then 15 else if s = tIm then 16 else if s = tConj then 17 else 0
theorem pword_ap (s : List UInt8) : AP Tryd.prog G 95 [sv s] (fun x => x = iv (wordN s)) := by
  refine AP.go hmix F_pword (by simp) ?_
  unfold wordN
  by_cases h1 : s = tTrue
  · simp -implicitDefEqProofs [c_pword, h1]
  by_cases h2 : s = tFalse
  · simp -implicitDefEqProofs [c_pword, h2]
  by_cases h3 : s = tNil
  · simp -implicitDefEqProofs [c_pword, h3]
  by_cases h4 : s = tFail
  · simp -implicitDefEqProofs [c_pword, h4]
  by_cases h5 : s = tNot
  · simp -implicitDefEqProofs [c_pword, h5]
  by_cases h6 : s = tRe
  · simp -implicitDefEqProofs [c_pword, h6]
  by_cases h7 : s = tIm
  · simp -implicitDefEqProofs [c_pword, h7]
  by_cases h8 : s = tConj
  · simp -implicitDefEqProofs [c_pword, h8]
  have e : ∀ t : List UInt8, s ≠ t → (s == t) = false := fun t ht => beq_eq_false_iff_ne.2 ht
  simp -implicitDefEqProofs [c_pword, h1, h2, h3, h4, h5, h6, h7, h8, e _ h1, e _ h2, e _ h3, e _ h4, e _ h5, e _ h6, e _ h7, e _ h8]
/-- once there is a fault -/
def BadC (G : World → Prop) (f : Nat) (all : List M) (l : Lim) : Prop := ∀ (a : Nat) (w p n : Int), a < all.length → w ≠ 0 → AM Tryd.prog G f [.ptr 0 0] (rdr all l a w p n) (fun x cs => ∃ e : Ex, x = exA e ∧ cs = rdr all l a w p n)
theorem is_bad (all : List M) (l : Lim) {a : Nat} {w p n : Int} (ha : a < all.length) (hw : w ≠ 0) (s : List UInt8) : AM Tryd.prog G 53 [.ptr 0 0, sv s] (rdr all l a w p n) (fun x cs => x = bv false ∧ cs = rdr all l a w p n) := by
  have := ris_ap (G := G) all l a w p n s (List.getElem?_eq_getElem ha)
  simpa [hw] using this
theorem expr_bad (all : List M) (l : Lim) : BadC G 55 all l := by
  intro a w p n ha hw
  have h : all[a]? = some all[a] := List.getElem?_eq_getElem ha
  refine AM.go hmix F_pexpr (by simp) ?_
  simp -implicitDefEqProofs [c_pexpr]
  refine SC.rd (by simp) [.ptr 0 0] (by simp) (all := all) (l := l) (a := a) (why := w) (wh := p) (n := n) (by simp) (rnext_ap all l a w p n h) (by simp [toO]) ⟨0, by simp⟩ (by simp [lentO]) ?_ (tg := .mk)
  rintro x cs - ⟨rfl, rfl⟩
  simp -implicitDefEqProofs [mcells, wrOb, splice]
  refine SC.rd (by simp) [.ptr 0 0, sv tLet] (by simp) (all := all) (l := l) (a := a) (why := w) (wh := p) (n := n) (by simp) (is_bad all l ha hw tLet) (by simp [toO]) ⟨0, by simp⟩ (by simp [lentO]) ?_ (tg := .mk)
  rintro x cs - ⟨rfl, rfl⟩
  simp -implicitDefEqProofs
  refine SC.rd (by simp) [.ptr 0 0, sv tStrict] (by simp) (all := all) (l := l) (a := a) (why := w) (wh := p) (n := n) (by simp) (is_bad all l ha hw tStrict) (by simp [toO]) ⟨0, by simp⟩ (by simp [lentO]) ?_ (tg := .mk)
  rintro x cs - ⟨rfl, rfl⟩
  simp -implicitDefEqProofs
  refine SC.rd (by simp) [.ptr 0 0, sv tCase] (by simp) (all := all) (l := l) (a := a) (why := w) (wh := p) (n := n) (by simp) (is_bad all l ha hw tCase) (by simp [toO]) ⟨0, by simp⟩ (by simp [lentO]) ?_ (tg := .mk)
  rintro x cs - ⟨rfl, rfl⟩
  simp -implicitDefEqProofs [rdr, hw, evP, fillA, wrOb, splice, finM]
  exact ⟨Ex.zero, by rw [exA, zeroE_cells]⟩
end
end Go.Proofs.YtgddkgbidhhheaaDoor
