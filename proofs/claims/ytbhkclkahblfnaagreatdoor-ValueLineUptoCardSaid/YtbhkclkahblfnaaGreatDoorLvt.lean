/- The statements ValueTexts, ValueBack and ValueLine, as runs. -/
import Derived.Test.YtbhkclkahblfnaaGreatDoorOpv
set_option linter.unusedVariables false
set_option linter.unusedSimpArgs false
set_option maxRecDepth 100000
namespace Go.Proofs.YtbhkclkahblfnaaGreatDoor
open Go.ChangeShapes Go.WideShapes Go.ChangeAt Go.RowKit Ab
section
variable {H : Type} {enc : TypeId × Value → H} {W : World} {base : Nat}
theorem rd_struct {t : TypeId} {fs : Array Field} {v : Value} {d : DataW H} {p : List MemPlace} (hu : Tryz.prog.underlying t = some (.struct fs)) (hp : plainT Tryz.prog 8 t = true) (hv : Value.okWide Tryz.prog W .any base t v) (h : DataW.Trod enc Tryz.prog W 0 (fun _ => true) true t v d p) :
    RD W (fun _ => False) (.agg (absD d)) v := by
  obtain ⟨us, rfl, _⟩ := okWide_struct hu hv
  obtain ⟨fuel, hf⟩ := h
  have := trod_rd (M := fun _ => False) (fun _ h => h) fuel 8 t _ d p hp hf
  have e : us = us.toList.toArray := by simp
  rw [e]
  exact .agg _ us.toList this.len this.one this.at'
theorem rd_slice {t e : TypeId} {v : Value} {d : DataW H} {p : List MemPlace} {x : AV} (hu : Tryz.prog.underlying t = some (.slice e)) (hp : plainT Tryz.prog 8 t = true) (hv : Value.okWide Tryz.prog W .any base t v) (h : DataW.Trod enc Tryz.prog W 0 (fun _ => true) true t v d p) (hx : absD d = [x]) :
    RD W (fun _ => False) x v := by
  obtain ⟨a, n, c, rfl⟩ := okWide_slice hu hv
  obtain ⟨fuel, hf⟩ := h
  have := trod_rd (M := fun _ => False) (fun _ h => h) fuel 8 t _ d p hp hf
  rw [hx] at this
  exact this.at' 0 x _ rfl rfl
theorem plain_val : plainT Tryz.prog 8 26 = true := by kernel_rfl
theorem plain_vals : plainT Tryz.prog 8 54 = true := by kernel_rfl
theorem plain_bytes : plainT Tryz.prog 8 55 = true := by kernel_rfl
theorem arg_val {v : Value} {d : DataW H} {p : List MemPlace} (hv : Value.okWide Tryz.prog W .any base 26 v) (h : DataW.Trod enc Tryz.prog W 0 (fun _ => true) true 26 v d p) :
    ∃ a : Vx, RD W (fun _ => False) a.av v ∧ 8 + 4 * a.l.length ≤ Rows.uptoBulk d := by
  have hr := rd_struct Tryz.underlying26 plain_val hv h
  obtain ⟨fuel, hf⟩ := h
  obtain ⟨a, h1, h2⟩ := open_val hf
  simp only at h1 h2
  rw [h1] at hr
  exact ⟨a, hr, h2⟩
def wtX (l : List Vx) : Nat := (l.map fun a => 8 + 4 * a.l.length).sum
theorem open_vals : ∀ (es : List (DataW H × List MemPlace)), (∀ x ∈ es, ∃ f cs', DataW.trod enc Tryz.prog W 0 (fun _ => true) true f 26 cs' = some x) → ∃ l : List Vx, absDs (es.map (·.1)) = vxA l ∧ l.length = es.length ∧ wtX l ≤ Rows.uptoBulkAll (es.map (·.1))
  | [], _ => ⟨[], rfl, rfl, Nat.le_refl _⟩
  | x :: es, h => by
    obtain ⟨f, cs', hx⟩ := h x (by simp)
    obtain ⟨n, hn, hb⟩ := open_val hx
    obtain ⟨l, h1, h2, h3⟩ := open_vals es (fun y hy => h y (by simp [hy]))
    refine ⟨n :: l, ?_, by simp [h2], ?_⟩
    · simp only [List.map_cons, absDs, hn, h1]; rfl
    · simp only [wtX] at h3
      simp only [List.map_cons, Rows.uptoBulkAll, wtX, List.sum_cons]; omega
theorem arg_vals {v : Value} {d : DataW H} {p : List MemPlace} (hv : Value.okWide Tryz.prog W .any base 54 v) (h : DataW.Trod enc Tryz.prog W 0 (fun _ => true) true 54 v d p) :
    ∃ l : List Vx, RD W (fun _ => False) (.sl l.length (vxA l)) v ∧ wtX l ≤ Rows.uptoBulk d := by
  obtain ⟨fuel, hf⟩ := id h
  rcases trod_sliceD Tryz.underlying54 hf with hz | ⟨es, rest, f', hs, hes⟩
  · simp only at hz
    refine ⟨[], rd_slice Tryz.underlying54 plain_vals hv h ?_, ?_⟩
    · rw [hz]; rfl
    · rw [hz]; simp [wtX]
  · simp only at hs
    obtain ⟨l, h1, h2, h3⟩ := open_vals es (fun x hx => by obtain ⟨cs', h⟩ := hes x hx; exact ⟨f', cs', h⟩)
    refine ⟨l, rd_slice Tryz.underlying54 plain_vals hv h ?_, ?_⟩
    · rw [hs]; simp [absD, h1, h2]
    · rw [hs]; simp only [Rows.uptoBulk]; omega
theorem open_bytes : ∀ (es : List (DataW H × List MemPlace)), (∀ x ∈ es, ∃ f cs', DataW.trod enc Tryz.prog W 0 (fun _ => true) true f 5 cs' = some x) → ∃ l : List UInt8, absDs (es.map (·.1)) = l.map byA ∧ l.length = es.length ∧ l.length ≤ Rows.uptoBulkAll (es.map (·.1))
  | [], _ => ⟨[], rfl, rfl, Nat.le_refl _⟩
  | x :: es, h => by
    obtain ⟨f, cs', hx⟩ := h x (by simp)
    obtain ⟨n, hn, hw⟩ := trod_intD Tryz.underlying5 hx
    obtain ⟨l, h1, h2, h3⟩ := open_bytes es (fun y hy => h y (by simp [hy]))
    have hb : 0 ≤ n ∧ n < 256 := by
      have e1 : IntKind.u8.min = 0 := rfl
      have e2 : IntKind.u8.max = 255 := rfl
      simp only [Lit.wf, Bool.and_eq_true, decide_eq_true_eq] at hw
      omega
    refine ⟨UInt8.ofNat n.toNat :: l, ?_, by simp [h2], ?_⟩
    · have e : byA (UInt8.ofNat n.toNat) = .v (.int .u8 n) := by
        unfold byA
        congr 2
        rw [UInt8.toNat_ofNat']
        omega
      simp only [List.map_cons, absDs, hn, h1, absD, e]; rfl
    · have := bys_bulk_one x.1
      simp only [List.map_cons, Rows.uptoBulkAll, List.length_cons]; omega
theorem arg_bytes {v : Value} {d : DataW H} {p : List MemPlace} (hv : Value.okWide Tryz.prog W .any base 55 v) (h : DataW.Trod enc Tryz.prog W 0 (fun _ => true) true 55 v d p) :
    ∃ l : List UInt8, RD W (fun _ => False) (.sl l.length (l.map byA)) v ∧ l.length ≤ Rows.uptoBulk d := by
  obtain ⟨fuel, hf⟩ := id h
  rcases trod_sliceD Tryz.underlying55 hf with hz | ⟨es, rest, f', hs, hes⟩
  · simp only at hz
    refine ⟨[], rd_slice Tryz.underlying55 plain_bytes hv h ?_, by simp⟩
    rw [hz]; rfl
  · simp only at hs
    obtain ⟨l, h1, h2, h3⟩ := open_bytes es (fun x hx => by obtain ⟨cs', h⟩ := hes x hx; exact ⟨f', cs', h⟩)
    refine ⟨l, rd_slice Tryz.underlying55 plain_bytes hv h ?_, ?_⟩
    · rw [hs]; simp [absD, h1, h2]
    · rw [hs]; simp only [Rows.uptoBulk]; omega
theorem arg_str {v : Value} {d : DataW H} {p : List MemPlace} (hv : Value.okWide Tryz.prog W .any base 9 v) (h : DataW.Trod enc Tryz.prog W 0 (fun _ => true) true 9 v d p) :
    ∃ l : List UInt8, RD W (fun _ => False) (sv l) v ∧ l.length ≤ Rows.uptoBulk d := by
  obtain ⟨s, rfl⟩ := okWide_string Tryz.underlying9 hv
  obtain ⟨fuel, hf⟩ := h
  obtain ⟨s', h, hx, hs⟩ := DataW.trod_string Tryz.underlying9 hf
  simp [Value.cells] at h
  subst h
  cases hx
  refine ⟨s.data.toList, .v _ rfl, ?_⟩
  simp only [Rows.uptoBulk]; omega
theorem two_args {x y : AV} {u v : Value} (h1 : RD W (fun _ => False) x u) (h2 : RD W (fun _ => False) y v) : #[u, v].size = [x, y].length ∧ ∀ (j : Nat) (z : AV), [x, y][j]? = some z → ∃ w, #[u, v][j]? = some w ∧ RD W (fun _ => False) z w := by
  refine ⟨rfl, fun j z hz => ?_⟩
  match j, hz with
  | 0, rfl => exact ⟨u, rfl, h1⟩
  | 1, rfl => exact ⟨v, rfl, h2⟩
theorem three_args {x y z : AV} {u v w : Value} (h1 : RD W (fun _ => False) x u) (h2 : RD W (fun _ => False) y v) (h3 : RD W (fun _ => False) z w) : #[u, v, w].size = [x, y, z].length ∧ ∀ (j : Nat) (q : AV), [x, y, z][j]? = some q → ∃ r, #[u, v, w][j]? = some r ∧ RD W (fun _ => False) q r := by
  refine ⟨rfl, fun j q hq => ?_⟩
  match j, hq with
  | 0, rfl => exact ⟨u, rfl, h1⟩
  | 1, rfl => exact ⟨v, rfl, h2⟩
  | 2, rfl => exact ⟨w, rfl, h3⟩
theorem valueTexts_any {v0 v1 : Value} {d0 d1 : DataW H} {p0 p1 : List MemPlace} (hk : Rows.uptoBulk d0 + (Rows.uptoBulk d1 + 0) ≤ 1048576) (o0 : Value.okWide Tryz.prog W .any base 26 v0) (h0 : DataW.Trod enc Tryz.prog W 0 (fun _ => true) true 26 v0 d0 p0)
    (o1 : Value.okWide Tryz.prog W .any base 26 v1) (h1 : DataW.Trod enc Tryz.prog W 0 (fun _ => true) true 26 v1 d1 p1) (hG : Gv W) :
    Calls Tryz.prog 3 #[v0, v1] W fun e W' => e = .returned (.bool true) ∧ Below W.heap.size W W' := by
  obtain ⟨a, r0, b0⟩ := arg_val o0 h0
  obtain ⟨b, r1, b1⟩ := arg_val o1 h1
  exact (ltexts_ap a b (by omega) (by omega)).calls W hG _ (two_args r0 r1)
theorem valueBack_any {v0 v1 v2 : Value} {d0 d1 d2 : DataW H} {p0 p1 p2 : List MemPlace} (hk : Rows.uptoBulk d0 + (Rows.uptoBulk d1 + (Rows.uptoBulk d2 + 0)) ≤ 1048576) (o0 : Value.okWide Tryz.prog W .any base 26 v0) (h0 : DataW.Trod enc Tryz.prog W 0 (fun _ => true) true 26 v0 d0 p0)
    (o1 : Value.okWide Tryz.prog W .any base 26 v1) (h1 : DataW.Trod enc Tryz.prog W 0 (fun _ => true) true 26 v1 d1 p1) (o2 : Value.okWide Tryz.prog W .any base 9 v2) (h2 : DataW.Trod enc Tryz.prog W 0 (fun _ => true) true 9 v2 d2 p2) (hG : Gv W) :
    Calls Tryz.prog 5 #[v0, v1, v2] W fun e W' => e = .returned (.bool true) ∧ Below W.heap.size W W' := by
  obtain ⟨a, r0, b0⟩ := arg_val o0 h0
  obtain ⟨b, r1, b1⟩ := arg_val o1 h1
  obtain ⟨s, r2, b2⟩ := arg_str o2 h2
  exact (lback_ap a b (by omega) (by omega) s (by omega)).calls W hG _ (three_args r0 r1 r2)
theorem lnB_len (gaps : List UInt8) : ∀ (i : Nat) (l : List Vx), (lnB (lnS gaps i l)).length ≤ 13 * wtX l
  | _, [] => by simp [lnS, lnB]
  | i, a :: r => by
    have ih := lnB_len gaps (i + 1) r
    have hw : wtX (a :: r) = 8 + 4 * a.l.length + wtX r := by simp [wtX]
    have hgn : gapN gaps i ≤ 3 := by unfold gapN; split <;> omega
    have htx : a.val.tx.length ≤ 51 * a.l.length + 50 := by
      have h1 := txC_len a.val.a a.val.b
      have h2 := join_len a.val.l
      have h3 : a.val.l.length = a.l.length := by simp [Vx.val]
      unfold Va.tx
      split
      · split
        · omega
        · split
          · have hfb : ∀ b, (Lib.formatBool b).length ≤ 5 := by intro b; cases b <;> decide
            have := hfb a.val.bo
            omega
          · simp only [List.length_append, List.length_cons, List.length_nil]; omega
      · simp
    unfold lnS
    split
    · have e : lnB ((gapN gaps i, a.val) :: lnS gaps (i + 1) r) = (List.replicate (gapN gaps i) 32 ++ a.val.tx) ++ lnB (lnS gaps (i + 1) r) := rfl
      rw [e]
      simp only [List.length_append, List.length_replicate]
      omega
    · omega
theorem wtX_len : ∀ l : List Vx, 8 * l.length ≤ wtX l
  | [] => by simp [wtX]
  | a :: r => by
    have ih := wtX_len r
    have hw : wtX (a :: r) = 8 + 4 * a.l.length + wtX r := by simp [wtX]
    rw [hw]; simp only [List.length_cons]; omega
theorem wtX_mem : ∀ {l : List Vx} {a : Vx}, a ∈ l → 4 * a.l.length ≤ wtX l
  | b :: r, a, h => by
    have hw : wtX (b :: r) = 8 + 4 * b.l.length + wtX r := by simp [wtX]
    rcases List.mem_cons.1 h with rfl | h
    · omega
    · have := wtX_mem h; omega
theorem valueLine_any {v0 v1 : Value} {d0 d1 : DataW H} {p0 p1 : List MemPlace} (hk : Rows.uptoBulk d0 + (Rows.uptoBulk d1 + 0) ≤ 1048576) (o0 : Value.okWide Tryz.prog W .any base 54 v0) (h0 : DataW.Trod enc Tryz.prog W 0 (fun _ => true) true 54 v0 d0 p0)
    (o1 : Value.okWide Tryz.prog W .any base 55 v1) (h1 : DataW.Trod enc Tryz.prog W 0 (fun _ => true) true 55 v1 d1 p1) (hG : Gv W) :
    Calls Tryz.prog 6 #[v0, v1] W fun e W' => e = .returned (.bool true) ∧ Below W.heap.size W W' := by
  obtain ⟨l, r0, b0⟩ := arg_vals o0 h0
  obtain ⟨gaps, r1, b1⟩ := arg_bytes o1 h1
  have h3 := wtX_len l
  have h4 := lnB_len gaps 0 l
  exact (lline_ap gaps l (by omega) (fun a ha => by have := wtX_mem ha; omega) (by omega) (by omega)).calls W hG _ (two_args r0 r1)
end
end Go.Proofs.YtbhkclkahblfnaaGreatDoor
