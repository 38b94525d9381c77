/- Texts joined: Sha Shb. -/
import Derived.Test.YtgddkgbidhhheaaDoorKoah
import Derived.Test.YtgddkgbidhhheaaDoorRows
import Derived.WalkKit
import Derived.ProofKit
import Derived.WalkLawsBesides
import Derived.Laws.Externs
import Derived.Lib.Builder
/- The page of layer 5 (a strings.Builder of its own type) as objects; copyCheck, WriteString, String. -/
set_option linter.unusedVariables false
set_option linter.unusedSimpArgs false
set_option maxRecDepth 100000
namespace Go.Proofs.YtgddkgbidhhheaaDoor
open Go.RowKit Flo Ab
/-- the page's type -/
abbrev PT : TypeId := 56
abbrev U8 : TypeId := 5
theorem tptr : Tryd.prog.underlying 52 = some (.pointer 54) := by kernel_rfl
theorem tuns : Tryd.prog.underlying 120 = some .unsafePointer := by kernel_rfl
theorem szB : (Tryd.prog.info? 54).map (·.size) = some 2 := by kernel_rfl
theorem liesPB : liesAt Tryd.prog Tryd.prog.depth PT (2 / Tryd.prog.cellsOf PT) 0 54 1 = true := by kernel_rfl
set_option maxHeartbeats 1000000 in
theorem copy_used (b : Nat) (w : World) (h0 : w.cell? ⟨b, 0, none⟩ = some (.pointer (some ⟨b, 0, none⟩))) :
    Calls Tryd.prog 43 #[.pointer (some ⟨b, 0, none⟩)] w fun e w' => e = .returned (.tuple #[]) ∧ w' = w := by
  obtain ⟨j, hj, _⟩ := Option.map_eq_some_iff.1 szB
  go_enter Tryd.func43, Tryd.ntmps43
  go_wp2
  rw [Lib.run_neq_ptr_same w _ tptr hj]
  go_wp2
  go_end0
  exact ⟨rfl, rfl⟩
set_option maxHeartbeats 1000000 in
theorem copy_fresh (b : Nat) (w : World) (h0 : w.cell? ⟨b, 0, none⟩ = some (.pointer none)) (hsh : w.shape? b = some (PT, 2)) (hfz : w.frozen? ⟨b, 0, none⟩ = false) :
    Calls Tryd.prog 43 #[.pointer (some ⟨b, 0, none⟩)] w fun e w' => e = .returned (.tuple #[]) ∧ w' = w.setCell ⟨b, 0, none⟩ (.pointer (some ⟨b, 0, none⟩)) := by
  obtain ⟨j, hj, hjs⟩ := Option.map_eq_some_iff.1 szB
  go_enter Tryd.func43, Tryd.ntmps43
  go_wp2
  rw [Lib.run_to_unsafe w ⟨b, 0, none⟩ tptr tuns hj (by rw [hjs]; decide) hsh (Nat.zero_lt_succ 1)]
  simp only [Result.andThen]
  rw [Oper.upon_value]
  go_wp2
  rw [run_callFunc_extern Tryd.func58 (by kernel_rfl) (by kernel_rfl) (by kernel_rfl) (e := Extern.AbiNoEscape.same) (by kernel_rfl)]
  rw [Lib.run_noEscape]
  simp only [Result.andThen]
  rw [Oper.upon_value]
  go_wp2
  rw [Lib.run_from_unsafe w ⟨b, 0, none⟩ tuns tptr hj hsh liesPB]
  simp only [Result.andThen]
  rw [Oper.upon_value]
  go_wp2
  go_end0
  exact ⟨rfl, rfl⟩
/-! the page as objects -/
/-- a page that holds nothing, or these bytes -/
def PgAt (H : List Ob) (i : Nat) (l : List UInt8) : Prop :=
  (l = [] ∧ ∃ a, (a = .v (.pointer none) ∨ a = .ptr i 0) ∧ H[i]? = some (.tvar PT [a, .v (.slice none 0 0)])) ∨
  (l ≠ [] ∧ ∃ k, k ≠ i ∧ H[i]? = some (.tvar PT [.ptr i 0, .row k]) ∧ H[k]? = some (.own U8 1 l.length (l.map byA)))
/-- .. as a callee sees it -/
def PgOs (os : List Ob) (l : List UInt8) : Prop :=
  (l = [] ∧ ∃ a, (a = .v (.pointer none) ∨ a = .ptr 0 0) ∧ os = [.tvar PT [a, .v (.slice none 0 0)]]) ∨
  (l ≠ [] ∧ os = [.tvar PT [.ptr 0 0, .row 1], .own U8 1 l.length (l.map byA)])
theorem PgOs.at {os : List Ob} {l : List UInt8} (h : PgOs os l) : PgAt os 0 l := by
  rcases h with ⟨rfl, a, ha, rfl⟩ | ⟨hl, rfl⟩
  · exact .inl ⟨rfl, a, ha, rfl⟩
  · exact .inr ⟨hl, 1, by decide, rfl, rfl⟩
theorem PgAt.app {H : List Ob} {i : Nat} {l : List UInt8} (h : PgAt H i l) (L : List Ob) : PgAt (H ++ L) i l := by
  have ap : ∀ {j : Nat} {o : Ob}, H[j]? = some o → (H ++ L)[j]? = some o := fun h => by rw [List.getElem?_append_left (List.getElem?_eq_some_iff.1 h).1]; exact h
  rcases h with ⟨rfl, a, ha, h1⟩ | ⟨hl, k, hk, h1, h2⟩
  · exact .inl ⟨rfl, a, ha, ap h1⟩
  · exact .inr ⟨hl, k, hk, ap h1, ap h2⟩
theorem PgAt.lt {H : List Ob} {i : Nat} {l : List UInt8} (h : PgAt H i l) : i < H.length := by
  rcases h with ⟨rfl, a, ha, h1⟩ | ⟨hl, k, hk, h1, h2⟩ <;> exact (List.getElem?_eq_some_iff.1 h1).1
/-- a function that writes this text on the page -/
def PgC (f : FuncId) (args : List AV) (t : List UInt8) : Prop := ∀ (l : List UInt8) (os : List Ob), PgOs os l → l.length + t.length ≤ 1073741824 → AC Tryd.prog (.np Gv) f (.ptr 0 0 :: args) os (fun _ os' => PgAt os' 0 (l ++ t))
mutual
theorem ren_id {x : AV} (h : Ab.okR [] x = true) (r : Nat → Nat) : ren r x = x := by
  cases x with
  | ptr i off => simp [Ab.okR] at h
  | row i => simp [Ab.okR] at h
  | agg cs => simp only [Ab.okR] at h; simp only [ren]; rw [renL_id h r]
  | tup cs => simp only [Ab.okR] at h; simp only [ren]; rw [renL_id h r]
  | clo f cs => simp only [Ab.okR] at h; simp only [ren]; rw [renL_id h r]
  | v x => rfl
  | sl n cs => rfl
  | ep cs off => rfl
  | ifc t x => rfl
theorem renL_id {xs : List AV} (h : okL [] xs = true) (r : Nat → Nat) : renL r xs = xs := by
  cases xs with
  | nil => rfl
  | cons x xs =>
    simp only [okL, Bool.and_eq_true] at h
    simp only [renL]
    rw [ren_id h.1 r, renL_id h.2 r]
end
mutual
theorem okR_any {x : AV} (h : Ab.okR [] x = true) (ids : List Nat) : Ab.okR ids x = true := by
  cases x with
  | ptr i off => simp [Ab.okR] at h
  | row i => simp [Ab.okR] at h
  | agg cs => simp only [Ab.okR] at h ⊢; exact okL_any h ids
  | tup cs => simp only [Ab.okR] at h ⊢; exact okL_any h ids
  | clo f cs => simp only [Ab.okR] at h ⊢; exact okL_any h ids
  | v x => rfl
  | sl n cs => rfl
  | ep cs off => rfl
  | ifc t x => rfl
theorem okL_any {xs : List AV} (h : okL [] xs = true) (ids : List Nat) : okL ids xs = true := by
  cases xs with
  | nil => rfl
  | cons x xs =>
    simp only [okL, Bool.and_eq_true] at h ⊢
    exact ⟨okR_any h.1 ids, okL_any h.2 ids⟩
end
theorem up_at {H : List Ob} {ids : List Nat} {os : List Ob} (hnd : ids.Nodup) (hlt : ∀ i ∈ ids, i < H.length) (hl : ids.length ≤ os.length) {j : Nat} {o : Ob} (ho : os[j]? = some o) : (backO H ids os)[up ids H.length j]? = some (renO (up ids H.length) o) := by
  have ho' : (os.map (renO (up ids H.length)))[j]? = some (renO (up ids H.length) o) := by rw [List.getElem?_map, ho]; rfl
  unfold backO
  generalize hr : renO (up ids H.length) = r at *
  cases hj : ids[j]? with
  | some i =>
    have : up ids H.length j = i := by unfold up; rw [hj]
    rw [this]
    exact setO_at ids _ H j i _ hnd hlt hj ho'
  | none =>
    have h1 : ids.length ≤ j := List.getElem?_eq_none_iff.1 hj
    have : up ids H.length j = H.length + (j - ids.length) := by unfold up; rw [hj]
    rw [this, setO_new _ _ _ _ (by simpa using hl), show ids.length + (j - ids.length) = j by omega]
    exact ho'
/-- what a call that writes on the page comes to -/
theorem pg_lift {H H0 : List Ob} {i : Nat} {l t : List UInt8} (hP : PgAt H0 i l) (hpre : ∀ (j : Nat) (o : Ob), H0[j]? = some o → H[j]? = some o) {f : FuncId} {xs : List AV} (hC : PgC f xs t) (hnz : t ≠ []) (hsz : l.length + t.length ≤ 1073741824) (hxs : okL [] xs = true) :
    ∃ ids : List Nat, ids.Nodup ∧ (∀ j ∈ ids, j < H.length ∧ j < H0.length) ∧ (∀ j ∈ ids, ∀ o : Ob, H[j]? = some o → okO ids o = true ∧ ∀ cs : List AV, o ≠ .var cs) ∧ (AV.ptr i 0 :: xs).all (Ab.okR ids) = true ∧
      AC Tryd.prog (.np Gv) f ((AV.ptr i 0 :: xs).map (ren fun k => ids.idxOf k)) (objsOf H ids) (fun _ os' => PgAt (backO H ids os') i (l ++ t) ∧ H.length ≤ (backO H ids os').length) := by
  have hall : ∀ ids : List Nat, xs.all (Ab.okR ids) = true := fun ids => by rw [← okL_all]; exact okL_any hxs ids
  have hmap : ∀ r : Nat → Nat, xs.map (ren r) = xs := fun r => by rw [← renL_map]; exact renL_id hxs r
  have hlt0 : l ++ t ≠ [] := fun e => hnz (List.append_eq_nil_iff.1 e).2
  have fin : ∀ (ids : List Nat), ids.Nodup → (∀ j ∈ ids, j < H.length) → ids[0]? = some i → ids.length ≤ 2 → ∀ os' : List Ob, PgAt os' 0 (l ++ t) → PgAt (backO H ids os') i (l ++ t) ∧ H.length ≤ (backO H ids os').length := fun ids hnd hlt h0 h2 os' hp => by
    rcases hp with ⟨h, _⟩ | ⟨_, k, hk, h3, h4⟩
    · exact absurd h hlt0
    · have hkl : k < os'.length := (List.getElem?_eq_some_iff.1 h4).1
      have hle : ids.length ≤ os'.length := by omega
      have e0 : up ids H.length 0 = i := by unfold up; rw [h0]
      have g3 := up_at hnd hlt hle h3
      have g4 := up_at hnd hlt hle h4
      rw [e0] at g3
      refine ⟨.inr ⟨hlt0, up ids H.length k, ?_, ?_, g4⟩, ?_⟩
      · have hi : i < H.length := hlt i (List.mem_of_getElem? h0)
        unfold up
        cases hj : ids[k]? with
        | none => simp only; omega
        | some i' =>
          simp only
          intro e
          subst e
          exact hk ((List.getElem?_inj (List.getElem?_eq_some_iff.1 hj).1 hnd).1 (hj.trans h0.symm))
      · rw [g3]; simp only [renO, renL, ren]; rw [e0]
      · unfold backO; rw [setO_len _ _ _ (by simpa using hle)]; omega
  rcases hP with ⟨rfl, a, ha, h01⟩ | ⟨hl, k, hk, h01, h02⟩
  · have h1 := hpre _ _ h01
    have hi : i < H.length := (List.getElem?_eq_some_iff.1 h1).1
    have hi0 : i < H0.length := (List.getElem?_eq_some_iff.1 h01).1
    have hg : H.getD i .gone = .tvar PT [a, .v (.slice none 0 0)] := by rw [List.getD_eq_getElem?_getD, h1]; rfl
    refine ⟨[i], by simp, fun j hj => by rw [List.mem_singleton.1 hj]; exact ⟨hi, hi0⟩, fun j hj o ho => ?_, by simp [Ab.okR, hall], ?_⟩
    · rw [List.mem_singleton.1 hj, h1] at ho
      cases ho
      refine ⟨?_, fun cs => Ob.noConfusion⟩
      rcases ha with rfl | rfl <;> simp [okO, okL, Ab.okR]
    · rw [List.map_cons, hmap]
      have he : ren (fun k => [i].idxOf k) (.ptr i 0) = .ptr 0 0 := by simp [ren]
      rw [he]
      refine AC.mono (hC [] (objsOf H [i]) (.inl ⟨rfl, ren (fun k => [i].idxOf k) a, ?_, ?_⟩) hsz) (fun x os' hp => fin [i] (by simp) (fun j hj => by rw [List.mem_singleton.1 hj]; exact hi) rfl (by simp) os' hp)
      · rcases ha with rfl | rfl <;> simp [ren]
      · simp [objsOf, h1, renO, renL, ren]
  · have h1 := hpre _ _ h01
    have h2 := hpre _ _ h02
    have hi : i < H.length := (List.getElem?_eq_some_iff.1 h1).1
    have hi0 : i < H0.length := (List.getElem?_eq_some_iff.1 h01).1
    have hkl0 : k < H0.length := (List.getElem?_eq_some_iff.1 h02).1
    have hkl : k < H.length := (List.getElem?_eq_some_iff.1 h2).1
    have hg : H.getD i .gone = .tvar PT [.ptr i 0, .row k] := by rw [List.getD_eq_getElem?_getD, h1]; rfl
    have hg2 : H.getD k .gone = .own U8 1 l.length (l.map byA) := by rw [List.getD_eq_getElem?_getD, h2]; rfl
    have hnd : [i, k].Nodup := by simp [Ne.symm hk]
    have hlt : ∀ j ∈ [i, k], j < H.length := fun j hj => by
      simp only [List.mem_cons, List.not_mem_nil, or_false] at hj
      rcases hj with rfl | rfl <;> assumption
    have hlt0' : ∀ j ∈ [i, k], j < H.length ∧ j < H0.length := fun j hj => by
      simp only [List.mem_cons, List.not_mem_nil, or_false] at hj
      rcases hj with rfl | rfl <;> exact ⟨by assumption, by assumption⟩
    refine ⟨[i, k], hnd, hlt0', fun j hj o ho => ?_, by simp [Ab.okR, hall], ?_⟩
    · simp only [List.mem_cons, List.not_mem_nil, or_false] at hj
      rcases hj with rfl | rfl
      · rw [h1] at ho; cases ho; exact ⟨by simp [okO, okL, Ab.okR], fun cs => Ob.noConfusion⟩
      · rw [h2] at ho; cases ho; exact ⟨rfl, fun cs => Ob.noConfusion⟩
    · rw [List.map_cons, hmap]
      have he : ren (fun j => [i, k].idxOf j) (.ptr i 0) = .ptr 0 0 := by simp [ren]
      rw [he]
      have hix : [i, k].idxOf k = 1 := by
        have : (i == k) = false := beq_false_of_ne (Ne.symm hk)
        simp [List.idxOf_cons, this]
      refine AC.mono (hC l (objsOf H [i, k]) (.inr ⟨hl, ?_⟩) hsz) (fun x os' hp => fin [i, k] hnd hlt rfl (by simp) os' hp)
      simp [objsOf, h1, h2, renO, renL, ren, hix]
theorem SC.pg {N : Nat} {F : Fr} {H : List Ob} {K : Fr → List Ob → Prop} {d : Option Nat} (hdN : ∀ t, d = some t → t < N) {f : FuncId} {args : List Opd} {i : Nat} (xs : List AV) (hx : evA F args = some (.ptr i 0 :: xs)) {l : List UInt8} (hP : PgAt H i l) (t : List UInt8) (hC : PgC f xs t) (hnz : t ≠ []) (hsz : l.length + t.length ≤ 1073741824) (hxs : okL [] xs = true)
    (hK : ∀ (x : AV) (H' : List Ob), PgAt H' i (l ++ t) → (∀ (j : Nat) (cs : List AV), H[j]? = some (.var cs) → H'[j]? = some (.var cs)) → H.length ≤ H'.length → K (putF F d x) H') {a : Tag K} : SC Tryd.prog (.np Gv) N d f args F H K a := by
  obtain ⟨ids, h1, h2, h3, h4, h5⟩ := pg_lift hP (fun _ _ h => h) hC hnz hsz hxs
  refine SC.own hdN (.ptr i 0 :: xs) hx ids h1 (fun j hj => (h2 j hj).1) (fun j hj o ho => (h3 j hj o ho).1) h4 (fun w h => h) h5 (fun x os h => h.elim) (fun x os hp => hK _ _ hp.1 (fun j cs hj => ?_) hp.2)
  unfold backO
  rw [setO_other _ _ _ j (fun hm => (h3 j hm _ hj).2 cs rfl) (List.getElem?_eq_some_iff.1 hj).1]; exact hj
theorem XC.pg {base : Nat} {qs : List Nat} {F : Fr} {H : List Ob} {K : Fr → List Ob → Prop} {d : Option Nat} {f : FuncId} {args : List Opd} {i : Nat} (xs : List AV) (hx : evA F args = some (.ptr i 0 :: xs)) {H0 : List Ob} {l : List UInt8} (hP0 : PgAt H0 i l) (hb : base = H0.length) (hpre : ∀ (j : Nat) (o : Ob), H0[j]? = some o → H[j]? = some o) (t : List UInt8) (hC : PgC f xs t) (hnz : t ≠ []) (hsz : l.length + t.length ≤ 1073741824) (hxs : okL [] xs = true)
    (hK : ∀ (x : AV) (H' : List Ob), PgAt H' i (l ++ t) → (∀ (j : Nat) (cs : List AV), H[j]? = some (.var cs) → H'[j]? = some (.var cs)) → H.length ≤ H'.length → K (putF F d x) H') {a : Tag K} : XC Tryd.prog (.np Gv) base qs d f args F H K a := by
  obtain ⟨ids, h1, h2, h3, h4, h5⟩ := pg_lift hP0 hpre hC hnz hsz hxs
  refine ⟨.ptr i 0 :: xs, ids, hx, fun j hj => by rw [hb]; exact (h2 j hj).2, fun j hj cs hcs => absurd rfl ((h3 j hj _ hcs).2 cs), AC.mono (AC.lift h1 (fun j hj => (h2 j hj).1) (fun j hj o ho => (h3 j hj o ho).1) h4 (fun w h => h) h5 (fun x os h => h.elim)) ?_⟩
  rintro x H2 ⟨x0, os, hp, rfl, rfl⟩
  refine ⟨fun j o hj ho => ?_, hK _ _ hp.1 (fun j cs hj => ?_) hp.2⟩
  · unfold backO
    rw [setO_other _ _ _ j hj (List.getElem?_eq_some_iff.1 ho).1]; exact ho
  · unfold backO
    rw [setO_other _ _ _ j (fun hm => (h3 j hm _ hj).2 cs rfl) (List.getElem?_eq_some_iff.1 hj).1]; exact hj
end Go.Proofs.YtgddkgbidhhheaaDoor
/- The page's own functions: copyCheck, WriteString, String. -/
set_option linter.unusedVariables false
set_option linter.unusedSimpArgs false
set_option maxRecDepth 100000
namespace Go.Proofs.YtgddkgbidhhheaaDoor
open Go.RowKit Flo Ab
theorem vs_one {c : Cx} {vs : Array Value} {x : AV} (h : vs.size = [x].length ∧ ∀ (j : Nat) (y : AV), [x][j]? = some y → ∃ u, vs[j]? = some u ∧ RV c y u) : ∃ u, vs = #[u] ∧ RV c x u := by
  obtain ⟨u, h1, h2⟩ := h.2 0 x rfl
  refine ⟨u, ?_, h2⟩
  apply Array.ext'
  have hl : vs.toList.length = 1 := by simpa using h.1
  obtain ⟨v, hv⟩ := List.length_eq_one_iff.1 hl
  rw [hv]
  rw [← Array.getElem?_toList, hv] at h1
  simpa using h1
theorem bcc_ac (a r : AV) (ha : a = .v (.pointer none) ∨ a = .ptr 0 0) (rest : List Ob) :
    AC Tryd.prog (.np Gv) 43 [.ptr 0 0] (.tvar PT [a, r] :: rest) (fun x os' => os' = .tvar PT [.ptr 0 0, r] :: rest) := by
  intro w0 c vs hG hS hvs
  obtain ⟨u, rfl, hu⟩ := vs_one hvs
  obtain ⟨rfl, hb⟩ := hu.inv_ptr
  obtain ⟨_, ⟨us, h1, h2⟩, h3⟩ := hS.ob 0 _ rfl
  obtain ⟨ua, g1, g2, g3⟩ := h2.get (j := 0) (x := a) rfl
  have hlen : us.length = 2 := h2.len
  obtain ⟨ub, hus⟩ : ∃ ub, us = [ua, ub] := by
    match us, hlen, g1 with
    | [p, q], _, g1 => cases g1; exact ⟨q, rfl⟩
  subst hus
  have hc0 : c.w.cell? ⟨c.β 0, 0, none⟩ = some ua := by rw [cell_of_row c.w (c.β 0) 0 _ PT (0, 0) h1]; rfl
  have hr : RV c r ub := h2.at' 1 r ub rfl rfl
  have hr1 : ub.oneCell' = true := h2.one ub (by simp)
  have hp0 : RV c (.ptr 0 0) (.pointer (some ⟨c.β 0, 0, none⟩)) := .ptr 0 0 hb
  have two : ∀ {c' : Cx}, c.le c' → RL c' [.ptr 0 0, r] [.pointer (some ⟨c.β 0, 0, none⟩), ub] := fun hle => by
    refine RL.le hle ⟨rfl, fun v hv => ?_, fun j x v hx hv => ?_⟩
    · simp only [List.mem_cons, List.not_mem_nil, or_false] at hv
      rcases hv with rfl | rfl
      · rfl
      · exact hr1
    · match j with
      | 0 => cases hx; cases hv; exact hp0
      | 1 => cases hx; cases hv; exact hr
      | j + 2 => simp at hx
  rcases ha with rfl | rfl
  · have hua := g2.inv_v.1
    subst hua
    have hsh : c.w.shape? (c.β 0) = some (PT, 2) := by unfold World.shape?; rw [h1]; rfl
    have hfz : c.w.frozen? ⟨c.β 0, 0, none⟩ = false := by unfold World.frozen?; simp [h1]
    refine (copy_fresh (c.β 0) c.w hc0 hsh hfz).mono ?_
    rintro e w' ⟨rfl, rfl⟩
    have hset : (c.w.setCell ⟨c.β 0, 0, none⟩ (.pointer (some ⟨c.β 0, 0, none⟩))).heap[c.β 0]? = some (.cells #[.pointer (some ⟨c.β 0, 0, none⟩), ub] PT (0, 0)) := by
      simp only [World.setCell, Array.getElem?_modify, if_true, h1, Option.map_some]
      rfl
    obtain ⟨s1, t1⟩ := write_obj hS (.tvar PT [.ptr 0 0, r]) (i0 := 0) rfl rfl hb rfl (w1 := c.w.setCell ⟨c.β 0, 0, none⟩ (.pointer (some ⟨c.β 0, 0, none⟩))) (by simp [World.setCell]) rfl rfl rfl
      (fun b hne => by simp only [World.setCell, Array.getElem?_modify]; rw [if_neg (fun e => hne e.symm)])
      (fun hle => ⟨hb, ⟨_, hset, two hle⟩, h3⟩)
    exact .inl ⟨_, _, .tup [], _, rfl, rfl, t1, s1, .deep (.tup [] [] rfl (fun j x u h => by simp at h)), rfl⟩
  · obtain ⟨rfl, _⟩ := g2.inv_ptr
    refine (copy_used (c.β 0) c.w hc0).mono ?_
    rintro e w' ⟨rfl, rfl⟩
    exact .inl ⟨c, _, .tup [], _, rfl, rfl, .refl c _, hS, .deep (.tup [] [] rfl (fun j x u h => by simp at h)), rfl⟩
theorem SC.ac {G : Gs} {N : Nat} {F : Fr} {H : List Ob} {K : Fr → List Ob → Prop} {d : Option Nat} (hdN : ∀ t, d = some t → t < N) {f : FuncId} {args : List Opd} (xs : List AV) (hx : evA F args = some xs) {post : AV → List Ob → Prop}
    (hA : AC Tryd.prog G f xs H post) (hK : ∀ x H2, post x H2 → K (putF F d x) H2) {a : Tag K} : SC Tryd.prog G N d f args F H K a := SCall.ofAC hdN hx hA hK
theorem SCall.frzAC {G : Gs} {N : Nat} {d : Option Nat} (hdN : ∀ t, d = some t → t < N) {f : FuncId} {args : List Opd} {F : Fr} {H : List Ob} {K : Fr → List Ob → Prop} {xs : List AV} (hx : evA F args = some xs) {post : AV → List Ob → Prop}
    (hA : AC Tryd.prog G f (frzT H xs).2 (frzT H xs).1 post) (hK : ∀ x H2, post x H2 → K (putF F d x) H2) : SCall Tryd.prog G N d f args F H K := by
  intro w0 ds c a vs hG hS hF hN hds ⟨hvl, hvs⟩
  obtain ⟨g1, g2⟩ := evA_at args xs hx
  obtain ⟨c1, e1, s1, t1, l1, v1⟩ := frzT_ok xs hS (us := vs.toList) (by simp [hvl, g1]) (fun j x u hx hu => by
    obtain ⟨p, hp, hpx⟩ := g2 j x hx
    obtain ⟨u', hu', hr⟩ := hvs j p x hp hpx
    rw [Array.getElem?_toList] at hu
    rw [hu'] at hu; cases hu; exact hr)
  rw [← e1]
  refine (hA w0 c1 vs hG s1 ⟨by rw [← l1]; simp, fun j x hx => ?_⟩).mono fun e w' hh => ?_
  · have hj : j < vs.size := by have := (List.getElem?_eq_some_iff.1 hx).1; rw [← l1] at this; simpa using this
    exact ⟨vs[j], Array.getElem?_eq_getElem hj, v1 j x vs[j] hx (by simp [hj])⟩
  · rcases hh with ⟨c', u, x, os, rfl, rfl, ht, hs, hv, hpost⟩ | ⟨ch, c', os, u, x, rfl, rfl, ht, hs, hch, hrd, hpan⟩
    · have htt := t1.trans ht
      exact .inl ⟨u, rfl, ⟨c', _, _, rfl, htt, hs, (hF.le htt.le).putF (fun t h => by rw [hN]; exact hdN t h) hv, by rw [size_put, hN], by rw [defers_put, hds], hK x os hpost⟩⟩
    · exact .inr ⟨ch, rfl, c', os, u, x, rfl, t1.trans ht, hs, hch, hrd, hpan, hds⟩
theorem SC.pgf {N : Nat} {F : Fr} {H : List Ob} {K : Fr → List Ob → Prop} {d : Option Nat} (hdN : ∀ t, d = some t → t < N) {f : FuncId} {args : List Opd} {i : Nat} (xs : List AV) (hx : evA F args = some (.ptr i 0 :: xs)) (xs' : List AV) (H1 : List Ob) (hfr : frzT H (.ptr i 0 :: xs) = (H1, .ptr i 0 :: xs'))
    {l : List UInt8} (hP : PgAt H1 i l) (t : List UInt8) (hC : PgC f xs' t) (hnz : t ≠ []) (hsz : l.length + t.length ≤ 1073741824) (hxs : okL [] xs' = true)
    (hK : ∀ (x : AV) (H' : List Ob), PgAt H' i (l ++ t) → (∀ (j : Nat) (cs : List AV), H1[j]? = some (.var cs) → H'[j]? = some (.var cs)) → H1.length ≤ H'.length → K (putF F d x) H') {a : Tag K} : SC Tryd.prog (.np Gv) N d f args F H K a := by
  obtain ⟨ids, h1, h2, h3, h4, h5⟩ := pg_lift hP (fun _ _ h => h) hC hnz hsz hxs
  refine SCall.frzAC hdN hx (post := fun x H' => PgAt H' i (l ++ t) ∧ (∀ (j : Nat) (cs : List AV), H1[j]? = some (.var cs) → H'[j]? = some (.var cs)) ∧ H1.length ≤ H'.length) ?_ (fun x H2 ⟨a, b, c⟩ => hK x H2 a b c)
  rw [hfr]
  refine AC.mono (AC.lift h1 (fun j hj => (h2 j hj).1) (fun j hj o ho => (h3 j hj o ho).1) h4 (fun w h => h) h5 (fun x os h => h.elim)) ?_
  rintro x H2 ⟨x0, os, hp, rfl, rfl⟩
  refine ⟨hp.1, fun j cs hj => ?_, hp.2⟩
  unfold backO
  rw [setO_other _ _ _ j (fun hm => (h3 j hm _ hj).2 cs rfl) (List.getElem?_eq_some_iff.1 hj).1]; exact hj
theorem ba_size (t : List UInt8) : (ByteArray.mk t.toArray).size = t.length := by simp [ByteArray.size]
theorem strA_is (t : List UInt8) : strA ⟨t.toArray⟩ = t.map byA := by simp [strA]
theorem bws_pg (t : List UInt8) (ht : t ≠ []) : PgC 34 [sv t] t := by
  intro l os hP hsz
  have hs := ba_size t
  have hst := strA_is t
  have ht0 : 0 < t.length := by cases t with | nil => exact absurd rfl ht | cons => simp
  have hlt : l ++ t ≠ [] := fun e => ht (List.append_eq_nil_iff.1 e).2
  refine AC.go hmix F_bws (by simp) ?_
  rcases hP with ⟨rfl, a, ha, rfl⟩ | ⟨hl, rfl⟩
  · simp only [List.length_nil, Nat.zero_add] at hsz
    simp -implicitDefEqProofs [c_bws]
    refine SC.ac (by simp) [.ptr 0 0] (by simp) (bcc_ac a _ ha []) ?_
    rintro x H2 rfl
    simp -implicitDefEqProofs [c_bws, hs, hst, ht0, hsz, wrOb, splice]
    exact .inr ⟨ht, 1, by decide, rfl, rfl⟩
  · have hll : (l.map byA ++ t.map byA) = (l ++ t).map byA := by simp
    simp -implicitDefEqProofs [c_bws]
    refine SC.ac (by simp) [.ptr 0 0] (by simp) (bcc_ac _ _ (.inr rfl) _) ?_
    rintro x H2 rfl
    simp -implicitDefEqProofs [c_bws, hs, hst, ht0, hsz, wrOb, splice]
    exact .inr ⟨hlt, 2, by decide, rfl, by simp⟩
theorem bstr_ac (l : List UInt8) (os : List Ob) (hP : PgOs os l) (hsz : l.length ≤ 1073741824) :
    AC Tryd.prog (.np Gv) 16 [.ptr 0 0] os (fun x os' => x = sv l) := by
  refine AC.go hmix F_bstr (by simp) ?_
  rcases hP with ⟨rfl, a, ha, rfl⟩ | ⟨hl, rfl⟩
  · simp -implicitDefEqProofs [c_bstr]
  · have h0 : 0 < l.length := by cases l with | nil => exact absurd rfl hl | cons => simp
    simp -implicitDefEqProofs [c_bstr, h0, hsz]
end Go.Proofs.YtgddkgbidhhheaaDoor
