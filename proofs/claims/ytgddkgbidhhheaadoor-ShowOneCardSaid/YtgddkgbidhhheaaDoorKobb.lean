/- Texts joined: Bke Bkf Bkg. -/
import Derived.Test.YtgddkgbidhhheaaDoorKoba
import Derived.Test.YtgddkgbidhhheaaDoorKoav
import Derived.Test.YtgddkgbidhhheaaDoorKoae
/- A printed program's text has the marks of the program. No program in sight. -/
set_option linter.unusedVariables false
set_option linter.unusedSimpArgs false
namespace Go.Proofs.YtgddkgbidhhheaaDoor
namespace Pg
open Mk Flo
theorem ok_s {s : List UInt8} {r : List Pz} (h : s ∈ softL) (hr : okP r) : okP (.t (mS s) :: r) := ⟨.inl ⟨s, h, rfl⟩, hr⟩
theorem ok_w {m : M} {r : List Pz} (h : wordV m) (hb : bnd r) (hr : okP r) : okP (.t m :: r) := ⟨.inr ⟨.inl h, hb⟩, hr⟩
theorem ok_h {s : List UInt8} {r : List Pz} (h : s = sMinus ∨ s = sEq) (hb : bnd r) (hr : okP r) : okP (.t (mS s) :: r) := ⟨.inr ⟨.inr (by rcases h with rfl | rfl <;> simp), hb⟩, hr⟩
theorem ok_g {r : List Pz} (hr : okP r) : okP (.g 32 :: r) := ⟨by decide, hr⟩
theorem wordNm {s : List UInt8} (h : lexN s) : wordV (mN s) := h
theorem wordU {u : Int × Int} (h : lexU u) : wordV ⟨2, textL u.1 u.2, u, 0⟩ := h
theorem wordY {t : Int} (h : tyG t) : wordV (mY t) := by rcases h with rfl | rfl | rfl <;> exact ⟨by decide, by decide, by decide⟩
theorem bnd_s {s : List UInt8} {r : List Pz} (h : s ∈ softL) (hn : s ≠ sEqEq) : bnd (.t (mS s) :: r) := ⟨⟨s, h, rfl⟩, hn⟩
/-- pieces that make a text and bear marks -/
def Has (L : List Pz) (t : List UInt8) (ms : List M) : Prop := txt L = t ∧ mks L = ms ∧ okP L
theorem has_brack {a : Ex} (w : Int) {L : List Pz} (h : Has L (exT a) (mX a)) : ∃ L', Has L' (brack (decide (levelN (opX a) < w)) (exT a)) (mB (decide (levelN (opX a) < w)) (mX a)) := by
  obtain ⟨h1, h2, h3⟩ := h
  cases decide (levelN (opX a) < w)
  · exact ⟨L, h1, h2, h3⟩
  · exact ⟨.t (mS sOpen) :: (L ++ [.t (mS sClose)]), by simp [txt, txt_app, h1, brack, mS], by simp [mks, mks_app, h2, mB], ok_s (by decide) (okP_app h3 (ok_s (r := []) (by decide) trivial) (bnd_s (by decide) (by decide)))⟩
theorem two_text {op : Int} (h : op = 8 ∨ op = 9 ∨ op = 10 ∨ op = 11 ∨ op = 12 ∨ op = 13 ∨ op = 18) (nm tl : List UInt8) (ty : Int) (num : Int × Int) (a b : Ex) (pos : Int) :
    exT (.mk op nm tl ty num [a, b] pos) = brack (decide (levelN (opX a) < (signT op).2.1)) (exT a) ++ (32 :: (signM op ++ 32 :: brack (decide (levelN (opX b) < (signT op).2.2)) (exT b))) := by
  rcases h with rfl | rfl | rfl | rfl | rfl | rfl | rfl <;> simp [exT, exTs, nodeT, signT, signM]
theorem brackE0 (a : Ex) : brack (decide (levelN (opX a) < 0)) (exT a) = exT a := by
  rw [decide_eq_false (by have := lv_nn (opX a); omega)]; rfl
theorem has_commas : ∀ us : List Ex, (∀ u ∈ us, ∃ L, Has L (exT u) (mX u)) → ∃ L, Has L (commas ((exTs us).map Prod.snd)) (mCommas ((mXs us).map Prod.snd))
  | [], _ => ⟨[], rfl, rfl, trivial⟩
  | [u], h => by
    obtain ⟨L, h1⟩ := h u (by simp)
    exact ⟨L, by simpa [exTs, mXs, commas, mCommas] using h1⟩
  | u :: v :: r, h => by
    obtain ⟨L, h1, h2, h3⟩ := h u (by simp)
    obtain ⟨K, k1, k2, k3⟩ := has_commas (v :: r) (fun x hx => h x (by simp [hx]))
    refine ⟨L ++ .t (mS sComma) :: .g 32 :: K, ?_, ?_, okP_app h3 (ok_s (by decide) (ok_g k3)) (bnd_s (by decide) (by decide))⟩
    · simp only [exTs, List.map_cons] at k1 ⊢
      rw [commas, txt_app, h1]
      · simp [txt, mS, k1]
      · simp
    · simp only [mXs, List.map_cons] at k2 ⊢
      rw [mCommas, mks_app, h2]
      · simp [mks, k2]
      · simp
theorem has_list {us : List Ex} (h : ∀ u ∈ us, ∃ L, Has L (exT u) (mX u)) : ∃ L, Has L ([40] ++ commas ((exTs us).map Prod.snd) ++ [41]) (mS sOpen :: mCommas ((mXs us).map Prod.snd) ++ [mS sClose]) ∧ bnd L := by
  obtain ⟨L, h1, h2, h3⟩ := has_commas us h
  exact ⟨.t (mS sOpen) :: (L ++ [.t (mS sClose)]), ⟨by simp [txt, txt_app, h1, mS], by simp [mks, mks_app, h2], ok_s (by decide) (okP_app h3 (ok_s (r := []) (by decide) trivial) (bnd_s (by decide) (by decide)))⟩, bnd_s (by decide) (by decide)⟩
theorem pz_ex : ∀ e : Ex, gX e → lX e → ∃ L, Has L (exT e) (mX e)
  | .mk op nm tl ty num us pos, hg, hl => by
    obtain ⟨hg, hgs⟩ := hg
    obtain ⟨⟨ln, lt, lu⟩, hls⟩ := hl
    have ih : ∀ u ∈ us, gX u → lX u → ∃ L, Has L (exT u) (mX u) := fun u hu h h' => pz_ex u h h'
    have hmem : ∀ u ∈ us, gX u ∧ lX u := by
      clear ih hg ln lt lu
      induction us with
      | nil => intro u hu; simp at hu
      | cons a r ih =>
        intro u hu
        rcases List.mem_cons.1 hu with rfl | hu
        · exact ⟨hgs.1, hls.1⟩
        · exact ih hgs.2 hls.2 u hu
    have ih2 : ∀ u ∈ us, ∃ L, Has L (exT u) (mX u) := fun u hu => ih u hu (hmem u hu).1 (hmem u hu).2
    clear ih hmem hgs hls
    rcases hg with ⟨rfl, rfl, rfl, rfl, hk⟩ | ⟨hop, rfl, rfl, rfl, rfl, hk⟩ | ⟨rfl, rfl, rfl, ht, rfl, hk⟩ | ⟨rfl, rfl, rfl, rfl, hk⟩ | ⟨rfl, rfl, rfl, rfl⟩ | ⟨hop, rfl, rfl, rfl, rfl, hk⟩ | ⟨hop, rfl, rfl, rfl, rfl, hk⟩ | ⟨rfl, rfl, rfl, rfl, rfl, hk⟩ | ⟨rfl, rfl, rfl, hk⟩ | ⟨hop, rfl, ht, rfl, hk⟩
    · obtain rfl := List.eq_nil_of_length_eq_zero hk
      exact ⟨[.t ⟨2, textL num.1 num.2, num, 0⟩], by simp [txt, exT, exTs, nodeT, signT], by simp [mks, mX, mXs, nodeM], ok_w (wordU (lu rfl)) trivial trivial⟩
    · obtain rfl := List.eq_nil_of_length_eq_zero hk
      rcases hop with rfl | rfl | rfl
      · exact ⟨[.t (mW tTrue)], by simp [txt, exT, exTs, nodeT, signT, mW], by simp [mks, mX, mXs, nodeM], ok_w ⟨by decide, by decide, by decide⟩ trivial trivial⟩
      · exact ⟨[.t (mW tFalse)], by simp [txt, exT, exTs, nodeT, signT, mW], by simp [mks, mX, mXs, nodeM], ok_w ⟨by decide, by decide, by decide⟩ trivial trivial⟩
      · exact ⟨[.t (mW tNil)], by simp [txt, exT, exTs, nodeT, signT, mW], by simp [mks, mX, mXs, nodeM], ok_w ⟨by decide, by decide, by decide⟩ trivial trivial⟩
    · obtain rfl := List.eq_nil_of_length_eq_zero hk
      exact ⟨[.t (mW tFail), .g 32, .t (mY ty)], by simp [txt, exT, exTs, nodeT, signT, mW, mY], by simp [mks, mX, mXs, nodeM], ok_w ⟨by decide, by decide, by decide⟩ trivial (ok_g (ok_w (wordY ht) trivial trivial))⟩
    · obtain rfl := List.eq_nil_of_length_eq_zero hk
      exact ⟨[.t (mN nm)], by simp [txt, exT, exTs, nodeT, signT, mN], by simp [mks, mX, mXs, nodeM], ok_w (wordNm (ln (by simp))) trivial trivial⟩
    · obtain ⟨L, ⟨h1, h2, h3⟩, h4⟩ := has_list ih2
      exact ⟨.t (mN nm) :: L, by simp [txt, exT, nodeT, signT, mN, h1], by simp [mks, mX, nodeM, h2], ok_w (wordNm (ln (by simp))) h4 h3⟩
    · obtain ⟨L, ⟨h1, h2, h3⟩, h4⟩ := has_list ih2
      rcases hop with rfl | rfl | rfl | rfl
      · exact ⟨.t (mW tNot) :: L, by simp [txt, exT, nodeT, signT, mW, h1], by simp [mks, mX, nodeM, h2], ok_w ⟨by decide, by decide, by decide⟩ h4 h3⟩
      · exact ⟨.t (mW tRe) :: L, by simp [txt, exT, nodeT, signT, mW, h1], by simp [mks, mX, nodeM, h2], ok_w ⟨by decide, by decide, by decide⟩ h4 h3⟩
      · exact ⟨.t (mW tIm) :: L, by simp [txt, exT, nodeT, signT, mW, h1], by simp [mks, mX, nodeM, h2], ok_w ⟨by decide, by decide, by decide⟩ h4 h3⟩
      · exact ⟨.t (mW tConj) :: L, by simp [txt, exT, nodeT, signT, mW, h1], by simp [mks, mX, nodeM, h2], ok_w ⟨by decide, by decide, by decide⟩ h4 h3⟩
    · obtain ⟨a, b, rfl⟩ := len_two hk
      obtain ⟨A, hA⟩ := ih2 a (by simp)
      obtain ⟨B, hB⟩ := ih2 b (by simp)
      obtain ⟨A', a1, a2, a3⟩ := has_brack (signT op).2.1 hA
      obtain ⟨B', b1, b2, b3⟩ := has_brack (signT op).2.2 hB
      refine ⟨A' ++ .g 32 :: .t (mS (signM op)) :: .g 32 :: B', ?_, ?_, okP_app a3 (ok_g ?_) trivial⟩
      · rw [two_text hop]; simp [txt, txt_app, a1, b1, mS]
      · rw [two_marks hop]; simp [mks, mks_app, a2, b2]
      · rcases hop with rfl | rfl | rfl | rfl | rfl | rfl | rfl
        · exact ok_s (by decide) (ok_g b3)
        · exact ok_h (.inl rfl) trivial (ok_g b3)
        · exact ok_s (by decide) (ok_g b3)
        · exact ok_s (by decide) (ok_g b3)
        · exact ok_s (by decide) (ok_g b3)
        · exact ok_s (by decide) (ok_g b3)
        · exact ok_s (by decide) (ok_g b3)
    · obtain ⟨a, b, c, rfl⟩ := len_three hk
      obtain ⟨A, a1, a2, a3⟩ := ih2 a (by simp)
      obtain ⟨B, b1, b2, b3⟩ := ih2 b (by simp)
      obtain ⟨C, c1, c2, c3⟩ := ih2 c (by simp)
      refine ⟨.t (mW tIf) :: .g 32 :: (A ++ .g 32 :: .t (mW tThen) :: .g 32 :: (B ++ .g 32 :: .t (mW tElse) :: .g 32 :: C)), ?_, ?_, ?_⟩
      · simp [txt, txt_app, a1, b1, c1, mW, exT, exTs, nodeT, signT, brackE0]
      · simp [mks, mks_app, a2, b2, c2, mX, mXs, nodeM, mB0]
      · exact ok_w ⟨by decide, by decide, by decide⟩ trivial (ok_g (okP_app a3 (ok_g (ok_w ⟨by decide, by decide, by decide⟩ trivial (ok_g (okP_app b3 (ok_g (ok_w ⟨by decide, by decide, by decide⟩ trivial (ok_g c3))) trivial)))) trivial))
    · obtain ⟨a, b, c, rfl⟩ := len_three hk
      obtain ⟨A, a1, a2, a3⟩ := ih2 a (by simp)
      obtain ⟨B, b1, b2, b3⟩ := ih2 b (by simp)
      obtain ⟨C, c1, c2, c3⟩ := ih2 c (by simp)
      have n1 := ln (by simp)
      have n2 := lt rfl
      refine ⟨.t (mW tCase) :: .g 32 :: (A ++ .g 32 :: .t (mW tOf) :: .g 32 :: .t (mW tNil) :: .g 32 :: .t (mS sArrow) :: .g 32 :: (B ++ .g 32 :: .t (mS sBar) :: .g 32 :: .t (mN nm) :: .t (mS sColon) :: .t (mN tl) :: .g 32 :: .t (mS sArrow) :: .g 32 :: C)), ?_, ?_, ?_⟩
      · simp [txt, txt_app, a1, b1, c1, mW, mS, mN, exT, exTs, nodeT, signT, brackE0]
      · simp [mks, mks_app, a2, b2, c2, mX, mXs, nodeM, mB0]
      · exact ok_w ⟨by decide, by decide, by decide⟩ trivial (ok_g (okP_app a3 (ok_g (ok_w ⟨by decide, by decide, by decide⟩ trivial (ok_g (ok_w ⟨by decide, by decide, by decide⟩ trivial (ok_g (ok_s (by decide) (ok_g (okP_app b3 (ok_g (ok_s (by decide) (ok_g (ok_w (wordNm n1) (bnd_s (by decide) (by decide)) (ok_s (by decide) (ok_w (wordNm n2) trivial (ok_g (ok_s (by decide) (ok_g c3))))))))) trivial)))))))) trivial))
    · obtain ⟨a, b, rfl⟩ := len_two hk
      obtain ⟨A, a1, a2, a3⟩ := ih2 a (by simp)
      obtain ⟨B, b1, b2, b3⟩ := ih2 b (by simp)
      have n1 := ln (by omega)
      rcases hop with rfl | rfl
      · refine ⟨.t (mW tLet) :: .g 32 :: .t (mN nm) :: .g 32 :: .t (mY ty) :: .g 32 :: .t (mS sEq) :: .g 32 :: (A ++ .g 32 :: .t (mW tIn) :: .g 32 :: B), ?_, ?_, ?_⟩
        · simp [txt, txt_app, a1, b1, mW, mS, mN, mY, exT, exTs, nodeT, signT, brackE0]
        · simp [mks, mks_app, a2, b2, mX, mXs, nodeM, mB0]
        · exact ok_w ⟨by decide, by decide, by decide⟩ trivial (ok_g (ok_w (wordNm n1) trivial (ok_g (ok_w (wordY ht) trivial (ok_g (ok_h (.inr rfl) trivial (ok_g (okP_app a3 (ok_g (ok_w ⟨by decide, by decide, by decide⟩ trivial (ok_g b3))) trivial))))))))
      · refine ⟨.t (mW tStrict) :: .g 32 :: .t (mN nm) :: .g 32 :: .t (mY ty) :: .g 32 :: .t (mS sEq) :: .g 32 :: (A ++ .g 32 :: .t (mW tIn) :: .g 32 :: B), ?_, ?_, ?_⟩
        · simp [txt, txt_app, a1, b1, mW, mS, mN, mY, exT, exTs, nodeT, signT, brackE0]
        · simp [mks, mks_app, a2, b2, mX, mXs, nodeM, mB0]
        · exact ok_w ⟨by decide, by decide, by decide⟩ trivial (ok_g (ok_w (wordNm n1) trivial (ok_g (ok_w (wordY ht) trivial (ok_g (ok_h (.inr rfl) trivial (ok_g (okP_app a3 (ok_g (ok_w ⟨by decide, by decide, by decide⟩ trivial (ok_g b3))) trivial))))))))
termination_by e => SizeOf.sizeOf e
decreasing_by
  have := List.sizeOf_lt_of_mem hu
  simp only [Ex.mk.sizeOf_spec]
  omega
def tailT (ps : List Pm) : List UInt8 := ps.flatMap fun p => [44, 32] ++ (p.name ++ 32 :: letter p.ty)
theorem pmsT_tail (p : Pm) (r : List Pm) : pmsT (p :: r) = p.name ++ 32 :: letter p.ty ++ tailT r := by
  induction r generalizing p with
  | nil => simp [pmsT, tailT]
  | cons q r ih =>
    rw [pmsT, ih q]
    · simp [tailT]
    · simp
theorem has_tail : ∀ ps : List Pm, (∀ p ∈ ps, tyG p.ty ∧ lexN p.name) → ∃ L, Has L (tailT ps) (pTail ps) ∧ bnd L
  | [], _ => ⟨[], ⟨rfl, rfl, trivial⟩, trivial⟩
  | p :: r, h => by
    obtain ⟨L, ⟨h1, h2, h3⟩, h4⟩ := has_tail r (fun x hx => h x (by simp [hx]))
    obtain ⟨g1, g2⟩ := h p (by simp)
    refine ⟨.t (mS sComma) :: .g 32 :: .t (mN p.name) :: .g 32 :: .t (mY p.ty) :: L, ⟨?_, ?_, ?_⟩, bnd_s (by decide) (by decide)⟩
    · simp [txt, h1, tailT, mS, mN, mY, mW]
    · simp [mks, h2, pTail, pmM]
    · exact ok_s (by decide) (ok_g (ok_w (wordNm g2) trivial (ok_g (ok_w (wordY g1) h4 h3))))
theorem has_pms (ps : List Pm) (h : ∀ p ∈ ps, tyG p.ty ∧ lexN p.name) : ∃ L, Has L (pmsT ps) (pmsM ps) := by
  cases ps with
  | nil => exact ⟨[], rfl, rfl, trivial⟩
  | cons p r =>
    obtain ⟨L, ⟨h1, h2, h3⟩, h4⟩ := has_tail r (fun x hx => h x (by simp [hx]))
    obtain ⟨g1, g2⟩ := h p (by simp)
    refine ⟨.t (mN p.name) :: .g 32 :: .t (mY p.ty) :: L, ?_, ?_, ok_w (wordNm g2) trivial (ok_g (ok_w (wordY g1) h4 h3))⟩
    · rw [pmsT_tail]; simp [txt, h1, mN, mY, mW]
    · simp [mks, h2, pmsM, pmM]
/-- behind a definition's text (it ends with a line's end) another one may stand -/
theorem has_fds {l : Lim} : ∀ fs : List Fd, (∀ f ∈ fs, gF l f ∧ lF f) → ∃ L, Has L (fdsT fs) (fs.flatMap fdM)
  | [], _ => ⟨[], rfl, rfl, trivial⟩
  | f :: fs, h => by
    obtain ⟨K, k1, k2, k3⟩ := has_fds fs (fun g hg => h g (by simp [hg]))
    obtain ⟨g1, g2, g3, g4, g5⟩ := (h f (by simp)).1
    obtain ⟨l1, l2, l3⟩ := (h f (by simp)).2
    obtain ⟨A, a1, a2, a3⟩ := has_pms f.params (fun p hp => ⟨g1 p hp, l2 p hp⟩)
    obtain ⟨B, b1, b2, b3⟩ := pz_ex f.body g4 l3
    refine ⟨.t (mN f.name) :: .t (mS sOpen) :: (A ++ .t (mS sClose) :: .t (mS sColon) :: .g 32 :: .t (mY f.ty) :: .g 32 :: .t (mS sEq) :: .g 32 :: (B ++ .t (mS sSemi) :: .g 10 :: K)), ?_, ?_, ?_⟩
    · have hk : fdsT (f :: fs) = fdT f ++ fdsT fs := by simp [fdsT]
      rw [hk, ← k1]
      simp [txt, txt_app, a1, b1, fdT, mN, mS, mY, mW]
    · simp [mks, mks_app, a2, b2, k2, fdM]
    · refine ok_w (wordNm l1) (bnd_s (by decide) (by decide)) (ok_s (by decide) (okP_app a3 (ok_s (by decide) (ok_s (by decide) (ok_g (ok_w (wordY g3) trivial (ok_g (ok_h (.inr rfl) trivial (ok_g (okP_app b3 (ok_s (by decide) ⟨by decide, k3⟩) (bnd_s (by decide) (by decide)))))))))) (bnd_s (by decide) (by decide))))
/-- A PRINTED PROGRAM IS READ BACK as the same program, but for places. -/
theorem print_back {l : Lim} {fs : List Fd} (hg : ∀ f ∈ fs, gF l f ∧ lF f) (hlen : (fs.length : Int) ≤ l.funcs) (hne : fs ≠ []) :
    ∃ ms fs' rest, scan (fdsT fs) 0 = .ok ms ∧ P l (.prog [] ms) (.ok [.fs fs'] rest) ∧ fs'.map unpF = fs.map unpF := by
  obtain ⟨L, h1, h2, h3⟩ := has_fds fs hg
  obtain ⟨ms, e, hs, he⟩ := scan_pz L 0 h3
  rw [h1] at hs
  rw [h2] at he
  obtain ⟨fs', hu, hp⟩ := back_prog (l := l) (c := ⟨4, [], (0, 0), e⟩) rfl fs [] ms (fun f hf => (hg f hf).1) (by simpa using hlen) (by simpa using hne) he
  exact ⟨_, fs', _, hs, by simpa using hp, hu⟩
end Pg
end Go.Proofs.YtgddkgbidhhheaaDoor
/- Two programs that are read have one text just if they are the same. -/
set_option linter.unusedVariables false
set_option linter.unusedSimpArgs false
namespace Go.Proofs.YtgddkgbidhhheaaDoor
open Go.RowKit Flo Mk Pg Ab
namespace Pg
theorem tok_T {s : List UInt8} {a : Nat} {m : M} (h : one s a = some m) : markT m := by
  unfold one at h
  split at h
  · have hall : ∀ c ∈ s.takeWhile runB, runB c = true := fun c hc => tw_mem hc
    have hne : s.takeWhile runB ≠ [] := by
      rename_i hh
      cases s with
      | nil => cases hh
      | cons c r =>
        have : runB c = true := by simpa using hh
        rw [List.takeWhile_cons, if_pos this]; simp
    obtain ⟨ht, hp⟩ := wordM_text h
    have h0 := word_pos h 0
    obtain ⟨k, tx, nu, po⟩ := m
    dsimp only at ht hp h0
    subst ht hp
    refine ⟨fun hk => ?_, fun hk => ?_⟩
    · dsimp only at hk
      subst hk
      refine ⟨hne, hall, ?_⟩
      have : nu = (0, 0) := by
        unfold wordM at h0
        split at h0
        · rw [Option.map_eq_some_iff] at h0
          obtain ⟨p, _, h1⟩ := h0
          simp at h1
        · split at h0
          · simp at h0
          · split at h0
            · cases h0
            · simp at h0; exact h0.symm
      rw [this] at h0; exact h0
    · dsimp only at hk
      subst hk
      have : textL nu.1 nu.2 = s.takeWhile runB := by
        unfold wordM at h0
        split at h0
        · rw [Option.map_eq_some_iff] at h0
          obtain ⟨p, hp, h1⟩ := h0
          simp only [M.mk.injEq, true_and] at h1
          obtain ⟨rfl, _⟩ := h1
          exact (refParse_some (x := p.1) (y := p.2) hp).2
        · split at h0
          · simp at h0
          · split at h0
            · cases h0
            · simp at h0
      show textL nu.1 nu.2 ≠ [] ∧ (∀ c ∈ textL nu.1 nu.2, runB c = true) ∧ wordM (textL nu.1 nu.2) 0 = _
      rw [this]
      exact ⟨hne, hall, h0⟩
  · split at h
    · cases h
    · cases h
      exact ⟨fun h => (by cases h), fun h => (by cases h)⟩
theorem scan_T {t : List UInt8} {a : Nat} {ms : List M} (h : scan t a = .ok ms) : ∀ m ∈ ms, markT m := by
  obtain ⟨ts, e, rfl, ht⟩ := scan_toks _ t a ms (Nat.lt_succ_self _) h
  intro m hm
  rcases List.mem_append.1 hm with hm | hm
  · obtain ⟨c, r, a', h1, _⟩ := ht m hm
    exact tok_T h1
  · rw [List.mem_singleton.1 hm]
    exact ⟨fun h => (by cases h), fun h => (by cases h)⟩
theorem lexU_ok {u : Int × Int} (h : lexU u) : Flo.okR u.1 u.2 = true := by
  have h0 := h.2.2
  unfold wordM at h0
  split at h0
  · rw [Option.map_eq_some_iff] at h0
    obtain ⟨p, hp, h1⟩ := h0
    simp only [M.mk.injEq, true_and] at h1
    obtain ⟨rfl, _⟩ := h1
    exact (refParse_some (x := p.1) (y := p.2) hp).1
  · split at h0
    · simp at h0
    · split at h0
      · cases h0
      · simp at h0
theorem num_ok {op : Int} {nm tl : List UInt8} {ty : Int} {num : Int × Int} {k : Nat} (hg : nodeG op nm tl ty num k) (hl : nodeL op nm tl num) : Flo.okR num.1 num.2 = true := by
  have h0 : Flo.okR 0 0 = true := by decide
  rcases hg with ⟨rfl, _⟩ | ⟨_, _, _, _, rfl, _⟩ | ⟨_, _, _, _, rfl, _⟩ | ⟨_, _, _, rfl, _⟩ | ⟨_, _, _, rfl⟩ | ⟨_, _, _, _, rfl, _⟩ | ⟨_, _, _, _, rfl, _⟩ | ⟨_, _, _, _, rfl, _⟩ | ⟨_, _, rfl, _⟩ | ⟨_, _, _, rfl, _⟩
  · exact lexU_ok (hl.2.2 rfl)
  all_goals exact h0
mutual
theorem exT_unp : ∀ e : Ex, exT (unp e) = exT e
  | .mk op nm tl ty num us pos => by rw [unp, exT, exT, exTs_unp us]
theorem exTs_unp : ∀ us : List Ex, exTs (unps us) = exTs us
  | [] => rfl
  | e :: r => by
    have h : opX (unp e) = opX e := by obtain ⟨op, nm, tl, ty, num, us, pos⟩ := e; rfl
    rw [unps, exTs, exTs, exT_unp e, exTs_unp r, h]
end
theorem pmsT_unp : ∀ ps : List Pm, pmsT (ps.map unpP) = pmsT ps
  | [] => rfl
  | [p] => rfl
  | p :: q :: r => by
    have := pmsT_unp (q :: r)
    show (unpP p).name ++ [32] ++ letter (unpP p).ty ++ [44, 32] ++ pmsT ((q :: r).map unpP) = p.name ++ [32] ++ letter p.ty ++ [44, 32] ++ pmsT (q :: r)
    rw [this]; rfl
theorem fdsT_unp (fs : List Fd) : fdsT (fs.map unpF) = fdsT fs := by
  unfold fdsT
  induction fs with
  | nil => rfl
  | cons f r ih => rw [List.map_cons, List.flatMap_cons, List.flatMap_cons, ih]; congr 1; simp only [fdT, unpF, pmsT_unp, exT_unp]
theorem readL_g {t : List UInt8} {fs : List Fd} (h : readL t (some fs)) : (∀ f ∈ fs, gF wideL f ∧ lF f) ∧ (fs.length : Int) ≤ wideL.funcs ∧ fs ≠ [] := by
  obtain ⟨_, ms, rest, hs, hp⟩ := h
  obtain ⟨a, b⟩ := prog_g hp (scan_T hs) (by decide) (by decide) (by decide)
  exact ⟨a, b, prog_ne hp⟩
/-- one text, so the same but for places -/
theorem text_same {p q : List Fd} {a b : List UInt8} (hp : readL a (some p)) (hq : readL b (some q)) : fdsT p = fdsT q ↔ p.map unpF = q.map unpF := by
  obtain ⟨p1, p2, p3⟩ := readL_g hp
  obtain ⟨q1, q2, q3⟩ := readL_g hq
  constructor
  · intro h
    obtain ⟨ms, p', r, s1, d1, u1⟩ := print_back p1 p2 p3
    obtain ⟨ms2, q', r2, s2, d2, u2⟩ := print_back q1 q2 q3
    rw [h, s2] at s1
    cases s1
    have := det d2 d1
    cases this
    rw [← u1, u2]
  · intro h
    rw [← fdsT_unp p, h, fdsT_unp]
end Pg
theorem cEq_okR {x y x' y' : Int} (h : Flo.okR x y = true) (h' : Flo.okR x' y' = true) : cEq (W x) (W y) (W x') (W y') = (decide (x = x') && decide (y = y')) := by
  have h1 := okR_iff.1 h
  have h2 := okR_iff.1 h'
  unfold cEq
  rw [ord_W_eq h1.1 h2.1, ord_W_eq h1.2 h2.2]
mutual
theorem sameX_unp : ∀ (a b : Ex), gX a → lX a → gX b → lX b → (sameX false a b = true ↔ unp a = unp b)
  | .mk o n t ty num us p, .mk o' n' t' ty' num' vs p', g, l, g', l' => by
    have h1 := num_ok g.1 l.1
    have h2 := num_ok g'.1 l'.1
    have ih := sameXs_unp us vs g.2 l.2 g'.2 l'.2
    rw [sameX, cEq_okR h1 h2, unp, unp]
    simp only [Bool.not_false, Bool.true_or, Bool.and_true, Bool.and_eq_true, decide_eq_true_eq, beq_iff_eq, Ex.mk.injEq, and_true]
    constructor
    · rintro ⟨⟨⟨⟨⟨⟨a1, a2⟩, a3⟩, a4⟩, a5, a6⟩, a7⟩, a8⟩
      exact ⟨a1, a2, a3, a4, Prod.ext a5 a6, (ih a7).1 a8⟩
    · rintro ⟨rfl, rfl, rfl, rfl, rfl, a6⟩
      have hlen : us.length = vs.length := by
        have hl : ∀ xs : List Ex, (unps xs).length = xs.length := by
          intro xs
          induction xs with
          | nil => rfl
          | cons x r ih => simp [unps, ih]
        rw [← hl us, a6, hl]
      exact ⟨⟨⟨⟨⟨⟨rfl, rfl⟩, rfl⟩, rfl⟩, rfl, rfl⟩, hlen⟩, (ih hlen).2 a6⟩
theorem sameXs_unp : ∀ (us vs : List Ex), gXs us → lXs us → gXs vs → lXs vs → us.length = vs.length → (sameXs false us vs = true ↔ unps us = unps vs)
  | [], [], _, _, _, _, _ => by simp [sameXs]
  | [], _ :: _, _, _, _, _, h => by simp at h
  | _ :: _, [], _, _, _, _, h => by simp at h
  | a :: us, b :: vs, g, l, g', l', h => by
    have h1 := sameX_unp a b g.1 l.1 g'.1 l'.1
    have h2 := sameXs_unp us vs g.2 l.2 g'.2 l'.2 (by simpa using h)
    rw [sameXs, Bool.and_eq_true, h1, h2, unps, unps, List.cons.injEq]
end
theorem samePs_unp : ∀ (us vs : List Pm), us.length = vs.length → (samePs false us vs = true ↔ us.map unpP = vs.map unpP)
  | [], [], _ => by simp [samePs]
  | [], _ :: _, h => by simp at h
  | _ :: _, [], h => by simp at h
  | a :: us, b :: vs, h => by
    have h2 := samePs_unp us vs (by simpa using h)
    rw [samePs, Bool.and_eq_true, h2, List.map_cons, List.map_cons, List.cons.injEq]
    obtain ⟨n, t, p⟩ := a
    obtain ⟨n', t', p'⟩ := b
    simp [sameP, unpP]
theorem sameF_unp {l : Lim} (f g : Pg.Fd) (hf : gF l f ∧ lF f) (hg : gF l g ∧ lF g) : sameF false f g = true ↔ unpF f = unpF g := by
  have hx := sameX_unp f.body g.body hf.1.2.2.2.1 hf.2.2.2 hg.1.2.2.2.1 hg.2.2.2
  obtain ⟨n, ps, t, b, p⟩ := f
  obtain ⟨n', ps', t', b', p'⟩ := g
  dsimp only at hx
  unfold sameF unpF
  simp only [Bool.not_false, Bool.true_or, Bool.and_true, Bool.and_eq_true, decide_eq_true_eq, beq_iff_eq, Pg.Fd.mk.injEq, and_true, hx]
  constructor
  · rintro ⟨⟨⟨⟨a1, a2⟩, a3⟩, a4⟩, a5⟩
    exact ⟨a1, (samePs_unp _ _ a3).1 a4, a2, a5⟩
  · rintro ⟨a1, a2, a3, a4⟩
    have hl : ps.length = ps'.length := by have := congrArg List.length a2; simpa using this
    exact ⟨⟨⟨⟨a1, a3⟩, hl⟩, (samePs_unp _ _ hl).2 a2⟩, a4⟩
theorem sameFs_unp {l : Lim} : ∀ (us vs : List Pg.Fd), (∀ f ∈ us, gF l f ∧ lF f) → (∀ f ∈ vs, gF l f ∧ lF f) → us.length = vs.length → (sameFs false us vs = true ↔ us.map unpF = vs.map unpF)
  | [], [], _, _, _ => by simp [sameFs]
  | [], _ :: _, _, _, h => by simp at h
  | _ :: _, [], _, _, h => by simp at h
  | a :: us, b :: vs, hu, hv, h => by
    have h2 := sameFs_unp us vs (fun f hf => hu f (by simp [hf])) (fun f hf => hv f (by simp [hf])) (by simpa using h)
    rw [sameFs, Bool.and_eq_true, h2, sameF_unp a b (hu a (by simp)) (hv b (by simp)), List.map_cons, List.map_cons, List.cons.injEq]
theorem sameG_unp {l : Lim} (us vs : List Pg.Fd) (hu : ∀ f ∈ us, gF l f ∧ lF f) (hv : ∀ f ∈ vs, gF l f ∧ lF f) : sameG false us vs = true ↔ us.map unpF = vs.map unpF := by
  unfold sameG
  rw [Bool.and_eq_true, decide_eq_true_eq]
  constructor
  · rintro ⟨a, b⟩
    exact (sameFs_unp us vs hu hv a).1 b
  · intro h
    have hl : us.length = vs.length := by have := congrArg List.length h; simpa using this
    exact ⟨hl, (sameFs_unp us vs hu hv hl).2 h⟩
/-- THE LAW of ShowOne, plain: two programs that are read have one text just if Same says so -/
theorem show_one {p q : List Pg.Fd} {a b : List UInt8} (hp : readL a (some p)) (hq : readL b (some q)) : fdsT p = fdsT q ↔ sameG false p q = true := by
  rw [text_same hp hq, sameG_unp p q (readL_g hp).1 (readL_g hq).1]
end Go.Proofs.YtgddkgbidhhheaaDoor
/- The grammar does not look at places. No program in sight. -/
set_option linter.unusedVariables false
set_option linter.unusedSimpArgs false
namespace Go.Proofs.YtgddkgbidhhheaaDoor
namespace Pg
open Mk Flo
def stV : Vl → Vl
  | .u => .u
  | .e x => .e (unp x)
  | .nm m => .nm (strip m)
  | .ty t => .ty t
  | .asx xs => .asx (unps xs)
  | .ps ps => .ps (ps.map unpP)
  | .fs fs => .fs (fs.map unpF)
def stR : Res → Res
  | .ok vs ms => .ok (vs.map stV) (ms.map strip)
  | .bad w _ => .bad w 0
def stJ : Job → Job
  | .seq n is ms => .seq n is (ms.map strip)
  | .expr n ms => .expr n (ms.map strip)
  | .row n lv ms => .row n lv (ms.map strip)
  | .tail n lv e ms => .tail n lv (unp e) (ms.map strip)
  | .unit n ms => .unit n (ms.map strip)
  | .args n us ms => .args n (unps us) (ms.map strip)
  | .pars ps ms => .pars (ps.map unpP) (ms.map strip)
  | .prog fs ms => .prog (fs.map unpF) (ms.map strip)
theorem sr_cons (v : Vl) (r : Res) : stR (r.cons v) = (stR r).cons (stV v) := by cases r <;> rfl
theorem sr_map {f f' : List Vl → List Vl} (h : ∀ vs, (f vs).map stV = f' (vs.map stV)) (r : Res) : stR (r.map f) = (stR r).map f' := by
  cases r with
  | ok vs ms => simp only [Res.map, stR, h]
  | bad w p => rfl
theorem st_e {v : Vl} {x : Ex} : stV v = .e x ↔ ∃ y, v = .e y ∧ unp y = x := by cases v <;> simp [stV]
theorem st_nm {v : Vl} {x : M} : stV v = .nm x ↔ ∃ y, v = .nm y ∧ strip y = x := by cases v <;> simp [stV]
theorem st_ty {v : Vl} {x : Int} : stV v = .ty x ↔ v = .ty x := by cases v <;> simp [stV]
theorem st_as {v : Vl} {x : List Ex} : stV v = .asx x ↔ ∃ y, v = .asx y ∧ unps y = x := by cases v <;> simp [stV]
theorem par_s (vs : List Vl) : (parEx vs).map stV = parEx (vs.map stV) := by
  unfold parEx
  split
  · rfl
  · rename_i h
    split
    · rename_i e x y he
      rw [List.map_eq_cons_iff] at he
      obtain ⟨a, b, rfl, h1, h2⟩ := he
      rw [List.map_eq_cons_iff] at h2
      obtain ⟨c, d, rfl, h3, h4⟩ := h2
      obtain ⟨z, rfl, _⟩ := st_e.1 h1
      simp at h4; subst h4
      exact absurd rfl (h _ _)
    · rfl
theorem if_s (m : M) (vs : List Vl) : (ifEx m vs).map stV = ifEx (strip m) (vs.map stV) := by
  unfold ifEx
  split
  · first | rfl | simp [stV, unp, unps, strip]
  · rename_i h
    split
    · rename_i he
      rw [List.map_eq_cons_iff] at he
      obtain ⟨a0, b0, rfl, h0, q0⟩ := he
      rw [List.map_eq_cons_iff] at q0
      obtain ⟨a1, b1, rfl, h1, q1⟩ := q0
      rw [List.map_eq_cons_iff] at q1
      obtain ⟨a2, b2, rfl, h2, q2⟩ := q1
      rw [List.map_eq_cons_iff] at q2
      obtain ⟨a3, b3, rfl, h3, q3⟩ := q2
      rw [List.map_eq_cons_iff] at q3
      obtain ⟨a4, b4, rfl, h4, q4⟩ := q3
      simp at q4; subst q4
      obtain ⟨z0, rfl, _⟩ := st_e.1 h0
      obtain ⟨z2, rfl, _⟩ := st_e.1 h2
      obtain ⟨z4, rfl, _⟩ := st_e.1 h4
      exact absurd rfl (h _ _ _ _ _)
    · rfl
theorem call_s (m : M) (vs : List Vl) : (callEx m vs).map stV = callEx (strip m) (vs.map stV) := by
  unfold callEx
  split
  · first | rfl | simp [stV, unp, unps, strip]
  · rename_i h
    split
    · rename_i he
      rw [List.map_eq_cons_iff] at he
      obtain ⟨a0, b0, rfl, h0, q0⟩ := he
      simp at q0; subst q0
      obtain ⟨z0, rfl, _⟩ := st_as.1 h0
      exact absurd rfl (h _)
    · rfl
theorem fail_s (m : M) (vs : List Vl) : (failEx m vs).map stV = failEx (strip m) (vs.map stV) := by
  unfold failEx
  split
  · first | rfl | simp [stV, unp, unps, strip]
  · rename_i h
    split
    · rename_i he
      rw [List.map_eq_cons_iff] at he
      obtain ⟨a0, b0, rfl, h0, q0⟩ := he
      simp at q0; subst q0
      obtain rfl := st_ty.1 h0
      exact absurd rfl (h _)
    · rfl
theorem oneE_s (op : Int) (m : M) (vs : List Vl) : (oneEx op m vs).map stV = oneEx op (strip m) (vs.map stV) := by
  unfold oneEx
  split
  · first | rfl | simp [stV, unp, unps, strip]
  · rename_i h
    split
    · rename_i he
      rw [List.map_eq_cons_iff] at he
      obtain ⟨a0, b0, rfl, h0, q0⟩ := he
      rw [List.map_eq_cons_iff] at q0
      obtain ⟨a1, b1, rfl, h1, q1⟩ := q0
      rw [List.map_eq_cons_iff] at q1
      obtain ⟨a2, b2, rfl, h2, q2⟩ := q1
      simp at q2; subst q2
      obtain ⟨z1, rfl, _⟩ := st_e.1 h1
      exact absurd rfl (h _ _ _)
    · rfl
theorem bind_s (m : M) (vs : List Vl) : (bindEx m vs).map stV = bindEx (strip m) (vs.map stV) := by
  unfold bindEx
  split
  · first | rfl | simp [stV, unp, unps, strip, isW]
  · first | rfl | simp [stV, unp, unps, strip]
  · rename_i h h'
    split
    · rename_i he
      rw [List.map_eq_cons_iff] at he
      obtain ⟨a0, b0, rfl, h0, q0⟩ := he
      rw [List.map_eq_cons_iff] at q0
      obtain ⟨a1, b1, rfl, h1, q1⟩ := q0
      rw [List.map_eq_cons_iff] at q1
      obtain ⟨a2, b2, rfl, h2, q2⟩ := q1
      rw [List.map_eq_cons_iff] at q2
      obtain ⟨a3, b3, rfl, h3, q3⟩ := q2
      rw [List.map_eq_cons_iff] at q3
      obtain ⟨a4, b4, rfl, h4, q4⟩ := q3
      rw [List.map_eq_cons_iff] at q4
      obtain ⟨a5, b5, rfl, h5, q5⟩ := q4
      simp at q5; subst q5
      obtain ⟨z0, rfl, _⟩ := st_nm.1 h0
      obtain rfl := st_ty.1 h1
      obtain ⟨z3, rfl, _⟩ := st_e.1 h3
      obtain ⟨z5, rfl, _⟩ := st_e.1 h5
      exact absurd rfl (h _ _ _ _ _ _)
    · rename_i he
      rw [List.map_eq_cons_iff] at he
      obtain ⟨a0, b0, rfl, h0, q0⟩ := he
      rw [List.map_eq_cons_iff] at q0
      obtain ⟨a1, b1, rfl, h1, q1⟩ := q0
      rw [List.map_eq_cons_iff] at q1
      obtain ⟨a2, b2, rfl, h2, q2⟩ := q1
      rw [List.map_eq_cons_iff] at q2
      obtain ⟨a3, b3, rfl, h3, q3⟩ := q2
      rw [List.map_eq_cons_iff] at q3
      obtain ⟨a4, b4, rfl, h4, q4⟩ := q3
      rw [List.map_eq_cons_iff] at q4
      obtain ⟨a5, b5, rfl, h5, q5⟩ := q4
      rw [List.map_eq_cons_iff] at q5
      obtain ⟨a6, b6, rfl, h6, q6⟩ := q5
      rw [List.map_eq_cons_iff] at q6
      obtain ⟨a7, b7, rfl, h7, q7⟩ := q6
      rw [List.map_eq_cons_iff] at q7
      obtain ⟨a8, b8, rfl, h8, q8⟩ := q7
      rw [List.map_eq_cons_iff] at q8
      obtain ⟨a9, b9, rfl, h9, q9⟩ := q8
      rw [List.map_eq_cons_iff] at q9
      obtain ⟨a10, b10, rfl, h10, q10⟩ := q9
      simp at q10; subst q10
      obtain ⟨z0, rfl, _⟩ := st_e.1 h0
      obtain ⟨z4, rfl, _⟩ := st_e.1 h4
      obtain ⟨z6, rfl, _⟩ := st_nm.1 h6
      obtain ⟨z8, rfl, _⟩ := st_nm.1 h8
      obtain ⟨z10, rfl, _⟩ := st_e.1 h10
      exact absurd rfl (h' _ _ _ _ _ _ _ _ _ _ _)
    · rfl
theorem def_s {vs : List Vl} {f : Fd} (h : defEx vs = some f) : defEx (vs.map stV) = some (unpF f) := by
  unfold defEx at h
  split at h
  · cases h; rfl
  · cases h
theorem unps_app : ∀ (us vs : List Ex), unps (us ++ vs) = unps us ++ unps vs
  | [], vs => rfl
  | a :: us, vs => by rw [List.cons_append, unps, unps_app us vs, unps, List.cons_append]
theorem unps_ne {us : List Ex} (h : us ≠ []) : unps us ≠ [] := by
  cases us with
  | nil => exact absurd rfl h
  | cons a r => simp [unps]
theorem P_strip {l : Lim} {j : Job} {r : Res} (h : P l j r) : P l (stJ j) (stR r) := by
  induction h with
  | nil n ms => exact .nil n _
  | w h hr ih => rw [sr_cons]; exact .w h ih
  | wBad n is ms h => exact .wBad n is _ h
  | nm h hr ih => rw [sr_cons]; exact .nm h ih
  | nmBad n is ms h => exact .nmBad n is _ h
  | cn h hk hr ih => rw [sr_cons]; exact .cn h hk ih
  | cnBig n is ms h hk => exact .cnBig n is _ h hk
  | cnBad n is k most ms h => exact .cnBad n is k most _ h
  | ty h hr ih => rw [sr_cons]; exact .ty h ih
  | tyBad n is ms h => exact .tyBad n is _ h
  | e h hr ih1 ih2 => rw [sr_cons]; exact .e ih1 ih2
  | eBad is h ih => exact .eBad is ih
  | ps h hr ih1 ih2 => rw [sr_cons]; exact .ps ih1 ih2
  | psBad is h ih => exact .psBad is ih
  | deep ms h hn => exact .deep _ h hn
  | @bind n m ms r h hn hr ih => rw [sr_map (bind_s m)]; exact .bind h hn ih
  | @cond n m ms r h hr ih => rw [sr_map (if_s m)]; exact .cond h ih
  | expr h h' hr ih => exact .expr h h' ih
  | row4 hr ih => exact .row4 ih
  | rowBad h hr ih => exact .rowBad h ih
  | row h h1 hr ih1 ih2 => exact .row h ih1 ih2
  | stop n e ms h => exact .stop n _ _ h
  | tailBad e h hr ih => exact .tailBad _ h ih
  | tail1 h hl hr ih => exact .tail1 h hl ih
  | tail2 h hl h1 hr ih1 ih2 => exact .tail2 h hl ih1 ih2
  | num n ms h => exact .num n _ h
  | var n ms h hk => exact .var n _ h hk
  | @call n m k ms r h hk hr ih => rw [sr_map (call_s m)]; exact .call h hk ih
  | par h hr ih => rw [sr_map par_s]; exact .par h ih
  | word0 n ms h => exact .word0 n _ h
  | @fail n m ms r h hr ih => rw [sr_map (fail_s m)]; exact .fail h ih
  | @word1 n op m ms r h hr ih => rw [sr_map (oneE_s op m)]; exact .word1 h ih
  | unitBad n ms h2 h0 hp hw hf h1 => exact .unitBad n _ h2 h0 hp hw hf h1
  | aStop n us ms h => exact .aStop n _ _ h
  | aSep n ms h ha hc => exact .aSep n _ h (unps_ne ha) hc
  | aBad0 h hr ih => exact .aBad0 h ih
  | aBad ha hc hr ih => exact .aBad (unps_ne ha) hc ih
  | aNext0 h h1 hr ih1 ih2 => exact .aNext0 h ih1 ih2
  | @aNext n us x m ms ms' r ha hc h1 hr ih1 ih2 =>
    simp only [stJ, unps_app] at ih2
    exact .aNext (unps_ne ha) hc ih1 ih2
  | pStop ps ms h => exact .pStop _ _ h
  | pSep ms h ha hc => exact .pSep _ h (by simpa using ha) hc
  | pBad0 h hr ih => exact .pBad0 h ih
  | @pBad ps m ms w p ha hc hr ih =>
    refine .pBad (by simpa using ha) hc ?_
    simpa [stJ, stR] using ih
  | pNext0 h h1 hr ih1 ih2 => exact .pNext0 h ih1 ih2
  | @pNext ps x m t ms ms' r ha hc h1 hr ih1 ih2 =>
    simp only [stJ, List.map_append] at ih2
    refine .pNext (x := strip x) (t := t) (by simpa using ha) hc ?_ ih2
    simpa [stJ, stR, stV] using ih1
  | progEnd ms h hf => exact .progEnd _ h (by simpa using hf)
  | @progBad fs m ms w p h hr ih =>
    refine .progBad (by rcases h with h | h; exact .inl h; exact .inr (by rw [h]; rfl)) ?_
    simpa [stJ, stR] using ih
  | @prog fs f vs m ms ms' r h h1 hd hr ih1 ih2 =>
    simp only [stJ, List.map_append] at ih2
    refine .prog (by rcases h with h | h; exact .inl h; exact .inr (by rw [h]; rfl)) ?_ (def_s hd) ih2
    simpa [stJ, stR] using ih1
/-- the same marks at other places: one text -/
theorem text_places {p q : List Fd} {a b : List UInt8} {ms ms' : List M} (hp : readL a (some p)) (hq : readL b (some q)) (h1 : scan a 0 = .ok ms) (h2 : scan b 0 = .ok ms') (h : ms.map strip = ms'.map strip) : fdsT p = fdsT q := by
  obtain ⟨_, k1, r1, s1, d1⟩ := hp
  obtain ⟨_, k2, r2, s2, d2⟩ := hq
  rw [h1] at s1; cases s1
  rw [h2] at s2; cases s2
  have e1 := P_strip d1
  have e2 := P_strip d2
  simp only [stJ, h] at e1
  simp only [stJ] at e2
  have := det e1 e2
  simp only [stR, List.map_cons, List.map_nil, stV, Res.ok.injEq, List.cons.injEq, Vl.fs.injEq, and_true] at this
  rw [← fdsT_unp p, this.1, fdsT_unp]
/-- blanks and a remark around a text: its marks stay, but for their places -/
theorem scan_around {a : List UInt8} {ms ms' : List M} (h1 : scan a 0 = .ok ms) (h2 : scan ([32, 35, 120, 10, 9] ++ a ++ [10, 32]) 0 = .ok ms') : ms.map strip = ms'.map strip := by
  have e1 : scan ([32, 35, 120, 10, 9] ++ a ++ [10, 32]) 0 = scan (a ++ 10 :: [32]) 5 := by
    show scan (32 :: 35 :: 120 :: 10 :: 9 :: (a ++ [10, 32])) 0 = _
    rw [scan_blank (by decide), scan_hash, rem_cons (by decide), rem_cons (by decide), rem_nl, scan_blank (by decide), scan_blank (by decide)]
  rw [e1, scan_app [32] _ a 5 (Nat.lt_succ_self _), show (5 : Nat) = 0 + 5 from rfl, scan_mv 5 _ a 0 (Nat.lt_succ_self _), h1] at h2
  obtain ⟨ts, e, rfl, _⟩ := scan_toks _ a 0 ms (Nat.lt_succ_self _) h1
  have hb : ∀ n, scan [32] n = .ok [⟨4, [], (0, 0), n + 1⟩] := fun n => by rw [scan_blank (by decide), scan_nil]
  simp only [mvR, app, hb, List.map_append, List.map_cons, List.map_nil, List.dropLast_concat] at h2
  rw [fin_ok rfl] at h2
  simp only [Except.ok.injEq] at h2
  subst h2
  simp only [List.map_append, List.map_map, List.map_cons, List.map_nil]
  congr 1
/-- ShowOne's clause 'again' -/
theorem again_same {p r : List Fd} {a : List UInt8} (hp : readL a (some p)) (hr : readL ([32, 35, 120, 10, 9] ++ a ++ [10, 32]) (some r)) : fdsT p = fdsT r := by
  obtain ⟨_, ms, _, s1, _⟩ := id hp
  obtain ⟨_, ms', _, s2, _⟩ := id hr
  exact text_places hp hr s1 s2 (scan_around s1 s2)
end Pg
end Go.Proofs.YtgddkgbidhhheaaDoor
