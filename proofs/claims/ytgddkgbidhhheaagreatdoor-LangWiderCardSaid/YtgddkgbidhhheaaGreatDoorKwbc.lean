/- Texts joined: Lgh Lle Lgb Join Lgc. -/
import Derived.Test.YtgddkgbidhhheaaGreatDoorKwbb
import Derived.Test.YtgddkgbidhhheaaGreatDoorKwba
import Derived.Test.YtgddkgbidhhheaaGreatDoorKwaw
set_option linter.unusedVariables false
set_option linter.unusedSimpArgs false
namespace Go.Proofs.YtgddkgbidhhheaaGreatDoor
namespace Pg
open Mk
variable {l:Lim}
def it1:It→It→Prop
 | .cn k _,i2=>∃ m2,i2=.cn k m2
 | i,i2=>i2=i
def itR:List It→List It→Prop
 | [],is2=>is2=[]
 | i :: is,is2=>∃ i2 r2,is2=i2 :: r2∧it1 i i2∧itR is r2
theorem itR_refl:∀ is:List It,itR is is
 | []=>rfl
 | i :: is=>⟨i,is,rfl,by cases i<;>first | exact rfl | exact ⟨_,rfl⟩,itR_refl is⟩
def Re:Job→Job→Prop
 | .seq n is ms,j2=>∃ is2,j2=.seq n is2 ms∧itR is is2
 | j,j2=>j2=j
theorem NF_le {n:Int} {a b:Nat} (h:NF l n b) (hab:a≤b):NF l n a:=by unfold NF at *; omega
theorem acf0 {j:Job} (h1:acN j=0) (h2:acA j=0) (h3:acF j=0):AcF l j:=⟨.inl h1,.inl h2,.inl h3⟩
theorem cf0 {j:Job} {vs:List Vl} (h:jF j) (ha:aVs vs=0) (hf:fVs vs=0):CF l j vs:=⟨h,.inl ha,.inl hf⟩
theorem cf_iff {j j':Job} {vs vs':List Vl} (h:jF j↔jF j') (ha:aVs vs=aVs vs') (hf:fVs vs=fVs vs'):CF l j vs↔CF l j' vs':=by unfold CF; rw [h,ha,hf]
theorem Tri.same {j1 j:Job} {us:List Vl} {ms:List M} (h:Tri l j1 us ms) (rule:∀ r',P l j1 r'→P l j r') (hn:jn j=jn j1) (hf:jF j↔jF j1):Tri l j us ms:=by
 have:=h.one (j:=j) id (fun r' hr=>by rw [id_map]; exact rule r' hr) (by rw [hn]; rfl) (cf_iff hf rfl rfl)
 exact this
theorem tri {l0 : Lim} {j : Job} {r : Res} (h : P l0 j r) : ∀ vs ms, r = .ok vs ms → ∀ j2, Re j j2 → AcF l j → Tri l j2 vs ms := by
  induction h <;> intro vs ms er j2 hre hac
  case nil => obtain ⟨is2, rfl, rfl⟩ := hre; cases er; exact .inl ⟨.nil _ _, .inl rfl, cf0 trivial rfl rfl⟩
  case w h hr ih =>
    obtain ⟨_, rfl, i2, r2, rfl, rfl, hr2⟩ := hre
    obtain ⟨us, rfl, rfl⟩ := cons_ok4 er
    exact (ih _ _ rfl _ ⟨r2, rfl, hr2⟩ (acf0 rfl rfl rfl)).one (List.cons .u) (fun r' hr' => by rw [← cons_map]; exact .w h hr') (by simp [nVs, nV, jn]) (cf_iff (by simp [jF, itsF, itF]) (by simp [aVs, aV]) (by simp [fVs, fV]))
  case nm h hr ih =>
    obtain ⟨_, rfl, i2, r2, rfl, rfl, hr2⟩ := hre
    obtain ⟨us, rfl, rfl⟩ := cons_ok4 er
    exact (ih _ _ rfl _ ⟨r2, rfl, hr2⟩ (acf0 rfl rfl rfl)).one (List.cons _) (fun r' hr' => by rw [← cons_map]; exact .nm h hr') (by simp [nVs, nV, jn]) (cf_iff (by simp [jF, itsF, itF]) (by simp [aVs, aV]) (by simp [fVs, fV]))
  case ty h hr ih =>
    obtain ⟨_, rfl, i2, r2, rfl, rfl, hr2⟩ := hre
    obtain ⟨us, rfl, rfl⟩ := cons_ok4 er
    exact (ih _ _ rfl _ ⟨r2, rfl, hr2⟩ (acf0 rfl rfl rfl)).one (List.cons _) (fun r' hr' => by rw [← cons_map]; exact .ty h hr') (by simp [nVs, nV, jn]) (cf_iff (by simp [jF, itsF, itF]) (by simp [aVs, aV]) (by simp [fVs, fV]))
  case cn n is k most m ms0 r0 h hk hr ih =>
    obtain ⟨_, rfl, i2, r2, rfl, ⟨m2, rfl⟩, hr2⟩ := hre
    obtain ⟨us, rfl, rfl⟩ := cons_ok4 er
    by_cases hk2 : k < m2
    · exact (ih _ _ rfl _ ⟨r2, rfl, hr2⟩ (acf0 rfl rfl rfl)).one (List.cons _) (fun r' hr' => by rw [← cons_map]; exact .cn h hk2 hr') (by simp [nVs, nV, jn]) (cf_iff (by simp [jF, itsF, itF, hk2]) (by simp [aVs, aV]) (by simp [fVs, fV]))
    · exact .inr (.inr ⟨_, .cnBig _ _ _ h (by omega), fun hc => hk2 hc.1.1⟩)
  case e x _ _ _ h hr ih1 ih2 =>
    obtain ⟨_, rfl, i2, r2, rfl, rfl, hr2⟩ := hre
    obtain ⟨us, rfl, rfl⟩ := cons_ok4 er
    exact (ih1 _ _ rfl _ rfl (acf0 rfl rfl rfl)).two (fun _ _ => ih2 _ _ rfl _ ⟨r2, rfl, hr2⟩ (acf0 rfl rfl rfl)) (List.cons _) (fun w p hb => .eBad _ hb) (fun h1 r' hr' => by rw [← cons_map]; exact .e h1 hr') (by simp only [nVs, nV, jn, Nat.max_zero]; exact NF_max)
      ⟨fun h => ⟨cf0 trivial rfl rfl, (cf_iff (by simp [jF, itsF, itF]) (by simp [aVs, aV]) (by simp [fVs, fV])).1 h⟩, fun h => (cf_iff (by simp [jF, itsF, itF]) (by simp [aVs, aV]) (by simp [fVs, fV])).1 h.2⟩
  case ps x _ _ _ h hr ih1 ih2 =>
    obtain ⟨_, rfl, i2, r2, rfl, rfl, hr2⟩ := hre
    obtain ⟨us, rfl, rfl⟩ := cons_ok4 er
    exact (ih1 _ _ rfl _ rfl (acf0 rfl rfl rfl)).two (fun _ _ => ih2 _ _ rfl _ ⟨r2, rfl, hr2⟩ (acf0 rfl rfl rfl)) (List.cons _) (fun w p hb => .psBad _ hb) (fun h1 r' hr' => by rw [← cons_map]; exact .ps h1 hr') (by simp [nVs, nV, jn, NF])
      (by
        unfold CF
        simp only [aVs, aV, fVs, fV, jF, itsF, itF, Nat.max_zero, Nat.zero_max, true_and, le_max]
        constructor
        · rintro ⟨a, ⟨b, c⟩, d⟩; exact ⟨⟨b, .inl trivial⟩, a, c, d⟩
        · rintro ⟨⟨b, _⟩, a, c, d⟩; exact ⟨a, ⟨b, c⟩, d⟩)
  case bind m ms0 r0 h hn hr ih =>
    cases hre
    obtain ⟨us, rfl, rfl⟩ := map_ok4 er
    obtain ⟨x, ex, hx, ha, hf⟩ := bind_sz (m := m) (res_ok hr _ _ rfl)
    rename_i n
    have hN : nVs (bindEx m us) = 1 + nVs us := by rw [ex]; simp [nVs, nV, hx]
    by_cases hnl : n < l.nest
    · refine (ih _ _ rfl _ ⟨_, rfl, itR_refl _⟩ (acf0 rfl rfl rfl)).one (j := .expr n (m :: ms0)) (bindEx m) (fun r' hr' => .bind h hnl hr') ?_ ?_
      · rw [hN]; simp only [jn]; unfold NF; omega
      · refine ⟨fun _ => cf0 ?_ ha hf, fun _ => cf0 trivial (by rw [ex]; rfl) (by rw [ex]; rfl)⟩
        unfold bindIts; split <;> simp [jF, itsF, itF]
    · exact .inr (.inl ⟨_, .deep _ h (by omega), by rw [hN]; simp only [jn]; unfold NF; omega⟩)
  case cond m ms0 r0 h hr ih =>
    cases hre
    obtain ⟨us, rfl, rfl⟩ := map_ok4 er
    obtain ⟨x, ex, hx, ha, hf⟩ := if_sz (m := m) (res_ok hr _ _ rfl)
    exact (ih _ _ rfl _ ⟨_, rfl, itR_refl _⟩ (acf0 rfl rfl rfl)).one (j := .expr _ (m :: ms0)) (ifEx m) (fun r' hr' => .cond h hr') (by rw [ex]; simp [nVs, nV, hx, jn]) (cf_iff (by simp [jF, itsF, itF, ifIts]) (by rw [ex, ha]; rfl) (by rw [ex, hf]; rfl))
  case par m ms0 r0 h hr ih =>
    cases hre
    obtain ⟨us, rfl, rfl⟩ := map_ok4 er
    obtain ⟨x, ex, hx, ha, hf⟩ := par_sz (res_ok hr _ _ rfl)
    exact (ih _ _ rfl _ ⟨_, rfl, itR_refl _⟩ (acf0 rfl rfl rfl)).one (j := .unit _ (m :: ms0)) parEx (fun r' hr' => .par h hr') (by rw [ex]; simp [nVs, nV, hx, jn]) (cf_iff (by simp [jF, itsF, itF]) (by rw [ex, ha]; rfl) (by rw [ex, hf]; rfl))
  case fail m ms0 r0 h hr ih =>
    cases hre
    obtain ⟨us, rfl, rfl⟩ := map_ok4 er
    obtain ⟨x, ex, hx, ha, hf⟩ := fail_sz (m := m) (res_ok hr _ _ rfl)
    exact (ih _ _ rfl _ ⟨_, rfl, itR_refl _⟩ (acf0 rfl rfl rfl)).one (j := .unit _ (m :: ms0)) (failEx m) (fun r' hr' => .fail h hr') (by rw [ex]; simp [nVs, nV, hx, jn]) (cf_iff (by simp [jF, itsF, itF]) (by rw [ex, ha]; rfl) (by rw [ex, hf]; rfl))
  case word1 op m ms0 r0 h hr ih =>
    cases hre
    obtain ⟨us, rfl, rfl⟩ := map_ok4 er
    obtain ⟨x, ex, hx, ha, hf⟩ := one_sz (op := op) (m := m) (word1_bnd h) (res_ok hr _ _ rfl)
    exact (ih _ _ rfl _ ⟨_, rfl, itR_refl _⟩ (acf0 rfl rfl rfl)).one (j := .unit _ (m :: ms0)) (oneEx op m) (fun r' hr' => .word1 h hr') (by rw [ex]; simp [nVs, nV, hx, jn]) (cf_iff (by simp [jF, itsF, itF]) (by rw [ex, ha]; rfl) (by rw [ex, hf]; rfl))
  case call m k ms0 r0 h hk hr ih =>
    cases hre
    obtain ⟨us, rfl, rfl⟩ := map_ok4 er
    obtain ⟨xs, rfl, _⟩ := res_ok hr _ _ rfl
    exact (ih _ _ rfl _ rfl (acf0 rfl rfl rfl)).one (j := .unit _ (m :: k :: ms0)) (callEx m) (fun r' hr' => .call h hk hr') (by simp [callEx, nVs, nV, nX, bndN, jn]) (cf_iff (by simp [jF]) (by simp [callEx, aVs, aV]) (by simp [callEx, fVs, fV]))
  case expr h h' hr ih => cases hre; exact (ih _ _ er _ rfl (acf0 rfl rfl rfl)).same (fun r' hr' => .expr h h' hr') rfl Iff.rfl
  case row4 hr ih => cases hre; exact (ih _ _ er _ rfl (acf0 rfl rfl rfl)).same (fun r' hr' => .row4 hr') rfl Iff.rfl
  case row n lv e ms1 ms' r0 h h1 hr ih1 ih2 =>
    cases hre
    obtain ⟨x, rfl, hx⟩ := res_ok hr _ _ er
    have := (ih1 _ _ rfl _ rfl (acf0 rfl rfl rfl)).two (j := .row n lv ms1) (fun a _ => ih2 _ _ er _ rfl ⟨by simpa [nVs, nV, acN, jn] using a, .inl rfl, .inl rfl⟩) id (fun w p hb => .rowBad h hb) (fun h1 r' hr' => by rw [id_map]; exact .row h h1 hr')
      (by simp only [nVs, nV, jn, Nat.max_zero, id]; exact ⟨fun h => ⟨NF_le h hx, h⟩, fun h => h.2⟩) ⟨fun _ => ⟨cf0 trivial rfl rfl, cf0 trivial rfl rfl⟩, fun _ => cf0 trivial rfl rfl⟩
    exact this
  case stop n e ms0 h => cases hre; cases er; exact .inl ⟨.stop _ _ _ h, by simpa [nVs, nV, acN, jn] using hac.1, cf0 trivial rfl rfl⟩
  case tail1 n lv op e b m ms1 ms' h hl hr ih =>
    cases hre; cases er
    have hb := str_bnd h
    have hNX : nVs [.e (two op e b m.pos)] = max (nX e) (nX b) := by simp [nVs, nV, two, nX, nXs, hb]
    have ha := hac.1
    simp only [acN, jn] at ha
    rcases ih _ _ rfl _ rfl (acf0 rfl rfl rfl) with ⟨h1, a, c⟩ | ⟨p, h1, a⟩ | ⟨p, h1, a⟩
    · refine .inl ⟨.tail1 h hl h1, ?_, cf0 trivial rfl rfl⟩
      rw [hNX]; exact NF_max.2 ⟨ha, by simpa [nVs, nV, jn] using a⟩
    · refine .inr (.inl ⟨p, .tailBad _ h h1, fun h' => a ?_⟩)
      rw [hNX] at h'
      simpa [nVs, nV, jn] using (NF_max.1 h').2
    · exact .inr (.inr ⟨p, .tailBad _ h h1, fun h' => a (cf0 trivial rfl rfl)⟩)
  case tail2 n lv op e b m ms1 ms' r0 h hl h1 hr ih1 ih2 =>
    cases hre
    have hb := str_bnd h
    obtain ⟨x, rfl, hx⟩ := res_ok hr _ _ er
    have hNX : nX (two op e b m.pos) = max (nX e) (nX b) := by simp [two, nX, nXs, hb]
    have ha := hac.1
    simp only [acN, jn] at ha
    rw [hNX] at hx
    have := (ih1 _ _ rfl _ rfl (acf0 rfl rfl rfl)).two (j := .tail n lv e (m :: ms1)) (fun a _ => ih2 _ _ er _ rfl ⟨by simp only [acN, jn, hNX]; exact NF_max.2 ⟨ha, by simpa [nVs, nV, jn] using a⟩, .inl rfl, .inl rfl⟩) id (fun w p hb => .tailBad _ h hb) (fun h1 r' hr' => by rw [id_map]; exact .tail2 h hl h1 hr')
      (by simp only [nVs, nV, jn, Nat.max_zero, id]; exact ⟨fun h => ⟨NF_le h (by omega), h⟩, fun h => h.2⟩) ⟨fun _ => ⟨cf0 trivial rfl rfl, cf0 trivial rfl rfl⟩, fun _ => cf0 trivial rfl rfl⟩
    exact this
  case num h => cases hre; cases er; exact .inl ⟨.num _ _ h, .inl (by simp [nVs, nV, nX, nXs, bndN]), cf0 trivial rfl rfl⟩
  case var h hk => cases hre; cases er; exact .inl ⟨.var _ _ h hk, .inl (by simp [nVs, nV, nX, nXs, bndN]), cf0 trivial rfl rfl⟩
  case word0 h => cases hre; cases er; exact .inl ⟨.word0 _ _ h, .inl (by simp [nVs, nV, nX, nXs, word0_bnd h]), cf0 trivial rfl rfl⟩
  case aStop h => cases hre; cases er; exact .inl ⟨.aStop _ _ _ h, by simpa [nVs, nV, acN, jn] using hac.1, cf0 trivial rfl rfl⟩
  case aNext0 n x m ms1 ms' r0 h h1 hr ih1 ih2 =>
    cases hre
    obtain ⟨xs, rfl, hx⟩ := res_ok hr _ _ er
    simp only [nXs, Nat.max_zero] at hx
    have := (ih1 _ _ rfl _ rfl (acf0 rfl rfl rfl)).two (j := .args n [] (m :: ms1)) (fun a _ => ih2 _ _ er _ rfl ⟨by simpa [nVs, nV, acN, jn, nXs] using a, .inl rfl, .inl rfl⟩) id (fun w p hb => .aBad0 h hb) (fun h1 r' hr' => by rw [id_map]; exact .aNext0 h h1 hr')
      (by simp only [nVs, nV, jn, Nat.max_zero, id]; exact ⟨fun h => ⟨NF_le h hx, h⟩, fun h => h.2⟩) ⟨fun _ => ⟨cf0 trivial rfl rfl, cf0 trivial rfl rfl⟩, fun _ => cf0 trivial rfl rfl⟩
    exact this
  case aNext n us x m ms1 ms' r0 ha0 hc h1 hr ih1 ih2 =>
    cases hre
    obtain ⟨xs, rfl, hx⟩ := res_ok hr _ _ er
    have hs : nXs (us ++ [x]) = max (nXs us) (nX x) := by rw [nXs_app]; simp [nXs]
    rw [hs] at hx
    have ha := hac.1
    simp only [acN, jn] at ha
    have := (ih1 _ _ rfl _ rfl (acf0 rfl rfl rfl)).two (j := .args n us (m :: ms1)) (fun a _ => ih2 _ _ er _ rfl ⟨by simp only [acN, jn, hs]; exact NF_max.2 ⟨ha, by simpa [nVs, nV, jn] using a⟩, .inl rfl, .inl rfl⟩) id (fun w p hb => .aBad ha0 hc hb) (fun h1 r' hr' => by rw [id_map]; exact .aNext ha0 hc h1 hr')
      (by simp only [nVs, nV, jn, Nat.max_zero, id]; exact ⟨fun h => ⟨NF_le h (by omega), h⟩, fun h => h.2⟩) ⟨fun _ => ⟨cf0 trivial rfl rfl, cf0 trivial rfl rfl⟩, fun _ => cf0 trivial rfl rfl⟩
    exact this
  case pStop h => cases hre; cases er; exact .inl ⟨.pStop _ _ h, .inl rfl, trivial, by simpa [aVs, aV, acA] using hac.2.1, .inl rfl⟩
  case pNext0 x m t ms1 ms' r0 h h1 hr ih1 ih2 =>
    cases hre
    obtain ⟨qs, rfl, hx⟩ := res_ok hr _ _ er
    simp only [List.length_cons, List.length_nil] at hx
    have := (ih1 _ _ rfl (.seq 0 [.cn 0 l.arity, .ty] (m :: ms1)) ⟨_, rfl, _, _, rfl, ⟨_, rfl⟩, _, _, rfl, rfl, rfl⟩ (acf0 rfl rfl rfl)).two (j := .pars [] (m :: ms1)) (fun _ b => ih2 _ _ er _ rfl ⟨.inl rfl, .inr (by have := b.1.1; simp only [itF] at this; simp only [acA, List.length_cons, List.length_nil]; omega), .inl rfl⟩) id (fun w p hb => .pBad0 h hb) (fun h1 r' hr' => by rw [id_map]; exact .pNext0 h h1 hr')
      (by simp [nVs, nV, jn, NF]) (by
        unfold CF
        simp only [aVs, aV, fVs, fV, jF, itsF, itF, Nat.max_zero, Nat.zero_max, true_and, and_true, id]
        constructor
        · rintro ⟨a, b⟩; exact ⟨⟨by omega, .inl trivial, .inl trivial⟩, a, b⟩
        · rintro ⟨_, a, b⟩; exact ⟨a, b⟩)
    exact this
  case pNext ps x m t ms1 ms' r0 ha0 hc h1 hr ih1 ih2 =>
    cases hre
    obtain ⟨qs, rfl, hx⟩ := res_ok hr _ _ er
    simp only [List.length_append, List.length_cons, List.length_nil] at hx
    have := (ih1 _ _ rfl (.seq 0 [.cn ps.length l.arity, .ty] ms1) ⟨_, rfl, _, _, rfl, ⟨_, rfl⟩, _, _, rfl, rfl, rfl⟩ (acf0 rfl rfl rfl)).two (j := .pars ps (m :: ms1)) (fun _ b => ih2 _ _ er _ rfl ⟨.inl rfl, .inr (by have := b.1.1; simp only [itF] at this; simp only [acA, List.length_append, List.length_cons, List.length_nil]; omega), .inl rfl⟩) id (fun w p hb => .pBad ha0 hc hb) (fun h1 r' hr' => by rw [id_map]; exact .pNext ha0 hc h1 hr')
      (by simp [nVs, nV, jn, NF]) (by
        unfold CF
        simp only [aVs, aV, fVs, fV, jF, itsF, itF, Nat.max_zero, Nat.zero_max, true_and, and_true, id]
        constructor
        · rintro ⟨a, b⟩; exact ⟨⟨by omega, .inl trivial, .inl trivial⟩, a, b⟩
        · rintro ⟨_, a, b⟩; exact ⟨a, b⟩)
    exact this
  case progEnd h hf => cases hre; cases er; exact .inl ⟨.progEnd _ h hf, by simpa [nVs, nV, acN, jn] using hac.1, trivial, by simpa [aVs, aV, acA] using hac.2.1, by simpa [fVs, fV, acF] using hac.2.2⟩
  case prog fs fd us1 m ms1 ms' r0 h h1 hd hr ih1 ih2 =>
    cases hre
    obtain ⟨gs, rfl, hx1, hx2, hx3⟩ := res_ok hr _ _ er
    obtain ⟨s1, s2, s3⟩ := def_sz (res_ok h1 _ _ rfl) hd
    have e1 : nFs (fs ++ [fd]) = max (nFs fs) (nX fd.body) := by rw [nFs_app]; simp [nFs]
    have e2 : aFs (fs ++ [fd]) = max (aFs fs) fd.params.length := by rw [aFs_app]; simp [aFs]
    rw [e1] at hx1
    rw [e2] at hx2
    simp only [List.length_append, List.length_cons, List.length_nil] at hx3
    obtain ⟨ha, hb, hc⟩ := hac
    simp only [acN, acA, acF, jn] at ha hb hc
    have := (ih1 _ _ rfl (.seq 0 (defIts l fs.length) (m :: ms1)) ⟨_, rfl, _, _, rfl, ⟨_, rfl⟩, itR_refl _⟩ (acf0 rfl rfl rfl)).two (j := .prog fs (m :: ms1)) (fun a b => ih2 _ _ er _ rfl ⟨by
        simp only [acN, jn, e1]; rw [s1] at a; exact NF_max.2 ⟨ha, a⟩, by
        simp only [acA, e2]; have := b.2.1; rw [s2] at this; exact le_max.2 ⟨hb, this⟩, .inr (by have := b.1.1; simp only [itF] at this; simp only [acF, List.length_append, List.length_cons, List.length_nil]; omega)⟩) id (fun w p hb => .progBad h hb) (fun h1 r' hr' => by rw [id_map]; exact .prog h h1 hd hr')
      (by rw [s1]; simp only [nVs, nV, jn, Nat.max_zero, id]; exact ⟨fun h => ⟨NF_le h (by omega), h⟩, fun h => h.2⟩) (by
        unfold CF
        rw [s2, s3]
        simp only [aVs, aV, fVs, fV, jF, defIts, itsF, itF, Nat.max_zero, Nat.zero_max, true_and, and_true, id]
        constructor
        · rintro ⟨a, b⟩; exact ⟨⟨by omega, by omega, .inl trivial⟩, a, b⟩
        · rintro ⟨_, a, b⟩; exact ⟨a, b⟩)
    exact this
  all_goals first
    | (cases er; done)
    | trace_state
theorem tri_prog {l0:Lim} {ms rest:List M} {fs:List Fd} (h:P l0 (.prog [] ms) (.ok [.fs fs] rest)) (l:Lim) :
  (P l (.prog [] ms) (.ok [.fs fs] rest)∧(nFs fs=0∨(nFs fs:Int)≤l.nest)∧(aFs fs=0∨(aFs fs:Int)≤l.arity)∧(fs.length=0∨(fs.length:Int)≤l.funcs)) ∨
  (∃ p,P l (.prog [] ms) (.bad 23 p)∧¬ (nFs fs=0∨(nFs fs:Int)≤l.nest))∨∃ p,P l (.prog [] ms) (.bad 22 p)∧¬ ((aFs fs=0∨(aFs fs:Int)≤l.arity)∧(fs.length=0∨(fs.length:Int)≤l.funcs)):=by
 have:=tri (l:=l) h _ _ rfl _ rfl (acf0 rfl rfl rfl)
 unfold Tri CF NF at this
 simpa [nVs,nV,aVs,aV,fVs,fV,jn,jF] using this
end Pg
end Go.Proofs.YtgddkgbidhhheaaGreatDoor
set_option linter.unusedVariables false
set_option linter.unusedSimpArgs false
set_option maxRecDepth 100000
namespace Go.Proofs.YtgddkgbidhhheaaGreatDoor
open Go.RowKit Flo Mk Pg Ab
theorem bnd_le (o:Int):bndN o≤1:=by unfold bndN; split<;>omega
mutual
theorem nX_cnt:∀ e:Ex,nX e≤cntX e
 | .mk o n t ty num us p=>by rw [nX,cntX]; have:=nXs_cnt us; have:=bnd_le o; omega
theorem nXs_cnt:∀ us:List Ex,nXs us≤cntXs us
 | []=>by simp [nXs]
 | e :: r=>by rw [nXs,cntXs]; have:=nX_cnt e; have:=nXs_cnt r; omega
end
section
variable {G:World→Prop}
structure NeI (us:List Ex) (cs:List AV) (g:Nat) (F:Fr) (H:List Ob):Prop where
 k:∃ j:Nat,j≤us.length∧g=us.length - j∧F 4=some (iv j)∧F 3=some (iv (nXs (us.take j)))
 f1:F 1=some (.ptr 0 0)
 hH:H=[.var cs]
theorem mnest_ap:∀ (k:Nat) (e:Ex),cntX e≤k→cntX e≤1000000→AP Tryz.prog G 22 [exA e] (fun x=>x=iv (nX e)):=by
 intro k
 induction k with
 | zero=>intro e h _; have:=cntX_pos e; omega
 | succ k ih=>
  intro e hk hb
  obtain ⟨o,nm,tl,ty,num,us,pos⟩:=e
  have hcs:cntX (.mk o nm tl ty num us pos)=1 + cntXs us:=by rw [cntX]
  have hul:=cntXs_len us
  refine AP.go hmix F_mnest (by simp) ?_
  simp -implicitDefEqProofs [c_mnest,exA,Ex.cells]
  refine LP.go (NeI us [iv o,sv nm,sv tl,iv ty,cv (W num.1) (W num.2),.sl us.length (exsA us),iv pos]) us.length ⟨⟨0,by simp,by simp,by simp,by simp [nXs]⟩,by simp,rfl⟩ ?_
  unfold c_mnest_L0
  rintro g F H ⟨⟨j,hj,rfl,h4,h3⟩,f1,rfl⟩
  have hnx:=nXs_cnt us
  by_cases hjl:j < us.length
  ·obtain ⟨u,hu⟩:∃ u,us[j]? = some u:=⟨_,List.getElem?_eq_getElem hjl⟩
   have hjl':(j:Int) < us.length:=by omega
   have hat:=exsA_at hu
   have hvz:j * 7 + 7≤(exsA us).length:=by rw [exsA_len]; omega
   have hw1:IntKind.i64.wrap ((j:Int) + 1)=((j + 1:Nat):Int):=by rw [wrap64 _ (by omega)]; omega
   have hcu:=cntXs_mem (List.mem_of_getElem? hu)
   have hrec:=ih u (by omega) (by omega)
   obtain ⟨ou,nmu,tlu,tyu,numu,usu,posu⟩:=u
   simp only [exA,Ex.cells] at hat hrec
   simp -implicitDefEqProofs [-Int.natCast_add,f1,h3,h4,hjl,hjl',hat,hvz]
   refine SC.frz (by simp) [.agg [iv ou,sv nmu,sv tlu,iv tyu,cv (W numu.1) (W numu.2),.sl usu.length (exsA usu),iv posu]] (by simp) (by simpa using hrec) (by simp) ?_ (a:=.mk)
   rintro x rfl
   have htk:nXs (us.take (j + 1))=max (nXs (us.take j)) (nX (.mk ou nmu tlu tyu numu usu posu)):=by
    rw [List.take_add_one,hu,nXs_app]; simp [nXs]
   simp -implicitDefEqProofs [-Int.natCast_add,evL,mmF,h4,hw1]
   refine ⟨us.length - (j + 1),by omega,⟨⟨j + 1,by omega,rfl,by simp,?_⟩,by simp [f1],rfl⟩⟩
   rw [htk]
   simp
   split<;>omega
  ·have hje:j=us.length:=by omega
   subst hje
   rw [List.take_length] at h3
   have hwx:IntKind.i64.wrap ((nXs us:Int) + 1)=((nXs us + 1:Nat):Int):=by rw [wrap64 _ (by omega)]; omega
   by_cases o1:o=21
   ·subst o1
    simp -implicitDefEqProofs [-Int.natCast_add,f1,h3,h4,hwx,nX,bndN]
    try omega
   by_cases o2:o=22
   ·subst o2
    simp -implicitDefEqProofs [-Int.natCast_add,f1,h3,h4,hwx,nX,bndN]
    try omega
   by_cases o3:o=20
   ·subst o3
    simp -implicitDefEqProofs [-Int.natCast_add,f1,h3,h4,hwx,nX,bndN]
    try omega
   simp -implicitDefEqProofs [-Int.natCast_add,f1,h3,h4,hwx,nX,bndN,o1,o2,o3]
end
end Go.Proofs.YtgddkgbidhhheaaGreatDoor
set_option linter.unusedVariables false
set_option linter.unusedSimpArgs false
namespace Go.Proofs.YtgddkgbidhhheaaGreatDoor
namespace Pg
open Mk Flo
def rpi (f:Nat→Nat) (p:Int):Int:=((f p.toNat:Nat):Int)
mutual
def rpE (f:Nat→Nat):Ex→Ex
 | .mk o n t ty num us p=>.mk o n t ty num (rpEs f us) (rpi f p)
def rpEs (f:Nat→Nat):List Ex→List Ex
 | []=>[]
 | e :: r=>rpE f e :: rpEs f r
end
variable {f:Nat→Nat}
end Pg
end Go.Proofs.YtgddkgbidhhheaaGreatDoor
namespace Go.Proofs.YtgddkgbidhhheaaGreatDoor
open Go.RowKit Flo Mk
def mvk (n k:Nat) (us:List M):List M:=(us.take k).map (mv n)++us.drop k
structure JoinAt (w X:World) (gx gz gy:Nat) (D us Z:List M) (n k:Nat):Prop where
 below:Below w.heap.size w X
 rx:RowAt X (some ⟨gx,0,none⟩) D
 rz:RowAt X (some ⟨gz,0,none⟩) Z
 ry:∀ i m,(mvk n k us)[i]? = some m→X.cell? ⟨gy,i * 4,none⟩=some (.int .i64 m.kind)∧X.cell? ⟨gy,i * 4 + 1,none⟩=some (.string ⟨m.text.toArray⟩)∧X.cell? ⟨gy,i * 4 + 2,none⟩=some (.complex .f64 (W m.num.1) (W m.num.2))∧X.cell? ⟨gy,i * 4 + 3,none⟩=some (.int .i64 m.pos)
 fy:∀ j,X.frozen? ⟨gy,j,none⟩=false
 nx:gx≠gy
 nz:gz≠gy
 base:w.heap.size≤gy
end Go.Proofs.YtgddkgbidhhheaaGreatDoor
set_option linter.unusedVariables false
set_option linter.unusedSimpArgs false
namespace Go.Proofs.YtgddkgbidhhheaaGreatDoor
namespace Pg
open Mk Flo
variable {l:Lim}
theorem def_head {n:Int} {k:Int} {ms ms':List M} {vs:List Vl} (h:P l (.seq n (defIts l k) ms) (.ok vs ms')):(∃ m r,ms=m :: r∧m.kind=0)∧k < l.funcs∧∀ k':Int,k' < l.funcs→P l (.seq n (defIts l k') ms) (.ok vs ms'):=by
 unfold defIts at h
 generalize he:Res.ok vs ms'=r at h
 cases h with
 | @cn _ _ _ _ m ms0 r0 hk hm hr=>
  refine ⟨⟨m,ms0,rfl,hk⟩,hm,fun k' hk'=>?_⟩
  exact .cn hk hk' hr
 | cnBig=>cases he
 | cnBad=>cases he
theorem neut_name {m:M} (h:m.kind=0):neut m:=by
 have e:∀ s,isW m s=false:=fun s=>by unfold isW; rw [h]; simp
 exact ⟨by unfold strOf; simp [e],e _⟩
theorem prog_more {j : Job} {r : Res} (h : P l j r) : ∀ (acc : List Fd) (ms : List M), j = .prog acc ms → ∀ (out : List Fd) (rest : List M), r = .ok [.fs out] rest → ∃ gs pre e, out = acc ++ gs ∧ ms = pre ++ e :: rest.tail ∧ rest = e :: rest.tail ∧ e.kind = 4 ∧ out ≠ [] ∧ gs.length ≤ pre.length ∧ (acc = [] → ∃ m r, ms = m :: r ∧ m.kind = 0) ∧
    (∀ acc' : List Fd, acc' ≠ [] → (acc'.length : Int) + gs.length ≤ l.funcs → P l (.prog acc' ms) (.ok [.fs (acc' ++ gs)] rest)) ∧
    ∀ (ms2 : List M) (r2 : Res), (∃ k, ms2.head? = some k ∧ k.kind = 0) → P l (.prog out ms2) r2 → P l (.prog acc (pre ++ ms2)) r2 := by
  induction h with
  | @progEnd fs m ms0 hk hf =>
    intro acc ms ej out rest er
    cases ej; cases er
    exact ⟨[], [], m, by simp, rfl, rfl, hk, hf, by simp, fun h => absurd h hf, fun acc' ha _ => by simpa using P.progEnd ms0 hk ha, fun ms2 r2 _ h => h⟩
  | @prog fs fd vs m ms0 ms' r0 hg h1 hd hr ih1 ih2 =>
    intro acc ms ej out rest er
    cases ej
    obtain ⟨gs, pre, e, ho, hms, hre, he4, hne, hlen, _, hl, hj⟩ := ih2 _ _ rfl out rest er
    obtain ⟨⟨m', r', hm', hk0⟩, hb, hdk⟩ := def_head h1
    cases hm'
    obtain ⟨pre1, hp1, hq1, hf1⟩ := ctx h1
    have hp1' : m :: ms0 = pre1 ++ ms' := hp1
    refine ⟨fd :: gs, pre1 ++ pre, e, by rw [ho]; simp, by rw [hp1', hms, List.append_assoc], hre, he4, hne, ?_, fun _ => ⟨m, ms0, rfl, hk0⟩, fun acc' ha hlim => ?_, fun ms2 r2 hh h2 => ?_⟩
    · have := List.length_pos_iff.2 (hq1 rfl)
      simp only [List.length_cons, List.length_append]; omega
    · simp only [List.length_cons, Int.natCast_add] at hlim
      have h3 := hl (acc' ++ [fd]) (by simp) (by simp only [List.length_append, List.length_cons, List.length_nil, Int.natCast_add]; omega)
      rw [List.append_assoc] at h3
      exact .prog (.inl (by omega)) (hdk _ (by omega)) hd h3
    · have h3 := hj ms2 r2 hh h2
      obtain ⟨k, hk, hk0'⟩ := hh
      have h4 := hf1 (pre ++ ms2) (by
        cases pre with
        | nil => exact .inr ⟨rfl, k, hk, neut_name hk0'⟩
        | cons a b => rw [hms]; exact .inl rfl)
      cases pre1 with
      | nil => exact absurd rfl (hq1 rfl)
      | cons a b =>
        have ha : a = m := by simp at hp1'; exact hp1'.1.symm
        subst ha
        have h4' : P l (.seq 0 (defIts l fs.length) (a :: (b ++ (pre ++ ms2)))) (.ok vs (pre ++ ms2)) := h4
        rw [show (a :: b ++ pre) ++ ms2 = a :: (b ++ (pre ++ ms2)) by simp]
        exact .prog hg h4' hd h3
  | _ => intro acc ms ej out rest er; first | (cases ej; done) | (cases ej; cases er)
end Pg
end Go.Proofs.YtgddkgbidhhheaaGreatDoor
