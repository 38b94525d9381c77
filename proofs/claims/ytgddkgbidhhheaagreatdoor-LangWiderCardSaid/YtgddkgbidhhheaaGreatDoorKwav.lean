/- Texts joined: Lnl Mkb Mkc. -/
import Derived.Test.YtgddkgbidhhheaaGreatDoorKwau
import Derived.Test.YtgddkgbidhhheaaGreatDoorKwaf
import Derived.Laws.IdiomStrings
set_option linter.unusedVariables false
set_option linter.unusedSimpArgs false
set_option maxRecDepth 100000
namespace Go.Proofs.YtgddkgbidhhheaaGreatDoor
open Go.RowKit Flo Ab Mk Pg
section
variable {G:World→Prop} {l:Lim} {E:Int→Int→Prop} {n:Int} {Q:Res→Prop} {vs:List Vl} {is:List It} {L:Nat}
structure LpI (l:Lim) (ms0:List M) (g:Nat) (F:Fr) (H:List Ob):Prop where
 ex:∃ (fs:List Pg.Fd) (ms:List M) (X:AV),g=ms.length∧Mz ms∧ms.length + fs.length≤ms0.length∧(∀ r,P l (.prog fs ms) r→P l (.prog [] ms0) r)∧H[0]? = some (.var (prs l ms 0))∧F 3=some X ∧
  ((fs=[]∧X=.v (.slice none 0 0))∨∃ r,1 < r∧X=.row r∧fs≠[]∧H[r]? = some (.own 57 11 fs.length (fdsA fs)))
 f0:F 0=some (.ptr 0 0)
 f2:F 2=some (.ptr 1 0)
 hH1:H[1]? = some (.var [.v (.slice none 0 0)])
theorem lprog_ok {ms:List M} (hz:Mz ms) (hE:∀ w p,P l (.prog [] ms) (.bad w p)→E w p) :
  AM Tryz.prog (Gl G l E) 34 [.ptr 0 0] (prs l ms 0) (fun x cs=>∃ fs ms',P l (.prog [] ms) (.ok [.fs fs] ms')∧x=.agg [.sl fs.length (fdsA fs)]∧cs=prs l ms' 0):=by
 have hlen:=hz.len
 refine AM.go hmix F_lprog (by simp) ?_
 simp -implicitDefEqProofs [c_lprog]
 refine LP.go (LpI l ms) ms.length ⟨⟨[],ms,_,rfl,hz,by simp,fun r hr=>hr,by simp,by simp,.inl ⟨rfl,rfl⟩⟩,by simp,by simp,by simp⟩ ?_
 unfold c_lprog_L0
 rintro g F H ⟨⟨fs,ms1,X,rfl,hz1,hl1,hA,hH0,f3,hR⟩,f0,f2,hH1⟩
 have hl0:0 < H.length:=(List.getElem?_eq_some_iff.1 hH0).1
 have hl1':1 < H.length:=(List.getElem?_eq_some_iff.1 hH1).1
 obtain ⟨m,r1,rfl⟩:=hz1.cons
 simp only [List.length_cons] at hl1
 have s0:∀ o Y,(H.set 0 o++Y)[0]? = some o:=fun o Y=>by rw [List.getElem?_append_left (by simpa using hl0),List.getElem?_set_self hl0]
 have s1:∀ o Y,(H.set 0 o++Y)[1]? = some (.var [.v (.slice none 0 0)]):=fun o Y=>by rw [List.getElem?_append_left (by simp; omega),List.getElem?_set_ne (by omega)]; exact hH1
 have hdef:m.kind≠4∨fs=[]→AM Tryz.prog (Gl G l E) 45 [.ptr 0 0,iv fs.length] (prs l (m :: r1) 0) _:=fun h=>ldef_ok (E:=E) (by omega) hz1 (fun w p hb=>hE w p (hA _ (.progBad h hb)))
 rcases hR with ⟨rfl,rfl⟩ | ⟨r,hr3,rfl,hne,hr⟩
 ·have hdef0:=hdef (.inr rfl)
  simp -implicitDefEqProofs [f0,f3]
  refine SC.pr (by simp) [.ptr 0 0,iv 0] (by simp) (ms:=m :: r1) (n:=0) (by simp -implicitDefEqProofs [hH0]) (hdef0) (by simp [toO,hH0]) ⟨0,by simp [hH0]⟩ (by simp [lentO,hH0]) ?_ (tg:=.mk)
  rintro x cs - ⟨vs,ms2,f,hP2,hfx,rfl,hz2,hl2,rfl⟩
  have hf0:(frzT H [.ptr 0 0,iv 0]).1=H:=by simp
  rw [hf0]
  obtain ⟨fn,fps,fty,⟨o,nm,tl,ty,num,args,pos⟩,fpos⟩:=f
  simp -implicitDefEqProofs [fdA,Ex.cells,wrOb,splice,f3,evP,fillA]
  simp only [List.length_cons] at hl2
  refine ⟨ms2.length,by omega,⟨⟨[⟨fn,fps,fty,.mk o nm tl ty num args pos,fpos⟩],ms2,.row (H.length + 1),rfl,hz2,by simp; omega,fun r hr=>hA r (.prog (.inr rfl) hP2 hfx hr),s0 _ _,by simp,.inr ⟨H.length + 1,by omega,rfl,by simp,?_⟩⟩,by simp [f0],by simp [f2],s1 _ _⟩⟩
  rw [List.getElem?_append_right (by simp)]; simp [fdsA,fdA,Ex.cells]
 ·have hul:0 < fs.length:=List.length_pos_iff.2 hne
  have hul':¬ fs.length=0:=by omega
  simp -implicitDefEqProofs [f0,f3,hr,hul',hne]
  refine SC.pr (by simp) [.ptr 0 0] (by simp) (ms:=m :: r1) (n:=0) (by simp -implicitDefEqProofs [hH0]) (lnext_ap m r1 0) (by simp [toO,hH0]) ⟨0,by simp [hH0]⟩ (by simp [lentO,hH0]) ?_ (tg:=.mk)
  rintro x cs - ⟨rfl,rfl⟩
  have hf0:(frzT H [.ptr 0 0]).1=H:=by simp
  rw [hf0,set_same hH0]
  by_cases k4:m.kind=4
  ·have k4':(m.kind:Int)=4:=by omega
   have q1:∀ o:Ob,(H.set 1 o)[1]? = some o:=fun o=>by rw [List.getElem?_set_self (by omega)]
   have qr:∀ o:Ob,(H.set 1 o)[r]? = some (.own 57 11 fs.length (fdsA fs)):=fun o=>by rw [List.getElem?_set_ne (by omega)]; exact hr
   have q0r:∀ o o':Ob,((H.set 1 o).set r o')[0]? = some (.var (prs l (m :: r1) 0)):=fun o o'=>by rw [List.getElem?_set_ne (by omega),List.getElem?_set_ne (by omega)]; exact hH0
   simp -implicitDefEqProofs [mcells,k4',f0,f2,f3,hH1,evP,fillA,splice,wrOb,finM,q1,qr,q0r]
   exact ⟨by simp [prs],fs,m :: r1,hA _ (.progEnd _ k4 hne),⟨rfl,rfl⟩,rfl⟩
  ·have k4':¬ (m.kind:Int)=4:=by omega
   have hdef1:=hdef (.inl k4)
   have hb1:(fs.length + 1) * 152≤140737488355328:=by omega
   have hb2:fs.length + 1≤1073741824:=by omega
   have hb3:fs.length≤1073741823:=by omega
   simp -implicitDefEqProofs [mcells,k4,k4',f0,f3,hr]
   refine SC.pr (by simp) [.ptr 0 0,iv fs.length] (by simp) (ms:=m :: r1) (n:=0) (by simp -implicitDefEqProofs [hH0]) (hdef1) (by simp [toO,hH0]) ⟨0,by simp [hH0]⟩ (by simp [lentO,hH0]) ?_ (tg:=.mk)
   rintro x cs - ⟨vs,ms2,f,hP2,hfx,rfl,hz2,hl2,rfl⟩
   have hf1:(frzT H [.ptr 0 0,iv fs.length]).1=H:=by simp
   rw [hf1]
   have hrl:r < H.length:=(List.getElem?_eq_some_iff.1 hr).1
   have hrX:∀ (X:List Ob) (o:Ob),(H.set 0 o++X)[r]? = some (.own 57 11 fs.length (fdsA fs)):=fun X o=>by
    rw [List.getElem?_append_left (by simpa using hrl),List.getElem?_set_ne (by omega)]; exact hr
   obtain ⟨fn,fps,fty,⟨o,nm,tl,ty,num,args,pos⟩,fpos⟩:=f
   simp -implicitDefEqProofs [fdA,Ex.cells,wrOb,splice,f3,hrX,hb1,hb2,hb3,evP,fillA,hl0,hrl]
   simp only [List.length_cons] at hl2
   refine ⟨ms2.length,by omega,⟨⟨fs++[⟨fn,fps,fty,.mk o nm tl ty num args pos,fpos⟩],ms2,.row (H.length + 1),rfl,hz2,by simp; omega,fun r hr=>hA r (.prog (.inl k4) hP2 hfx hr),?_,by simp,.inr ⟨H.length + 1,by omega,rfl,by simp,?_⟩⟩,by simp [f0],by simp [f2],?_⟩⟩
   ·rw [List.getElem?_append_left (by simpa using hl0),List.getElem?_set_ne (by omega),List.getElem?_set_self hl0]
   ·rw [List.getElem?_append_right (by simp)]; simp [fdsA_snoc,fdA,Ex.cells]
   ·rw [List.getElem?_append_left (by simpa using hl1'),List.getElem?_set_ne (by omega),List.getElem?_set_ne (by omega)]; exact hH1
end
end Go.Proofs.YtgddkgbidhhheaaGreatDoor
namespace Go.Proofs.YtgddkgbidhhheaaGreatDoor
open Go.RowKit Flo Mk
theorem ba_list {a:ByteArray} {l:List UInt8} (h:a.data.toList=l):a=⟨l.toArray⟩:=by
 apply ByteArray.ext; apply Array.toList_inj.1; simpa using h
theorem Keep.alloc4 {W X:World} {l:List (Nat × Nat × Value)} {k:Nat} (a b c d:Value) (T:TypeId) (hk:X.heap.size=k) (h:Keep W l X):Keep W ((k,0,a) :: (k,1,b) :: (k,2,c) :: (k,3,d) :: l) (X.alloc (.cells #[a,b,c,d] T)):=by
 subst hk
 exact ⟨⟨by simp [go_sem],by simp,by simp [go_sem],by simp,by simp [go_sem],by simp,by simp [go_sem],by simp,(h.alloc _).1⟩,(h.alloc _).2⟩
abbrev signS:ByteArray:=⟨#[40,41,44,58,59,61,43,45,42,47,60,124]⟩
theorem sign_at (c:UInt8):decide (0≤Lib.indexByte signS.data.toList c)=sign1 c:=by
 refine u8_all (p:=fun c=>decide (0≤Lib.indexByte signS.data.toList c)=sign1 c) ?_ c
 decide +kernel
set_option maxHeartbeats 4000000 in
theorem width_any (s : ByteArray) (c : UInt8) (r : List UInt8) (hs : s.data.toList = c :: r) (hl : s.size ≤ 2) (w : World) :
    Calls Tryz.prog 32 #[.string s] w fun e w' => e = .returned (.int .i64 (signL (c :: r) : Int)) ∧ w = w' := by
  have hsz : s.size = r.length + 1 := by rw [Lib.size_eq, hs]; rfl
  have hpos : 0 < s.size := by omega
  have hx : s.extract 0 1 = ⟨#[c]⟩ := by
    apply ByteArray.ext; apply Array.toList_inj.1
    rw [Lib.extract_eq, hs]; rfl
  have e1 : (s.toList == [45, 62]) = (c == 45 && r.head? == some 62) := by
    rw [Lib.toList_data, hs]
    cases r with
    | nil => simp
    | cons d u =>
      cases u with
      | nil => simp [List.cons_beq_cons]
      | cons _ _ => simp only [List.length_cons] at hsz; omega
  have e2 : (s.toList == [61, 61]) = (c == 61 && r.head? == some 61) := by
    rw [Lib.toList_data, hs]
    cases r with
    | nil => simp
    | cons d u =>
      cases u with
      | nil => simp [List.cons_beq_cons]
      | cons _ _ => simp only [List.length_cons] at hsz; omega
  obtain ⟨b1, hb1⟩ : ∃ b, (c == 45 && r.head? == some 62) = b := ⟨_, rfl⟩
  obtain ⟨b2, hb2⟩ : ∃ b, (c == 61 && r.head? == some 61) = b := ⟨_, rfl⟩
  have HS : Hid ((signL (c :: r) : Int) = if b1 || b2 then 2 else if sign1 c then 1 else 0) := Lib.hid (by
    show ((if _ then 2 else if _ then 1 else 0 : Nat) : Int) = _
    rw [hb1, hb2]
    split
    · rfl
    · split <;> rfl)
  obtain ⟨n, hn⟩ : ∃ n : Int, (signL (c :: r) : Int) = n := ⟨_, rfl⟩
  obtain ⟨q, hq⟩ : ∃ q, sign1 c = q := ⟨_, rfl⟩
  have hC := Tryz.strings_Contains_one signS c w
  rw [sign_at, hq] at hC
  have HC := Lib.hid hC
  rw [hb1] at e1; rw [hb2] at e2; rw [hq, hn] at HS; rw [hn]
  clear hb1 hb2 hq hC hn hs hl hsz
  cases b1 <;> cases b2 <;> cases q
  all_goals
    go_enter Tryz.func32, Tryz.ntmps32
    go_wp2_with (go_at_call 43; refine HC.out.mono ?_; rintro e w' ⟨rfl, rfl⟩)
    go_ret
    exact ⟨ret2 (congrArg (Value.int .i64) (by rw [HS.out]; rfl)), rfl⟩
theorem Spc.below' {w w':World} (h:Spc w) (hb:Below w.heap.size w w'):Spc w':=
 Joins.tab_stays (show Tryz.prog.globalNamed "strings.asciiSpace" = some 0 by kernel_rfl) h hb (Nat.le_refl _)
abbrev markV (k:Nat) (s:ByteArray) (a b at':Nat):Value:=.agg #[.int .i64 (k:Int),.string s,.complex .f64 a b,.int .i64 (at':Int)]
theorem ba_get (s:ByteArray) (i:Nat) (h:i < s.size):s.data.toList[i]? = some (s[i]'h):=by
 rw [Array.getElem?_toList,Array.getElem?_eq_getElem (by simpa using h)]; rfl
def WordR (s:ByteArray) (at':Nat) (e:Ending):Prop:=
 (∃ m,wordM s.data.toList at'=some m∧e=.returned (.tuple #[aggM m,.bool true])) ∨
 (wordM s.data.toList at'=none∧∃ k a b,e=.returned (.tuple #[markV k s a b at',.bool false]))
theorem zero00:W 0=0:=by decide +kernel
set_option maxHeartbeats 4000000 in
set_option maxRecDepth 100000 in
theorem word_any (s : ByteArray) (c : UInt8) (r : List UInt8) (hs : s.data.toList = c :: r) (hz : s.size ≤ 140737488351232) (at' : Nat) (w : World) (hI : Inv w) (hT : Spc w) :
    Calls Tryz.prog 31 #[.string s, .int .i64 (at' : Int)] w fun e w' => WordR s at' e ∧ Below w.heap.size w w' := by
  have hsz : s.size = r.length + 1 := by rw [Lib.size_eq, hs]; rfl
  have hpos : 0 < s.size := by omega
  have h0 : s[0]'hpos = c := by
    have := ba_get s 0 hpos
    rw [hs] at this; exact (Option.some.inj this).symm
  have hc := c.toNat_lt
  have HD := Lib.hid (fun w => digit_any c w)
  have HG := Lib.hid (fun w (h : Inv w) => gparse_any s hz w h)
  have HR := Lib.hid (fun w (h : Spc w) => reserved_any s w h)
  have HI := Lib.hid hI
  have HT := Lib.hid hT
  have HL := Lib.hid hs
  clear hI hT hz hs hsz
  obtain ⟨d, hd⟩ : ∃ d, digB c = d := ⟨_, rfl⟩
  rw [hd] at HD
  cases d
  · clear HG
    obtain ⟨q, hq⟩ : ∃ q, decide (s.data.toList ∈ resv) = q := ⟨_, rfl⟩
    rw [hq] at HR
    have hnd : ¬ (s.data.toList.head?.map digB) = some true := by
      rw [HL.out]; show ¬ some (digB c) = some true; rw [hd]; simp
    cases q
    · have h95 : ((c.toNat : Int) == 95) = (c == 95) := by
        refine u8_all (p := fun c => ((c.toNat : Int) == 95) = (c == 95)) ?_ c
        decide +kernel
      have HW : Hid (wordM s.data.toList at' = if c = 95 then none else some ⟨0, s.data.toList, (0, 0), at'⟩) := Lib.hid (by
        unfold wordM
        rw [if_neg hnd, if_neg (of_decide_eq_false hq), HL.out]
        by_cases h : c = 95
        · rw [if_pos h, if_pos (by rw [h]; rfl)]
        · rw [if_neg h, if_neg (show ¬ (c :: r).head? = some 95 from fun e => h (Option.some.inj e))])
      have HM : Hid (aggM ⟨0, s.data.toList, (0, 0), at'⟩ = markV 0 s 0 0 at') := Lib.hid (by
        show Value.agg #[_, .string ⟨s.data.toList.toArray⟩, .complex .f64 (W 0) (W 0), _] = _
        rw [← ba_list (rfl : s.data.toList = s.data.toList), zero00])
      clear hd hq hnd
      go_enter Tryz.func31, Tryz.ntmps31
      go_wp2_with fail
      refine (HD.out _).mono ?_; rintro e w' ⟨rfl, rfl⟩
      go_wp2_with fail
      refine (HR.out _ (HT.out.below' (below_alloc w _))).mono ?_; rintro e w' ⟨rfl, rfl⟩
      go_wp2_with fail
      go_region
      go_wp2_with fail
      refine bodyPost_ret (v := .tuple #[markV 0 s 0 0 at', .bool ((c.toNat : Int) != 95)]) (by simp [results, Tryz.results31, go_sem]) rfl ⟨?_, by repeat (first | exact Below.refl _ _ | refine Below.setCell ?_ (Nat.le_refl _) _ | refine Below.drew ?_ | refine Go.below_drewN ?_ _ | refine Below.alloc ?_ (by simp <;> omega) _)⟩
      show WordR s at' (.returned (.tuple #[_, .bool (!((c.toNat : Int) == 95))]))
      rw [h95]
      by_cases h : c = 95
      · refine Or.inr ⟨by rw [HW.out, if_pos h], 0, 0, 0, ?_⟩
        rw [beq_iff_eq.2 h]; rfl
      · refine Or.inl ⟨_, by rw [HW.out, if_neg h], ?_⟩
        rw [beq_eq_false_iff_ne.2 h, HM.out]; rfl
    · have HW : Hid (wordM s.data.toList at' = some ⟨1, s.data.toList, (0, 0), at'⟩) := Lib.hid (by
        unfold wordM
        rw [if_neg hnd, if_pos (of_decide_eq_true hq)])
      have HM : Hid (aggM ⟨1, s.data.toList, (0, 0), at'⟩ = markV 1 s 0 0 at') := Lib.hid (by
        show Value.agg #[_, .string ⟨s.data.toList.toArray⟩, .complex .f64 (W 0) (W 0), _] = _
        rw [← ba_list (rfl : s.data.toList = s.data.toList), zero00])
      clear hd hq hnd
      go_enter Tryz.func31, Tryz.ntmps31
      go_wp2_with fail
      refine (HD.out _).mono ?_; rintro e w' ⟨rfl, rfl⟩
      go_wp2_with fail
      refine (HR.out _ (HT.out.below' (below_alloc w _))).mono ?_; rintro e w' ⟨rfl, rfl⟩
      go_wp2_with fail
      exact bodyPost_ret (v := .tuple #[markV 1 s 0 0 at', .bool true]) (by simp [results, Tryz.results31, go_sem]) rfl ⟨Or.inl ⟨_, HW.out, by rw [HM.out]⟩, by repeat (first | exact Below.refl _ _ | refine Below.setCell ?_ (Nat.le_refl _) _ | refine Below.drew ?_ | refine Go.below_drewN ?_ _ | refine Below.alloc ?_ (by simp <;> omega) _)⟩
  · obtain ⟨x, hx⟩ : ∃ x, refParse s.data.toList = x := ⟨_, rfl⟩
    have HX : Hid (refParse s.data.toList = x) := Lib.hid hx
    rw [hx] at HG
    have HW : Hid (wordM s.data.toList at' = x.map (fun p => ⟨2, s.data.toList, p, at'⟩)) := Lib.hid (by
      unfold wordM
      rw [if_pos (by rw [HL.out]; show some (digB c) = some true; rw [hd]), hx])
    clear hx hd
    cases x with
    | none =>
      go_enter Tryz.func31, Tryz.ntmps31
      go_wp2_with fail
      refine (HD.out _).mono ?_; rintro e w' ⟨rfl, rfl⟩
      go_wp2_with fail
      refine (HG.out _ (HI.out.below (below_alloc w _))).mono ?_; rintro e w1 ⟨he, hb1⟩
      rw [show parseA none = .tuple #[.complex .f64 0 0, .int .i64 10] from rfl] at he
      subst he
      have K1 : Keep w [(w.heap.size, 0, .int .i64 0), (w.heap.size, 1, .string ⟨#[]⟩), (w.heap.size, 2, .complex .f64 0 0), (w.heap.size, 3, .int .i64 0)] w1 := Keep.below hb1 (Keep.alloc4 (k := w.heap.size) _ _ _ _ 40 (by simp) (Keep.start w))
      have F1 : ∀ o, w1.frozen? ⟨w.heap.size, o, none⟩ = false := fun o => (hb1.frozen (p := ⟨w.heap.size, o, none⟩) (by simp <;> omega)).trans (by simp [go_sem])
      clear hb1
      obtain ⟨⟨k0, z0, k1, z1, k2, z2, k3, z3, _⟩, hB⟩ := id K1
      clear hB
      go_wp2_with fail
      exact bodyPost_ret (v := .tuple #[markV 2 s 0 0 at', .bool false]) (by simp [results, Tryz.results31, go_sem, k0, k1, k2, k3]) rfl ⟨Or.inr ⟨by rw [HW.out]; rfl, _, _, _, rfl⟩, ((((And.right K1).setCell (p := ⟨w.heap.size, 0, none⟩) (Nat.le_refl _) _).setCell (p := ⟨w.heap.size, 1, none⟩) (Nat.le_refl _) _).setCell (p := ⟨w.heap.size, 2, none⟩) (Nat.le_refl _) _).setCell (p := ⟨w.heap.size, 3, none⟩) (Nat.le_refl _) _⟩
    | some p =>
      obtain ⟨x, y⟩ := p
      have HM : Hid (aggM ⟨2, s.data.toList, (x, y), at'⟩ = markV 2 s (W x) (W y) at') := Lib.hid (by
        show Value.agg #[_, .string ⟨s.data.toList.toArray⟩, _, _] = _
        rw [← ba_list (rfl : s.data.toList = s.data.toList)])
      obtain ⟨a, ha⟩ : ∃ a, W x = a := ⟨_, rfl⟩
      obtain ⟨b, hb⟩ : ∃ b, W y = b := ⟨_, rfl⟩
      rw [ha, hb] at HM
      go_enter Tryz.func31, Tryz.ntmps31
      go_wp2_with fail
      refine (HD.out _).mono ?_; rintro e w' ⟨rfl, rfl⟩
      go_wp2_with fail
      refine (HG.out _ (HI.out.below (below_alloc w _))).mono ?_; rintro e w1 ⟨he, hb1⟩
      rw [show parseA (some (x, y)) = .tuple #[.complex .f64 (W x) (W y), .int .i64 0] from rfl, ha, hb] at he
      subst he
      clear ha hb
      have K1 : Keep w [(w.heap.size, 0, .int .i64 0), (w.heap.size, 1, .string ⟨#[]⟩), (w.heap.size, 2, .complex .f64 0 0), (w.heap.size, 3, .int .i64 0)] w1 := Keep.below hb1 (Keep.alloc4 (k := w.heap.size) _ _ _ _ 40 (by simp) (Keep.start w))
      have F1 : ∀ o, w1.frozen? ⟨w.heap.size, o, none⟩ = false := fun o => (hb1.frozen (p := ⟨w.heap.size, o, none⟩) (by simp <;> omega)).trans (by simp [go_sem])
      clear hb1
      obtain ⟨⟨k0, z0, k1, z1, k2, z2, k3, z3, _⟩, hB⟩ := id K1
      clear hB
      go_wp2_with fail
      exact bodyPost_ret (v := .tuple #[markV 2 s a b at', .bool true]) (by simp [results, Tryz.results31, go_sem, k0, k1, k2, k3]) rfl ⟨Or.inl ⟨_, HW.out, by rw [HM.out]⟩, ((((And.right K1).setCell (p := ⟨w.heap.size, 0, none⟩) (Nat.le_refl _) _).setCell (p := ⟨w.heap.size, 1, none⟩) (Nat.le_refl _) _).setCell (p := ⟨w.heap.size, 2, none⟩) (Nat.le_refl _) _).setCell (p := ⟨w.heap.size, 3, none⟩) (Nat.le_refl _) _⟩
end Go.Proofs.YtgddkgbidhhheaaGreatDoor
namespace Go.Proofs.YtgddkgbidhhheaaGreatDoor
open Go.RowKit Flo Mk
structure FrameM (a:Act) (F:Nat) (p:Option Addr) (n c:Nat) (v:Value) (i fr:Nat) (ok:Bool):Prop where
 df:a.defers=[]
 sz:a.tmps.size=122
 s0:a.tmps[0]? = some (.slice p n c)
 s2:a.tmps[2]? = some (.slice none 0 0)
 s3:a.tmps[3]? = some (.pointer (some ⟨F,0,none⟩))
 s4:a.tmps[4]? = some v
 s5:a.tmps[5]? = some (.int .i64 (i:Int))
 s6:a.tmps[6]? = some (.int .i64 (fr:Int))
 s7:a.tmps[7]? = some (.pointer (some ⟨F + 1,0,none⟩))
 s8:a.tmps[8]? = some (.bool ok)
theorem frame_list (U:Nat→Value):(List.range 122).map U=[U 0,U 1,U 2,U 3,U 4,U 5,U 6,U 7,U 8,U 9,U 10,U 11,U 12,U 13,U 14,U 15,U 16,U 17,U 18,U 19,U 20,U 21,U 22,U 23,U 24,U 25,U 26,U 27,U 28,U 29,U 30,U 31,U 32,U 33,U 34,U 35,U 36,U 37,U 38,U 39,U 40,U 41,U 42,U 43,U 44,U 45,U 46,U 47,U 48,U 49,U 50,U 51,U 52,U 53,U 54,U 55,U 56,U 57,U 58,U 59,U 60,U 61,U 62,U 63,U 64,U 65,U 66,U 67,U 68,U 69,U 70,U 71,U 72,U 73,U 74,U 75,U 76,U 77,U 78,U 79,U 80,U 81,U 82,U 83,U 84,U 85,U 86,U 87,U 88,U 89,U 90,U 91,U 92,U 93,U 94,U 95,U 96,U 97,U 98,U 99,U 100,U 101,U 102,U 103,U 104,U 105,U 106,U 107,U 108,U 109,U 110,U 111,U 112,U 113,U 114,U 115,U 116,U 117,U 118,U 119,U 120,U 121]:=rfl
theorem FrameM.open {a:Act} {F:Nat} {p:Option Addr} {n c:Nat} {v:Value} {i fr:Nat} {ok:Bool} (h:FrameM a F p n c v i fr ok) :
  ∃ U:Nat→Value,a = { tmps:=#[(.slice p n c),U 1,(.slice none 0 0),(.pointer (some ⟨F,0,none⟩)),v,(.int .i64 (i:Int)),(.int .i64 (fr:Int)),(.pointer (some ⟨F + 1,0,none⟩)),(.bool ok),U 9,U 10,U 11,U 12,U 13,U 14,U 15,U 16,U 17,U 18,U 19,U 20,U 21,U 22,U 23,U 24,U 25,U 26,U 27,U 28,U 29,U 30,U 31,U 32,U 33,U 34,U 35,U 36,U 37,U 38,U 39,U 40,U 41,U 42,U 43,U 44,U 45,U 46,U 47,U 48,U 49,U 50,U 51,U 52,U 53,U 54,U 55,U 56,U 57,U 58,U 59,U 60,U 61,U 62,U 63,U 64,U 65,U 66,U 67,U 68,U 69,U 70,U 71,U 72,U 73,U 74,U 75,U 76,U 77,U 78,U 79,U 80,U 81,U 82,U 83,U 84,U 85,U 86,U 87,U 88,U 89,U 90,U 91,U 92,U 93,U 94,U 95,U 96,U 97,U 98,U 99,U 100,U 101,U 102,U 103,U 104,U 105,U 106,U 107,U 108,U 109,U 110,U 111,U 112,U 113,U 114,U 115,U 116,U 117,U 118,U 119,U 120,U 121],defers:=[] }:=by
 obtain ⟨A,D⟩:=a
 obtain ⟨rfl,hs,h0,h2,h3,h4,h5,h6,h7,h8⟩:=h
 refine ⟨fun k=>A.getD k undef,?_⟩
 have hA:A=((List.range 122).map fun k=>A.getD k undef).toArray:=by
  apply Array.toList_inj.1
  apply List.ext_getElem?
  intro j
  rw [List.getElem?_map]
  by_cases hj:j < 122
  ·rw [List.getElem?_range hj]
   show _=some (A.getD j undef)
   rw [Array.getElem?_toList,Array.getElem?_eq_getElem (by rw [show A.size=122 from hs]; exact hj)]
   rw [Array.getD,dif_pos (by rw [show A.size=122 from hs]; exact hj)]; rfl
  ·rw [Array.getElem?_toList,Array.getElem?_eq_none (by rw [show A.size=122 from hs]; omega),List.getElem?_eq_none (by simp; omega)]; rfl
 have e:∀ k x,A[k]? = some x→A.getD k undef=x:=fun k x hx=>by rw [Array.getD_eq_getD_getElem?,hx]; rfl
 rw [frame_list,e 0 _ h0,e 2 _ h2,e 3 _ h3,e 4 _ h4,e 5 _ h5,e 6 _ h6,e 7 _ h7,e 8 _ h8] at hA
 exact congrArg (fun t=>({ tmps:=t,defers:=[] }:Act)) hA
structure HeapM (w wr:World) (acc:List M) (v m0 m1 m2 m3:Value):Prop where
 below:Below w.heap.size w wr
 f0:wr.cell? ⟨w.heap.size,0,none⟩=some (.int .i64 0)
 f1:wr.cell? ⟨w.heap.size,1,none⟩=some (.int .i64 0)
 ff:∀ o,wr.frozen? ⟨w.heap.size,o,none⟩=false
 m0:wr.cell? ⟨w.heap.size + 1,0,none⟩=some m0
 m1:wr.cell? ⟨w.heap.size + 1,1,none⟩=some m1
 m2:wr.cell? ⟨w.heap.size + 1,2,none⟩=some m2
 m3:wr.cell? ⟨w.heap.size + 1,3,none⟩=some m3
 mf:∀ o,wr.frozen? ⟨w.heap.size + 1,o,none⟩=false
 own:wr.ownsRow (w.heap.size + 2) 40 4 v acc.length (rowM acc)
 size:w.heap.size + 2≤wr.heap.size
theorem HeapM.call {w wr w2 : World} {acc : List M} {v m0 m1 m2 m3 : Value} (h : HeapM w wr acc v m0 m1 m2 m3) (hb : Below wr.heap.size wr w2) : HeapM w w2 acc v m0 m1 m2 m3 := by
  have hs := h.size
  exact ⟨h.below.trans (hb.mono h.below.size), (hb.cell (p := ⟨w.heap.size, 0, none⟩) (by show w.heap.size < _; omega)).trans h.f0, (hb.cell (p := ⟨w.heap.size, 1, none⟩) (by show w.heap.size < _; omega)).trans h.f1,
    fun o => (hb.frozen (p := ⟨w.heap.size, o, none⟩) (by show w.heap.size < _; omega)).trans (h.ff o),
    (hb.cell (p := ⟨w.heap.size + 1, 0, none⟩) (by show w.heap.size + 1 < _; omega)).trans h.m0, (hb.cell (p := ⟨w.heap.size + 1, 1, none⟩) (by show w.heap.size + 1 < _; omega)).trans h.m1,
    (hb.cell (p := ⟨w.heap.size + 1, 2, none⟩) (by show w.heap.size + 1 < _; omega)).trans h.m2, (hb.cell (p := ⟨w.heap.size + 1, 3, none⟩) (by show w.heap.size + 1 < _; omega)).trans h.m3,
    fun o => (hb.frozen (p := ⟨w.heap.size + 1, o, none⟩) (by show w.heap.size + 1 < _; omega)).trans (h.mf o), own_below h.own hb, by have := hb.size; omega⟩
theorem HeapM.store {w wr:World} {acc:List M} {v m0 m1 m2 m3:Value} (h:HeapM w wr acc v m0 m1 m2 m3) (n0 n1 n2 n3:Value) :
  HeapM w ((((wr.setCell ⟨w.heap.size + 1,0,none⟩ n0).setCell ⟨w.heap.size + 1,1,none⟩ n1).setCell ⟨w.heap.size + 1,2,none⟩ n2).setCell ⟨w.heap.size + 1,3,none⟩ n3) acc v n0 n1 n2 n3:=by
 obtain ⟨hb,f0,f1,ff,k0,k1,k2,k3,mf,own,size⟩:=h
 have lt:w.heap.size≤w.heap.size + 1:=Nat.le_succ _
 refine ⟨(((hb.setCell (p:=⟨w.heap.size + 1,0,none⟩) lt _).setCell (p:=⟨w.heap.size + 1,1,none⟩) lt _).setCell (p:=⟨w.heap.size + 1,2,none⟩) lt _).setCell (p:=⟨w.heap.size + 1,3,none⟩) lt _,?_,?_,?_,?_,?_,?_,?_,?_,?_,?_⟩
 ·simp [go_sem,f0]
 ·simp [go_sem,f1]
 ·intro o; simp [go_sem,ff]
 ·simp [go_sem,k0]
 ·simp [go_sem,k1]
 ·simp [go_sem,k2]
 ·simp [go_sem,k3]
 ·intro o; simp [go_sem,mf]
 ·exact ownsRow_setCell_below (ownsRow_setCell_below (ownsRow_setCell_below (ownsRow_setCell_below own (by show w.heap.size + 1 < _; omega) _) (by show w.heap.size + 1 < _; omega) _) (by show w.heap.size + 1 < _; omega) _) (by show w.heap.size + 1 < _; omega) _
 ·simpa [World.setCell] using size
theorem HeapM.app {w wr w2:World} {acc:List M} {v v2 m0 m1 m2 m3:Value} {o:Obj} {m:M} (h:HeapM w wr acc v m0 m1 m2 m3)
  (h1:w2.ownsRow (w.heap.size + 2) 40 4 v2 (acc.length + 1) (rowM acc++cellsM m)) (hg:(wr.alloc o).grownBy w2 v.ownBlock):HeapM w w2 (acc++[m]) v2 m0 m1 m2 m3:=by
 have hs:=h.size
 have hne:∀ b,b < w.heap.size + 2→some b≠v.ownBlock:=fun b hb e=>by have:=(h.own.lt b e.symm).1; omega
 have hblk:∀ b,b < w.heap.size + 2→w2.heap[b]? = wr.heap[b]?:=fun b hb=>by
  rw [hg.block b (by simp; omega) (hne b hb)]
  exact Below.heap_alloc wr o b (by omega)
 have hcell:∀ b k,b < w.heap.size + 2→w2.cell? ⟨b,k,none⟩=wr.cell? ⟨b,k,none⟩:=fun b k hb=>World.cell?_of_block (a:=⟨b,k,none⟩) (hblk b hb)
 have hfro:∀ b k,b < w.heap.size + 2→w2.frozen? ⟨b,k,none⟩=wr.frozen? ⟨b,k,none⟩:=fun b k hb=>World.frozen?_of_block (a:=⟨b,k,none⟩) (hblk b hb)
 refine ⟨(h.below.alloc h.below.size o).grown hg (by simp; omega) (fun k hk=>by have:=(h.own.lt k hk).1; omega),?_,?_,?_,?_,?_,?_,?_,?_,?_,?_⟩
 ·rw [hcell _ _ (by omega)]; exact h.f0
 ·rw [hcell _ _ (by omega)]; exact h.f1
 ·intro o; rw [hfro _ _ (by omega)]; exact h.ff o
 ·rw [hcell _ _ (by omega)]; exact h.m0
 ·rw [hcell _ _ (by omega)]; exact h.m1
 ·rw [hcell _ _ (by omega)]; exact h.m2
 ·rw [hcell _ _ (by omega)]; exact h.m3
 ·intro o; rw [hfro _ _ (by omega)]; exact h.mf o
 ·rw [List.length_append,rowM_app]
  show w2.ownsRow _ _ _ _ (acc.length + 1) (rowM acc++rowM [m])
  rw [show rowM [m]=cellsM m by simp [rowM]]; exact h1
 ·have:=hg.size; simp at this; omega
def MarksR (w:World) (R:Except Nat (List M)) (e:Ending) (w':World):Prop:=
 (∃ ms v,R=.ok ms∧e=.returned (.tuple #[v,.agg #[.int .i64 0,.int .i64 0]])∧w'.ownsRow w.heap.size 40 4 v ms.length (rowM ms)) ∨
 (∃ a:Nat,R=.error a∧e=.returned (.tuple #[.slice none 0 0,.agg #[.int .i64 20,.int .i64 (a:Int)]]))
def RunAt (t:List UInt8) (fr i:Nat):Prop:=(t.drop fr).takeWhile runB=(t.drop fr).take (i - fr)++(t.drop i).takeWhile runB∧∃ x,t[fr]? = some x∧runB x=true
def JM (w : World) (p : Option Addr) (n c : Nat) (t : List UInt8) (R : Except Nat (List M)) (m l : Nat) (a : Act) (wr : World) : Prop :=
  ∃ (i fr : Nat) (acc : List M) (v : Value) (ok : Bool) (m0 m1 m2 m3 : Value), FrameM a w.heap.size p n c v i fr ok ∧ HeapM w wr acc v m0 m1 m2 m3 ∧ fr ≤ i ∧ i ≤ n ∧
    ((l = 0 ∧ acc.length ≤ i ∧ fin acc (scan (t.drop i) i) = R ∧ m = 268435456 * (n - i) + 201326592) ∨
     (l = 1 ∧ acc.length ≤ fr ∧ (fr < i ∨ t[i]? = some 35) ∧ fin acc (rem (t.drop i) i) = R ∧ m = 268435456 * (n - fr) + 134217728 + (n - i)) ∨
     (l = 2 ∧ acc.length ≤ fr ∧ RunAt t fr i ∧ fin acc (scan (t.drop fr) fr) = R ∧ m = 268435456 * (n - fr) + 134217728 + (n - i)) ∨
     (l = 3 ∧ acc.length ≤ fr ∧ i = fr ∧ (∃ x, t[fr]? = some x ∧ blankB x = false ∧ x ≠ 35 ∧ runB x = false) ∧ fin acc (scan (t.drop fr) fr) = R ∧ m = 268435456 * (n - fr) + 134217728) ∨
     (l = 4 ∧ acc.length ≤ fr ∧ fr < n ∧ (∃ x, t[fr]? = some x ∧ blankB x = false ∧ x ≠ 35) ∧ ((ok = false ∧ one (t.drop fr) fr = none) ∨ (ok = true ∧ ∃ mk, one (t.drop fr) fr = some mk ∧ i = fr + mk.text.length ∧ m0 = .int .i64 mk.kind ∧ m1 = .string ⟨mk.text.toArray⟩ ∧ m2 = .complex .f64 (W mk.num.1) (W mk.num.2) ∧ m3 = .int .i64 mk.pos)) ∧ fin acc (scan (t.drop fr) fr) = R ∧ m = 268435456 * (n - fr) + 67108864))
end Go.Proofs.YtgddkgbidhhheaaGreatDoor
