/- Texts joined: Pgr Wsc Lla Pgw Llb. -/
import Derived.Test.YtgddkgbidhhheaaGreatDoorKwaq
import Derived.Test.YtgddkgbidhhheaaGreatDoorKwaz
import Derived.Test.YtgddkgbidhhheaaGreatDoorKwax
import Derived.Test.YtgddkgbidhhheaaGreatDoorKway
import Derived.Test.YtgddkgbidhhheaaGreatDoorKwab
set_option linter.unusedVariables false
set_option linter.unusedSimpArgs false
namespace Go.Proofs.YtgddkgbidhhheaaGreatDoor
namespace Pg
open Mk
def runP (l : Lim) : Nat → Job → Option Res
  | 0, _ => none
  | k + 1, .seq n [] ms => some (.ok [] ms)
  | k + 1, .seq n (.w s :: is) (m :: ms) => bif isW m s then (runP l k (.seq n is ms)).map (Res.cons .u) else some (.bad 21 m.pos)
  | k + 1, .seq n (.nm :: is) (m :: ms) => if m.kind = 0 then (runP l k (.seq n is ms)).map (Res.cons (.nm m)) else some (.bad 21 m.pos)
  | k + 1, .seq n (.cn c most :: is) (m :: ms) => if m.kind = 0 then (if c < most then (runP l k (.seq n is ms)).map (Res.cons (.nm m)) else some (.bad 22 m.pos)) else some (.bad 21 m.pos)
  | k + 1, .seq n (.ty :: is) (m :: ms) => match typOf m with
    | some t => (runP l k (.seq n is ms)).map (Res.cons (.ty t))
    | none => some (.bad 21 m.pos)
  | k + 1, .seq n (.e :: is) ms => match runP l k (.expr n ms) with
    | some (.ok [.e x] ms') => (runP l k (.seq n is ms')).map (Res.cons (.e x))
    | some (.bad w p) => some (.bad w p)
    | _ => none
  | k + 1, .seq n (.ps :: is) ms => match runP l k (.pars [] ms) with
    | some (.ok [.ps x] ms') => (runP l k (.seq n is ms')).map (Res.cons (.ps x))
    | some (.bad w p) => some (.bad w p)
    | _ => none
  | k + 1, .expr n (m :: ms) => match isB m with
    | true => if l.nest ≤ n then some (.bad 23 m.pos) else (runP l k (.seq (n + 1) (bindIts m) ms)).map (Res.map (bindEx m))
    | false => match isW m tIf with
      | true => (runP l k (.seq n ifIts ms)).map (Res.map (ifEx m))
      | false => runP l k (.row n 0 (m :: ms))
  | k + 1, .row n lv ms => if lv = 4 then runP l k (.unit n ms) else if lv < 4 then (match runP l k (.row n (lv + 1) ms) with
    | some (.ok [.e e] ms') => runP l k (.tail n lv e ms')
    | some (.bad w p) => some (.bad w p)
    | _ => none) else none
  | k + 1, .tail n lv e (m :: ms) => match strOf m with
    | some (lv', op) => if lv' = lv then (match runP l k (.row n (right lv) ms) with
      | some (.ok [.e b] ms') => if lv < 2 then some (.ok [.e (two op e b m.pos)] ms') else runP l k (.tail n lv (two op e b m.pos) ms')
      | some (.bad w p) => some (.bad w p)
      | _ => none) else some (.ok [.e e] (m :: ms))
    | none => some (.ok [.e e] (m :: ms))
  | k + 1, .unit n (m :: ms) => if m.kind = 2 then some (.ok [.e (.mk 1 [] [] 0 m.num [] m.pos)] ms) else if m.kind = 0 then (match ms with
      | j :: ms' => (match isW j sOpen with
        | true => (runP l k (.args n [] ms')).map (Res.map (callEx m))
        | false => some (.ok [.e (.mk 6 m.text [] 0 (0, 0) [] m.pos)] (j :: ms')))
      | [] => none)
    else match isW m sOpen with
      | true => (runP l k (.seq n [.e, .w sClose] ms)).map (Res.map parEx)
      | false => match word0 m with
        | some op => some (.ok [.e (.mk op [] [] 0 (0, 0) [] m.pos)] ms)
        | none => match isW m tFail with
          | true => (runP l k (.seq n [.ty] ms)).map (Res.map (failEx m))
          | false => match word1 m with
            | some op => (runP l k (.seq n [.w sOpen, .e, .w sClose] ms)).map (Res.map (oneEx op m))
            | none => some (.bad 21 m.pos)
  | k + 1, .args n us (m :: ms) => match isW m sClose with
    | true => some (.ok [.asx us] ms)
    | false => match us with
      | [] => (match runP l k (.expr n (m :: ms)) with
        | some (.ok [.e x] ms') => runP l k (.args n [x] ms')
        | some (.bad w p) => some (.bad w p)
        | _ => none)
      | u :: r => match isW m sComma with
        | true => (match runP l k (.expr n ms) with
          | some (.ok [.e x] ms') => runP l k (.args n (u :: r ++ [x]) ms')
          | some (.bad w p) => some (.bad w p)
          | _ => none)
        | false => some (.bad 21 m.pos)
  | k + 1, .pars ps (m :: ms) => match isW m sClose with
    | true => some (.ok [.ps ps] ms)
    | false => match ps with
      | [] => (match runP l k (.seq 0 [.cn 0 l.arity, .ty] (m :: ms)) with
        | some (.ok [.nm x, .ty t] ms') => runP l k (.pars [⟨x.text, t, x.pos⟩] ms')
        | some (.bad w p) => some (.bad w p)
        | _ => none)
      | u :: r => match isW m sComma with
        | true => (match runP l k (.seq 0 [.cn (u :: r).length l.arity, .ty] ms) with
          | some (.ok [.nm x, .ty t] ms') => runP l k (.pars (u :: r ++ [⟨x.text, t, x.pos⟩]) ms')
          | some (.bad w p) => some (.bad w p)
          | _ => none)
        | false => some (.bad 21 m.pos)
  | k + 1, .prog fs (m :: ms) => if m.kind = 4 ∧ fs ≠ [] then some (.ok [.fs fs] (m :: ms)) else match runP l k (.seq 0 (defIts l fs.length) (m :: ms)) with
    | some (.ok vs ms') => (match defEx vs with
      | some f => runP l k (.prog (fs ++ [f]) ms')
      | none => none)
    | some (.bad w p) => some (.bad w p)
    | none => none
  | k + 1, _ => none
theorem run_P {l:Lim}:∀ (k:Nat) (j:Job) (r:Res),runP l k j=some r→P l j r:=by
 intro k
 induction k with
 | zero=>intro j r h; cases h
 | succ k ih=>
  intro j r h
  cases j with
  | seq n its ms=>
   cases its with
   | nil=>cases h; exact .nil _ _
   | cons i is=>
    cases i with
    | w s=>
     cases ms with
     | nil=>cases h
     | cons m ms=>
      simp only [runP] at h
      cases hw:isW m s
      ·rw [hw] at h; cases h; exact .wBad _ _ _ hw
      ·rw [hw,cond_true,Option.map_eq_some_iff] at h
       obtain ⟨q,h1,rfl⟩:=h
       exact .w hw (ih _ _ h1)
    | nm=>
     cases ms with
     | nil=>cases h
     | cons m ms=>
      simp only [runP] at h
      split at h
      ·rename_i hk
       rw [Option.map_eq_some_iff] at h
       obtain ⟨q,h1,rfl⟩:=h
       exact .nm hk (ih _ _ h1)
      ·rename_i hk; cases h; exact .nmBad _ _ _ hk
    | cn c most=>
     cases ms with
     | nil=>cases h
     | cons m ms=>
      simp only [runP] at h
      split at h
      ·rename_i hk
       split at h
       ·rename_i hc
        rw [Option.map_eq_some_iff] at h
        obtain ⟨q,h1,rfl⟩:=h
        exact .cn hk hc (ih _ _ h1)
       ·rename_i hc; cases h; exact .cnBig _ _ _ hk (by omega)
      ·rename_i hk; cases h; exact .cnBad _ _ _ _ _ hk
    | ty=>
     cases ms with
     | nil=>cases h
     | cons m ms=>
      simp only [runP] at h
      split at h
      ·rename_i t ht
       rw [Option.map_eq_some_iff] at h
       obtain ⟨q,h1,rfl⟩:=h
       exact .ty ht (ih _ _ h1)
      ·rename_i ht; cases h; exact .tyBad _ _ _ ht
    | e=>
     simp only [runP] at h
     split at h
     ·rename_i x ms' hx
      rw [Option.map_eq_some_iff] at h
      obtain ⟨q,h1,rfl⟩:=h
      exact .e (ih _ _ hx) (ih _ _ h1)
     ·rename_i w p hx; cases h; exact .eBad _ (ih _ _ hx)
     ·cases h
    | ps=>
     simp only [runP] at h
     split at h
     ·rename_i x ms' hx
      rw [Option.map_eq_some_iff] at h
      obtain ⟨q,h1,rfl⟩:=h
      exact .ps (ih _ _ hx) (ih _ _ h1)
     ·rename_i w p hx; cases h; exact .psBad _ (ih _ _ hx)
     ·cases h
  | expr n ms=>
   cases ms with
   | nil=>cases h
   | cons m ms=>
    simp only [runP] at h
    split at h
    ·rename_i hb
     split at h
     ·rename_i hn; cases h; exact .deep _ hb hn
     ·rename_i hn
      rw [Option.map_eq_some_iff] at h
      obtain ⟨q,h1,rfl⟩:=h
      exact .bind hb (by omega) (ih _ _ h1)
    ·rename_i hb
     split at h
     ·rename_i hi
      rw [Option.map_eq_some_iff] at h
      obtain ⟨q,h1,rfl⟩:=h
      exact .cond hi (ih _ _ h1)
     ·rename_i hi; exact .expr hb hi (ih _ _ h)
  | row n lv ms=>
   simp only [runP] at h
   split at h
   ·rename_i hl; subst hl; exact .row4 (ih _ _ h)
   ·split at h
    ·rename_i hl
     split at h
     ·rename_i e ms' hx; exact .row hl (ih _ _ hx) (ih _ _ h)
     ·rename_i w p hx; cases h; exact .rowBad hl (ih _ _ hx)
     ·cases h
    ·cases h
  | tail n lv e ms=>
   cases ms with
   | nil=>cases h
   | cons m ms=>
    simp only [runP] at h
    split at h
    ·rename_i lv' op hs
     split at h
     ·rename_i hl
      subst hl
      split at h
      ·rename_i b ms' hx
       split at h
       ·rename_i h2; cases h; exact .tail1 hs h2 (ih _ _ hx)
       ·rename_i h2; exact .tail2 hs (by omega) (ih _ _ hx) (ih _ _ h)
      ·rename_i w p hx; cases h; exact .tailBad _ hs (ih _ _ hx)
      ·cases h
     ·rename_i hl; cases h; exact .stop _ _ _ (by rw [hs]; simpa using hl)
    ·rename_i hs; cases h; exact .stop _ _ _ (by rw [hs]; simp)
  | unit n ms=>
   cases ms with
   | nil=>cases h
   | cons m ms=>
    simp only [runP] at h
    split at h
    ·rename_i h2; cases h; exact .num _ _ h2
    ·rename_i h2
     split at h
     ·rename_i h0
      split at h
      ·split at h
       ·rename_i hj
        rw [Option.map_eq_some_iff] at h
        obtain ⟨q,h1,rfl⟩:=h
        exact .call h0 hj (ih _ _ h1)
       ·rename_i hj; cases h; exact .var _ _ h0 hj
      ·cases h
     ·rename_i h0
      split at h
      ·rename_i ho
       rw [Option.map_eq_some_iff] at h
       obtain ⟨q,h1,rfl⟩:=h
       exact .par ho (ih _ _ h1)
      ·rename_i ho
       split at h
       ·rename_i op hw; cases h; exact .word0 _ _ hw
       ·rename_i hw
        split at h
        ·rename_i hf
         rw [Option.map_eq_some_iff] at h
         obtain ⟨q,h1,rfl⟩:=h
         exact .fail hf (ih _ _ h1)
        ·rename_i hf
         split at h
         ·rename_i op hw1
          rw [Option.map_eq_some_iff] at h
          obtain ⟨q,h1,rfl⟩:=h
          exact .word1 hw1 (ih _ _ h1)
         ·rename_i hw1; cases h; exact .unitBad _ _ h2 h0 ho hw hf hw1
  | args n us ms=>
   cases ms with
   | nil=>cases h
   | cons m ms=>
    simp only [runP] at h
    split at h
    ·rename_i hc; cases h; exact .aStop _ _ _ hc
    ·rename_i hc
     split at h
     ·split at h
      ·rename_i x ms' hx; exact .aNext0 hc (ih _ _ hx) (ih _ _ h)
      ·rename_i w p hx; cases h; exact .aBad0 hc (ih _ _ hx)
      ·cases h
     ·split at h
      ·rename_i hk
       split at h
       ·rename_i x ms' hx; exact .aNext (by simp) hk (ih _ _ hx) (ih _ _ h)
       ·rename_i w p hx; cases h; exact .aBad (by simp) hk (ih _ _ hx)
       ·cases h
      ·rename_i hk; cases h; exact .aSep _ _ hc (by simp) hk
  | pars ps ms=>
   cases ms with
   | nil=>cases h
   | cons m ms=>
    simp only [runP] at h
    split at h
    ·rename_i hc; cases h; exact .pStop _ _ hc
    ·rename_i hc
     split at h
     ·split at h
      ·rename_i x t ms' hx; exact .pNext0 hc (ih _ _ hx) (ih _ _ h)
      ·rename_i w p hx; cases h; exact .pBad0 hc (ih _ _ hx)
      ·cases h
     ·split at h
      ·rename_i hk
       split at h
       ·rename_i x t ms' hx; exact .pNext (by simp) hk (ih _ _ hx) (ih _ _ h)
       ·rename_i w p hx; cases h; exact .pBad (by simp) hk (ih _ _ hx)
       ·cases h
      ·rename_i hk; cases h; exact .pSep _ hc (by simp) hk
  | prog fs ms=>
   cases ms with
   | nil=>cases h
   | cons m ms=>
    simp only [runP] at h
    split at h
    ·rename_i hk; cases h; exact .progEnd _ hk.1 hk.2
    ·rename_i hk
     have hk':m.kind≠4∨fs=[]:=by
      by_cases h4:m.kind=4
      ·refine .inr ?_
       cases hf:fs with
       | nil=>rfl
       | cons a b=>exact absurd ⟨h4,by rw [hf]; simp⟩ hk
      ·exact .inl h4
     split at h
     ·rename_i vs ms' hx
      split at h
      ·rename_i f hf; exact .prog hk' (ih _ _ hx) hf (ih _ _ h)
      ·cases h
     ·rename_i w p hx; cases h; exact .progBad hk' (ih _ _ hx)
     ·cases h
end Pg
end Go.Proofs.YtgddkgbidhhheaaGreatDoor
set_option linter.unusedVariables false
set_option linter.unusedSimpArgs false
namespace Go.Proofs.YtgddkgbidhhheaaGreatDoor
open Go.RowKit Flo Mk Pg Ab
theorem ord_refl (d:Ieee.Datum) (h:∀ s t,d≠.nan s t):d.order d=some .eq:=by
 cases d with
 | number s m i=>simp [Ieee.Datum.order]
 | infinity s=>simp [Ieee.Datum.order]
 | nan s t=>exact absurd rfl (h s t)
theorem read_rung (f:Ieee.Format) (neg:Bool) (r:Nat) (h:r≤f.infRung) (hs:f.infRung < f.signWeight):∀ s t,f.read (f.word neg r)≠.nan s t:=by
 intro s t
 have hr:(f.word neg r) % f.signWeight=r:=by
  unfold Ieee.Format.word
  cases neg
  ·simp; exact Nat.mod_eq_of_lt (by omega)
  ·simp; exact Nat.mod_eq_of_lt (by omega)
 unfold Ieee.Format.read
 simp only [hr]
 repeat' split
 all_goals first | (simp; done) | omega
theorem nearest_refl (f:Ieee.Format) (neg:Bool) (m:Nat) (p:Int) (hs:f.infRung < f.signWeight):f.order (f.nearest neg m p) (f.nearest neg m p)=some .eq:=by
 refine ord_refl _ ?_
 unfold Ieee.Format.nearest
 split
 ·exact read_rung f neg 0 (Nat.zero_le _) hs
 ·exact read_rung f neg _ (Nat.min_le_right _ _) hs
theorem ordW_self (n:Int):FloatKind.f64.format.order (W n) (W n)=some .eq:=
 nearest_refl _ _ _ _ (by decide)
theorem cEqW_self (a b:Int):cEq (W a) (W b) (W a) (W b)=true:=by
 unfold cEq; rw [ordW_self,ordW_self]; rfl
mutual
theorem sameX_refl (pl:Bool):∀ e:Ex,sameX pl e e=true
 | .mk o n t ty num us p=>by
  rw [sameX,cEqW_self,sameXs_refl pl us]
  simp
theorem sameXs_refl (pl:Bool):∀ us:List Ex,sameXs pl us us=true
 | []=>by simp [sameXs]
 | e :: r=>by rw [sameXs,sameX_refl pl e,sameXs_refl pl r]; rfl
end
theorem samePs_refl (pl:Bool):∀ ps:List Pm,samePs pl ps ps=true
 | []=>by simp [samePs]
 | p :: r=>by simp [samePs,sameP,samePs_refl pl r]
theorem sameF_refl (pl:Bool) (f:Pg.Fd):sameF pl f f=true:=by
 unfold sameF; rw [samePs_refl,sameX_refl]; simp
theorem sameFs_refl (pl:Bool):∀ fs:List Pg.Fd,sameFs pl fs fs=true
 | []=>by simp [sameFs]
 | f :: r=>by rw [sameFs,sameF_refl,sameFs_refl pl r]; rfl
theorem sameG_refl (pl:Bool) (fs:List Pg.Fd):sameG pl fs fs=true:=by
 unfold sameG; rw [sameFs_refl]; simp
end Go.Proofs.YtgddkgbidhhheaaGreatDoor
set_option linter.unusedVariables false
set_option linter.unusedSimpArgs false
set_option maxRecDepth 100000
namespace Go.Proofs.YtgddkgbidhhheaaGreatDoor
open Go.RowKit Flo Mk Pg Ab
theorem digA (u:Nat) (h:u < 10):Lib.decDigits u=[UInt8.ofNat (48 + u)]:=Lib.decDigits_one h
theorem textA_1:textL 1 0=[49]:=by
 unfold textL Lib.itoa
 rw [if_pos rfl,if_neg (by decide),show Int.toNat 1=1 from rfl,digA 1 (by decide)]; rfl
theorem refParseA_1:refParse [49]=some (1,0):=by
 have h:=refParse_text (x:=1) (y:=0) (by decide)
 rw [textA_1] at h; exact h
theorem oneA_num {l:List UInt8} {at':Nat} (h1:(l.head?.map runB)=some true) (h2:((l.takeWhile runB).head?.map digB)=some true):one l at'=(refParse (l.takeWhile runB)).map (fun p=>⟨2,l.takeWhile runB,p,at'⟩):=by
 unfold one wordM; rw [if_pos h1,if_pos h2]
abbrev tA1:List UInt8:=[102,40,120,32,78,41,58,78,61,120,43,49,59]
def msA1:List M:=[⟨0,[102],(0,0),0⟩,⟨3,[40],(0,0),1⟩,⟨0,[120],(0,0),2⟩,⟨1,[78],(0,0),4⟩,⟨3,[41],(0,0),5⟩,⟨3,[58],(0,0),6⟩,⟨1,[78],(0,0),7⟩,⟨3,[61],(0,0),8⟩,⟨0,[120],(0,0),9⟩,⟨3,[43],(0,0),10⟩,⟨2,[49],(1,0),11⟩,⟨3,[59],(0,0),12⟩,⟨4,[],(0,0),13⟩]
theorem scan_A1:scan tA1 0=.ok msA1:=by
 rw [scan_one (by decide) (by decide),show one [102,40,120,32,78,41,58,78,61,120,43,49,59] 0=some ⟨0,[102],(0,0),0⟩ by decide +kernel]
 show pre _ (scan [40,120,32,78,41,58,78,61,120,43,49,59] 1)=_
 rw [scan_one (by decide) (by decide),show one [40,120,32,78,41,58,78,61,120,43,49,59] 1=some ⟨3,[40],(0,0),1⟩ by decide +kernel]
 show pre _ (pre _ (scan [120,32,78,41,58,78,61,120,43,49,59] 2))=_
 rw [scan_one (by decide) (by decide),show one [120,32,78,41,58,78,61,120,43,49,59] 2=some ⟨0,[120],(0,0),2⟩ by decide +kernel]
 show pre _ (pre _ (pre _ (scan [32,78,41,58,78,61,120,43,49,59] 3)))=_
 rw [scan_blank (by decide)]
 rw [scan_one (by decide) (by decide),show one [78,41,58,78,61,120,43,49,59] 4=some ⟨1,[78],(0,0),4⟩ by decide +kernel]
 show pre _ (pre _ (pre _ (pre _ (scan [41,58,78,61,120,43,49,59] 5))))=_
 rw [scan_one (by decide) (by decide),show one [41,58,78,61,120,43,49,59] 5=some ⟨3,[41],(0,0),5⟩ by decide +kernel]
 show pre _ (pre _ (pre _ (pre _ (pre _ (scan [58,78,61,120,43,49,59] 6)))))=_
 rw [scan_one (by decide) (by decide),show one [58,78,61,120,43,49,59] 6=some ⟨3,[58],(0,0),6⟩ by decide +kernel]
 show pre _ (pre _ (pre _ (pre _ (pre _ (pre _ (scan [78,61,120,43,49,59] 7))))))=_
 rw [scan_one (by decide) (by decide),show one [78,61,120,43,49,59] 7=some ⟨1,[78],(0,0),7⟩ by decide +kernel]
 show pre _ (pre _ (pre _ (pre _ (pre _ (pre _ (pre _ (scan [61,120,43,49,59] 8)))))))=_
 rw [scan_one (by decide) (by decide),show one [61,120,43,49,59] 8=some ⟨3,[61],(0,0),8⟩ by decide +kernel]
 show pre _ (pre _ (pre _ (pre _ (pre _ (pre _ (pre _ (pre _ (scan [120,43,49,59] 9))))))))=_
 rw [scan_one (by decide) (by decide),show one [120,43,49,59] 9=some ⟨0,[120],(0,0),9⟩ by decide +kernel]
 show pre _ (pre _ (pre _ (pre _ (pre _ (pre _ (pre _ (pre _ (pre _ (scan [43,49,59] 10)))))))))=_
 rw [scan_one (by decide) (by decide),show one [43,49,59] 10=some ⟨3,[43],(0,0),10⟩ by decide +kernel]
 show pre _ (pre _ (pre _ (pre _ (pre _ (pre _ (pre _ (pre _ (pre _ (pre _ (scan [49,59] 11))))))))))=_
 rw [scan_one (by decide) (by decide),oneA_num (by decide) (by decide),show List.takeWhile runB [49,59]=[49] by decide,refParseA_1]
 show pre _ (pre _ (pre _ (pre _ (pre _ (pre _ (pre _ (pre _ (pre _ (pre _ (pre _ (scan [59] 12)))))))))))=_
 rw [scan_one (by decide) (by decide),show one [59] 12=some ⟨3,[59],(0,0),12⟩ by decide +kernel]
 show pre _ (pre _ (pre _ (pre _ (pre _ (pre _ (pre _ (pre _ (pre _ (pre _ (pre _ (pre _ (scan [] 13))))))))))))=_
 rfl
abbrev tA2:List UInt8:=[102,40,120,41,58,78,61,120,59]
def msA2:List M:=[⟨0,[102],(0,0),0⟩,⟨3,[40],(0,0),1⟩,⟨0,[120],(0,0),2⟩,⟨3,[41],(0,0),3⟩,⟨3,[58],(0,0),4⟩,⟨1,[78],(0,0),5⟩,⟨3,[61],(0,0),6⟩,⟨0,[120],(0,0),7⟩,⟨3,[59],(0,0),8⟩,⟨4,[],(0,0),9⟩]
theorem scan_A2:scan tA2 0=.ok msA2:=by
 rw [scan_one (by decide) (by decide),show one [102,40,120,41,58,78,61,120,59] 0=some ⟨0,[102],(0,0),0⟩ by decide +kernel]
 show pre _ (scan [40,120,41,58,78,61,120,59] 1)=_
 rw [scan_one (by decide) (by decide),show one [40,120,41,58,78,61,120,59] 1=some ⟨3,[40],(0,0),1⟩ by decide +kernel]
 show pre _ (pre _ (scan [120,41,58,78,61,120,59] 2))=_
 rw [scan_one (by decide) (by decide),show one [120,41,58,78,61,120,59] 2=some ⟨0,[120],(0,0),2⟩ by decide +kernel]
 show pre _ (pre _ (pre _ (scan [41,58,78,61,120,59] 3)))=_
 rw [scan_one (by decide) (by decide),show one [41,58,78,61,120,59] 3=some ⟨3,[41],(0,0),3⟩ by decide +kernel]
 show pre _ (pre _ (pre _ (pre _ (scan [58,78,61,120,59] 4))))=_
 rw [scan_one (by decide) (by decide),show one [58,78,61,120,59] 4=some ⟨3,[58],(0,0),4⟩ by decide +kernel]
 show pre _ (pre _ (pre _ (pre _ (pre _ (scan [78,61,120,59] 5)))))=_
 rw [scan_one (by decide) (by decide),show one [78,61,120,59] 5=some ⟨1,[78],(0,0),5⟩ by decide +kernel]
 show pre _ (pre _ (pre _ (pre _ (pre _ (pre _ (scan [61,120,59] 6))))))=_
 rw [scan_one (by decide) (by decide),show one [61,120,59] 6=some ⟨3,[61],(0,0),6⟩ by decide +kernel]
 show pre _ (pre _ (pre _ (pre _ (pre _ (pre _ (pre _ (scan [120,59] 7)))))))=_
 rw [scan_one (by decide) (by decide),show one [120,59] 7=some ⟨0,[120],(0,0),7⟩ by decide +kernel]
 show pre _ (pre _ (pre _ (pre _ (pre _ (pre _ (pre _ (pre _ (scan [59] 8))))))))=_
 rw [scan_one (by decide) (by decide),show one [59] 8=some ⟨3,[59],(0,0),8⟩ by decide +kernel]
 show pre _ (pre _ (pre _ (pre _ (pre _ (pre _ (pre _ (pre _ (pre _ (scan [] 9)))))))))=_
 rfl
abbrev limA:Lim:=⟨99,99,99,99⟩
def exA1:Ex:=.mk 8 [] [] 0 (0,0) [.mk 6 [120] [] 0 (0,0) [] 9,.mk 1 [] [] 0 (1,0) [] 11] 10
def fdA1:Pg.Fd:=⟨[102],[⟨[120],1,2⟩],1,exA1,0⟩
theorem run_A1:runP limA 60 (.prog [] msA1)=some (.ok [.fs [fdA1]] [⟨4,[],(0,0),13⟩]):=by rfl
theorem run_A2:runP limA 60 (.prog [] msA2)=some (.bad 21 3):=by rfl
theorem W1:W 1=4607182418800017408:=by decide +kernel
theorem parse_A1 {x:AV} (h:ParseR tA1 limA x):x=.tup [.agg [.sl 1 (fdsA [fdA1])],.agg [iv 0,iv 0]]:=by
 rcases h with ⟨h,_⟩ | ⟨_,⟨a,h,_⟩ | ⟨ms,h,⟨fs,a,hP,rfl⟩ | ⟨w,p,_,hP,_⟩⟩⟩
 ·exact absurd h (by decide)
 ·rw [scan_A1] at h; cases h
 ·rw [scan_A1] at h; cases h
  have:=det hP (run_P _ _ _ run_A1)
  simp only [Res.ok.injEq,List.cons.injEq,Vl.fs.injEq] at this
  obtain ⟨⟨rfl,_⟩,_⟩:=this; rfl
 ·rw [scan_A1] at h; cases h
  have:=det hP (run_P _ _ _ run_A1)
  cases this
theorem parse_A2 {x:AV} (h:ParseR tA2 limA x):x=.tup [.agg [.sl 0 []],.agg [iv 21,iv 3]]:=by
 rcases h with ⟨h,_⟩ | ⟨_,⟨a,h,_⟩ | ⟨ms,h,⟨fs,a,hP,rfl⟩ | ⟨w,p,_,hP,rfl⟩⟩⟩
 ·exact absurd h (by decide)
 ·rw [scan_A2] at h; cases h
 ·rw [scan_A2] at h; cases h
  have:=det hP (run_P _ _ _ run_A2)
  cases this
 ·rw [scan_A2] at h; cases h
  have:=det hP (run_P _ _ _ run_A2)
  cases this; rfl
theorem mawake_ap:AP Tryz.prog GmL 17 [] (fun x=>x=bv true):=by
 have h1:AP Tryz.prog GmL 20 [.sl 13 (tA1.map byA),.agg [iv 99,iv 99,iv 99,iv 99]] (fun x=>x=.tup [.agg [.sl 1 (fdsA [fdA1])],.agg [iv 0,iv 0]]):=AP.mono (lparse_ap tA1 limA) (fun x hx=>parse_A1 hx)
 have h2:AP Tryz.prog GmL 20 [.sl 9 (tA2.map byA),.agg [iv 99,iv 99,iv 99,iv 99]] (fun x=>x=.tup [.agg [.sl 0 []],.agg [iv 21,iv 3]]):=AP.mono (lparse_ap tA2 limA) (fun x hx=>parse_A2 hx)
 have hcq:cEq 4607182418800017408 (W 0) 4607182418800017408 0=true:=by rw [W0]; decide +kernel
 refine AP.go hmix F_mawake (by simp) ?_
 simp -implicitDefEqProofs [c_mawake,evP,fillA,splice,wrOb]
 refine SC.frz (by simp) [.row 1,.agg [iv 99,iv 99,iv 99,iv 99]] (by simp) h1 (by rfl) ?_ (a:=.mk)
 rintro x rfl
 simp -implicitDefEqProofs [evP,fillA,splice,wrOb]
 refine SC.frz (by simp) [.row 4,.agg [iv 99,iv 99,iv 99,iv 99]] (by simp) h2 (by rfl) ?_ (a:=.mk)
 rintro x rfl
 simp -implicitDefEqProofs [evP,fillA,splice,wrOb,fdA1,exA1,fdsA,fdA,Ex.cells,exsA,pmsA,W1,hcq,eqCells,eqV1,fitsT]
end Go.Proofs.YtgddkgbidhhheaaGreatDoor
set_option linter.unusedVariables false
set_option linter.unusedSimpArgs false
set_option maxRecDepth 100000
namespace Go.Proofs.YtgddkgbidhhheaaGreatDoor
open Go.RowKit Flo Ab Mk Pg
section
variable {G:World→Prop}
end
end Go.Proofs.YtgddkgbidhhheaaGreatDoor
set_option linter.unusedVariables false
set_option linter.unusedSimpArgs false
set_option maxRecDepth 100000
namespace Go.Proofs.YtgddkgbidhhheaaGreatDoor
open Go.RowKit Flo Mk Pg Ab
theorem AC.ofAP {P:Program} {G:Gs} {f:FuncId} {xs:List AV} {H:List Ob} {post:AV→Prop} (hA:AP P G.inv f xs post) (hd:xs.all deepE=true):AC P G f xs H (fun x H2=>post x∧H2=H):=by
 intro w0 c vs hG hS ⟨hvl,hvs⟩
 have hb:=hS.below
 refine (hA w0 c.w c.M vs hG hb (fun b hb=>hS.mlt b hb) ⟨hvl,fun j x hx=>?_⟩).mono ?_
 ·obtain ⟨u,hu,hr⟩:=hvs j x hx
  exact ⟨u,hu,hr.rdE (List.all_eq_true.1 hd x (List.mem_of_getElem? hx))⟩
 ·rintro e w' ⟨u,x,rfl,hbl,hrd,hp⟩
  obtain ⟨s2,t2⟩:=below_st hS hbl
  exact .inl ⟨c.at w',u,x,H,rfl,rfl,t2,s2,.deep hrd,hp,rfl⟩
theorem XC.frz {P:Program} {G:Gs} {base:Nat} {qs:List Nat} {F:Fr} {H:List Ob} {K:Fr→List Ob→Prop} {d:Option Nat} {f:FuncId} {args:List Opd} (xs:List AV) (hx:evA F args=some xs) {post:AV→Prop} (hA:AP P G.inv f xs post) (hd:xs.all deepE=true)
  (hK:∀ x,post x→K (putF F d x) H) {a:Tag K}:XC P G base qs d f args F H K a:=by
 refine ⟨xs,[],hx,fun k hk=>by simp at hk,fun k hk=>by simp at hk,AC.mono (AC.ofAP hA hd) ?_⟩
 rintro x H2 ⟨hp,rfl⟩
 exact ⟨fun _ _ _ h=>h,hK x hp⟩
section
variable {G:World→Prop}
end
end Go.Proofs.YtgddkgbidhhheaaGreatDoor
