/- Texts joined: Lga Lge Lgf. -/
import Derived.Test.YtgddkgbidhhheaaGreatDoorKwaq
set_option linter.unusedVariables false
set_option linter.unusedSimpArgs false
namespace Go.Proofs.YtgddkgbidhhheaaGreatDoor
namespace Pg
open Mk
def Job.ms:Job→List M
 | .seq _ _ ms=>ms
 | .expr _ ms=>ms
 | .row _ _ ms=>ms
 | .tail _ _ _ ms=>ms
 | .unit _ ms=>ms
 | .args _ _ ms=>ms
 | .pars _ ms=>ms
 | .prog _ ms=>ms
def Job.put:Job→List M→Job
 | .seq n is _,ms=>.seq n is ms
 | .expr n _,ms=>.expr n ms
 | .row n lv _,ms=>.row n lv ms
 | .tail n lv e _,ms=>.tail n lv e ms
 | .unit n _,ms=>.unit n ms
 | .args n us _,ms=>.args n us ms
 | .pars ps _,ms=>.pars ps ms
 | .prog fs _,ms=>.prog fs ms
def eats:Job→Bool
 | .seq _ [] _=>false
 | .tail _ _ _ _=>false
 | .prog _ _=>false
 | _=>true
def mild:Job→Bool
 | .prog _ _=>false
 | _=>true
def neut (k:M):Prop:=strOf k=none∧isW k sOpen=false
def Hd (g:Bool) (a b:List M):Prop:=a.head? = b.head?∨(g=true∧∃ k,b.head? = some k∧neut k)
theorem Hd.app {g g':Bool} {a b:List M} (h:Hd g a b) (hg:g=true→g'=true) (pre:List M):Hd g' (pre++a) (pre++b):=by
 cases pre with
 | nil=>exact h.imp id (fun h=>⟨hg h.1,h.2⟩)
 | cons x r=>exact .inl rfl
theorem Hd.bad (g:Bool) (pre:List M) (m:M) (post post':List M):Hd g (pre++m :: post) (pre++m :: post'):=by
 cases pre<;>exact .inl rfl
def Cxt (l:Lim) (j:Job):Res→Prop
 | .ok vs ms'=>∃ pre,j.ms=pre++ms'∧(eats j=true→pre≠[])∧∀ post',Hd (mild j) ms' post'→P l (j.put (pre++post')) (.ok vs post')
 | .bad w p=>∃ pre m post,j.ms=pre++m :: post∧(m.pos:Int)=p∧(w=21∨((w=22∨w=23)∧m.kind≠4))∧∀ post',P l (j.put (pre++m :: post')) (.bad w p)
theorem cons_map (v:Vl) (r:Res):r.cons v=r.map (List.cons v):=by cases r<;>rfl
theorem id_map (r:Res):r.map id=r:=by cases r<;>rfl
theorem head_cons {X ms:List M} {m:M} (h:X.head? = (m :: ms).head?):∃ X',X=m :: X':=by
 cases X with
 | nil=>cases h
 | cons a b=>simp at h; subst h; exact ⟨b,rfl⟩
theorem head_pre {pre a b:List M} (h:pre≠[]):(pre++a).head? = (pre++b).head?:=by
 cases pre with
 | nil=>exact absurd rfl h
 | cons x r=>rfl
theorem head_bad (pre:List M) (m:M) (a b:List M):(pre++m :: a).head? = (pre++m :: b).head?:=by cases pre<;>rfl
theorem Cxt.one {l:Lim} {j1 j:Job} {r:Res} (h:Cxt l j1 r) (lead:List M) (g:List Vl→List Vl) (hj:j.ms=lead++j1.ms) (hm:mild j=true→mild j1=true) (he:eats j=true→lead≠[]∨eats j1=true)
  (rule:∀ X r',(eats j1=true→X.head? = j1.ms.head?)→P l (j1.put X) r'→P l (j.put (lead++X)) (r'.map g)):Cxt l j (r.map g):=by
 cases r with
 | ok vs ms'=>
  obtain ⟨pre,e,q,f⟩:=h
  refine ⟨lead++pre,by rw [hj,e,List.append_assoc],fun h0=>?_,fun post' hp=>?_⟩
  ·rcases he h0 with h1 | h1
   ·simp [h1]
   ·simp [q h1]
  ·rw [List.append_assoc]
   refine rule _ _ (fun h1=>by rw [e]; exact head_pre (q h1)) (f post' (hp.imp id (fun h=>⟨hm h.1,h.2⟩)))
 | bad w p=>
  obtain ⟨pre,m,post,e,h1,h2,f⟩:=h
  refine ⟨lead++pre,m,post,by rw [hj,e,List.append_assoc],h1,h2,fun post'=>?_⟩
  rw [List.append_assoc]
  exact rule _ _ (fun _=>by rw [e]; exact head_bad _ _ _ _) (f post')
theorem Cxt.two {l:Lim} {j1 j2 j:Job} {r:Res} {vs:List Vl} {ms':List M} (h:Cxt l j1 (.ok vs ms')) (h2:Cxt l j2 r) (lead:List M) (g:List Vl→List Vl) (hj2:j2.ms=ms') (hj:j.ms=lead++j1.ms) (hm1:mild j1=true) (hm:mild j=true→mild j2=true) (he1:eats j1=true)
  (rule:∀ X Y r',X.head? = j1.ms.head?→P l (j1.put X) (.ok vs Y)→P l (j2.put Y) r'→P l (j.put (lead++X)) (r'.map g)):Cxt l j (r.map g):=by
 obtain ⟨p1,e1,q1,f1⟩:=h
 have hp1:=q1 he1
 cases r with
 | ok vs2 ms2=>
  obtain ⟨p2,e2,q2,f2⟩:=h2
  rw [hj2] at e2
  refine ⟨lead++(p1++p2),by rw [hj,e1,e2]; simp only [List.append_assoc],fun _=>by simp [hp1],fun post' hp=>?_⟩
  rw [List.append_assoc]
  refine rule _ (p2++post') _ ?_ ?_ (f2 post' (hp.imp id (fun h=>⟨hm h.1,h.2⟩)))
  ·rw [e1,List.append_assoc]; exact head_pre hp1
  ·rw [List.append_assoc]
   refine f1 _ ?_
   rw [e2]
   exact Hd.app hp (fun _=>hm1) p2
 | bad w p=>
  obtain ⟨p2,m,post,e2,h3,h4,f2⟩:=h2
  rw [hj2] at e2
  refine ⟨lead++(p1++p2),m,post,by rw [hj,e1,e2]; simp only [List.append_assoc],h3,h4,fun post'=>?_⟩
  rw [List.append_assoc]
  refine rule _ (p2++m :: post') _ ?_ ?_ (f2 post')
  ·rw [e1,List.append_assoc]; exact head_pre hp1
  ·rw [List.append_assoc]
   refine f1 _ ?_
   rw [e2]
   exact Hd.bad _ _ _ _ _
theorem Cxt.fall {l:Lim} {j1 j:Job} {w p:Int} (h:Cxt l j1 (.bad w p)) (lead:List M) (hj:j.ms=lead++j1.ms) (rule:∀ X,X.head? = j1.ms.head?→P l (j1.put X) (.bad w p)→P l (j.put (lead++X)) (.bad w p)):Cxt l j (.bad w p):=by
 obtain ⟨pre,m,post,e,h1,h2,f⟩:=h
 refine ⟨lead++pre,m,post,by rw [hj,e,List.append_assoc],h1,h2,fun post'=>?_⟩
 rw [List.append_assoc]
 exact rule _ (by rw [e]; exact head_bad _ _ _ _) (f post')
theorem Cxt.good {l:Lim} {j1 j:Job} {vs vs':List Vl} {ms':List M} (h:Cxt l j1 (.ok vs ms')) (lead:List M) (hj:j.ms=lead++j1.ms) (hm:mild j=true→mild j1=true) (he:eats j=true→lead≠[]∨eats j1=true) (rule:∀ X Y,P l (j1.put X) (.ok vs Y)→P l (j.put (lead++X)) (.ok vs' Y)):Cxt l j (.ok vs' ms'):=by
 obtain ⟨pre,e,q,f⟩:=h
 refine ⟨lead++pre,by rw [hj,e,List.append_assoc],fun h0=>?_,fun post' hp=>?_⟩
 ·rcases he h0 with h1 | h1
  ·simp [h1]
  ·simp [q h1]
 ·rw [List.append_assoc]
  exact rule _ _ (f post' (hp.imp id (fun h=>⟨hm h.1,h.2⟩)))
theorem Cxt.now {l:Lim} {j:Job} {m:M} {ms:List M} {w:Int} (hj:j.ms=m :: ms) (hk:w=21∨((w=22∨w=23)∧m.kind≠4)) (rule:∀ X,P l (j.put (m :: X)) (.bad w m.pos)):Cxt l j (.bad w m.pos):=
 ⟨[],m,ms,hj,rfl,hk,rule⟩
theorem Cxt.take {l:Lim} {j:Job} {m:M} {ms:List M} {vs:List Vl} (hj:j.ms=m :: ms) (rule:∀ X,P l (j.put (m :: X)) (.ok vs X)):Cxt l j (.ok vs ms):=
 ⟨[m],hj,fun _=>by simp,fun post' _=>rule post'⟩
theorem isB_kind {m:M} (h:isB m=true):m.kind≠4:=by
 unfold isB at h
 simp only [Bool.or_eq_true] at h
 rcases h with (h | h) | h<;>exact (isW_kind h).2.2
theorem ctx {l : Lim} {j : Job} {r : Res} (h : P l j r) : Cxt l j r := by
  induction h with
  | nil n ms => exact ⟨[], rfl, fun h => (by cases h), fun post' _ => .nil n post'⟩
  | @w n s is m ms r h hr ih => rw [cons_map]; exact ih.one [m] _ rfl id (fun _ => .inl (by simp)) (fun X r' _ hP => by rw [← cons_map]; exact .w h hP)
  | wBad n is ms h => exact .now rfl (.inl rfl) (fun X => .wBad n is X h)
  | @nm n is m ms r h hr ih => rw [cons_map]; exact ih.one [m] _ rfl id (fun _ => .inl (by simp)) (fun X r' _ hP => by rw [← cons_map]; exact .nm h hP)
  | nmBad n is ms h => exact .now rfl (.inl rfl) (fun X => .nmBad n is X h)
  | @cn n is k most m ms r h hk hr ih => rw [cons_map]; exact ih.one [m] _ rfl id (fun _ => .inl (by simp)) (fun X r' _ hP => by rw [← cons_map]; exact .cn h hk hP)
  | cnBig n is ms h hk => exact .now rfl (.inr ⟨.inl rfl, by omega⟩) (fun X => .cnBig n is X h hk)
  | cnBad n is k most ms h => exact .now rfl (.inl rfl) (fun X => .cnBad n is k most X h)
  | @ty n is t m ms r h hr ih => rw [cons_map]; exact ih.one [m] _ rfl id (fun _ => .inl (by simp)) (fun X r' _ hP => by rw [← cons_map]; exact .ty h hP)
  | tyBad n is ms h => exact .now rfl (.inl rfl) (fun X => .tyBad n is X h)
  | @e n is x ms ms' r h hr ih1 ih2 => rw [cons_map]; exact ih1.two ih2 [] _ rfl rfl rfl id rfl (fun X Y r' _ h1 h2 => by rw [← cons_map]; exact .e h1 h2)
  | @eBad n is w p ms h ih => exact ih.fall (j := .seq n (.e :: is) ms) [] rfl (fun X _ hP => .eBad is hP)
  | @ps n is x ms ms' r h hr ih1 ih2 => rw [cons_map]; exact ih1.two ih2 [] _ rfl rfl rfl id rfl (fun X Y r' _ h1 h2 => by rw [← cons_map]; exact .ps h1 h2)
  | @psBad n is w p ms h ih => exact ih.fall (j := .seq n (.ps :: is) ms) [] rfl (fun X _ hP => .psBad is hP)
  | deep ms h hn => exact .now rfl (.inr ⟨.inr rfl, isB_kind h⟩) (fun X => .deep X h hn)
  | @bind n m ms r h hn hr ih => exact ih.one [m] _ rfl id (fun _ => .inl (by simp)) (fun X r' _ hP => .bind h hn hP)
  | @cond n m ms r h hr ih => exact ih.one [m] _ rfl id (fun _ => .inl (by simp)) (fun X r' _ hP => .cond h hP)
  | @expr n m ms r h h' hr ih =>
    rw [← id_map r]
    exact ih.one (j := .expr n (m :: ms)) [] id rfl id (fun _ => .inr rfl) (fun X r' hX hP => by
      obtain ⟨X', rfl⟩ := head_cons (hX rfl)
      rw [id_map]; exact .expr h h' hP)
  | @row4 n ms r hr ih => rw [← id_map r]; exact ih.one (j := .row n 4 ms) [] id rfl id (fun _ => .inr rfl) (fun X r' hX hP => by rw [id_map]; exact .row4 hP)
  | @rowBad n lv ms w p h hr ih => exact ih.fall (j := .row n lv ms) [] rfl (fun X _ hP => .rowBad h hP)
  | @row n lv e ms ms' r h h1 hr ih1 ih2 => rw [← id_map r]; exact ih1.two (j := .row n lv ms) ih2 [] id rfl rfl rfl id rfl (fun X Y r' _ h1 h2 => by rw [id_map]; exact .row h h1 h2)
  | @stop n lv e m ms h => exact ⟨[], rfl, fun h => (by cases h), fun post' hp => by
      rcases hp with hp | ⟨_, k, hk, hn⟩
      · obtain ⟨X, rfl⟩ := head_cons (X := post') (ms := ms) (m := m) hp.symm
        exact .stop n e X h
      · cases post' with
        | nil => cases hk
        | cons a b =>
          cases hk
          exact .stop n e b (by rw [hn.1]; simp)⟩
  | @tailBad n lv op e m ms w p h hr ih => exact ih.fall (j := .tail n lv e (m :: ms)) [m] rfl (fun X _ hP => .tailBad e h hP)
  | @tail1 n lv op e b m ms ms' h hl hr ih => exact ih.good (j := .tail n lv e (m :: ms)) [m] rfl id (fun _ => .inl (by simp)) (fun X Y hP => .tail1 h hl hP)
  | @tail2 n lv op e b m ms ms' r h hl h1 hr ih1 ih2 => rw [← id_map r]; exact ih1.two (j := .tail n lv e (m :: ms)) ih2 [m] id rfl rfl rfl id rfl (fun X Y r' _ h1 h2 => by rw [id_map]; exact .tail2 h hl h1 h2)
  | num n ms h => exact .take rfl (fun X => .num n X h)
  | @var n m k ms h hk => exact ⟨[m], rfl, fun _ => by simp, fun post' hp => by
      rcases hp with hp | ⟨_, k', hk', hn⟩
      · obtain ⟨X, rfl⟩ := head_cons (X := post') (ms := ms) (m := k) hp.symm
        exact .var n X h hk
      · cases post' with
        | nil => cases hk'
        | cons a b =>
          cases hk'
          exact .var n b h hn.2⟩
  | @call n m k ms r h hk hr ih => exact ih.one (j := .unit n (m :: k :: ms)) [m, k] _ rfl id (fun _ => .inl (by simp)) (fun X r' _ hP => .call h hk hP)
  | @par n m ms r h hr ih => exact ih.one [m] _ rfl id (fun _ => .inl (by simp)) (fun X r' _ hP => .par h hP)
  | word0 n ms h => exact .take rfl (fun X => .word0 n X h)
  | @fail n m ms r h hr ih => exact ih.one [m] _ rfl id (fun _ => .inl (by simp)) (fun X r' _ hP => .fail h hP)
  | @word1 n op m ms r h hr ih => exact ih.one [m] _ rfl id (fun _ => .inl (by simp)) (fun X r' _ hP => .word1 h hP)
  | unitBad n ms h2 h0 hp hw hf h1 => exact .now rfl (.inl rfl) (fun X => .unitBad n X h2 h0 hp hw hf h1)
  | aStop n us ms h => exact .take rfl (fun X => .aStop n us X h)
  | aSep n ms h ha hc => exact .now rfl (.inl rfl) (fun X => .aSep n X h ha hc)
  | @aBad0 n m ms w p h hr ih => exact ih.fall (j := .args n [] (m :: ms)) [] rfl (fun X hX hP => by
      obtain ⟨X', rfl⟩ := head_cons hX
      exact .aBad0 h hP)
  | @aBad n us m ms w p ha hc hr ih => exact ih.fall (j := .args n us (m :: ms)) [m] rfl (fun X hX hP => .aBad ha hc hP)
  | @aNext0 n x m ms ms' r h h1 hr ih1 ih2 => rw [← id_map r]; exact ih1.two (j := .args n [] (m :: ms)) ih2 [] id rfl rfl rfl id rfl (fun X Y r' hX h1 h2 => by
      obtain ⟨X', rfl⟩ := head_cons hX
      rw [id_map]; exact .aNext0 h h1 h2)
  | @aNext n us x m ms ms' r ha hc h1 hr ih1 ih2 => rw [← id_map r]; exact ih1.two (j := .args n us (m :: ms)) ih2 [m] id rfl rfl rfl id rfl (fun X Y r' hX h1 h2 => by rw [id_map]; exact .aNext ha hc h1 h2)
  | pStop ps ms h => exact .take rfl (fun X => .pStop ps X h)
  | pSep ms h ha hc => exact .now rfl (.inl rfl) (fun X => .pSep X h ha hc)
  | @pBad0 m ms w p h hr ih => exact ih.fall (j := .pars [] (m :: ms)) [] rfl (fun X hX hP => by
      obtain ⟨X', rfl⟩ := head_cons hX
      exact .pBad0 h hP)
  | @pBad ps m ms w p ha hc hr ih => exact ih.fall (j := .pars ps (m :: ms)) [m] rfl (fun X hX hP => .pBad ha hc hP)
  | @pNext0 x m t ms ms' r h h1 hr ih1 ih2 => rw [← id_map r]; exact ih1.two (j := .pars [] (m :: ms)) ih2 [] id rfl rfl rfl id rfl (fun X Y r' hX h1 h2 => by
      obtain ⟨X', rfl⟩ := head_cons hX
      rw [id_map]; exact .pNext0 h h1 h2)
  | @pNext ps x m t ms ms' r ha hc h1 hr ih1 ih2 => rw [← id_map r]; exact ih1.two (j := .pars ps (m :: ms)) ih2 [m] id rfl rfl rfl id rfl (fun X Y r' hX h1 h2 => by rw [id_map]; exact .pNext ha hc h1 h2)
  | @progEnd fs m ms h hf => exact ⟨[], rfl, fun h => (by cases h), fun post' hp => by
      rcases hp with hp | ⟨h0, _⟩
      · obtain ⟨X, rfl⟩ := head_cons (X := post') (ms := ms) (m := m) hp.symm
        exact .progEnd X h hf
      · cases h0⟩
  | @progBad fs m ms w p h hr ih => exact ih.fall (j := .prog fs (m :: ms)) [] rfl (fun X hX hP => by
      obtain ⟨X', rfl⟩ := head_cons hX
      exact .progBad h hP)
  | @prog fs f vs m ms ms' r h h1 hd hr ih1 ih2 => rw [← id_map r]; exact ih1.two (j := .prog fs (m :: ms)) ih2 [] id rfl rfl rfl (fun h => by cases h) rfl (fun X Y r' hX h1 h2 => by
      obtain ⟨X', rfl⟩ := head_cons hX
      rw [id_map]; exact .prog h h1 hd h2)
end Pg
end Go.Proofs.YtgddkgbidhhheaaGreatDoor
set_option linter.unusedVariables false
set_option linter.unusedSimpArgs false
namespace Go.Proofs.YtgddkgbidhhheaaGreatDoor
namespace Pg
open Mk
def bndN (op:Int):Nat:=if op=20∨op=21∨op=22 then 1 else 0
mutual
def nX:Ex→Nat
 | .mk o _ _ _ _ us _=>bndN o + nXs us
def nXs:List Ex→Nat
 | []=>0
 | e :: r=>max (nX e) (nXs r)
end
def nFs:List Fd→Nat
 | []=>0
 | f :: r=>max (nX f.body) (nFs r)
def aFs:List Fd→Nat
 | []=>0
 | f :: r=>max f.params.length (aFs r)
def nV:Vl→Nat
 | .e x=>nX x
 | .asx xs=>nXs xs
 | .fs fs=>nFs fs
 | _=>0
def aV:Vl→Nat
 | .ps ps=>ps.length
 | .fs fs=>aFs fs
 | _=>0
def fV:Vl→Nat
 | .fs fs=>fs.length
 | _=>0
def nVs:List Vl→Nat
 | []=>0
 | v :: r=>max (nV v) (nVs r)
def aVs:List Vl→Nat
 | []=>0
 | v :: r=>max (aV v) (aVs r)
def fVs:List Vl→Nat
 | []=>0
 | v :: r=>max (fV v) (fVs r)
def NF (l:Lim) (n:Int) (k:Nat):Prop:=k=0∨n + k≤l.nest
def itF:It→Prop
 | .cn k most=>k < most
 | _=>True
def itsF:List It→Prop
 | []=>True
 | i :: r=>itF i∧itsF r
def jF:Job→Prop
 | .seq _ is _=>itsF is
 | _=>True
def CF (l:Lim) (j:Job) (vs:List Vl):Prop:=jF j∧((aVs vs:Nat)=0∨(aVs vs:Int)≤l.arity)∧((fVs vs:Nat)=0∨(fVs vs:Int)≤l.funcs)
def jn:Job→Int
 | .seq n _ _=>n
 | .expr n _=>n
 | .row n _ _=>n
 | .tail n _ _ _=>n
 | .unit n _=>n
 | .args n _ _=>n
 | _=>0
def acN:Job→Nat
 | .tail _ _ e _=>nX e
 | .args _ us _=>nXs us
 | .prog fs _=>nFs fs
 | _=>0
def acA:Job→Nat
 | .pars ps _=>ps.length
 | .prog fs _=>aFs fs
 | _=>0
def acF:Job→Nat
 | .prog fs _=>fs.length
 | _=>0
def AcF (l:Lim) (j:Job):Prop:=NF l (jn j) (acN j)∧(acA j=0∨(acA j:Int)≤l.arity)∧(acF j=0∨(acF j:Int)≤l.funcs)
def Tri (l:Lim) (j:Job) (vs:List Vl) (ms:List M):Prop:=
 (P l j (.ok vs ms)∧NF l (jn j) (nVs vs)∧CF l j vs)∨(∃ p,P l j (.bad 23 p)∧¬ NF l (jn j) (nVs vs))∨(∃ p,P l j (.bad 22 p)∧¬ CF l j vs)
theorem NF_max {l:Lim} {n:Int} {a b:Nat}:NF l n (max a b)↔NF l n a∧NF l n b:=by
 unfold NF
 constructor
 ·intro h; constructor<;>omega
 ·rintro ⟨h1,h2⟩; omega
theorem le_max {x:Int} {a b:Nat}:((max a b:Nat)=0∨((max a b:Nat):Int)≤x)↔(a=0∨(a:Int)≤x)∧(b=0∨(b:Int)≤x):=by
 constructor
 ·intro h; constructor<;>omega
 ·rintro ⟨h1,h2⟩; omega
variable {l:Lim}
theorem Tri.one {j1 j:Job} {us:List Vl} {ms:List M} (h:Tri l j1 us ms) (g:List Vl→List Vl) (rule:∀ r',P l j1 r'→P l j (r'.map g)) (hN:NF l (jn j) (nVs (g us))↔NF l (jn j1) (nVs us)) (hC:CF l j (g us)↔CF l j1 us):Tri l j (g us) ms:=by
 rcases h with ⟨h,a,b⟩ | ⟨p,h,a⟩ | ⟨p,h,a⟩
 ·exact .inl ⟨rule _ h,hN.2 a,hC.2 b⟩
 ·exact .inr (.inl ⟨p,rule _ h,fun h'=>a (hN.1 h')⟩)
 ·exact .inr (.inr ⟨p,rule _ h,fun h'=>a (hC.1 h')⟩)
theorem Tri.two {j1 j2 j:Job} {us1 us2:List Vl} {ms1 ms:List M} (h1:Tri l j1 us1 ms1) (h2:NF l (jn j1) (nVs us1)→CF l j1 us1→Tri l j2 us2 ms) (g:List Vl→List Vl) (bad:∀ w p,P l j1 (.bad w p)→P l j (.bad w p)) (rule:P l j1 (.ok us1 ms1)→∀ r',P l j2 r'→P l j (r'.map g))
  (hN:NF l (jn j) (nVs (g us2))↔NF l (jn j1) (nVs us1)∧NF l (jn j2) (nVs us2)) (hC:CF l j (g us2)↔CF l j1 us1∧CF l j2 us2):Tri l j (g us2) ms:=by
 rcases h1 with ⟨h,a,b⟩ | ⟨p,h,a⟩ | ⟨p,h,a⟩
 ·rcases h2 a b with ⟨h',a',b'⟩ | ⟨p,h',a'⟩ | ⟨p,h',a'⟩
  ·exact .inl ⟨rule h _ h',hN.2 ⟨a,a'⟩,hC.2 ⟨b,b'⟩⟩
  ·exact .inr (.inl ⟨p,rule h _ h',fun h'=>a' (hN.1 h').2⟩)
  ·exact .inr (.inr ⟨p,rule h _ h',fun h'=>a' (hC.1 h').2⟩)
 ·exact .inr (.inl ⟨p,bad _ _ h,fun h'=>a (hN.1 h').1⟩)
 ·exact .inr (.inr ⟨p,bad _ _ h,fun h'=>a (hC.1 h').1⟩)
def shp:It→Vl→Prop
 | .w _,v=>v=.u
 | .e,v=>∃ x,v=.e x
 | .nm,v=>∃ m,v=.nm m
 | .cn _ _,v=>∃ m,v=.nm m
 | .ty,v=>∃ t,v=.ty t
 | .ps,v=>∃ ps,v=.ps ps
def shps:List It→List Vl→Prop
 | [],vs=>vs=[]
 | i :: is,vs=>∃ v us,vs=v :: us∧shp i v∧shps is us
theorem cons_ok4 {v:Vl} {r:Res} {vs:List Vl} {ms:List M} (h:r.cons v=.ok vs ms):∃ us,vs=v :: us∧r=.ok us ms:=by
 cases r with
 | ok us ms'=>cases h; exact ⟨us,rfl,rfl⟩
 | bad w p=>cases h
theorem map_ok4 {f:List Vl→List Vl} {r:Res} {vs:List Vl} {ms:List M} (h:r.map f=.ok vs ms):∃ us,vs=f us∧r=.ok us ms:=by
 cases r with
 | ok us ms'=>cases h; exact ⟨us,rfl,rfl⟩
 | bad w p=>cases h
theorem seq_shape {j:Job} {r:Res} (h:P l j r):∀ n is ms0,j=.seq n is ms0→∀ vs ms,r=.ok vs ms→shps is vs:=by
 induction h<;>intro n is ms0 ej vs ms er
 all_goals first
  | (cases ej; done)
  | (cases ej; cases er; done)
  | (cases ej; cases er; exact rfl)
  | (cases ej; obtain ⟨us,rfl,rfl⟩:=cons_ok4 er; rename_i ih; exact ⟨_,us,rfl,rfl,ih _ _ _ rfl _ _ rfl⟩)
  | (cases ej; obtain ⟨us,rfl,rfl⟩:=cons_ok4 er; rename_i ih; exact ⟨_,us,rfl,⟨_,rfl⟩,ih _ _ _ rfl _ _ rfl⟩)
  | (cases ej; obtain ⟨us,rfl,rfl⟩:=cons_ok4 er; rename_i ih1 _ ih; exact ⟨_,us,rfl,⟨_,rfl⟩,ih _ _ _ rfl _ _ rfl⟩)
  | trace_state
end Pg
end Go.Proofs.YtgddkgbidhhheaaGreatDoor
set_option linter.unusedVariables false
set_option linter.unusedSimpArgs false
namespace Go.Proofs.YtgddkgbidhhheaaGreatDoor
namespace Pg
open Mk
variable {l:Lim}
theorem nXs_app:∀ us vs:List Ex,nXs (us++vs)=max (nXs us) (nXs vs)
 | [],vs=>by simp [nXs]
 | u :: us,vs=>by rw [List.cons_append,nXs,nXs,nXs_app us vs]; omega
theorem nFs_app:∀ us vs:List Fd,nFs (us++vs)=max (nFs us) (nFs vs)
 | [],vs=>by simp [nFs]
 | u :: us,vs=>by rw [List.cons_append,nFs,nFs,nFs_app us vs]; omega
theorem aFs_app:∀ us vs:List Fd,aFs (us++vs)=max (aFs us) (aFs vs)
 | [],vs=>by simp [aFs]
 | u :: us,vs=>by rw [List.cons_append,aFs,aFs,aFs_app us vs]; omega
theorem str_bnd {m:M} {lv:Nat} {op:Int} (h:strOf m=some (lv,op)):bndN op=0:=by
 unfold strOf at h
 repeat' split at h
 all_goals first | (cases h; rfl) | cases h
theorem word0_bnd {m:M} {op:Int} (h:word0 m=some op):bndN op=0:=by
 unfold word0 at h
 repeat' split at h
 all_goals first | (cases h; rfl) | cases h
theorem word1_bnd {m:M} {op:Int} (h:word1 m=some op):bndN op=0:=by
 unfold word1 at h
 repeat' split at h
 all_goals first | (cases h; rfl) | cases h
theorem bind_sz {m:M} {us:List Vl} (h:shps (bindIts m) us):∃ x,bindEx m us=[.e x]∧nX x=1 + nVs us∧aVs us=0∧fVs us=0:=by
 unfold bindIts at h
 split at h
 ·obtain ⟨_,_,rfl,⟨x,rfl⟩,_,_,rfl,rfl,_,_,rfl,rfl,_,_,rfl,rfl,_,_,rfl,⟨y,rfl⟩,_,_,rfl,rfl,_,_,rfl,⟨f,rfl⟩,_,_,rfl,rfl,_,_,rfl,⟨g,rfl⟩,_,_,rfl,rfl,_,_,rfl,⟨z,rfl⟩,rfl⟩:=h
  refine ⟨_,rfl,?_,by simp [aVs,aV],by simp [fVs,fV]⟩
  simp [nX,nXs,nVs,nV,bndN]
 ·obtain ⟨_,_,rfl,⟨f,rfl⟩,_,_,rfl,⟨t,rfl⟩,_,_,rfl,rfl,_,_,rfl,⟨x,rfl⟩,_,_,rfl,rfl,_,_,rfl,⟨y,rfl⟩,rfl⟩:=h
  refine ⟨_,rfl,?_,by simp [aVs,aV],by simp [fVs,fV]⟩
  have hb:bndN (if isW m tStrict=true then 22 else 21)=1:=by split<;>rfl
  simp only [nX,nXs,nVs,nV,hb]
  omega
theorem if_sz {m:M} {us:List Vl} (h:shps ifIts us):∃ x,ifEx m us=[.e x]∧nX x=nVs us∧aVs us=0∧fVs us=0:=by
 obtain ⟨_,_,rfl,⟨x,rfl⟩,_,_,rfl,rfl,_,_,rfl,⟨y,rfl⟩,_,_,rfl,rfl,_,_,rfl,⟨z,rfl⟩,rfl⟩:=h
 refine ⟨_,rfl,?_,by simp [aVs,aV],by simp [fVs,fV]⟩
 simp [nX,nXs,nVs,nV,bndN]
theorem par_sz {us:List Vl} (h:shps [.e,.w sClose] us):∃ x,parEx us=[.e x]∧nX x=nVs us∧aVs us=0∧fVs us=0:=by
 obtain ⟨_,_,rfl,⟨x,rfl⟩,_,_,rfl,rfl,rfl⟩:=h
 exact ⟨_,rfl,by simp [nVs,nV],by simp [aVs,aV],by simp [fVs,fV]⟩
theorem fail_sz {m:M} {us:List Vl} (h:shps [.ty] us):∃ x,failEx m us=[.e x]∧nX x=nVs us∧aVs us=0∧fVs us=0:=by
 obtain ⟨_,_,rfl,⟨t,rfl⟩,rfl⟩:=h
 exact ⟨_,rfl,by simp [nX,nXs,nVs,nV,bndN],by simp [aVs,aV],by simp [fVs,fV]⟩
theorem one_sz {op:Int} {m:M} {us:List Vl} (ho:bndN op=0) (h:shps [.w sOpen,.e,.w sClose] us):∃ x,oneEx op m us=[.e x]∧nX x=nVs us∧aVs us=0∧fVs us=0:=by
 obtain ⟨_,_,rfl,rfl,_,_,rfl,⟨x,rfl⟩,_,_,rfl,rfl,rfl⟩:=h
 exact ⟨_,rfl,by simp [nX,nXs,nVs,nV,ho],by simp [aVs,aV],by simp [fVs,fV]⟩
theorem def_sz {k:Int} {us:List Vl} {f:Fd} (h:shps (defIts l k) us) (hd:defEx us=some f):nVs us=nX f.body∧aVs us=f.params.length∧fVs us=0:=by
 obtain ⟨_,_,rfl,⟨m,rfl⟩,_,_,rfl,rfl,_,_,rfl,⟨ps,rfl⟩,_,_,rfl,rfl,_,_,rfl,⟨t,rfl⟩,_,_,rfl,rfl,_,_,rfl,⟨x,rfl⟩,_,_,rfl,rfl,rfl⟩:=h
 cases hd
 exact ⟨by simp [nVs,nV],by simp [aVs,aV],by simp [fVs,fV]⟩
def resOk:Job→List Vl→Prop
 | .seq _ is _,vs=>shps is vs
 | .tail _ _ e _,vs=>∃ x,vs=[.e x]∧nX e≤nX x
 | .args _ us _,vs=>∃ xs,vs=[.asx xs]∧nXs us≤nXs xs
 | .pars ps _,vs=>∃ qs,vs=[.ps qs]∧ps.length≤qs.length
 | .prog fs _,vs=>∃ gs,vs=[.fs gs]∧nFs fs≤nFs gs∧aFs fs≤aFs gs∧fs.length≤gs.length
 | _,vs=>∃ x,vs=[.e x]
theorem res_ok {j:Job} {r:Res} (h:P l j r):∀ vs ms,r=.ok vs ms→resOk j vs:=by
 have hq:=@seq_shape l
 induction h<;>intro vs ms er
 case bind hr ih=>obtain ⟨us,rfl,rfl⟩:=map_ok4 er; obtain ⟨x,e,_⟩:=bind_sz (ih _ _ rfl); exact ⟨x,e⟩
 case cond hr ih=>obtain ⟨us,rfl,rfl⟩:=map_ok4 er; obtain ⟨x,e,_⟩:=if_sz (ih _ _ rfl); exact ⟨x,e⟩
 case par hr ih=>obtain ⟨us,rfl,rfl⟩:=map_ok4 er; obtain ⟨x,e,_⟩:=par_sz (ih _ _ rfl); exact ⟨x,e⟩
 case fail hr ih=>obtain ⟨us,rfl,rfl⟩:=map_ok4 er; obtain ⟨x,e,_⟩:=fail_sz (ih _ _ rfl); exact ⟨x,e⟩
 case word1 hw hr ih=>obtain ⟨us,rfl,rfl⟩:=map_ok4 er; obtain ⟨x,e,_⟩:=one_sz (word1_bnd hw) (ih _ _ rfl); exact ⟨x,e⟩
 case call hr ih=>obtain ⟨us,rfl,rfl⟩:=map_ok4 er; obtain ⟨x,rfl,_⟩:=ih _ _ rfl; exact ⟨_,rfl⟩
 case row ih1 ih2=>obtain ⟨x,e,_⟩:=ih2 _ _ er; exact ⟨x,e⟩
 case stop=>cases er; exact ⟨_,rfl,Nat.le_refl _⟩
 case tail1 h _ _ _=>cases er; exact ⟨_,rfl,by simp only [two,nX,nXs]; omega⟩
 case tail2 ih1 ih2=>obtain ⟨x,e,hx⟩:=ih2 _ _ er; refine ⟨x,e,?_⟩; simp only [two,nX,nXs] at hx; omega
 case aStop=>cases er; exact ⟨_,rfl,Nat.le_refl _⟩
 case aNext0 ih1 ih2=>obtain ⟨x,e,hx⟩:=ih2 _ _ er; exact ⟨x,e,by simp [nXs]⟩
 case aNext ih1 ih2=>obtain ⟨x,e,hx⟩:=ih2 _ _ er; exact ⟨x,e,by rw [nXs_app] at hx; omega⟩
 case pStop=>cases er; exact ⟨_,rfl,Nat.le_refl _⟩
 case pNext0 ih1 ih2=>obtain ⟨x,e,hx⟩:=ih2 _ _ er; exact ⟨x,e,by simp⟩
 case pNext ih1 ih2=>obtain ⟨x,e,hx⟩:=ih2 _ _ er; exact ⟨x,e,by simp only [List.length_append,List.length_cons,List.length_nil] at hx; omega⟩
 case progEnd=>cases er; exact ⟨_,rfl,Nat.le_refl _,Nat.le_refl _,Nat.le_refl _⟩
 case prog ih1 ih2=>obtain ⟨x,e,h1,h2,h3⟩:=ih2 _ _ er; rw [nFs_app] at h1; rw [aFs_app] at h2; simp only [List.length_append,List.length_cons,List.length_nil] at h3; exact ⟨x,e,by omega,by omega,by omega⟩
 all_goals first
  | (cases er; done)
  | (cases er; exact ⟨_,rfl⟩)
  | (cases er; exact rfl)
  | (obtain ⟨us,rfl,rfl⟩:=cons_ok4 er; rename_i ih; exact ⟨_,us,rfl,rfl,ih _ _ rfl⟩)
  | (obtain ⟨us,rfl,rfl⟩:=cons_ok4 er; rename_i ih; exact ⟨_,us,rfl,⟨_,rfl⟩,ih _ _ rfl⟩)
  | (obtain ⟨us,rfl,rfl⟩:=cons_ok4 er; rename_i ih1 _ ih; exact ⟨_,us,rfl,⟨_,rfl⟩,ih _ _ rfl⟩)
  | (rename_i ih; exact ih _ _ er)
end Pg
end Go.Proofs.YtgddkgbidhhheaaGreatDoor
