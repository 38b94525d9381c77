/- Texts joined: Pg Pgd Pra. -/
import Derived.Test.YtgddkgbidhhheaaGreatDoorKwab
import Derived.Test.YtgddkgbidhhheaaGreatDoorKwao
import Derived.Test.YtgddkgbidhhheaaGreatDoorKwap
namespace Go.Proofs.YtgddkgbidhhheaaGreatDoor
namespace Pg
open Mk
inductive Ex where
 | mk (op:Int) (name tail:List UInt8) (ty:Int) (num:Int × Int) (args:List Ex) (pos:Int)
structure Pm where
 name:List UInt8
 ty:Int
 pos:Int
structure Fd where
 name:List UInt8
 params:List Pm
 ty:Int
 body:Ex
 pos:Int
structure Lim where
 text:Int
 funcs:Int
 arity:Int
 nest:Int
inductive Vl where
 | u
 | e (x:Ex)
 | nm (m:M)
 | ty (t:Int)
 | asx (xs:List Ex)
 | ps (ps:List Pm)
 | fs (fs:List Fd)
inductive Res where
 | ok (vs:List Vl) (rest:List M)
 | bad (why:Int) (pos:Int)
def Res.cons (v:Vl):Res→Res
 | .ok vs ms=>.ok (v :: vs) ms
 | .bad w p=>.bad w p
def Res.map (f:List Vl→List Vl):Res→Res
 | .ok vs ms=>.ok (f vs) ms
 | .bad w p=>.bad w p
def isW (m:M) (s:List UInt8):Bool:=(m.kind == 1 || m.kind == 3) && m.text == s
abbrev tN:List UInt8:=[78]
abbrev tB:List UInt8:=[66]
abbrev tL:List UInt8:=[76]
abbrev tIf:List UInt8:=[105,102]
abbrev tThen:List UInt8:=[116,104,101,110]
abbrev tElse:List UInt8:=[101,108,115,101]
abbrev tCase:List UInt8:=[99,97,115,101]
abbrev tOf:List UInt8:=[111,102]
abbrev tNil:List UInt8:=[110,105,108]
abbrev tLet:List UInt8:=[108,101,116]
abbrev tStrict:List UInt8:=[115,116,114,105,99,116]
abbrev tIn:List UInt8:=[105,110]
abbrev tTrue:List UInt8:=[116,114,117,101]
abbrev tFalse:List UInt8:=[102,97,108,115,101]
abbrev tFail:List UInt8:=[102,97,105,108]
abbrev tNot:List UInt8:=[110,111,116]
abbrev tRe:List UInt8:=[114,101]
abbrev tIm:List UInt8:=[105,109]
abbrev tConj:List UInt8:=[99,111,110,106]
abbrev sOpen:List UInt8:=[40]
abbrev sClose:List UInt8:=[41]
abbrev sComma:List UInt8:=[44]
abbrev sColon:List UInt8:=[58]
abbrev sSemi:List UInt8:=[59]
abbrev sEq:List UInt8:=[61]
abbrev sEqEq:List UInt8:=[61,61]
abbrev sLess:List UInt8:=[60]
abbrev sPlus:List UInt8:=[43]
abbrev sMinus:List UInt8:=[45]
abbrev sStar:List UInt8:=[42]
abbrev sSlash:List UInt8:=[47]
abbrev sBar:List UInt8:=[124]
abbrev sArrow:List UInt8:=[45,62]
def typOf (m:M):Option Int:=if isW m tN then some 1 else if isW m tB then some 2 else if isW m tL then some 3 else none
def strOf (m:M):Option (Nat × Int):=
 if isW m sColon then some (0,18) else if isW m sEqEq then some (1,12) else if isW m sLess then some (1,13) else if isW m sPlus then some (2,8) else if isW m sMinus then some (2,9)
 else if isW m sStar then some (3,10) else if isW m sSlash then some (3,11) else none
def right (lv:Nat):Nat:=if lv=0 then 0 else lv + 1
def isB (m:M):Bool:=isW m tLet || isW m tStrict || isW m tCase
inductive It where
 | w (s:List UInt8)
 | e
 | nm
 | cn (k most:Int)
 | ty
 | ps
def bindIts (m:M):List It:=if isW m tCase then [.e,.w tOf,.w tNil,.w sArrow,.e,.w sBar,.nm,.w sColon,.nm,.w sArrow,.e] else [.nm,.ty,.w sEq,.e,.w tIn,.e]
def ifIts:List It:=[.e,.w tThen,.e,.w tElse,.e]
def defIts (l:Lim) (k:Int):List It:=[.cn k l.funcs,.w sOpen,.ps,.w sColon,.ty,.w sEq,.e,.w sSemi]
def Ex.zero:Ex:=.mk 0 [] [] 0 (0,0) [] 0
def two (op:Int) (a b:Ex) (pos:Int):Ex:=.mk op [] [] 0 (0,0) [a,b] pos
def bindEx (m:M):List Vl→List Vl
 | [.nm x,.ty t,_,.e a,_,.e b]=>[.e (.mk (if isW m tStrict then 22 else 21) x.text [] t (0,0) [a,b] m.pos)]
 | [.e x,_,_,_,.e a,_,.nm h,_,.nm t,_,.e b]=>[.e (.mk 20 h.text t.text 0 (0,0) [x,a,b] m.pos)]
 | _=>[]
def ifEx (m:M):List Vl→List Vl
 | [.e x,_,.e a,_,.e b]=>[.e (.mk 19 [] [] 0 (0,0) [x,a,b] m.pos)]
 | _=>[]
def callEx (m:M):List Vl→List Vl
 | [.asx xs]=>[.e (.mk 7 m.text [] 0 (0,0) xs m.pos)]
 | _=>[]
def parEx:List Vl→List Vl
 | [.e x,_]=>[.e x]
 | _=>[]
def failEx (m:M):List Vl→List Vl
 | [.ty t]=>[.e (.mk 5 [] [] t (0,0) [] m.pos)]
 | _=>[]
def oneEx (op:Int) (m:M):List Vl→List Vl
 | [_,.e x,_]=>[.e (.mk op [] [] 0 (0,0) [x] m.pos)]
 | _=>[]
def defEx:List Vl→Option Fd
 | [.nm m,_,.ps ps,_,.ty t,_,.e b,_]=>some ⟨m.text,ps,t,b,m.pos⟩
 | _=>none
def word0 (m:M):Option Int:=if isW m tTrue then some 2 else if isW m tFalse then some 3 else if isW m tNil then some 4 else none
def word1 (m:M):Option Int:=if isW m tNot then some 14 else if isW m tRe then some 15 else if isW m tIm then some 16 else if isW m tConj then some 17 else none
inductive Job where
 | seq (n:Int) (its:List It) (ms:List M)
 | expr (n:Int) (ms:List M)
 | row (n:Int) (lv:Nat) (ms:List M)
 | tail (n:Int) (lv:Nat) (e:Ex) (ms:List M)
 | unit (n:Int) (ms:List M)
 | args (n:Int) (asx:List Ex) (ms:List M)
 | pars (ps:List Pm) (ms:List M)
 | prog (fs:List Fd) (ms:List M)
inductive P (l:Lim):Job→Res→Prop
 | nil (n:Int) (ms:List M):P l (.seq n [] ms) (.ok [] ms)
 | w {n:Int} {s:List UInt8} {is:List It} {m:M} {ms:List M} {r:Res} (h:isW m s=true) (hr:P l (.seq n is ms) r):P l (.seq n (.w s :: is) (m :: ms)) (r.cons .u)
 | wBad (n:Int) {s:List UInt8} (is:List It) {m:M} (ms:List M) (h:isW m s=false):P l (.seq n (.w s :: is) (m :: ms)) (.bad 21 m.pos)
 | nm {n:Int} {is:List It} {m:M} {ms:List M} {r:Res} (h:m.kind=0) (hr:P l (.seq n is ms) r):P l (.seq n (.nm :: is) (m :: ms)) (r.cons (.nm m))
 | nmBad (n:Int) (is:List It) {m:M} (ms:List M) (h:m.kind≠0):P l (.seq n (.nm :: is) (m :: ms)) (.bad 21 m.pos)
 | cn {n:Int} {is:List It} {k most:Int} {m:M} {ms:List M} {r:Res} (h:m.kind=0) (hk:k < most) (hr:P l (.seq n is ms) r):P l (.seq n (.cn k most :: is) (m :: ms)) (r.cons (.nm m))
 | cnBig (n:Int) (is:List It) {k most:Int} {m:M} (ms:List M) (h:m.kind=0) (hk:most≤k):P l (.seq n (.cn k most :: is) (m :: ms)) (.bad 22 m.pos)
 | cnBad (n:Int) (is:List It) (k most:Int) {m:M} (ms:List M) (h:m.kind≠0):P l (.seq n (.cn k most :: is) (m :: ms)) (.bad 21 m.pos)
 | ty {n:Int} {is:List It} {t:Int} {m:M} {ms:List M} {r:Res} (h:typOf m=some t) (hr:P l (.seq n is ms) r):P l (.seq n (.ty :: is) (m :: ms)) (r.cons (.ty t))
 | tyBad (n:Int) (is:List It) {m:M} (ms:List M) (h:typOf m=none):P l (.seq n (.ty :: is) (m :: ms)) (.bad 21 m.pos)
 | e {n:Int} {is:List It} {x:Ex} {ms ms':List M} {r:Res} (h:P l (.expr n ms) (.ok [.e x] ms')) (hr:P l (.seq n is ms') r):P l (.seq n (.e :: is) ms) (r.cons (.e x))
 | eBad {n:Int} (is:List It) {w p:Int} {ms:List M} (h:P l (.expr n ms) (.bad w p)):P l (.seq n (.e :: is) ms) (.bad w p)
 | ps {n:Int} {is:List It} {x:List Pm} {ms ms':List M} {r:Res} (h:P l (.pars [] ms) (.ok [.ps x] ms')) (hr:P l (.seq n is ms') r):P l (.seq n (.ps :: is) ms) (r.cons (.ps x))
 | psBad {n:Int} (is:List It) {w p:Int} {ms:List M} (h:P l (.pars [] ms) (.bad w p)):P l (.seq n (.ps :: is) ms) (.bad w p)
 | deep {n:Int} {m:M} (ms:List M) (h:isB m=true) (hn:l.nest≤n):P l (.expr n (m :: ms)) (.bad 23 m.pos)
 | bind {n:Int} {m:M} {ms:List M} {r:Res} (h:isB m=true) (hn:n < l.nest) (hr:P l (.seq (n + 1) (bindIts m) ms) r):P l (.expr n (m :: ms)) (r.map (bindEx m))
 | cond {n:Int} {m:M} {ms:List M} {r:Res} (h:isW m tIf=true) (hr:P l (.seq n ifIts ms) r):P l (.expr n (m :: ms)) (r.map (ifEx m))
 | expr {n:Int} {m:M} {ms:List M} {r:Res} (h:isB m=false) (h':isW m tIf=false) (hr:P l (.row n 0 (m :: ms)) r):P l (.expr n (m :: ms)) r
 | row4 {n:Int} {ms:List M} {r:Res} (hr:P l (.unit n ms) r):P l (.row n 4 ms) r
 | rowBad {n:Int} {lv:Nat} {ms:List M} {w p:Int} (h:lv < 4) (hr:P l (.row n (lv + 1) ms) (.bad w p)):P l (.row n lv ms) (.bad w p)
 | row {n:Int} {lv:Nat} {e:Ex} {ms ms':List M} {r:Res} (h:lv < 4) (h1:P l (.row n (lv + 1) ms) (.ok [.e e] ms')) (hr:P l (.tail n lv e ms') r):P l (.row n lv ms) r
 | stop (n:Int) {lv:Nat} (e:Ex) {m:M} (ms:List M) (h:(strOf m).map (·.1)≠some lv):P l (.tail n lv e (m :: ms)) (.ok [.e e] (m :: ms))
 | tailBad {n:Int} {lv:Nat} {op:Int} (e:Ex) {m:M} {ms:List M} {w p:Int} (h:strOf m=some (lv,op)) (hr:P l (.row n (right lv) ms) (.bad w p)):P l (.tail n lv e (m :: ms)) (.bad w p)
 | tail1 {n:Int} {lv:Nat} {op:Int} {e b:Ex} {m:M} {ms ms':List M} (h:strOf m=some (lv,op)) (hl:lv < 2) (hr:P l (.row n (right lv) ms) (.ok [.e b] ms')):P l (.tail n lv e (m :: ms)) (.ok [.e (two op e b m.pos)] ms')
 | tail2 {n:Int} {lv:Nat} {op:Int} {e b:Ex} {m:M} {ms ms':List M} {r:Res} (h:strOf m=some (lv,op)) (hl:2≤lv) (h1:P l (.row n (right lv) ms) (.ok [.e b] ms')) (hr:P l (.tail n lv (two op e b m.pos) ms') r):P l (.tail n lv e (m :: ms)) r
 | num (n:Int) {m:M} (ms:List M) (h:m.kind=2):P l (.unit n (m :: ms)) (.ok [.e (.mk 1 [] [] 0 m.num [] m.pos)] ms)
 | var (n:Int) {m k:M} (ms:List M) (h:m.kind=0) (hk:isW k sOpen=false):P l (.unit n (m :: k :: ms)) (.ok [.e (.mk 6 m.text [] 0 (0,0) [] m.pos)] (k :: ms))
 | call {n:Int} {m k:M} {ms:List M} {r:Res} (h:m.kind=0) (hk:isW k sOpen=true) (hr:P l (.args n [] ms) r):P l (.unit n (m :: k :: ms)) (r.map (callEx m))
 | par {n:Int} {m:M} {ms:List M} {r:Res} (h:isW m sOpen=true) (hr:P l (.seq n [.e,.w sClose] ms) r):P l (.unit n (m :: ms)) (r.map parEx)
 | word0 (n:Int) {op:Int} {m:M} (ms:List M) (h:word0 m=some op):P l (.unit n (m :: ms)) (.ok [.e (.mk op [] [] 0 (0,0) [] m.pos)] ms)
 | fail {n:Int} {m:M} {ms:List M} {r:Res} (h:isW m tFail=true) (hr:P l (.seq n [.ty] ms) r):P l (.unit n (m :: ms)) (r.map (failEx m))
 | word1 {n:Int} {op:Int} {m:M} {ms:List M} {r:Res} (h:word1 m=some op) (hr:P l (.seq n [.w sOpen,.e,.w sClose] ms) r):P l (.unit n (m :: ms)) (r.map (oneEx op m))
 | unitBad (n:Int) {m:M} (ms:List M) (h2:m.kind≠2) (h0:m.kind≠0) (hp:isW m sOpen=false) (hw:word0 m=none) (hf:isW m tFail=false) (h1:word1 m=none):P l (.unit n (m :: ms)) (.bad 21 m.pos)
 | aStop (n:Int) (asx:List Ex) {m:M} (ms:List M) (h:isW m sClose=true):P l (.args n asx (m :: ms)) (.ok [.asx asx] ms)
 | aSep (n:Int) {asx:List Ex} {m:M} (ms:List M) (h:isW m sClose=false) (ha:asx≠[]) (hc:isW m sComma=false):P l (.args n asx (m :: ms)) (.bad 21 m.pos)
 | aBad0 {n:Int} {m:M} {ms:List M} {w p:Int} (h:isW m sClose=false) (hr:P l (.expr n (m :: ms)) (.bad w p)):P l (.args n [] (m :: ms)) (.bad w p)
 | aBad {n:Int} {asx:List Ex} {m:M} {ms:List M} {w p:Int} (ha:asx≠[]) (hc:isW m sComma=true) (hr:P l (.expr n ms) (.bad w p)):P l (.args n asx (m :: ms)) (.bad w p)
 | aNext0 {n:Int} {x:Ex} {m:M} {ms ms':List M} {r:Res} (h:isW m sClose=false) (h1:P l (.expr n (m :: ms)) (.ok [.e x] ms')) (hr:P l (.args n [x] ms') r):P l (.args n [] (m :: ms)) r
 | aNext {n:Int} {asx:List Ex} {x:Ex} {m:M} {ms ms':List M} {r:Res} (ha:asx≠[]) (hc:isW m sComma=true) (h1:P l (.expr n ms) (.ok [.e x] ms')) (hr:P l (.args n (asx++[x]) ms') r):P l (.args n asx (m :: ms)) r
 | pStop (ps:List Pm) {m:M} (ms:List M) (h:isW m sClose=true):P l (.pars ps (m :: ms)) (.ok [.ps ps] ms)
 | pSep {ps:List Pm} {m:M} (ms:List M) (h:isW m sClose=false) (ha:ps≠[]) (hc:isW m sComma=false):P l (.pars ps (m :: ms)) (.bad 21 m.pos)
 | pBad0 {m:M} {ms:List M} {w p:Int} (h:isW m sClose=false) (hr:P l (.seq 0 [.cn 0 l.arity,.ty] (m :: ms)) (.bad w p)):P l (.pars [] (m :: ms)) (.bad w p)
 | pBad {ps:List Pm} {m:M} {ms:List M} {w p:Int} (ha:ps≠[]) (hc:isW m sComma=true) (hr:P l (.seq 0 [.cn ps.length l.arity,.ty] ms) (.bad w p)):P l (.pars ps (m :: ms)) (.bad w p)
 | pNext0 {x m:M} {t:Int} {ms ms':List M} {r:Res} (h:isW m sClose=false) (h1:P l (.seq 0 [.cn 0 l.arity,.ty] (m :: ms)) (.ok [.nm x,.ty t] ms')) (hr:P l (.pars [⟨x.text,t,x.pos⟩] ms') r):P l (.pars [] (m :: ms)) r
 | pNext {ps:List Pm} {x m:M} {t:Int} {ms ms':List M} {r:Res} (ha:ps≠[]) (hc:isW m sComma=true) (h1:P l (.seq 0 [.cn ps.length l.arity,.ty] ms) (.ok [.nm x,.ty t] ms')) (hr:P l (.pars (ps++[⟨x.text,t,x.pos⟩]) ms') r):P l (.pars ps (m :: ms)) r
 | progEnd {fs:List Fd} {m:M} (ms:List M) (h:m.kind=4) (hf:fs≠[]):P l (.prog fs (m :: ms)) (.ok [.fs fs] (m :: ms))
 | progBad {fs:List Fd} {m:M} {ms:List M} {w p:Int} (h:m.kind≠4∨fs=[]) (hr:P l (.seq 0 (defIts l fs.length) (m :: ms)) (.bad w p)):P l (.prog fs (m :: ms)) (.bad w p)
 | prog {fs:List Fd} {f:Fd} {vs:List Vl} {m:M} {ms ms':List M} {r:Res} (h:m.kind≠4∨fs=[]) (h1:P l (.seq 0 (defIts l fs.length) (m :: ms)) (.ok vs ms')) (hd:defEx vs=some f) (hr:P l (.prog (fs++[f]) ms') r):P l (.prog fs (m :: ms)) r
theorem isW_comma {m:M} (h:isW m sComma=true):isW m sClose=false:=by
 unfold isW at *
 cases hk:(m.kind == 1 || m.kind == 3)
 ·rw [hk] at h; cases h
 ·rw [hk] at h
  simp only [Bool.true_and,beq_iff_eq] at h ⊢
  rw [h]; decide
end Pg
end Go.Proofs.YtgddkgbidhhheaaGreatDoor
set_option linter.unusedVariables false
set_option linter.unusedSimpArgs false
namespace Go.Proofs.YtgddkgbidhhheaaGreatDoor
namespace Pg
open Mk
theorem Res.cons_bad {v:Vl} {r:Res} {w p:Int} (h:r.cons v=.bad w p):r=.bad w p:=by
 cases r<;>simp_all [Res.cons]
theorem isW_if {m:M} (h:isW m tIf=true):isB m=false:=by
 unfold isB isW at *
 cases hk:(m.kind == 1 || m.kind == 3)
 ·rw [hk] at h; cases h
 ·rw [hk] at h
  simp only [Bool.true_and,beq_iff_eq] at h ⊢
  rw [h]; decide
theorem isW_kind {m:M} {s:List UInt8} (h:isW m s=true):m.kind≠0∧m.kind≠2∧m.kind≠4:=by
 unfold isW at h
 simp only [Bool.and_eq_true,Bool.or_eq_true,beq_iff_eq] at h
 omega
theorem isW_text {m:M} {s:List UInt8} (h:isW m s=true):m.text=s:=by
 unfold isW at h
 simp only [Bool.and_eq_true,beq_iff_eq] at h
 exact h.2
theorem isW_other {m:M} {s t:List UInt8} (h:isW m s=true) (hne:s≠t):isW m t=false:=by
 cases ht:isW m t
 ·rfl
 ·exact absurd ((isW_text h).symm.trans (isW_text ht)) hne
theorem isW_uni {m:M} {s t:List UInt8} (h:isW m s=true) (h':isW m t=true):s=t:=(isW_text h).symm.trans (isW_text h')
theorem word0_s {m:M} {op:Int} (h:word0 m=some op):∃ s,isW m s=true∧s ∈ [tTrue,tFalse,tNil]:=by
 unfold word0 at h
 split at h
 ·rename_i h1; exact ⟨_,h1,by simp⟩
 ·split at h
  ·rename_i h1; exact ⟨_,h1,by simp⟩
  ·split at h
   ·rename_i h1; exact ⟨_,h1,by simp⟩
   ·cases h
theorem word1_s {m:M} {op:Int} (h:word1 m=some op):∃ s,isW m s=true∧s ∈ [tNot,tRe,tIm,tConj]:=by
 unfold word1 at h
 split at h
 ·rename_i h1; exact ⟨_,h1,by simp⟩
 ·split at h
  ·rename_i h1; exact ⟨_,h1,by simp⟩
  ·split at h
   ·rename_i h1; exact ⟨_,h1,by simp⟩
   ·split at h
    ·rename_i h1; exact ⟨_,h1,by simp⟩
    ·cases h
theorem not_both {m:M} {A B:List (List UInt8)} (h:∃ s,isW m s=true∧s ∈ A) (h':∃ s,isW m s=true∧s ∈ B) (hd:∀ s ∈ A,s ∉ B):False:=by
 obtain ⟨s,h1,h2⟩:=h
 obtain ⟨t,h3,h4⟩:=h'
 exact hd s h2 (isW_uni h1 h3 ▸ h4)
theorem one_s {m:M} {s:List UInt8} (h:isW m s=true):∃ t,isW m t=true∧t ∈ [s]:=⟨s,h,by simp⟩
theorem kind_s {m:M} {A:List (List UInt8)} (h:∃ s,isW m s=true∧s ∈ A):m.kind≠0∧m.kind≠2∧m.kind≠4:=by
 obtain ⟨s,h1,_⟩:=h; exact isW_kind h1
theorem det {l:Lim} {j:Job} {r:Res} (h:P l j r):∀ {r':Res},P l j r'→r=r':=by
 induction h with
 | nil n ms=>intro r' h'; cases h'; rfl
 | w h hr ih=>intro r' h'; cases h' with
  | w h2 hr2=>rw [ih hr2]
  | wBad _ _ _ h2=>rw [h] at h2; cases h2
 | wBad n is ms h=>intro r' h'; cases h' with
  | w h2 hr2=>rw [h] at h2; cases h2
  | wBad _ _ _ h2=>rfl
 | nm h hr ih=>intro r' h'; cases h' with
  | nm h2 hr2=>rw [ih hr2]
  | nmBad _ _ _ h2=>exact absurd h h2
 | nmBad n is ms h=>intro r' h'; cases h' with
  | nm h2 hr2=>exact absurd h2 h
  | nmBad _ _ _ h2=>rfl
 | cn h hk hr ih=>intro r' h'; cases h' with
  | cn h2 hk2 hr2=>rw [ih hr2]
  | cnBig _ _ _ h2 hk2=>omega
  | cnBad _ _ _ _ _ h2=>exact absurd h h2
 | cnBig n is ms h hk=>intro r' h'; cases h' with
  | cn h2 hk2 hr2=>omega
  | cnBig _ _ _ h2 hk2=>rfl
  | cnBad _ _ _ _ _ h2=>exact absurd h h2
 | cnBad n is k most ms h=>intro r' h'; cases h' with
  | cn h2 hk2 hr2=>exact absurd h2 h
  | cnBig _ _ _ h2 hk2=>exact absurd h2 h
  | cnBad _ _ _ _ _ h2=>rfl
 | ty h hr ih=>intro r' h'; cases h' with
  | ty h2 hr2=>rw [h] at h2; cases h2; rw [ih hr2]
  | tyBad _ _ _ h2=>rw [h] at h2; cases h2
 | tyBad n is ms h=>intro r' h'; cases h' with
  | ty h2 hr2=>rw [h] at h2; cases h2
  | tyBad _ _ _ h2=>rfl
 | e h hr ih1 ih2=>intro r' h'; cases h' with
  | e h2 hr2=>have:=ih1 h2; cases this; rw [ih2 hr2]
  | eBad _ h2=>have:=ih1 h2; cases this
 | eBad is h ih=>intro r' h'; cases h' with
  | e h2 hr2=>have:=ih h2; cases this
  | eBad _ h2=>exact ih h2
 | ps h hr ih1 ih2=>intro r' h'; cases h' with
  | ps h2 hr2=>have:=ih1 h2; cases this; rw [ih2 hr2]
  | psBad _ h2=>have:=ih1 h2; cases this
 | psBad is h ih=>intro r' h'; cases h' with
  | ps h2 hr2=>have:=ih h2; cases this
  | psBad _ h2=>exact ih h2
 | deep ms h hn=>intro r' h'; cases h' with
  | deep _ h2 hn2=>rfl
  | bind h2 hn2 hr2=>omega
  | cond h2 hr2=>have:=isW_if h2; rw [h] at this; cases this
  | expr h2 h3 hr2=>rw [h] at h2; cases h2
 | bind h hn hr ih=>intro r' h'; cases h' with
  | deep _ h2 hn2=>omega
  | bind h2 hn2 hr2=>rw [ih hr2]
  | cond h2 hr2=>have:=isW_if h2; rw [h] at this; cases this
  | expr h2 h3 hr2=>rw [h] at h2; cases h2
 | cond h hr ih=>intro r' h'; cases h' with
  | deep _ h2 hn2=>have:=isW_if h; rw [h2] at this; cases this
  | bind h2 hn2 hr2=>have:=isW_if h; rw [h2] at this; cases this
  | cond h2 hr2=>rw [ih hr2]
  | expr h2 h3 hr2=>rw [h] at h3; cases h3
 | expr h h' hr ih=>intro r' h2; cases h2 with
  | deep _ h2 hn2=>rw [h] at h2; cases h2
  | bind h2 hn2 hr2=>rw [h] at h2; cases h2
  | cond h2 hr2=>rw [h'] at h2; cases h2
  | expr h2 h3 hr2=>exact ih hr2
 | row4 hr ih=>intro r' h'; cases h' with
  | row4 hr2=>exact ih hr2
  | rowBad h2 _=>omega
  | row h2 _ _=>omega
 | rowBad h hr ih=>intro r' h'; cases h' with
  | row4 hr2=>omega
  | rowBad h2 hr2=>exact ih hr2
  | row h2 h3 hr2=>have:=ih h3; cases this
 | row h h1 hr ih1 ih2=>intro r' h'; cases h' with
  | row4 hr2=>omega
  | rowBad h2 hr2=>have:=ih1 hr2; cases this
  | row h2 h3 hr2=>have:=ih1 h3; cases this; exact ih2 hr2
 | stop n e ms h=>intro r' h'; cases h' with
  | stop _ _ _ h2=>rfl
  | tailBad _ h2 _=>rw [h2] at h; exact absurd rfl h
  | tail1 h2 _ _=>rw [h2] at h; exact absurd rfl h
  | tail2 h2 _ _ _=>rw [h2] at h; exact absurd rfl h
 | tailBad e h hr ih=>intro r' h'; cases h' with
  | stop _ _ _ h2=>rw [h] at h2; exact absurd rfl h2
  | tailBad _ h2 hr2=>exact ih hr2
  | tail1 h2 hl hr2=>have:=ih hr2; cases this
  | tail2 h2 hl h3 hr2=>have:=ih h3; cases this
 | tail1 h hl hr ih=>intro r' h'; cases h' with
  | stop _ _ _ h2=>rw [h] at h2; exact absurd rfl h2
  | tailBad _ h2 hr2=>have:=ih hr2; cases this
  | tail1 h2 hl2 hr2=>rw [h] at h2; cases h2; have:=ih hr2; cases this; rfl
  | tail2 h2 hl2 h3 hr2=>omega
 | tail2 h hl h1 hr ih1 ih2=>intro r' h'; cases h' with
  | stop _ _ _ h2=>rw [h] at h2; exact absurd rfl h2
  | tailBad _ h2 hr2=>have:=ih1 hr2; cases this
  | tail1 h2 hl2 hr2=>omega
  | tail2 h2 hl2 h3 hr2=>rw [h] at h2; cases h2; have:=ih1 h3; cases this; exact ih2 hr2
 | num n ms h=>intro r' h'; cases h' with
  | num _ _ h2=>rfl
  | var _ _ h2 hk2=>omega
  | call h2 hk2 hr2=>omega
  | par h2 hr2=>have:=kind_s (one_s h2); omega
  | word0 _ _ h2=>have:=kind_s (word0_s h2); omega
  | fail h2 hr2=>have:=kind_s (one_s h2); omega
  | word1 h2 hr2=>have:=kind_s (word1_s h2); omega
  | unitBad _ _ b2 b0 bp bw bf b1=>exact absurd h b2
 | var n ms h hk=>intro r' h'; cases h' with
  | num _ _ h2=>omega
  | var _ _ h2 hk2=>rfl
  | call h2 hk2 hr2=>rw [hk] at hk2; cases hk2
  | par h2 hr2=>have:=kind_s (one_s h2); omega
  | word0 _ _ h2=>have:=kind_s (word0_s h2); omega
  | fail h2 hr2=>have:=kind_s (one_s h2); omega
  | word1 h2 hr2=>have:=kind_s (word1_s h2); omega
  | unitBad _ _ b2 b0 bp bw bf b1=>exact absurd h b0
 | call h hk hr ih=>intro r' h'; cases h' with
  | num _ _ h2=>omega
  | var _ _ h2 hk2=>rw [hk] at hk2; cases hk2
  | call h2 hk2 hr2=>rw [ih hr2]
  | par h2 hr2=>have:=kind_s (one_s h2); omega
  | word0 _ _ h2=>have:=kind_s (word0_s h2); omega
  | fail h2 hr2=>have:=kind_s (one_s h2); omega
  | word1 h2 hr2=>have:=kind_s (word1_s h2); omega
  | unitBad _ _ b2 b0 bp bw bf b1=>exact absurd h b0
 | par h hr ih=>intro r' h'; cases h' with
  | num _ _ h2=>have:=kind_s (one_s h); omega
  | var _ _ h2 hk2=>have:=kind_s (one_s h); omega
  | call h2 hk2 hr2=>have:=kind_s (one_s h); omega
  | par h2 hr2=>rw [ih hr2]
  | word0 _ _ h2=>exact (not_both (one_s h) (word0_s h2) (by decide)).elim
  | fail h2 hr2=>exact (not_both (one_s h) (one_s h2) (by decide)).elim
  | word1 h2 hr2=>exact (not_both (one_s h) (word1_s h2) (by decide)).elim
  | unitBad _ _ b2 b0 bp bw bf b1=>rw [h] at bp; cases bp
 | word0 n ms h=>intro r' h'; cases h' with
  | num _ _ h2=>have:=kind_s (word0_s h); omega
  | var _ _ h2 hk2=>have:=kind_s (word0_s h); omega
  | call h2 hk2 hr2=>have:=kind_s (word0_s h); omega
  | par h2 hr2=>exact (not_both (word0_s h) (one_s h2) (by decide)).elim
  | word0 _ _ h2=>rw [h] at h2; cases h2; rfl
  | fail h2 hr2=>exact (not_both (word0_s h) (one_s h2) (by decide)).elim
  | word1 h2 hr2=>exact (not_both (word0_s h) (word1_s h2) (by decide)).elim
  | unitBad _ _ b2 b0 bp bw bf b1=>rw [h] at bw; cases bw
 | fail h hr ih=>intro r' h'; cases h' with
  | num _ _ h2=>have:=kind_s (one_s h); omega
  | var _ _ h2 hk2=>have:=kind_s (one_s h); omega
  | call h2 hk2 hr2=>have:=kind_s (one_s h); omega
  | par h2 hr2=>exact (not_both (one_s h) (one_s h2) (by decide)).elim
  | word0 _ _ h2=>exact (not_both (one_s h) (word0_s h2) (by decide)).elim
  | fail h2 hr2=>rw [ih hr2]
  | word1 h2 hr2=>exact (not_both (one_s h) (word1_s h2) (by decide)).elim
  | unitBad _ _ b2 b0 bp bw bf b1=>rw [h] at bf; cases bf
 | word1 h hr ih=>intro r' h'; cases h' with
  | num _ _ h2=>have:=kind_s (word1_s h); omega
  | var _ _ h2 hk2=>have:=kind_s (word1_s h); omega
  | call h2 hk2 hr2=>have:=kind_s (word1_s h); omega
  | par h2 hr2=>exact (not_both (word1_s h) (one_s h2) (by decide)).elim
  | word0 _ _ h2=>exact (not_both (word1_s h) (word0_s h2) (by decide)).elim
  | fail h2 hr2=>exact (not_both (word1_s h) (one_s h2) (by decide)).elim
  | word1 h2 hr2=>rw [h] at h2; cases h2; rw [ih hr2]
  | unitBad _ _ b2 b0 bp bw bf b1=>rw [h] at b1; cases b1
 | unitBad n ms c2 c0 cp cw cf c1=>intro r' h'; cases h' with
  | num _ _ h2=>exact absurd h2 c2
  | var _ _ h2 hk2=>exact absurd h2 c0
  | call h2 hk2 hr2=>exact absurd h2 c0
  | par h2 hr2=>rw [h2] at cp; cases cp
  | word0 _ _ h2=>rw [h2] at cw; cases cw
  | fail h2 hr2=>rw [h2] at cf; cases cf
  | word1 h2 hr2=>rw [h2] at c1; cases c1
  | unitBad _ _ b2 b0 bp bw bf b1=>rfl
 | aStop n asx ms h=>intro r' h'; cases h' with
  | aStop _ _ _ h2=>rfl
  | aSep _ _ h2 _ _=>rw [h] at h2; cases h2
  | aBad0 h2 _=>rw [h] at h2; cases h2
  | aBad _ hc2 _=>have:=isW_comma hc2; rw [h] at this; cases this
  | aNext0 h2 _ _=>rw [h] at h2; cases h2
  | aNext _ hc2 _ _=>have:=isW_comma hc2; rw [h] at this; cases this
 | aSep n ms h ha hc=>intro r' h'; cases h' with
  | aStop _ _ _ h2=>rw [h] at h2; cases h2
  | aSep _ _ h2 _ _=>rfl
  | aBad0 h2 _=>exact absurd rfl ha
  | aBad _ hc2 _=>rw [hc] at hc2; cases hc2
  | aNext0 h2 _ _=>exact absurd rfl ha
  | aNext _ hc2 _ _=>rw [hc] at hc2; cases hc2
 | aBad0 h hr ih=>intro r' h'; cases h' with
  | aStop _ _ _ h2=>rw [h] at h2; cases h2
  | aSep _ _ h2 ha2 _=>exact absurd rfl ha2
  | aBad0 h2 hr2=>exact ih hr2
  | aBad ha2 _ _=>exact absurd rfl ha2
  | aNext0 h2 h3 _=>have:=ih h3; cases this
  | aNext ha2 _ _ _=>exact absurd rfl ha2
 | aBad ha hc hr ih=>intro r' h'; cases h' with
  | aStop _ _ _ h2=>have:=isW_comma hc; rw [h2] at this; cases this
  | aSep _ _ h2 _ hc2=>rw [hc] at hc2; cases hc2
  | aBad0 h2 hr2=>exact absurd rfl ha
  | aBad _ _ hr2=>exact ih hr2
  | aNext0 h2 h3 _=>exact absurd rfl ha
  | aNext _ _ h3 _=>have:=ih h3; cases this
 | aNext0 h h1 hr ih1 ih2=>intro r' h'; cases h' with
  | aStop _ _ _ h2=>rw [h] at h2; cases h2
  | aSep _ _ h2 ha2 _=>exact absurd rfl ha2
  | aBad0 h2 hr2=>have:=ih1 hr2; cases this
  | aBad ha2 _ _=>exact absurd rfl ha2
  | aNext0 h2 h3 hr2=>have:=ih1 h3; cases this; exact ih2 hr2
  | aNext ha2 _ _ _=>exact absurd rfl ha2
 | aNext ha hc h1 hr ih1 ih2=>intro r' h'; cases h' with
  | aStop _ _ _ h2=>have:=isW_comma hc; rw [h2] at this; cases this
  | aSep _ _ h2 _ hc2=>rw [hc] at hc2; cases hc2
  | aBad0 h2 hr2=>exact absurd rfl ha
  | aBad _ _ hr2=>have:=ih1 hr2; cases this
  | aNext0 h2 h3 _=>exact absurd rfl ha
  | aNext _ _ h3 hr2=>have:=ih1 h3; cases this; exact ih2 hr2
 | pStop ps ms h=>intro r' h'; cases h' with
  | pStop _ _ h2=>rfl
  | pSep _ h2 _ _=>rw [h] at h2; cases h2
  | pBad0 h2 _=>rw [h] at h2; cases h2
  | pBad _ hc2 _=>have:=isW_comma hc2; rw [h] at this; cases this
  | pNext0 h2 _ _=>rw [h] at h2; cases h2
  | pNext _ hc2 _ _=>have:=isW_comma hc2; rw [h] at this; cases this
 | pSep ms h ha hc=>intro r' h'; cases h' with
  | pStop _ _ h2=>rw [h] at h2; cases h2
  | pSep _ h2 _ _=>rfl
  | pBad0 h2 _=>exact absurd rfl ha
  | pBad _ hc2 _=>rw [hc] at hc2; cases hc2
  | pNext0 h2 _ _=>exact absurd rfl ha
  | pNext _ hc2 _ _=>rw [hc] at hc2; cases hc2
 | pBad0 h hr ih=>intro r' h'; cases h' with
  | pStop _ _ h2=>rw [h] at h2; cases h2
  | pSep _ h2 ha2 _=>exact absurd rfl ha2
  | pBad0 h2 hr2=>exact ih hr2
  | pBad ha2 _ _=>exact absurd rfl ha2
  | pNext0 h2 h3 _=>have:=ih h3; cases this
  | pNext ha2 _ _ _=>exact absurd rfl ha2
 | pBad ha hc hr ih=>intro r' h'; cases h' with
  | pStop _ _ h2=>have:=isW_comma hc; rw [h2] at this; cases this
  | pSep _ h2 _ hc2=>rw [hc] at hc2; cases hc2
  | pBad0 h2 hr2=>exact absurd rfl ha
  | pBad _ _ hr2=>exact ih hr2
  | pNext0 h2 h3 _=>exact absurd rfl ha
  | pNext _ _ h3 _=>have:=ih h3; cases this
 | pNext0 h h1 hr ih1 ih2=>intro r' h'; cases h' with
  | pStop _ _ h2=>rw [h] at h2; cases h2
  | pSep _ h2 ha2 _=>exact absurd rfl ha2
  | pBad0 h2 hr2=>have:=ih1 hr2; cases this
  | pBad ha2 _ _=>exact absurd rfl ha2
  | pNext0 h2 h3 hr2=>have:=ih1 h3; cases this; exact ih2 hr2
  | pNext ha2 _ _ _=>exact absurd rfl ha2
 | pNext ha hc h1 hr ih1 ih2=>intro r' h'; cases h' with
  | pStop _ _ h2=>have:=isW_comma hc; rw [h2] at this; cases this
  | pSep _ h2 _ hc2=>rw [hc] at hc2; cases hc2
  | pBad0 h2 hr2=>exact absurd rfl ha
  | pBad _ _ hr2=>have:=ih1 hr2; cases this
  | pNext0 h2 h3 _=>exact absurd rfl ha
  | pNext _ _ h3 hr2=>have:=ih1 h3; cases this; exact ih2 hr2
 | progEnd ms h hf=>intro r' h'; cases h' with
  | progEnd _ h2 hf2=>rfl
  | progBad h2 _=>exact (h2.elim (fun e=>e h) hf).elim
  | prog h2 _ _ _=>exact (h2.elim (fun e=>e h) hf).elim
 | progBad h hr ih=>intro r' h'; cases h' with
  | progEnd _ h2 hf2=>exact (h.elim (fun e=>e h2) hf2).elim
  | progBad h2 hr2=>exact ih hr2
  | prog h2 h3 _ _=>have:=ih h3; cases this
 | prog h h1 hd hr ih1 ih2=>intro r' h'; cases h' with
  | progEnd _ h2 hf2=>exact (h.elim (fun e=>e h2) hf2).elim
  | progBad h2 hr2=>have:=ih1 hr2; cases this
  | prog h2 h3 hd2 hr2=>have:=ih1 h3; cases this; rw [hd] at hd2; cases hd2; exact ih2 hr2
end Pg
end Go.Proofs.YtgddkgbidhhheaaGreatDoor
set_option linter.unusedVariables false
set_option linter.unusedSimpArgs false
set_option maxRecDepth 100000
namespace Go.Proofs.YtgddkgbidhhheaaGreatDoor
open Go.RowKit Flo Ab Mk Pg
def mcells (m:M):List AV:=[iv m.kind,sv m.text,cv (W m.num.1) (W m.num.2),iv m.pos]
def mksA (ms:List M):List AV:=ms.flatMap mcells
theorem mksA_len (ms:List M):(mksA ms).length=ms.length * 4:=by
 unfold mksA
 induction ms with
 | nil=>rfl
 | cons v vs ih=>rw [List.flatMap_cons,List.length_append,ih]; simp [mcells]; omega
theorem mksA_at:∀ {ms:List M} {k:Nat} {m:M},ms[k]? = some m→((mksA ms).drop (k * 4)).take 4=mcells m
 | [],k,v,h=>by simp at h
 | u :: vs,0,v,h=>by cases h; simp [mksA,mcells]
 | u :: vs,k + 1,v,h=>by
  have:=mksA_at (ms:=vs) (k:=k) (m:=v) (by simpa using h)
  have e:mksA (u :: vs)=mcells u++mksA vs:=rfl
  rw [e,show (k + 1) * 4=(mcells u).length + k * 4 by simp [mcells]; omega,← List.drop_drop,List.drop_left]
  exact this
mutual
def _root_.Go.Proofs.YtgddkgbidhhheaaGreatDoor.Pg.Ex.cells:Ex→List AV
 | .mk op name tail ty num args pos=>[iv op,sv name,sv tail,iv ty,cv (W num.1) (W num.2),.sl args.length (exsA args),iv pos]
def exsA:List Ex→List AV
 | []=>[]
 | e :: r=>e.cells++exsA r
end
def exA (e:Ex):AV:=.agg e.cells
def rdr (all:List M) (l:Lim) (a:Nat) (why wh n:Int):List AV:=[.sl all.length (mksA all),iv a,iv why,iv wh,iv l.text,iv l.funcs,iv l.arity,iv l.nest,iv n]
section
variable {G:World→Prop}
theorem rnext_ap (all:List M) (l:Lim) (a:Nat) (why wh n:Int) {m:M} (h:all[a]? = some m):AM Tryz.prog G 48 [.ptr 0 0] (rdr all l a why wh n) (fun x cs=>x=.agg (mcells m)∧cs=rdr all l a why wh n):=by
 have hat:=mksA_at h
 have hal:a < all.length:=(List.getElem?_eq_some_iff.1 h).1
 have hal':(a:Int) < all.length:=by omega
 have hvz:a * 4 + 4≤(mksA all).length:=by rw [mksA_len]; omega
 refine AM.go hmix F_pnext (by simp) ?_
 simp -implicitDefEqProofs [c_pnext,finM,rdr,hal,hal',hat,hvz,wrOb,splice,mcells]
theorem rdr_deep (all:List M) (l:Lim) (a:Nat) (why wh n:Int):(rdr all l a why wh n).all deep1=true:=rfl
theorem SC.rd {N:Nat} {F:Fr} {H:List Ob} {K:Fr→List Ob→Prop} {d:Option Nat} (hdN:∀ t,d=some t→t < N) {f:FuncId} {args:List Opd} (xs:List AV) (hx:evA F args=some xs) {all:List M} {l:Lim} {a:Nat} {why wh n:Int} {post:AV→List AV→Prop}
  (hi:(frzT H xs).1[0]? = some (.var (rdr all l a why wh n))) {ys:List AV} (hA:AM Tryz.prog G f ys (rdr all l a why wh n) post) (hy:(frzT H xs).2.map (toO [0])=ys) (hp:∃ off,AV.ptr 0 off ∈ (frzT H xs).2) (hd:(frzT H xs).2.all (lentO [0])=true)
  (hK:∀ x cs',cs'.all deep1=true→post x cs'→K (putF F d x) ((frzT H xs).1.set 0 (.var cs'))) {tg:Tag K}:SC Tryz.prog G N d f args F H K tg:=
 SC.lent hdN xs hx 0 (rdr all l a why wh n) hi (rdr_deep _ _ _ _ _ _) (by rw [hy]; exact hA) hp hd hK
theorem ris_ap (all:List M) (l:Lim) (a:Nat) (why wh n:Int) (s:List UInt8) {m:M} (h:all[a]? = some m):AM Tryz.prog G 79 [.ptr 0 0,sv s] (rdr all l a why wh n) (fun x cs=>x=bv (decide (why=0) && isW m s)∧cs=rdr all l a why wh n):=by
 refine AM.go hmix F_pis (by simp) ?_
 simp -implicitDefEqProofs [c_pis]
 refine SC.rd (by simp) [.ptr 0 0] (by simp) (all:=all) (l:=l) (a:=a) (why:=why) (wh:=wh) (n:=n) (by simp) (rnext_ap all l a why wh n h) (by simp [toO]) ⟨0,by simp⟩ (by simp [lentO]) ?_ (tg:=.mk)
 rintro x cs - ⟨rfl,rfl⟩
 have hk1:(m.kind == 1)=decide ((m.kind:Int)=1):=by rw [Bool.eq_iff_iff]; simp; omega
 have hk3:(m.kind == 3)=decide ((m.kind:Int)=3):=by rw [Bool.eq_iff_iff]; simp; omega
 unfold isW
 rw [hk1,hk3]
 by_cases hw:why=0
 ·subst hw
  by_cases h1:(m.kind:Int)=1
  ·simp -implicitDefEqProofs [rdr,mcells,wrOb,splice,finM,h1]
  ·by_cases h3:(m.kind:Int)=3
   ·simp -implicitDefEqProofs [rdr,mcells,wrOb,splice,finM,h1,h3]
   ·simp -implicitDefEqProofs [rdr,mcells,wrOb,splice,finM,h1,h3]
 ·simp -implicitDefEqProofs [rdr,mcells,wrOb,splice,finM,hw]
theorem rtake_ap (all:List M) (l:Lim) (a:Nat) (why wh n:Int) (s:List UInt8) {m:M} (h:all[a]? = some m) (ha:a < 1000000000):AM Tryz.prog G 110 [.ptr 0 0,sv s] (rdr all l a why wh n)
  (fun x cs=>x=bv (decide (why=0) && isW m s)∧cs=rdr all l (if (decide (why=0) && isW m s)=true then a + 1 else a) why wh n):=by
 have hw:IntKind.i64.wrap ((a:Int) + 1)=((a + 1:Nat):Int):=by rw [wrap64 _ (by omega)]; omega
 have his:=ris_ap (G:=G) all l a why wh n s h
 obtain ⟨q,hq⟩:∃ q,(decide (why=0) && isW m s)=q:=⟨_,rfl⟩
 rw [hq] at his ⊢
 refine AM.go hmix F_ptake (by simp) ?_
 simp -implicitDefEqProofs [c_ptake]
 refine SC.rd (by simp) [.ptr 0 0,sv s] (by simp) (all:=all) (l:=l) (a:=a) (why:=why) (wh:=wh) (n:=n) (by simp) his (by simp [toO]) ⟨0,by simp⟩ (by simp [lentO]) ?_ (tg:=.mk)
 rintro x cs - ⟨rfl,rfl⟩
 cases q
 ·simp -implicitDefEqProofs [rdr,finM]
 ·simp -implicitDefEqProofs [rdr,finM,wrOb,splice,hw,-Int.natCast_add]
end
end Go.Proofs.YtgddkgbidhhheaaGreatDoor
