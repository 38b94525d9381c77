/- Texts joined: Open Flo Flob Floc Gm Tx. -/
import Derived.Test.YtgddkgbidhhheaaGreatDoorRows
import Derived.WalkKit
import Derived.ProofKit
import Derived.OpenShut
import Derived.Lib.SmallJoins
import Derived.Below
import Derived.ChangeSame
import Derived.Laws.FloatArith
import Derived.Laws.ComplexArith
import Derived.Laws.BitsAllLaws
import Derived.Lib.ItoaLen
import Derived.Lib.AtoiAllCases
namespace Go.Proofs.YtgddkgbidhhheaaGreatDoor
open Go.ChangeShapes Go.WideShapes Go.ChangeAt Go.RowKit Go.Joins
theorem ownK:ownKnob Tryz.prog.godebug=none:=by kernel_rfl
section
variable {H:Type} {enc:TypeId × Value→H} {w:World} {base:Nat} {spare:Nat→Bool} {held:Bool}
end
section
variable {H:Type} {enc:TypeId × Value→H} {P:Program}
theorem post_of_below {f:Func} {s:ChangeSpec} {apart fresh handsOn again:Bool} {W W':World} {args:Array Value} {v:Value} {ds gs:List (DataW H)} {before pa pv:List MemPlace}
  (hW:DataW.Whole enc P f.params.toList s.vars apart W args.toList ds gs before)
  (hres:∀ (b:Nat) (sp:Nat→Bool) (hd:Bool),DataW.TrodAll enc P W' b sp hd f.resultTypes.toList (v.resultList f.resultTypes.size) (s.fn H (ds++gs)).results [])
  (hargs:∀ sp:Nat→Bool,(∀ p ∈ before,sp p.block=true)→DataW.TrodAll enc P W' 0 sp true f.params.toList args.toList (s.fn H (ds++gs)).args pa)
  (hvars:∀ sp:Nat→Bool,(∀ p ∈ before,sp p.block=true)→DataW.TrodVars enc P W' sp s.vars (s.fn H (ds++gs)).vars pv)
  (hps:before=pa++pv) (hb:Below W.heap.size W W')
  (hok:∀ (j:Nat) (t:TypeId) (r:Value),f.resultTypes[j]? = some t→(v.resultList f.resultTypes.size)[j]? = some r→Value.okWide P W' .any 0 t r) :
  s.post enc P f apart fresh handsOn again W args v W':=by
 have hlt:∀ p ∈ before,p.block < W.heap.size:=fun p hp=>hW.lt p hp
 have hold:∀ p ∈ before,(fun b=>decide (b < W.heap.size)) p.block=true:=fun p hp=>by simpa using hlt p hp
 refine ⟨ds,gs,before,[],pa,pv,hW,hres _ _ _,hargs _ hold,hvars _ hold,World.keptBut_mono (fun p hp=>⟨hp,?_⟩) (hb.frame (· ∈ before)),fun _=>?_⟩
 ·rw [hps,List.mem_append] at hp
  exact Or.inr hp
 ·obtain ⟨_,_,_,_,_,hz,hn⟩:=hW
  refine ⟨hok,_,_,([]++pa)++pv,⟨[]++pa,pv,trodAll_append (hargs _ (fun _ _=>rfl)) (hres _ _ _),hvars _ (fun _ _=>rfl),rfl,?_,?_⟩,?_⟩
  ·intro b off hp
   have hin:MemPlace.cell b off ∈ before:=by rw [hps]; simpa using hp
   rw [hb.frozen (hlt _ hin)]
   exact hz b off hin
  ·intro ha
   have:=hn ha
   rw [hps] at this
   simpa using this
  ·intro p hp _
   rw [hps]
   simpa using hp
end
end Go.Proofs.YtgddkgbidhhheaaGreatDoor
namespace Go.Proofs.YtgddkgbidhhheaaGreatDoor
namespace Flo
open Ieee
def W (n:Int):Nat:=floatOfInt .f64 n
def NZ:Nat:=9223372036854775808
def sg (s:Bool) (m:Nat):Int:=if s then -(m:Int) else m
def Is (d:Datum) (n:Int):Prop:=∃ (s:Bool) (j:Nat),d=.number s (n.natAbs * 2 ^ j) (-(j:Int))∧(n≠0→s=decide (n < 0))
def IsW (x:Nat) (n:Int):Prop:=x=W n∨(n=0∧x=NZ)
def R (s:Bool) (k:Nat):Nat:=if k=0 then (if s then NZ else 0) else (if s then NZ else 0) + ((k.log2 + 1022) * 4503599627370496 + k * 2 ^ (52 - k.log2))
theorem binade_eq:double.binade=4503599627370496:=by decide
theorem lp_eq:double.leastPlace=-1074:=by decide
theorem inf_eq:double.infRung=2047 * 4503599627370496:=by decide
theorem sw_eq:double.signWeight=9223372036854775808:=by decide
theorem word_eq (s:Bool) (r:Nat):double.word s r=(if s then NZ else 0) + r:=by
 unfold Format.word; rw [sw_eq]; cases s<;>simp [NZ]
theorem log2_mul (k j:Nat) (h:k≠0):(k * 2 ^ j).log2=k.log2 + j:=by
 have hp:0 < 2 ^ j:=Nat.two_pow_pos j
 rw [Nat.log2_eq_iff (by exact Nat.mul_ne_zero h (by omega))]
 have h1:=Nat.log2_self_le h
 have h2:=@Nat.lt_log2_self k
 constructor
 ·rw [Nat.pow_add]; exact Nat.mul_le_mul_right _ h1
 ·rw [show k.log2 + j + 1=(k.log2 + 1) + j from by omega,Nat.pow_add]; exact Nat.mul_lt_mul_of_pos_right h2 hp
theorem log2_le52 (k:Nat) (h:k < 9007199254740992):k.log2≤52:=by
 by_cases h0:k=0
 ·subst h0; decide
 ·have:=(Nat.log2_lt h0 (k:=53)).2 (by omega); omega
theorem full_lo (k:Nat) (h0:k≠0) (h:k < 9007199254740992):4503599627370496≤k * 2 ^ (52 - k.log2):=by
 have h1:=Nat.log2_self_le h0
 have h3:=log2_le52 k h
 have:2 ^ k.log2 * 2 ^ (52 - k.log2)=4503599627370496:=by rw [← Nat.pow_add,show k.log2 + (52 - k.log2)=52 from by omega]
 rw [← this]; exact Nat.mul_le_mul_right _ h1
theorem full_hi (k:Nat) (h:k < 9007199254740992):k * 2 ^ (52 - k.log2) < 9007199254740992:=by
 have h2:=@Nat.lt_log2_self k
 have h3:=log2_le52 k h
 have:2 ^ (k.log2 + 1) * 2 ^ (52 - k.log2)=9007199254740992:=by rw [← Nat.pow_add,show k.log2 + 1 + (52 - k.log2)=53 from by omega]
 rw [← this]; exact Nat.mul_lt_mul_of_pos_right h2 (Nat.two_pow_pos _)
theorem cut_zero (s:Bool) (n:Nat):Toward.even.cut s n 0=n:=by
 unfold Toward.cut; simp [Nat.mod_one]
theorem cut_exact (s:Bool) (n d:Nat) (h:n≠0):Toward.even.cut s (n * 2 ^ d) d=n:=by
 unfold Toward.cut
 have hm:min d ((n * 2 ^ d).log2 + 2)=d:=by rw [log2_mul _ _ h]; omega
 have hp:0 < 2 ^ d:=Nat.two_pow_pos d
 simp only [hm,Nat.one_shiftLeft,Nat.mul_mod_left,Nat.mul_zero,Nat.mul_div_cancel _ hp]
 have:¬ 2 ^ d < 0:=by omega
 have h2:(2 ^ d == 0)=false:=by simp
 simp [this,h2]
theorem nearest_val (s:Bool) (k j:Nat) (h:k < 9007199254740992):double.nearest s (k * 2 ^ j) (-(j:Int))=R s k:=by
 unfold Format.nearest R
 by_cases h0:k=0
 ·subst h0; simp [word_eq]
 have hp:0 < 2 ^ j:=Nat.two_pow_pos j
 have hl:=log2_le52 k h
 have hlo:=full_lo k h0 h
 have hhi:=full_hi k h
 rw [if_neg (Nat.mul_ne_zero h0 (by omega)),if_neg h0]
 have e1:(-(j:Int) + ((k * 2 ^ j).log2:Int) - (double.fractionBits:Int))=(k.log2:Int) - 52:=by
  rw [log2_mul _ _ h0]; simp only [double]; omega
 simp only [e1,lp_eq,binade_eq,inf_eq]
 have e2:max ((k.log2:Int) - 52) (-1074)=(k.log2:Int) - 52:=by omega
 rw [e2]
 have e3:((k.log2:Int) - 52 - -1074).toNat=k.log2 + 1022:=by omega
 rw [e3]
 have e4:Toward.even.cut s ((k * 2 ^ j) <<< (-(j:Int) - ((k.log2:Int) - 52)).toNat) ((k.log2:Int) - 52 - -(j:Int)).toNat=k * 2 ^ (52 - k.log2):=by
  by_cases hj:j≤52 - k.log2
  ·rw [show ((k.log2:Int) - 52 - -(j:Int)).toNat=0 from by omega,cut_zero,Nat.shiftLeft_eq,Nat.mul_assoc,← Nat.pow_add]
   congr 2; omega
  ·rw [show (-(j:Int) - ((k.log2:Int) - 52)).toNat=0 from by omega,Nat.shiftLeft_zero]
   rw [show ((k.log2:Int) - 52 - -(j:Int)).toNat=j - (52 - k.log2) from by omega]
   have:k * 2 ^ j=(k * 2 ^ (52 - k.log2)) * 2 ^ (j - (52 - k.log2)):=by
    rw [Nat.mul_assoc,← Nat.pow_add]; congr 2; omega
   rw [this,cut_exact _ _ _ (by omega)]
 rw [e4,word_eq,Nat.min_eq_left (by omega)]
theorem W_eq (n:Int) (h:n.natAbs < 9007199254740992):W n=R (decide (n < 0)) n.natAbs:=by
 have:=nearest_val (decide (n < 0)) n.natAbs 0 h
 simpa [W,floatOfInt,FloatKind.nearest,FloatKind.encode,FloatKind.format,Format.write] using this
theorem R_div (s:Bool) (k:Nat) (h:k < 9007199254740992):(R s k / 9223372036854775808 % 2 == 1)=s:=by
 have hl:=log2_le52 k h
 have hhi:=full_hi k h
 unfold R NZ
 by_cases h0:k=0
 ·subst h0; cases s<;>decide
 rw [if_neg h0]; cases s
 ·simp only [Bool.false_eq_true,if_false]; rw [Nat.div_eq_of_lt (by omega)]; rfl
 ·simp only [if_true]; rw [show (9223372036854775808 + ((k.log2 + 1022) * 4503599627370496 + k * 2 ^ (52 - k.log2))) / 9223372036854775808=1 from by omega]; rfl
theorem R_mod (s:Bool) (k:Nat) (h:k < 9007199254740992):R s k % 9223372036854775808=if k=0 then 0 else (k.log2 + 1022) * 4503599627370496 + k * 2 ^ (52 - k.log2):=by
 have hl:=log2_le52 k h
 have hhi:=full_hi k h
 unfold R NZ
 by_cases h0:k=0
 ·subst h0; cases s<;>decide
 rw [if_neg h0,if_neg h0]; cases s
 ·simp only [Bool.false_eq_true,if_false]; omega
 ·simp only [if_true]; omega
theorem R_lt (s:Bool) (k:Nat) (h:k < 9007199254740992):R s k < 18446744073709551616:=by
 have hl:=log2_le52 k h
 have hhi:=full_hi k h
 unfold R NZ
 by_cases h0:k=0
 ·subst h0; cases s<;>decide
 rw [if_neg h0]; cases s
 ·simp only [Bool.false_eq_true,if_false]; omega
 ·simp only [if_true]; omega
theorem read_R (s:Bool) (k:Nat) (h:k < 9007199254740992) :
  double.read (R s k)=if k=0 then .number s 0 (-1074) else .number s (k * 2 ^ (52 - k.log2)) (-((52 - k.log2:Nat):Int)):=by
 have hl:=log2_le52 k h
 have hhi:=full_hi k h
 unfold Format.read
 rw [sw_eq,R_div s k h,R_mod s k h,binade_eq,inf_eq,lp_eq]
 by_cases h0:k=0
 ·simp [h0]
 have hlo:=full_lo k h0 h
 simp only [if_neg h0]
 rw [if_neg (by omega),if_pos (by omega)]
 congr 1
 ·omega
 ·omega
theorem is_zero (s:Bool) (j:Nat):Is (.number s 0 (-(j:Int))) 0:=⟨s,j,by simp,by simp⟩
theorem is_R (s:Bool) (k:Nat) (h:k < 9007199254740992):Is (double.read (R s k)) (sg s k):=by
 rw [read_R s k h]
 by_cases h0:k=0
 ·subst h0; rw [if_pos rfl,show sg s 0=0 from by cases s<;>rfl]; exact is_zero s 1074
 ·rw [if_neg h0]
  exact ⟨s,52 - k.log2,by cases s<;>simp [sg],fun _=>by cases s<;>simp [sg]<;>omega⟩
theorem isW_iff {x:Nat} {n:Int} (h:n.natAbs < 9007199254740992) (hx:IsW x n):∃ s,x=R s n.natAbs∧sg s n.natAbs=n:=by
 rcases hx with rfl | ⟨rfl,rfl⟩
 ·exact ⟨_,W_eq n h,by unfold sg; split<;>simp_all<;>omega⟩
 ·exact ⟨true,by decide,by decide⟩
theorem isW_read {x:Nat} {n:Int} (h:n.natAbs < 9007199254740992) (hx:IsW x n):Is (double.read x) n:=by
 obtain ⟨s,rfl,hs⟩:=isW_iff h hx
 have:=is_R s n.natAbs h
 rwa [hs] at this
theorem W_isW (n:Int):IsW (W n) n:=.inl rfl
theorem W_lt (n:Int) (h:n.natAbs < 9007199254740992):W n < 18446744073709551616:=by rw [W_eq n h]; exact R_lt _ _ h
theorem signed_is {s:Bool} {n:Int} (j u:Nat) (hs:n≠0→s=decide (n < 0)):signed s (n.natAbs * 2 ^ j) u=n * 2 ^ (j + u):=by
 unfold signed
 rw [Nat.shiftLeft_eq,Nat.mul_assoc,← Nat.pow_add]
 by_cases h0:n=0
 ·subst h0; simp
 ·rw [hs h0]
  by_cases hn:n < 0
  ·simp only [hn,decide_true,if_true]
   have:n=-(n.natAbs:Int):=by omega
   rw [Int.natCast_mul]
   conv=>rhs; rw [this]
   rw [Int.neg_mul]; simp
  ·simp only [hn,decide_false,Bool.false_eq_true,if_false]
   have:n=(n.natAbs:Int):=by omega
   rw [Int.natCast_mul]
   conv=>rhs; rw [this]
   simp
theorem sum_is {d e:Datum} {a b:Int} (hd:Is d a) (he:Is e b):∃ f,d.sum e=some f∧Is f (a + b):=by
 obtain ⟨s,i,rfl,hs⟩:=hd
 obtain ⟨t,j,rfl,ht⟩:=he
 refine ⟨_,rfl,?_⟩
 have hb:min (-(i:Int)) (-(j:Int))=-((max i j:Nat):Int):=by omega
 rw [hb,signed_is i _ hs,signed_is j _ ht]
 rw [show i + (-(i:Int) - -((max i j:Nat):Int)).toNat=max i j from by omega,show j + (-(j:Int) - -((max i j:Nat):Int)).toNat=max i j from by omega,← Int.add_mul]
 have hp:(0:Int) < 2 ^ (max i j):=Int.pow_pos (by decide)
 refine ⟨if (a + b) * 2 ^ (max i j)=0 then s && t else decide ((a + b) * 2 ^ (max i j) < 0),max i j,?_,?_⟩
 ·rw [Int.natAbs_mul,Int.natAbs_pow]; rfl
 ·intro h
  rw [if_neg (by simp only [Int.mul_eq_zero,h,false_or]; omega)]
  have:(a + b) * 2 ^ (max i j) < 0↔a + b < 0:=by
   constructor
   ·intro hl; exact Int.not_le.1 fun h0=>absurd (Int.mul_nonneg h0 (Int.le_of_lt hp)) (by omega)
   ·intro hl; exact Int.mul_neg_of_neg_of_pos hl hp
  simp only [this]
theorem compare_mul (a b:Int) (k:Nat):compare (a * 2 ^ k) (b * 2 ^ k)=compare a b:=by
 have hp:(0:Int) < 2 ^ k:=Int.pow_pos (by decide)
 rcases Int.lt_trichotomy a b with h | h | h
 ·rw [Int.compare_eq_lt.2 h,Int.compare_eq_lt.2 (Int.mul_lt_mul_of_pos_right h hp)]
 ·subst h; simp
 ·rw [Int.compare_eq_gt.2 h,Int.compare_eq_gt.2 (Int.mul_lt_mul_of_pos_right h hp)]
theorem order_is {d e:Datum} {a b:Int} (hd:Is d a) (he:Is e b):d.order e=some (compare a b):=by
 obtain ⟨s,i,rfl,hs⟩:=hd
 obtain ⟨t,j,rfl,ht⟩:=he
 have hb:min (-(i:Int)) (-(j:Int))=-((max i j:Nat):Int):=by omega
 simp only [Datum.order]
 rw [hb,signed_is i _ hs,signed_is j _ ht]
 rw [show i + (-(i:Int) - -((max i j:Nat):Int)).toNat=max i j from by omega,show j + (-(j:Int) - -((max i j:Nat):Int)).toNat=max i j from by omega,compare_mul]
theorem order_num {e:Datum} {b:Int} (s:Bool) (m j:Nat) (he:Is e b):(Datum.number s m (-(j:Int))).order e=some (compare (sg s m) (b * 2 ^ j)):=by
 obtain ⟨t,i,rfl,ht⟩:=he
 have hb:min (-(j:Int)) (-(i:Int))=-((max i j:Nat):Int):=by omega
 simp only [Datum.order]
 rw [hb,signed_is i _ ht]
 have e1:signed s m (-(j:Int) - -((max i j:Nat):Int)).toNat=sg s m * 2 ^ (max i j - j):=by
  unfold signed sg
  rw [Nat.shiftLeft_eq,show (-(j:Int) - -((max i j:Nat):Int)).toNat=max i j - j from by omega]
  cases s<;>simp [Int.neg_mul]
 rw [e1,show i + (-(i:Int) - -((max i j:Nat):Int)).toNat=j + (max i j - j) from by omega,Int.pow_add,← Int.mul_assoc,compare_mul]
end Flo
end Go.Proofs.YtgddkgbidhhheaaGreatDoor
namespace Go.Proofs.YtgddkgbidhhheaaGreatDoor
namespace Flo
open Ieee
theorem cutz (s:Bool) (m d:Nat):Toward.zero.cut s m d=m / 2 ^ d:=by
 unfold Toward.cut
 simp only [Nat.one_shiftLeft,Bool.toNat_false,Nat.add_zero]
 by_cases h:d≤m.log2 + 2
 ·rw [Nat.min_eq_left h]
 ·rw [Nat.min_eq_right (by omega)]
  have h2:=@Nat.lt_log2_self m
  have h3:2 ^ (m.log2 + 1)≤2 ^ (m.log2 + 2):=Nat.pow_le_pow_right (by omega) (by omega)
  have h4:2 ^ (m.log2 + 2)≤2 ^ d:=Nat.pow_le_pow_right (by omega) (by omega)
  rw [Nat.div_eq_of_lt (by omega),Nat.div_eq_of_lt (by omega)]
theorem signed0 (s:Bool) (m:Nat):signed s m 0=sg s m:=by unfold signed sg; cases s<;>simp
theorem toInt_num (s:Bool) (m j:Nat):(Datum.number s m (-(j:Int))).toInt .zero=some (sg s (m / 2 ^ j)):=by
 unfold Datum.toInt Datum.integral
 simp only [show (-(j:Int)).toNat=0 from by omega,Nat.shiftLeft_zero,cutz,signed0,show (-(-(j:Int))).toNat=j from by omega]
theorem toInt_is {d:Datum} {n:Int} (h:Is d n):d.toInt .zero=some n:=by
 obtain ⟨s,j,rfl,hs⟩:=h
 rw [toInt_num,Nat.mul_div_cancel _ (Nat.two_pow_pos j)]
 by_cases h0:n=0
 ·subst h0; cases s<;>simp [sg]
 ·rw [hs h0]; by_cases hn:n < 0<;>simp [sg,hn]<;>omega
def numOf (b:Nat):Option Int:=
 match (double.read b).toInt .zero with
 | some n=>if (-16777216≤n∧n≤16777216)∧W n=b then some n else none
 | none=>none
theorem numOf_some {b:Nat} {n:Int}:numOf b=some n↔(-16777216≤n∧n≤16777216)∧b=W n:=by
 unfold numOf
 constructor
 ·intro h
  split at h
  ·split at h
   ·rename_i hc; cases h; exact ⟨hc.1,hc.2.symm⟩
   ·cases h
  ·cases h
 ·rintro ⟨hn,rfl⟩
  rw [toInt_is (isW_read (by omega) (W_isW n))]
  simp [hn]
theorem numOf_W {n:Int} (h:-16777216≤n∧n≤16777216):numOf (W n)=some n:=numOf_some.2 ⟨h,rfl⟩
theorem numOf_rng {b:Nat} {n:Int} (h:numOf b=some n):-16777216≤n∧n≤16777216:=(numOf_some.1 h).1
theorem numOf_eq {b:Nat} {n:Int} (h:numOf b=some n):b=W n:=(numOf_some.1 h).2
theorem read_number {b:Nat} {s:Bool} {m:Nat} {p:Int} (h:double.read b=.number s m p) :
  (m < 4503599627370496∧p=-1074∧b % 9223372036854775808=m) ∨
  (4503599627370496≤m∧m < 9007199254740992∧-1074≤p∧b % 9223372036854775808=(p + 1074).toNat * 4503599627370496 + m∧b % 9223372036854775808 < 2047 * 4503599627370496):=by
 unfold Format.read at h
 rw [sw_eq,binade_eq,inf_eq,lp_eq] at h
 dsimp only at h
 split at h
 ·rename_i hl; cases h; exact .inl ⟨hl,rfl,rfl⟩
 ·split at h
  ·rename_i h1 h2; cases h
   refine .inr ⟨by omega,by omega,by omega,?_,h2⟩
   omega
  ·split at h<;>cases h
theorem read_neg {b:Nat} {s:Bool} {m:Nat} {p:Int} (h:double.read b=.number s m p):s=(b / 9223372036854775808 % 2 == 1):=by
 unfold Format.read at h
 rw [sw_eq] at h
 dsimp only at h
 split at h
 ·cases h; rfl
 ·split at h
  ·cases h; rfl
  ·split at h<;>cases h
theorem write_read {b:Nat} {s:Bool} {m:Nat} {p:Int} (hb:b < 18446744073709551616) (h:double.read b=.number s m p):double.nearest s m p=b:=by
 have hs:=read_neg h
 have hw:∀ r,b % 9223372036854775808=r→double.word s r=b:=by
  intro r hr
  rw [word_eq]; subst hr
  have:b / 9223372036854775808=0∨b / 9223372036854775808=1:=by omega
  rcases this with h1 | h1
  ·have e:s=false:=by rw [hs,h1]; rfl
   rw [e]; simp only [Bool.false_eq_true,if_false]; omega
  ·have e:s=true:=by rw [hs,h1]; rfl
   rw [e]; simp only [if_true]; unfold NZ; omega
 unfold Format.nearest
 rcases read_number h with ⟨h1,rfl,h2⟩ | ⟨h1,h2,h3,h4,h5⟩
 ·by_cases h0:m=0
  ·subst h0; simp; exact hw 0 h2
  ·rw [if_neg h0]
   have hl:m.log2 < 52:=by
    have:=(Nat.log2_lt h0 (k:=52)).2 (by omega); omega
   have e1:max (-1074 + (m.log2:Int) - (double.fractionBits:Int)) (-1074)=-1074:=by
    simp only [double]; omega
   simp only [lp_eq,binade_eq,inf_eq,e1]
   rw [show ((-1074:Int) - -1074).toNat=0 from by omega,Nat.shiftLeft_zero,cut_zero,Nat.min_eq_left (by omega)]
   exact hw _ (by omega)
 ·have h0:m≠0:=by omega
  rw [if_neg h0]
  have hl:m.log2=52:=by
   rw [Nat.log2_eq_iff h0]; omega
  have e1:max (p + (m.log2:Int) - (double.fractionBits:Int)) (-1074)=p:=by
   rw [hl]; simp only [double]; omega
  simp only [lp_eq,binade_eq,inf_eq,e1]
  have hq:(p - -1074).toNat=(p + 1074).toNat:=by omega
  rw [show (p - p).toNat=0 from by omega,Nat.shiftLeft_zero,cut_zero,hq,← h4,Nat.min_eq_left (by omega)]
  exact hw _ rfl
def truncB (b:Nat):Nat:=double.write ((double.read b).integral .zero)
theorem order_big {e:Datum} {b:Int} (s:Bool) (m:Nat) (p:Int) (hp:0≤p) (he:Is e b):(Datum.number s m p).order e=some (compare (sg s (m * 2 ^ p.toNat)) b):=by
 have h:=order_num s (m * 2 ^ p.toNat) 0 he
 rw [Int.pow_zero,Int.mul_one] at h
 rw [← h]
 obtain ⟨t,i,rfl,ht⟩:=he
 have hb:min p (-(i:Int))=-(i:Int):=by omega
 have hb2:min (-((0:Nat):Int)) (-(i:Int))=-(i:Int):=by omega
 simp only [Datum.order]
 rw [hb,hb2]
 congr 2
 unfold signed
 rw [Nat.shiftLeft_eq,Nat.shiftLeft_eq,Nat.mul_assoc,← Nat.pow_add,show p.toNat + (-((0:Nat):Int) - -(i:Int)).toNat=(p - -(i:Int)).toNat from by omega]
theorem cmp_eq (a b:Int):(some (compare a b) == some Ordering.eq)=decide (a=b):=by
 rcases Int.lt_trichotomy a b with h | h | h
 ·rw [Int.compare_eq_lt.2 h]; simp; omega
 ·rw [Int.compare_eq_eq.2 h]; simp [h]
 ·rw [Int.compare_eq_gt.2 h]; simp; omega
theorem cmp_gt (a b:Int):(some (compare a b) == some Ordering.gt)=decide (b < a):=by
 rcases Int.lt_trichotomy a b with h | h | h
 ·rw [Int.compare_eq_lt.2 h]; simp; omega
 ·rw [Int.compare_eq_eq.2 h]; simp [h]
 ·rw [Int.compare_eq_gt.2 h]; simp; omega
theorem cmp_lt (a b:Int):(some (compare a b) == some Ordering.lt)=decide (a < b):=by
 rcases Int.lt_trichotomy a b with h | h | h
 ·rw [Int.compare_eq_lt.2 h]; simp; omega
 ·rw [Int.compare_eq_eq.2 h]; simp [h]
 ·rw [Int.compare_eq_gt.2 h]; simp; omega
theorem cmp_ge (a b:Int):(some (compare a b) == some Ordering.gt || some (compare a b) == some Ordering.eq)=decide (b≤a):=by
 rw [cmp_gt,cmp_eq,Bool.eq_iff_iff]; simp; omega
theorem cmp_le (a b:Int):(some (compare a b) == some Ordering.lt || some (compare a b) == some Ordering.eq)=decide (a≤b):=by
 rw [cmp_lt,cmp_eq,Bool.eq_iff_iff]; simp; omega
def NM:Nat:=13938640846711685120
def PM:Nat:=4715268809856909312
theorem is_NM:Is (double.read NM) (-16777216):=isW_read (by decide) (.inl (by decide +kernel))
theorem is_PM:Is (double.read PM) 16777216:=isW_read (by decide) (.inl (by decide +kernel))
theorem is_0:Is (double.read 0) 0:=isW_read (by decide) (.inl (by decide +kernel))
abbrev ord (a b:Nat):Option Ordering:=FloatKind.f64.format.order a b
def geB (b:Nat):Bool:=ord b NM == some .gt || ord b NM == some .eq
def leB (b:Nat):Bool:=ord b PM == some .lt || ord b PM == some .eq
def wholeB (b:Nat):Bool:=ord b (truncB b) == some .eq
def zeroB (b:Nat):Bool:=ord b 0 == some .eq
theorem ord_eq (a b:Nat):ord a b=(double.read a).order (double.read b):=rfl
theorem sg_abs (s:Bool) (m:Nat):(sg s m).natAbs=m:=by cases s<;>simp [sg]
theorem sg_inj (s:Bool) (a b:Nat):sg s a=sg s b↔a=b:=by cases s<;>simp only [sg,Bool.false_eq_true,if_false,if_true]<;>omega
theorem sg_rng (s:Bool) (k:Nat) (h:k≤16777216):-16777216≤sg s k∧sg s k≤16777216:=by cases s<;>simp only [sg,Bool.false_eq_true,if_false,if_true]<;>omega
theorem sg_mul (s:Bool) (a j:Nat):sg s a * 2 ^ j=sg s (a * 2 ^ j):=by cases s<;>simp [sg,Int.neg_mul]
theorem R_sg (s:Bool) (k:Nat) (h0:k≠0) (h:k < 9007199254740992):R s k=W (sg s k):=by
 rw [W_eq _ (by rw [sg_abs]; exact h),sg_abs]
 congr 1; cases s<;>simp [sg]; omega
theorem near_num {b:Nat} (h1:geB b=true) (h2:leB b=true):∃ (s:Bool) (m j:Nat),double.read b=.number s m (-(j:Int))∧m / 2 ^ j≤16777216:=by
 unfold geB at h1; unfold leB at h2
 rw [ord_eq] at h1 h2
 cases hr:double.read b with
 | nan s t=>rw [hr] at h1; simp [Datum.order] at h1
 | infinity s=>
  rw [hr] at h1 h2
  obtain ⟨_,_,e1,_⟩:=is_NM; rw [e1] at h1
  obtain ⟨_,_,e2,_⟩:=is_PM; rw [e2] at h2
  cases s<;>simp [Datum.order] at h1 h2
 | number s m p=>
  rw [hr] at h1 h2
  by_cases hp:0≤p
  ·rw [order_big s m p hp is_NM,cmp_ge] at h1
   rw [order_big s m p hp is_PM,cmp_le] at h2
   rcases read_number hr with ⟨_,h,_⟩ | ⟨h,_⟩
   ·omega
   ·have:1≤2 ^ p.toNat:=Nat.two_pow_pos _
    have:m≤m * 2 ^ p.toNat:=Nat.le_mul_of_pos_right _ (by omega)
    simp only [decide_eq_true_eq] at h1 h2
    cases s<;>simp only [sg,Bool.false_eq_true,if_false,if_true] at h1 h2<;>omega
  ·obtain ⟨j,rfl⟩:∃ j:Nat,p=-(j:Int):=⟨(-p).toNat,by omega⟩
   refine ⟨s,m,j,rfl,?_⟩
   rw [order_num s m j is_NM,cmp_ge] at h1
   rw [order_num s m j is_PM,cmp_le] at h2
   simp only [decide_eq_true_eq] at h1 h2
   have hm:m≤16777216 * 2 ^ j:=by
    have e:((16777216 * 2 ^ j:Nat):Int)=16777216 * 2 ^ j:=by simp
    cases s<;>simp only [sg,Bool.false_eq_true,if_false,if_true] at h1 h2<;>omega
   exact Nat.div_le_of_le_mul (by rw [Nat.mul_comm]; exact hm)
theorem trunc_num {b:Nat} {s:Bool} {m j:Nat} (h:double.read b=.number s m (-(j:Int))) (hk:m / 2 ^ j≤16777216):truncB b=R s (m / 2 ^ j):=by
 unfold truncB
 rw [h]
 unfold Datum.integral
 simp only [show (-(j:Int)).toNat=0 from by omega,Nat.shiftLeft_zero,cutz,show (-(-(j:Int))).toNat=j from by omega]
 have:=nearest_val s (m / 2 ^ j) 0 (by omega)
 simpa [Format.write] using this
theorem num_whole {b:Nat} {s:Bool} {m j:Nat} (hb:b < 18446744073709551616) (h:double.read b=.number s m (-(j:Int))) (hk:m / 2 ^ j≤16777216) (e:m=m / 2 ^ j * 2 ^ j):b=R s (m / 2 ^ j):=by
 have:=write_read hb h
 rw [e,nearest_val s _ j (by omega)] at this
 rw [← this]
theorem W_geB {n:Int} (h:-16777216≤n∧n≤16777216):geB (W n)=true∧leB (W n)=true∧wholeB (W n)=true∧(zeroB (W n)=true→W n=0):=by
 have hi:=isW_read (n:=n) (by omega) (W_isW n)
 refine ⟨?_,?_,?_,?_⟩
 ·unfold geB; rw [ord_eq,order_is hi is_NM,cmp_ge]; simp; omega
 ·unfold leB; rw [ord_eq,order_is hi is_PM,cmp_le]; simp; omega
 ·unfold wholeB
  have:truncB (W n)=W n:=by
   obtain ⟨s,j,hr,hs⟩:=hi
   have e:n.natAbs * 2 ^ j / 2 ^ j=n.natAbs:=Nat.mul_div_cancel _ (Nat.two_pow_pos j)
   rw [trunc_num hr (by rw [e]; omega)]
   exact (num_whole (W_lt n (by omega)) hr (by rw [e]; omega) (by rw [e])).symm
  rw [this,ord_eq,order_is hi hi,cmp_eq]; simp
 ·intro h0
  unfold zeroB at h0
  rw [ord_eq,order_is hi is_0,cmp_eq] at h0
  obtain rfl:n=0:=by simpa using h0
  decide +kernel
theorem plain_eq (b:Nat) (hb:b < 18446744073709551616) :
  (numOf b).isSome=(geB b && leB b && wholeB b && (!zeroB b || !decide (9223372036854775808≤b))):=by
 cases hn:numOf b with
 | some n=>
  obtain ⟨hr,rfl⟩:=numOf_some.1 hn
  obtain ⟨h1,h2,h3,h4⟩:=W_geB hr
  rw [h1,h2,h3]
  cases hz:zeroB (W n) with
  | false=>rfl
  | true=>rw [h4 hz]; rfl
 | none=>
  symm
  by_cases h1:geB b=true
  ·by_cases h2:leB b=true
   ·obtain ⟨s,m,j,hr,hk⟩:=near_num h1 h2
    cases h3:wholeB b with
    | false=>simp
    | true=>
     unfold wholeB at h3
     rw [trunc_num hr hk,ord_eq,hr,order_num s m j (is_R s _ (by omega)),cmp_eq,sg_mul] at h3
     simp only [decide_eq_true_eq,sg_inj] at h3
     have hbR:=num_whole hb hr hk h3
     by_cases h0:m / 2 ^ j=0
     ·rw [h0] at hbR
      cases s with
      | false=>
       have:numOf b=some 0:=numOf_some.2 ⟨by omega,by rw [hbR]; decide +kernel⟩
       rw [this] at hn; cases hn
      | true=>
       rw [hbR]; simp [R]; intro _; decide +kernel
     ·rw [R_sg s _ h0 (by omega)] at hbR
      have:numOf b=some (sg s (m / 2 ^ j)):=numOf_some.2 ⟨sg_rng s _ hk,hbR⟩
      rw [this] at hn; cases hn
   ·simp [h2]
  ·simp [h1]
theorem trunc_ok {b:Nat} (h1:geB b=true):(double.read b).isNaN=false:=by
 unfold geB at h1
 rw [ord_eq] at h1
 cases hr:double.read b with
 | nan s t=>rw [hr] at h1; simp [Datum.order] at h1
 | infinity s=>rfl
 | number s m p=>rfl
end Flo
end Go.Proofs.YtgddkgbidhhheaaGreatDoor
namespace Go.Proofs.YtgddkgbidhhheaaGreatDoor
namespace Flo
open Ieee
def fr (k:Nat):Nat:=k * 2 ^ (52 - k.log2) - 4503599627370496
end Flo
end Go.Proofs.YtgddkgbidhhheaaGreatDoor
namespace Go.Proofs.YtgddkgbidhhheaaGreatDoor
namespace Flo
def numC (a b:Nat):Option (Int × Int):=
 match numOf a,numOf b with
 | some x,some y=>some (x,y)
 | _,_=>none
theorem numC_some {a b:Nat} {x y:Int} (h:numC a b=some (x,y)):numOf a=some x∧numOf b=some y:=by
 unfold numC at h
 cases ha:numOf a with
 | none=>simp [ha] at h
 | some u=>cases hb:numOf b with
  | none=>simp [ha,hb] at h
  | some v=>simp [ha,hb] at h; exact ⟨by rw [h.1],by rw [h.2]⟩
theorem numC_W {x y:Int} (hx:-16777216≤x∧x≤16777216) (hy:-16777216≤y∧y≤16777216):numC (W x) (W y)=some (x,y):=by
 unfold numC; rw [numOf_W hx,numOf_W hy]
def okR (x y:Int):Bool:=decide (-16777216≤x) && decide (x≤16777216) && (decide (-16777216≤y) && decide (y≤16777216))
theorem okR_iff {x y:Int}:okR x y=true↔(-16777216≤x∧x≤16777216)∧(-16777216≤y∧y≤16777216):=by
 unfold okR; simp [Bool.and_eq_true,decide_eq_true_eq,and_assoc]
abbrev Ans:=(Int × Int) × Int
def bnd (x y:Int):Ans:=if okR x y=true then ((x,y),0) else ((0,0),50)
theorem make_pos {x y:Int} (h:okR x y=true):(if okR x y=true then ((x,y),0) else ((0,0),2):Ans)=((x,y),0):=if_pos h
theorem make_neg {x y:Int} (h:okR x y=false):(if okR x y=true then ((x,y),0) else ((0,0),2):Ans)=((0,0),2):=if_neg (by rw [h]; decide)
theorem W0:W 0=0:=by decide +kernel
def shp:Ans:=((0,0),3)
def quo (a b c d:Int):Ans:=
 if c=0∧d=0 then ((0,0),51)
 else if (a * c + b * d).tmod (c * c + d * d)=0∧(b * c - a * d).tmod (c * c + d * d)=0 then bnd ((a * c + b * d).tdiv (c * c + d * d)) ((b * c - a * d).tdiv (c * c + d * d))
 else ((0,0),51)
def gMake (x y:Int):Ans:=if okR x y=true then ((x,y),0) else ((0,0),2)
theorem plain_cases (b:Nat) (hb:b < 18446744073709551616) :
  (numOf b).isSome=(geB b && leB b && wholeB b && (!zeroB b || !decide (9223372036854775808≤b))):=plain_eq b hb
end Flo
end Go.Proofs.YtgddkgbidhhheaaGreatDoor
namespace Go.Proofs.YtgddkgbidhhheaaGreatDoor
namespace Flo
def textL (x y:Int):List UInt8:=
 if y=0 then Lib.itoa x
 else if x=0 then Lib.itoa y++[105]
 else if 0 < y then Lib.itoa x++[43]++Lib.itoa y++[105]
 else Lib.itoa x++Lib.itoa y++[105]
theorem ba_app (l m:List UInt8):(⟨l.toArray⟩:ByteArray)++⟨m.toArray⟩=⟨(l++m).toArray⟩:=by
 apply ByteArray.ext; simp [ByteArray.data_append]
theorem itoa_len {n:Int} (h:-16777216≤n∧n≤16777216):(Lib.itoa n).length≤21:=Lib.itoa_length_le n (by omega) (by omega)
end Flo
end Go.Proofs.YtgddkgbidhhheaaGreatDoor
