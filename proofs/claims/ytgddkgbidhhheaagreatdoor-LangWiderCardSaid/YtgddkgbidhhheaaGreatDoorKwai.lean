/- Texts joined: Am2. -/
import Derived.Test.YtgddkgbidhhheaaGreatDoorKwah
import Derived.Maps.AppendAt
import Derived.Lib.AppendStr
import Derived.Laws.OwnMore
import Derived.Lib.ConvBytes
import Derived.Lib.UnsafeStr
set_option linter.unusedVariables false
set_option linter.unusedSimpArgs false
namespace Go.Proofs.YtgddkgbidhhheaaGreatDoor
open Go.RowKit
namespace Ab
section
variable {P:Program}
def isTup:AV→Bool
 | .tup _=>true
 | _=>false
def fillA (place:Nat→Option (Nat × Nat)):List AV→List (Nat × AV)→Option (List AV)
 | cs,[]=>some cs
 | cs,(i,x) :: r=>match place i with
  | some (off,sz)=>if (cellsA x).length=sz∧off + sz≤cs.length∧isTup x=false then fillA place (splice cs (cellsA x) off) r else none
  | none=>none
def evP (F:Fr):List (Nat × Opd)→Option (List (Nat × AV))
 | []=>some []
 | (i,p) :: r=>match opd F p,evP F r with
  | some x,some xs=>some ((i,x) :: xs)
  | _,_=>none
def cParts:List (Nat × Operand)→Option (List (Nat × Opd))
 | []=>some []
 | (i,o) :: r=>match cOpd o,cParts r with
  | some p,some ps=>some ((i,p) :: ps)
  | _,_=>none
theorem fold_set (off:Nat):∀ (vs:List Value) (k:Nat) (cs:Array Value),off + k + vs.length≤cs.size →
  ((vs.zipIdx k).foldl (fun (cs:Array Value) (x:Value × Nat)=>cs.setIfInBounds (off + x.2) x.1) cs).toList=cs.toList.take (off + k)++vs++cs.toList.drop (off + k + vs.length)
 | [],k,cs,h=>by simp
 | v :: vs,k,cs,h=>by
  simp only [List.length_cons] at h
  rw [List.zipIdx_cons,List.foldl_cons,fold_set off vs (k + 1) _ (by simp; omega)]
  simp only [Array.toList_setIfInBounds]
  have hk:off + k < cs.toList.length:=by simp; omega
  apply List.ext_getElem?
  intro j
  simp only [List.append_assoc,List.getElem?_append,List.length_take,List.length_set,List.getElem?_take,List.getElem?_set,List.getElem?_drop,List.length_cons]
  by_cases h1:j < off + k
  ·have a1:j < min (off + (k + 1)) cs.toList.length:=by omega
   have a2:j < min (off + k) cs.toList.length:=by omega
   rw [if_pos a1,if_pos a2,if_pos (by omega),if_pos h1,if_neg (by omega)]
  ·by_cases h2:j=off + k
   ·subst h2
    rw [if_pos (show off + k < min (off + (k + 1)) cs.toList.length by omega),if_pos (by omega),if_pos rfl,if_pos hk,if_neg (by omega),if_pos (by omega)]
    have:off + k - min (off + k) cs.toList.length=0:=by omega
    rw [this]; rfl
   ·have e1:min (off + (k + 1)) cs.toList.length=off + k + 1:=by omega
    have e2:min (off + k) cs.toList.length=off + k:=by omega
    rw [e1,e2,if_neg (by omega),if_neg (show ¬ j < off + k by omega)]
    by_cases h3:j < off + k + 1 + vs.length
    ·rw [if_pos (by omega),if_pos (by omega)]
     have:j - (off + k)=(j - (off + k + 1)) + 1:=by omega
     rw [this,List.getElem?_cons_succ]
    ·rw [if_neg (by omega),if_neg (by omega),if_neg (by omega)]
     congr 1; omega
theorem fill_ok {c:Cx} {F:Fr} {a:Act} (hF:RF c F a) (place:Nat→Option (Nat × Nat)):∀ (ps:List (Nat × Operand)) (qs:List (Nat × Opd)),cParts ps=some qs→∀ (xs:List (Nat × AV)),evP F qs=some xs →
  ∀ (cs:List AV) (us:List Value),RL c cs us→∀ (cs':List AV),fillA place cs xs=some cs'→∃ us':List Value,Instr.fill place us.toArray (ps.map fun x=>(x.1,a.eval x.2))=some us'.toArray∧RL c cs' us'
 | [],qs,h,xs,hx,cs,us,hrl,cs',hf=>by
  cases h; cases hx; cases hf
  exact ⟨us,rfl,hrl⟩
 | (i,o) :: ps,qs,h,xs,hx,cs,us,hrl,cs',hf=>by
  simp only [cParts] at h
  split at h
  ·rename_i p ps' hp hps
   cases h
   simp only [evP] at hx
   split at hx
   ·rename_i x xs' hxp hxs
    cases hx
    simp only [fillA] at hf
    split at hf
    ·rename_i off sz hpl
     split at hf
     ·rename_i hc
      obtain ⟨c1,c2,c3⟩:=hc
      have hv:=cells_ok (cOpd_ok hF hp hxp) (fun xs e=>by subst e; cases c3)
      have hsz:(a.eval o).cells.size=sz:=by rw [← c1,← hv.len]; simp
      have hfit:off + 0 + (a.eval o).cells.toList.length≤us.toArray.size:=by simp; rw [hsz,hrl.len]; exact c2
      have hfs:=fold_set off (a.eval o).cells.toList 0 us.toArray hfit
      obtain ⟨us',h1,h2⟩:=fill_ok hF place ps ps' hps xs' hxs (splice cs (cellsA x) off) _ (splice_rl hrl hv) cs' hf
      refine ⟨us',?_,h2⟩
      simp only [List.map_cons,Instr.fill,hpl,hsz,List.size_toArray,hrl.len]
      rw [if_neg (by simp; omega),← h1]
      congr 1
      apply Array.ext'
      rw [← Array.foldl_toList,Array.toList_zipIdx,hfs]
      simp
     ·cases hf
    ·cases hf
   ·cases hx
  ·cases h
def plc (P:Program):List Field→Option (List (Nat × Nat))
 | []=>some []
 | f :: r=>match P.info? f.type,plc P r with
  | some i,some l=>some ((f.offset,i.size) :: l)
  | _,_=>none
theorem run_places (w:World):∀ (fs:List Field) (l:List (Nat × Nat)),plc P fs=some l→(fs.mapM fun f=>(do pure (f.offset,← sizeOf f.type):Sem (Nat × Nat))).run P w=.ok l w
 | [],l,h=>by cases h; simp
 | f :: r,l,h=>by
  simp only [plc] at h
  split at h
  ·rename_i i l' hi hl
   cases h
   rw [List.mapM_cons]
   simp only [Sem.run_bind,Sem.run_pure,run_sizeOf' hi,Result.andThen_ok,run_places w r l' hl]
  ·cases h
def sBld (d:Nat) (zs:List AV) (pl:List (Nat × Nat)) (ps:List (Nat × Opd)) (F:Fr) (H:List Ob) (K:Fr→List Ob→Prop):Prop:=
 match evP F ps with
 | some xs=>match fillA (fun i=>pl[i]?) zs xs with
  | some cs=>K (upd F d (.agg cs)) H
  | none=>False
 | none=>False
theorem ok_bld {N:Nat} {o:Oper} {t:TypeId} {i:TypeInfo} {z:Value} {fs:Array Field} {pl:List (Nat × Nat)} {ps:Array (Nat × Operand)} {qs:List (Nat × Opd)} {d:Nat} (ho:o.op=.build t ps) (hd:o.dst=some d) (hdN:d < N) (hi:P.info? t=some i) (hz:i.zero=some z)
  (hf:z.cells.toList.all flat=true) (hu:P.underlying t=some (.struct fs)) (hpl:plc P fs.toList=some pl) (hq:cParts ps.toList=some qs):OpOk P N o (sBld d (z.cells.toList.map .v) pl qs):=by
 intro w0 ds c a F H K Q hS hF hN hds h
 unfold sBld at h
 split at h
 ·rename_i xs hxs
  split at h
  ·rename_i cs hcs
   obtain ⟨us',h1,h2⟩:=fill_ok hF (fun i=>pl[i]?) ps.toList qs hq xs hxs _ _ (RL.ofFlat hf) cs hcs
   refine wp_val (u:=.agg us'.toArray) (w':=c.w) ?_ ?_
   ·have hp:=run_places (P:=P) c.w fs.toList pl hpl
    have hm:(fs.mapM fun f=>(do pure (f.offset,← sizeOf f.type):Sem (Nat × Nat))).run P c.w=.ok pl.toArray c.w:=by
     rw [Array.mapM_eq_mapM_toList,Sem.run_map,hp]; rfl
    have h1':Instr.fill (fun i=>pl.toArray[i]?) z.cells ((ps.map fun x=>(x.1,a.eval x.2)).toList)=some us'.toArray:=by
     have:(ps.map fun x=>(x.1,a.eval x.2)).toList=ps.toList.map fun x=>(x.1,a.eval x.2):=by simp
     rw [this]
     simpa using h1
    simp only [execOp,ho,Instr.build,Sem.run_bind,zeroValue,typeInfo,run_program,Result.andThen_ok,hi,hz,Sem.run_pure,run_underlying hu,hm]
    rw [show (fun x:Nat=>pl.toArray[x]?)=fun i=>pl.toArray[i]? from rfl,h1']
    rfl
   ·rw [hd]; exact fin_same hS hF hN hds hdN (.agg _ _ h2.len h2.one h2.at') h
  ·exact h.elim
 ·exact h.elim
end
end Ab
end Go.Proofs.YtgddkgbidhhheaaGreatDoor
namespace Go.Proofs.YtgddkgbidhhheaaGreatDoor
open Go.RowKit
namespace Ab
section
variable {P:Program}
theorem own_new {w0 : World} {c : Cx} {H : List Ob} (hS : St w0 c H) {cs : List AV} {us : List Value} {e sz n cap : Nat} {w1 : World} {g : Nat} (hg : c.w.heap.size ≤ g)
    (hown : OwnsM w1 e sz (.slice (some ⟨g, 0, none⟩) n cap) n us) (hgr : c.w.grownBy w1 none) (hrl : RDL c.w c.M cs us) :
    St w0 (c.push w1 g (.slice (some ⟨g, 0, none⟩) n cap)) (H ++ [.own e sz n cs]) ∧ Step c H (c.push w1 g (.slice (some ⟨g, 0, none⟩) n cap)) (H ++ [.own e sz n cs]) :=
  push_new hS (.own e sz n cs) hg (hown.lt rfl) hgr.os hgr.tape hgr.output (fun b hb => hgr.block b hb (by simp)) (fun hle => by
    refine ⟨.inr rfl, us, ?_, ?_, hrl.le hle, ?_⟩
    · rw [c.push_sv]; exact hown
    · rw [c.push_sv, c.push_β]; rfl
    · rw [c.push_β]; exact .inr rfl)
theorem row_rv {c:Cx} {w1:World} {g:Nat} {V:Value} (h1:V.oneCell'=true):RV (c.push w1 g V) (.row c.k) V:=by
 have:=RV.row (c:=c.push w1 g V) c.k (.inr rfl) (by rw [c.push_sv]; exact h1)
 rwa [c.push_sv] at this
def sBsl (d e sz n:Nat) (zs:List AV) (ps:List (Nat × Opd)) (F:Fr) (H:List Ob) (K:Fr→List Ob→Prop):Prop:=
 match evP F ps with
 | some xs=>match fillA (fun i=>some (i * sz,sz)) zs xs with
  | some cs=>(frzL H cs).2.all deep1=true∧K (upd F d (.row (frzL H cs).1.length)) ((frzL H cs).1++[.own e sz n (frzL H cs).2])
  | none=>False
 | none=>False
def zeroRow (z:Array Value) (m:Nat):List Value:=(List.range m).map fun j=>z[j % z.size]!
theorem run_bsl {o:Oper} {t e:TypeId} {n:Nat} {i:TypeInfo} {z:Value} {ps:Array (Nat × Operand)} {a:Act} (ho:o.op=.buildSlice t n ps) (hu:P.underlying t=some (.slice e)) (hi:P.info? e=some i) (hz:i.zero=some z)
  (h24:n * i.size≤16777216) {us':List Value} (h1:Instr.fill (fun j=>some (j * i.size,i.size)) (zeroRow z.cells (n * i.size)).toArray (ps.toList.map fun x=>(x.1,a.eval x.2))=some us'.toArray) (w:World) :
  (execOp a.eval o).run P w=.ok (.value (.slice (some ⟨w.heap.size,0,none⟩) n n)) (w.alloc (.cells us'.toArray e)):=by
 have h1':Instr.fill (fun j=>some (j * i.size,i.size)) (zeroRow z.cells (n * i.size)).toArray ((ps.map fun x=>(x.1,a.eval x.2)).toList)=some us'.toArray:=by
  have:(ps.map fun x=>(x.1,a.eval x.2)).toList=ps.toList.map fun x=>(x.1,a.eval x.2):=by simp
  rw [this]; exact h1
 have hzr:∀ (zz:Array Value),(n * i.size=0∨zz=z.cells)→(Array.range (n * i.size)).map (fun j=>zz[j % zz.size]!)=(zeroRow z.cells (n * i.size)).toArray:=by
  intro zz hzz
  apply Array.ext'
  rcases hzz with h0 | rfl
  ·rw [h0]; simp [zeroRow]
  ·simp [zeroRow,Array.toList_range]
 have h24':¬ (n * i.size > 2 ^ 24):=by omega
 have kf:∀ (zz:Array Value),(n * i.size=0∨zz=z.cells)→Instr.fill (fun j=>some (j * i.size,i.size)) ((Array.range (n * i.size)).map (fun j=>zz[j % zz.size]!)) ((ps.map fun x=>(x.1,a.eval x.2)).toList)=some us'.toArray:=fun zz hh=>by rw [hzr zz hh]; exact h1'
 simp only [execOp,ho,Instr.buildSlice,Sem.run_bind,run_underlying hu,Result.andThen_ok,run_sizeOf' hi,if_neg h24']
 by_cases h0:n * i.size=0
 ·rw [if_pos h0]
  simp only [pure_bind,kf #[] (.inl h0)]
  simp [newRow]
 ·rw [if_neg h0]
  simp only [Sem.run_bind,zeroValue,typeInfo,run_program,Result.andThen_ok,hi,hz,Sem.run_pure,kf _ (.inr rfl)]
  simp [newRow]
theorem fillA_len {place:Nat→Option (Nat × Nat)}:∀ {x0:List (Nat × AV)} {c0 c1:List AV},fillA place c0 x0=some c1→c1.length=c0.length
 | [],c0,c1,h=>by cases h; rfl
 | (i,y) :: r,c0,c1,h=>by
  simp only [fillA] at h
  split at h
  ·split at h
   ·rename_i hc
    rw [fillA_len h]
    unfold splice
    simp; omega
   ·cases h
  ·cases h
theorem ok_bsl {N:Nat} {o:Oper} {t e:TypeId} {n:Nat} {i:TypeInfo} {z:Value} {ps:Array (Nat × Operand)} {qs:List (Nat × Opd)} {d:Nat} (ho:o.op=.buildSlice t n ps) (hd:o.dst=some d) (hdN:d < N) (hu:P.underlying t=some (.slice e)) (hi:P.info? e=some i) (hz:i.zero=some z)
  (hf:(zeroRow z.cells (n * i.size)).all flat=true) (h24:n * i.size≤16777216) (hn:n≤maxLen) (hq:cParts ps.toList=some qs):OpOk P N o (sBsl d e i.size n ((zeroRow z.cells (n * i.size)).map .v) qs):=by
 intro w0 ds c a F H K Q hS hF hN hds h
 unfold sBsl at h
 split at h
 ·rename_i xs hxs
  split at h
  ·rename_i cs hcs
   obtain ⟨hdp,hK⟩:=h
   obtain ⟨us',h1,h2⟩:=fill_ok hF (fun j=>some (j * i.size,i.size)) ps.toList qs hq xs hxs _ _ (RL.ofFlat hf) cs hcs
   have hlen:us'.length=n * i.size:=by
    rw [h2.len,fillA_len hcs]; simp [zeroRow]
   obtain ⟨c1,ew,s1,t1,v1⟩:=frzL_ok _ hS h2
   have hdl:=v1.rdl (fun x hx=>List.all_eq_true.1 hdp x hx)
   have hown:(c1.w.alloc (.cells us'.toArray e)).ownsRow 0 e i.size (.slice (some ⟨c1.w.heap.size,0,none⟩) n n) n us':=
    ⟨hlen,.inr ⟨c1.w.heap.size,n,us'.toArray,rfl,Nat.zero_le _,heap_alloc_new c1.w _,Nat.le_refl _,hn,by simp [hlen],by simp [← hlen]⟩⟩
   have hnew:=own_new s1 (Nat.le_refl _) (OwnsM.of hown rfl) (World.grownBy_alloc c1.w _ none) hdl
   refine wp_val (u:=.slice (some ⟨c1.w.heap.size,0,none⟩) n n) (w':=c1.w.alloc (.cells us'.toArray e)) ?_ ?_
   ·rw [ew]; exact run_bsl ho hu hi hz h24 h1 c.w
   ·rw [hd]
    have:=fin_to (F:=F) (a:=a) (K:=K) (N:=N) (ds:=ds) hnew (hF.le t1.le) hN hds hdN (row_rv rfl) (by rw [s1.k]; exact hK)
    obtain ⟨⟨c',F',H',q1,q2,q3,q4,q5,q6,q7⟩⟩:=this
    exact ⟨c',F',H',q1,t1.trans q2,q3,q4,q5,q6,q7⟩
  ·exact h.elim
 ·exact h.elim
def sMks (d e:Nat) (eb:Nat) (z:Value) (l:Opd) (F:Fr) (H:List Ob) (K:Fr→List Ob→Prop):Prop:=
 match opd F l with
 | some (.v (.int _ n))=>(0≤n∧n≤16777216)∧eb * n.toNat≤140737488355328∧K (upd F d (.row H.length)) (H++[.own e 1 n.toNat (List.replicate n.toNat (.v z))])
 | _=>False
theorem ok_mks {N : Nat} {o : Oper} {t e : TypeId} {i : TypeInfo} {z : Value} {l cp : Operand} {p q : Opd} {d : Nat} (ho : o.op = .makeSlice t l cp) (hd : o.dst = some d) (hdN : d < N) (hu : P.underlying t = some (.slice e)) (hi : P.info? e = some i) (hz : i.zero = some z)
    (hz1 : z.cells = #[z]) (hf : flat z = true) (hs1 : i.size = 1) (hl : cOpd l = some p) (hc : cOpd cp = some q) (hpq : ∀ F : Fr, opd F q = opd F p) : OpOk P N o (sMks d e i.bytes z p) := by
  intro w0 ds c a F H K Q hS hF hN hds h
  unfold sMks at h
  split at h
  · rename_i k n hy
    obtain ⟨⟨h0, hb⟩, hby, hK⟩ := h
    obtain ⟨m, rfl⟩ : ∃ m : Nat, n = (m : Int) := ⟨n.toNat, by omega⟩
    have e1 := (cOpd_ok hF hl hy).inv_v.1
    have e2 := (cOpd_ok hF hc (show opd F q = _ by rw [hpq]; exact hy)).inv_v.1
    simp only [Int.toNat_natCast] at hby hK
    obtain ⟨w1, hrun, hown, hgr⟩ := run_makeSlice_full (P := P) c.w 0 t e i z 1 hu hi hz hs1 k k m (by omega) (by omega) (by simp only [maxLen]; omega) (Nat.zero_le _)
    have hmade : (madeCells z.cells (m * 1)).toList = List.replicate m z := by
      rw [hz1]
      apply List.ext_getElem?
      intro j
      by_cases hj : j < m
      · simp [madeCells, hj, Nat.mod_one]
      · simp [madeCells, hj]
    rw [hmade] at hown
    have hdl : RDL c.w c.M (List.replicate m (.v z)) (List.replicate m z) := ⟨by simp, fun u hu => by rw [(List.mem_replicate.1 hu).2]; exact flat_one hf, fun j x u h1 h2 => by
      rw [List.getElem?_replicate] at h1 h2
      split at h1
      · rw [if_pos ‹_›] at h2; cases h1; cases h2; exact .v z hf
      · cases h1⟩
    have hnew := own_new hS (Nat.le_refl _) (OwnsM.of hown rfl) hgr hdl
    refine wp_val (u := .slice (some ⟨c.w.heap.size, 0, none⟩) m m) (w' := w1) ?_ ?_
    · simp [execOp, ho, e1, e2, hrun]
    · rw [hd]
      exact fin_to hnew hF hN hds hdN (row_rv rfl) (by rw [hS.k]; exact hK)
  · exact h.elim
theorem own_move {w0 : World} {c : Cx} {H : List Ob} (hS : St w0 c H) {i0 : Nat} {o0 : Ob} (hi0 : H[i0]? = some o0) (hl0 : o0.live = true) (hb0 : c.born i0) {cs : List AV} {us : List Value} {e sz n cap : Nat} {w1 : World} {g : Nat} (hg : g = c.β i0 ∨ c.w.heap.size ≤ g)
    (hown : OwnsM w1 e sz (.slice (some ⟨g, 0, none⟩) n cap) n us) (hgr : c.w.grownBy w1 (some (c.β i0))) (hrl : RDL c.w c.M cs us) :
    St w0 (c.push w1 g (.slice (some ⟨g, 0, none⟩) n cap)) (H.set i0 .gone ++ [.own e sz n cs]) ∧ Step c H (c.push w1 g (.slice (some ⟨g, 0, none⟩) n cap)) (H.set i0 .gone ++ [.own e sz n cs]) :=
  push_move hS (.own e sz n cs) hi0 hl0 hb0 hg (hown.lt rfl) hgr.size hgr.os hgr.tape hgr.output (fun b hb hne => hgr.block b hb (fun e => hne (Option.some.inj e))) (fun hle => by
    refine ⟨.inr rfl, us, ?_, ?_, hrl.le hle, ?_⟩
    · rw [c.push_sv]; exact hown
    · rw [c.push_sv, c.push_β]; rfl
    · rw [c.push_β]; exact .inr rfl)
theorem run_append_M {w:World} {t ty e:TypeId} {i:TypeInfo} {z:Value} (ht:P.underlying t=some (.slice e)) (hi:P.info? e=some i) (hz:i.zero=some z) (hzs:z.cells.size=i.size)
  {v:Value} {n:Nat} {xs:List Value} (hown:OwnsM w e i.size v n xs) {a:Addr} {m c:Nat} {news:List Value} (hl:news.length=m * i.size) (hnews:∀ (j:Nat) (u:Value),news[j]? = some u→w.cell? (a.add j)=some u) (h1:∀ u ∈ news,u.oneCell'=true)
  (hm:n + m≤1073741824) (hbytes:(n + m) * i.bytes≤140737488355328) :
  ∃ (g cap:Nat) (w1:World),(Builtin.append_ #[t,t] ty #[v,.slice (some a) m c]).run P w=.ok (.slice (some ⟨g,0,none⟩) (n + m) cap) w1∧OwnsM w1 e i.size (.slice (some ⟨g,0,none⟩) (n + m) cap) (n + m) (xs++news)∧w.grownBy w1 v.ownBlock∧(v.ownBlock=some g∨w.heap.size≤g):=by
 have hb2:=hown
 obtain ⟨hxl,g,cap,cur,fz,rfl,hg,hfz,hnc,hcm,hcs,htake⟩:=hown
 have hlen:(xs++news).length=(n + m) * i.size:=by rw [List.length_append,hxl,hl,Nat.add_mul]
 by_cases hroom:n + m≤cap
 ·have hfit:n * i.size + news.length≤cur.size:=by rw [hl,hcs,← Nat.add_mul]; exact Nat.mul_le_mul_right _ hroom
  have hf:=run_firstCells_some (P:=P) w i.size m a m c news hl hnews
  have hst:=run_storeCells_M P g (n * i.size) e fz news 0 cur w hg hfz (by simpa using hfit) h1
  simp only [Nat.add_zero] at hst
  have hr:(Builtin.append_ #[t,t] ty #[.slice (some ⟨g,0,none⟩) n cap,.slice (some a) m c]).run P w=.ok (.slice (some ⟨g,0,none⟩) (n + m) cap) (w.setRow g (cur.toList.take (n * i.size)++news++cur.toList.drop (n * i.size + news.length)).toArray):=by
   simp [Builtin.append_,run_underlying ht,sizeOf,typeInfo,hi,Builtin.lenOf,hroom,hf,Addr.add_lit,hst]
  refine ⟨g,cap,_,hr,⟨hlen,g,cap,_,fz,rfl,setRow_heap w g cur _ e _ hg,?_,hroom,hcm,?_,?_⟩,⟨rfl,rfl,rfl,by simp,fun k _ hk=>setRow_other w g k _ (fun e=>hk (by simp [Value.ownBlock,e]))⟩,.inl rfl⟩
  ·have:cur.toList.length=cur.size:=by simp
   refine hfz.imp id (fun h=>?_)
   simp only [List.size_toArray,List.length_append,List.length_take,List.length_drop,this]
   omega
  ·simp only [List.size_toArray,List.length_append,List.length_take,List.length_drop,Array.length_toList]
   omega
  ·rw [htake,← hlen]
   exact List.take_left
 ·have holds:∀ (j:Nat) (u:Value),xs[j]? = some u→w.cell? ((⟨g,0,none⟩:Addr).add j)=some u:=fun j u hu=>by
   obtain ⟨cap',hv',_,_,_,hcell⟩:=own_cells hb2 rfl
   rw [Go.WideShapes.add_plain]; exact hcell j u hu
  have hr:=run_append_grow (P:=P) w t ty e i z ht hi hz ⟨g,0,none⟩ n cap xs hxl holds a m c news hl hnews (by omega) (by omega) (growslice_fits (by omega) hbytes)
  have hge:=grownCap_ge w (n + m) cap e
  have hcm2:grownCap w (n + m) cap e≤maxLen:=grownCap_le_maxLen w (n + m) cap e (by simp only [maxLen]; omega)
  refine ⟨w.heap.size,_,_,hr,⟨hlen,w.heap.size,_,_,(0,0),rfl,heap_alloc_new w.drew _,.inl rfl,hge,hcm2,?_,?_⟩,⟨rfl,rfl,rfl,by simp,fun k hk _=>Below.heap_alloc w.drew _ _ hk⟩,.inr (Nat.le_refl _)⟩
  ·simp only [Array.size_append,List.size_toArray,size_zeroCells,hzs,hxl,hl,← Nat.add_mul]
   congr 1
   omega
  ·simp only [Array.toList_append,List.append_assoc]
   rw [← List.append_assoc,← hlen]
   exact List.take_left
def sApp (d e sz eb:Nat) (s x:Opd) (F:Fr) (H:List Ob) (K:Fr→List Ob→Prop):Prop:=
 match (opd F x).bind (slc H) with
 | none=>False
 | some (m,ds)=>match opd F s with
  | some (.row i)=>match H[i]? with
   | some (.own e' sz' n cs)=>(e'=e∧sz'=sz)∧ds.length=m * sz∧(n + m) * eb≤140737488355328∧n + m≤1073741824∧K (upd F d (.row H.length)) (H.set i .gone++[.own e sz (n + m) (cs++ds)])
   | _=>False
  | some (.v (.slice none _ _))=>0 < m∧ds.length=m * sz∧m * eb≤140737488355328∧m≤1073741824∧K (upd F d (.row H.length)) (H++[.own e sz m ds])
  | _=>False
theorem ok_app {N : Nat} {o : Oper} {t e : TypeId} {i : TypeInfo} {z : Value} {s x : Operand} {p q : Opd} {d : Nat} (ho : o.op = .call { callee := .builtin .append, args := #[s, x], argTypes := #[t, t] }) (hd : o.dst = some d) (hdN : d < N) (hu : P.underlying t = some (.slice e)) (hi : P.info? e = some i) (hz : i.zero = some z)
    (hzs : z.cells.size = i.size) (hsz : 0 < i.size) (hs : cOpd s = some p) (hx : cOpd x = some q) : OpOk P N o (sApp d e i.size i.bytes p q) := by
  intro w0 ds c a F H K Q hS hF hN hds h
  unfold sApp at h
  have run : ∀ {v' : Value} {w1 : World}, (Builtin.append_ #[t, t] o.type #[a.eval s, a.eval x]).run P c.w = .ok v' w1 → (execOp a.eval o).run P c.w = .ok (.value v') w1 := by
    intro v' w1 h
    simp [execOp, ho, resolve, invoke, builtin, h]
  split at h
  · exact h.elim
  · rename_i m dd hsl
    obtain ⟨y, hy, hsl⟩ := Option.bind_eq_some_iff.1 hsl
    obtain ⟨p', cap', us, e1, hcap', hrdl, hnone, hcell⟩ := slc_ok hS (cOpd_ok hF hx hy) hsl
    have hat : ∀ (ad : Addr), p' = some ad → ∀ (j : Nat) (u : Value), us[j]? = some u → c.w.cell? (ad.add j) = some u := by
      intro ad he j u hj
      rcases hcell with h0 | ⟨b, o', he', _, hc⟩
      · rw [h0] at hj; simp at hj
      · rw [he] at he'; cases he'
        rw [Go.WideShapes.add_plain]; exact hc j u hj
    have hsrcM : ∀ (n : Nat) (xs : List Value) (hown : OwnsM c.w e i.size (a.eval s) n xs) (hm : dd.length = m * i.size) (hb : (n + m) * i.bytes ≤ 140737488355328) (hl : n + m ≤ 1073741824),
        ∃ (g cap : Nat) (w1 : World), (Builtin.append_ #[t, t] o.type #[a.eval s, a.eval x]).run P c.w = .ok (.slice (some ⟨g, 0, none⟩) (n + m) cap) w1 ∧ OwnsM w1 e i.size (.slice (some ⟨g, 0, none⟩) (n + m) cap) (n + m) (xs ++ us) ∧ c.w.grownBy w1 (a.eval s).ownBlock ∧ ((a.eval s).ownBlock = some g ∨ c.w.heap.size ≤ g) := by
      intro n xs hown hm hb hl
      have hul : us.length = m * i.size := by rw [hrdl.len, hm]
      cases p' with
      | none =>
        obtain ⟨hd0, hm0⟩ := hnone rfl
        subst hm0
        have hu0 : us = [] := List.eq_nil_of_length_eq_zero (by rw [hul]; simp)
        have hown' := hown
        obtain ⟨hxl, g, cap, cur, fz, hv, hh, hfz, hc1, hc2, hc3, hc4⟩ := hown
        refine ⟨g, cap, c.w, ?_, ?_, ⟨rfl, rfl, rfl, Nat.le_refl _, fun _ _ _ => rfl⟩, .inl (by rw [hv]; rfl)⟩
        · rw [e1, hv]
          simp [Builtin.append_, run_underlying hu, sizeOf, typeInfo, hi, Builtin.lenOf, Builtin.firstCells, hc1, storeCells]
        · rw [hu0, List.append_nil, Nat.add_zero, ← hv]; exact hown'
      | some ad =>
        rw [e1]
        exact run_append_M hu hi hz hzs hown hul (hat ad rfl) hrdl.one hl hb
    have hsrc : ∀ (v : Value) (n : Nat) (xs : List Value) (hown : c.w.ownsRow 0 e i.size v n xs) (hv : a.eval s = v) (hm : dd.length = m * i.size) (hb : (n + m) * i.bytes ≤ 140737488355328) (hl : n + m ≤ 1073741824) (hnz : 0 < m),
        ∃ (g cap : Nat) (w1 : World), (Builtin.append_ #[t, t] o.type #[a.eval s, a.eval x]).run P c.w = .ok (.slice (some ⟨g, 0, none⟩) (n + m) cap) w1 ∧ w1.ownsRow 0 e i.size (.slice (some ⟨g, 0, none⟩) (n + m) cap) (n + m) (xs ++ us) ∧ c.w.grownBy w1 v.ownBlock ∧ (v.ownBlock = some g ∨ c.w.heap.size ≤ g) := by
      intro v n xs hown hv hm hb hl hnz
      subst hv
      have hul : us.length = m * i.size := by rw [hrdl.len, hm]
      cases p' with
      | none => have := (hnone rfl).2; omega
      | some ad =>
        obtain ⟨v', w1, hr, ho1, hg1, hiff, hat1⟩ := run_append_own_at (P := P) c.w 0 t o.type e i z i.size i.bytes hu hi hz rfl rfl hzs hsz _ n xs hown ad m cap' us hul (hat ad rfl) hrdl.one (by simp only [maxLen]; omega) hb (Nat.zero_le _)
        rw [e1]
        rcases ho1.2 with ⟨hn, _⟩ | ⟨g, cap, cur, hv, _⟩
        · obtain ⟨hn1, hm0⟩ := hiff.1 hn
          omega
        · subst hv
          refine ⟨g, cap, w1, hr, ho1, hg1, ?_⟩
          rcases hat1 with h | h
          · exact .inl h.symm
          · exact .inr (by have : g = c.w.heap.size := Option.some.inj h
                           omega)
    split at h
    · rename_i r hr
      obtain ⟨e2, hrk, _⟩ := (cOpd_ok hF hs hr).inv_row
      split at h
      · rename_i e' sz' n cs hob
        obtain ⟨⟨rfl, rfl⟩, hm, hb, hl, hK⟩ := h
        obtain ⟨_, us0, o1, o2, o3, o4⟩ := hS.ob r _ hob
        obtain ⟨g, cap, w1, hrun, hown, hgr, hg⟩ := hsrcM n us0 (by rw [e2]; exact o1) hm hb hl
        rw [e2, o2] at hgr hg
        have hnew := own_move hS hob rfl hrk (hg.imp (fun h => (Option.some.inj h).symm) id) hown hgr (o3.app hrdl)
        refine wp_val (run hrun) ?_
        rw [hd]
        exact fin_to hnew hF hN hds hdN (row_rv rfl) (by rw [hS.k]; exact hK)
      · exact h.elim
    · rename_i n' c' hr
      have e2 := (cOpd_ok hF hs hr).inv_v
      obtain ⟨hm0, hm, hb, hl, hK⟩ := h
      have h00 : n' = 0 ∧ c' = 0 := by have := e2.2; simpa [flat] using this
      obtain ⟨rfl, rfl⟩ := h00
      obtain ⟨g, cap, w1, hrun, hown, hgr, hg⟩ := hsrc _ 0 [] (World.ownsRow_nil _ _ _ _) e2.1 hm (by simpa using hb) (by simpa using hl) hm0
      simp only [Nat.zero_add, List.nil_append] at hrun hown
      have hg' : c.w.heap.size ≤ g := by
        rcases hg with h | h
        · cases h
        · exact h
      have hnew := own_new hS hg' (OwnsM.of hown rfl) hgr hrdl
      refine wp_val (run hrun) ?_
      rw [hd]
      exact fin_to hnew hF hN hds hdN (row_rv rfl) (by rw [hS.k]; exact hK)
    · exact h.elim
end
end Ab
end Go.Proofs.YtgddkgbidhhheaaGreatDoor
namespace Go.Proofs.YtgddkgbidhhheaaGreatDoor
open Go.RowKit Go.Lib
namespace Ab
section
variable {P:Program}
def strA (s:ByteArray):List AV:=s.data.toList.map byA
theorem strCells_rdl (w : World) (M : Nat → Prop) (s : ByteArray) : RDL w M (strA s) (strCells s) :=
  ⟨by simp [strA, strCells], strCells_oneCell s, fun j x u h1 h2 => by
    simp only [strA, strCells, List.getElem?_map, Option.map_eq_some_iff] at h1 h2
    obtain ⟨b, hb, rfl⟩ := h1
    obtain ⟨b', hb', rfl⟩ := h2
    rw [hb] at hb'
    cases hb'
    exact .v _ rfl⟩
theorem run_append_str_at {w:World} {t u ty e:TypeId} {i:TypeInfo} (ht:P.underlying t=some (.slice e)) (hu:P.underlying u=some .string) (hi:P.info? e=some i) (hz:i.zero=some (.int .u8 0))
  (hsize:i.size=1) (hby:i.bytes=1) {v:Value} {n:Nat} {xs:List Value} (hown:w.ownsRow 0 e 1 v n xs) (s:ByteArray) (hb:n + s.size≤1073741824) (hnz:v=.slice none 0 0→0 < s.size) :
  ∃ (g cap:Nat) (w1:World),(Builtin.append_ #[t,u] ty #[v,.string s]).run P w=.ok (.slice (some ⟨g,0,none⟩) (n + s.size) cap) w1∧w1.ownsRow 0 e 1 (.slice (some ⟨g,0,none⟩) (n + s.size) cap) (n + s.size) (xs++strCells s)∧w.grownBy w1 v.ownBlock∧(v.ownBlock=some g∨w.heap.size≤g):=by
 obtain ⟨v',w1,hr,ho,hg,hiff⟩:=run_append_own_string (P:=P) w 0 t u ty e i ht hu hi hz hsize hby v n xs hown s (by simp only [maxLen]; omega) (by omega) (Nat.zero_le _)
 rcases ho.2 with ⟨hn,_⟩ | ⟨g,cap,cur,hv,_⟩
 ·obtain ⟨h1,h2⟩:=hiff.1 hn
  have:=hnz h1; omega
 ·subst hv
  refine ⟨g,cap,w1,hr,ho,hg,?_⟩
  rcases hown.2 with ⟨rfl,rfl⟩ | ⟨g',cap',cur',rfl,hbg,hg',hnc,hcm,hcs,htake⟩
  ·have hr2:=run_append_nil_string (P:=P) w t u ty e i (.int .u8 0) ht hu hi hz s (hnz rfl) (by omega) (by rw [hby]; omega)
   rw [hr2] at hr
   simp only [Result.ok.injEq,Value.slice.injEq,Option.some.injEq,Addr.mk.injEq] at hr
   exact .inr (by omega)
  ·have hxl:xs.length=n:=by simpa using hown.1
   have hcs':cur'.size=cap':=by simpa using hcs
   by_cases hroom:n + s.size≤cap'
   ·have hr2:=run_append_room_string (P:=P) w t u ty e i ht hu hi hsize g' n cap' cur' hg' s hroom (by omega)
    rw [hr2] at hr
    simp only [Result.ok.injEq,Value.slice.injEq,Option.some.injEq,Addr.mk.injEq] at hr
    exact .inl (by rw [← hr.1.1.1]; rfl)
   ·have holds:∀ (j:Nat) (u:Value),xs[j]? = some u→w.cell? ((⟨g',0,none⟩:Addr).add j)=some u:=hown.cells (g:=g') rfl
    have hr2:=run_append_grow_string (P:=P) w t u ty e i (.int .u8 0) ht hu hi hz ⟨g',0,none⟩ n cap' xs (by rw [hsize]; simpa using hxl) holds s (by omega) (by omega) (by rw [hby]; exact growslice_fits (by omega) (by omega))
    rw [hr2] at hr
    simp only [Result.ok.injEq,Value.slice.injEq,Option.some.injEq,Addr.mk.injEq] at hr
    exact .inr (by omega)
theorem run_append_str_M {w:World} {t u ty e:TypeId} {i:TypeInfo} (ht:P.underlying t=some (.slice e)) (hu:P.underlying u=some .string) (hi:P.info? e=some i) (hz:i.zero=some (.int .u8 0))
  (hsize:i.size=1) (hby:i.bytes=1) {v:Value} {n:Nat} {xs:List Value} (hown:OwnsM w e 1 v n xs) (s:ByteArray) (hb:n + s.size≤1073741824) :
  ∃ (g cap:Nat) (w1:World),(Builtin.append_ #[t,u] ty #[v,.string s]).run P w=.ok (.slice (some ⟨g,0,none⟩) (n + s.size) cap) w1∧OwnsM w1 e 1 (.slice (some ⟨g,0,none⟩) (n + s.size) cap) (n + s.size) (xs++strCells s)∧w.grownBy w1 v.ownBlock∧(v.ownBlock=some g∨w.heap.size≤g):=by
 have hb2:=hown
 obtain ⟨hxl,g,cap,cur,fz,rfl,hg,hfz,hnc,hcm,hcs,htake⟩:=hown
 have hxl':xs.length=n:=by simpa using hxl
 have hlen:(xs++strCells s).length=(n + s.size) * 1:=by rw [List.length_append,hxl',strCells_length,Nat.mul_one]
 by_cases hroom:n + s.size≤cap
 ·have hcs':cur.size=cap:=by simpa using hcs
  have hf:=run_firstCells_string (P:=P) w 1 s
  have hst:=run_storeCells_M P g n e fz (strCells s) 0 cur w hg hfz (by simp only [strCells_length]; omega) (strCells_oneCell s)
  simp only [Nat.add_zero,strCells_length] at hst
  have hr:(Builtin.append_ #[t,u] ty #[.slice (some ⟨g,0,none⟩) n cap,.string s]).run P w=.ok (.slice (some ⟨g,0,none⟩) (n + s.size) cap) (w.setRow g (cur.toList.take n++strCells s++cur.toList.drop (n + s.size)).toArray):=by
   simp [Builtin.append_,run_underlying ht,run_underlying hu,sizeOf,typeInfo,hi,hsize,Builtin.lenOf,hroom,hf,Addr.add_lit,hst]
  refine ⟨g,cap,_,hr,⟨hlen,g,cap,_,fz,rfl,setRow_heap w g cur _ e _ hg,?_,hroom,hcm,?_,?_⟩,⟨rfl,rfl,rfl,by simp,fun k _ hk=>setRow_other w g k _ (fun e=>hk (by simp [Value.ownBlock,e]))⟩,.inl rfl⟩
  ·have:cur.toList.length=cur.size:=by simp
   refine hfz.imp id (fun h=>?_)
   simp only [List.size_toArray,List.length_append,List.length_take,List.length_drop,this,strCells_length]
   omega
  ·simp only [List.size_toArray,List.length_append,List.length_take,List.length_drop,Array.length_toList,strCells_length]
   omega
  ·have ht':cur.toList.take n=xs:=by simpa using htake
   rw [ht',← hlen]
   exact List.take_left
 ·have holds:∀ (j:Nat) (u:Value),xs[j]? = some u→w.cell? ((⟨g,0,none⟩:Addr).add j)=some u:=fun j u hu=>by
   obtain ⟨cap',hv',_,_,_,hcell⟩:=own_cells hb2 rfl
   rw [Go.WideShapes.add_plain]; exact hcell j u hu
  have hr:=run_append_grow_string (P:=P) w t u ty e i (.int .u8 0) ht hu hi hz ⟨g,0,none⟩ n cap xs (by rw [hsize]; simpa using hxl) holds s (by omega) (by omega) (by rw [hby]; exact growslice_fits (by omega) (by omega))
  have hge:=grownCap_ge w (n + s.size) cap e
  have hcm2:grownCap w (n + s.size) cap e≤maxLen:=grownCap_le_maxLen w (n + s.size) cap e (by simp only [maxLen]; omega)
  refine ⟨w.heap.size,_,_,hr,⟨hlen,w.heap.size,_,_,(0,0),rfl,heap_alloc_new w.drew _,.inl rfl,hge,hcm2,?_,?_⟩,⟨rfl,rfl,rfl,by simp,fun k hk _=>Below.heap_alloc w.drew _ _ hk⟩,.inr (Nat.le_refl _)⟩
  ·have hz1:(Value.int IntKind.u8 0).cells.size=1:=rfl
   simp only [Array.size_append,List.size_toArray,size_zeroCells,hz1,hxl',strCells_length]
   omega
  ·simp only [Array.toList_append,List.append_assoc]
   rw [← List.append_assoc,← hlen]
   exact List.take_left
def sAps (d e:Nat) (s x:Opd) (F:Fr) (H:List Ob) (K:Fr→List Ob→Prop):Prop:=
 match opd F x with
 | some (.v (.string b))=>match opd F s with
  | some (.row i)=>match H[i]? with
   | some (.own e' sz' n cs)=>(e'=e∧sz'=1)∧n + b.size≤1073741824∧K (upd F d (.row H.length)) (H.set i .gone++[.own e 1 (n + b.size) (cs++strA b)])
   | _=>False
  | some (.v (.slice none _ _))=>(0 < b.size∧b.size≤1073741824)∧K (upd F d (.row H.length)) (H++[.own e 1 b.size (strA b)])
  | _=>False
 | _=>False
theorem ok_aps {N:Nat} {o:Oper} {t u e:TypeId} {i:TypeInfo} {s x:Operand} {p q:Opd} {d:Nat} (ho:o.op=.call { callee:=.builtin .append,args:=#[s,x],argTypes:=#[t,u] }) (hd:o.dst=some d) (hdN:d < N) (hu:P.underlying t=some (.slice e)) (hu':P.underlying u=some .string) (hi:P.info? e=some i) (hz:i.zero=some (.int .u8 0))
  (hsize:i.size=1) (hby:i.bytes=1) (hs:cOpd s=some p) (hx:cOpd x=some q):OpOk P N o (sAps d e p q):=by
 intro w0 ds c a F H K Q hS hF hN hds h
 unfold sAps at h
 have run:∀ {v':Value} {w1:World},(Builtin.append_ #[t,u] o.type #[a.eval s,a.eval x]).run P c.w=.ok v' w1→(execOp a.eval o).run P c.w=.ok (.value v') w1:=by
  intro v' w1 h
  simp [execOp,ho,resolve,invoke,builtin,h]
 split at h
 ·rename_i b hb
  have e1:=(cOpd_ok hF hx hb).inv_v.1
  rw [e1] at run
  split at h
  ·rename_i r hr
   obtain ⟨e2,hrk,_⟩:=(cOpd_ok hF hs hr).inv_row
   rw [e2] at run
   split at h
   ·rename_i e' sz' n cs hob
    obtain ⟨⟨rfl,rfl⟩,hl,hK⟩:=h
    obtain ⟨_,us0,o1,o2,o3,o4⟩:=hS.ob r _ hob
    obtain ⟨g,cap,w1,hrun,hown,hgr,hg⟩:=run_append_str_M (P:=P) (ty:=o.type) hu hu' hi hz hsize hby o1 b hl
    rw [o2] at hgr hg
    have hnew:=own_move hS hob rfl hrk (hg.imp (fun h=>(Option.some.inj h).symm) id) hown hgr (o3.app (strCells_rdl _ _ b))
    refine wp_val (run hrun) ?_
    rw [hd]
    exact fin_to hnew hF hN hds hdN (row_rv rfl) (by rw [hS.k]; exact hK)
   ·exact h.elim
  ·rename_i n' c' hr
   have e2:=(cOpd_ok hF hs hr).inv_v
   obtain ⟨⟨hm0,hl⟩,hK⟩:=h
   have h00:n'=0∧c'=0:=by have:=e2.2; simpa [flat] using this
   obtain ⟨rfl,rfl⟩:=h00
   rw [e2.1] at run
   obtain ⟨g,cap,w1,hrun,hown,hgr,hg⟩:=run_append_str_at (P:=P) (w:=c.w) (ty:=o.type) hu hu' hi hz hsize hby (World.ownsRow_nil _ _ _ _) b (by simpa using hl) (fun _=>hm0)
   simp only [Nat.zero_add,List.nil_append] at hrun hown
   have hg':c.w.heap.size≤g:=by
    rcases hg with h | h
    ·cases h
    ·exact h
   have hnew:=own_new hS hg' (OwnsM.of hown rfl) hgr (strCells_rdl _ _ b)
   refine wp_val (run hrun) ?_
   rw [hd]
   exact fin_to hnew hF hN hds hdN (row_rv rfl) (by rw [hS.k]; exact hK)
  ·exact h.elim
 ·exact h.elim
def sNil (d:Nat) (x:Opd) (F:Fr) (H:List Ob) (K:Fr→List Ob→Prop):Prop:=
 match opd F x with
 | some (.ptr i off)=>K (upd F d (.ptr i off)) H
 | some (.ep cs off)=>K (upd F d (.ep cs off)) H
 | _=>False
theorem ok_nil {N:Nat} {o:Oper} {x:Operand} {p:Opd} {d:Nat} (ho:o.op=.nilCheck x) (hd:o.dst=some d) (hdN:d < N) (hx:cOpd x=some p):OpOk P N o (sNil d p):=by
 intro w0 ds c a F H K Q hS hF hN hds h
 unfold sNil at h
 split at h
 ·rename_i i off hy
  have hr:=cOpd_ok hF hx hy
  obtain ⟨e1,_⟩:=hr.inv_ptr
  refine wp_val (u:=a.eval x) (w':=c.w) (by simp [execOp,ho,e1]) ?_
  rw [hd]; exact fin_same hS hF hN hds hdN hr h
 ·rename_i cs off hy
  have hr:=cOpd_ok hF hx hy
  obtain ⟨b,q,us,e1,_⟩:=hr.inv_ep
  refine wp_val (u:=a.eval x) (w':=c.w) (by simp [execOp,ho,e1]) ?_
  rw [hd]; exact fin_same hS hF hN hds hdN hr h
 ·exact h.elim
def mmF (mx:Bool) (k:IntKind):Int→List AV→Option Int
 | z,[]=>some z
 | z,.v (.int k' y) :: r=>if k'=k then mmF mx k (bif mx then (if z < y then y else z) else (if y < z then y else z)) r else none
 | _,_=>none
def evL (F:Fr):List Opd→Option (List AV)
 | []=>some []
 | p :: r=>match opd F p,evL F r with
  | some x,some xs=>some (x :: xs)
  | _,_=>none
def cList:List Operand→Option (List Opd)
 | []=>some []
 | o :: r=>match cOpd o,cList r with
  | some p,some ps=>some (p :: ps)
  | _,_=>none
def sMm (d:Nat) (mx:Bool) (xs:List Opd) (F:Fr) (H:List Ob) (K:Fr→List Ob→Prop):Prop:=
 match evL F xs with
 | some (.v (.int k z) :: r)=>match mmF mx k z r with
  | some y=>K (upd F d (.v (.int k y))) H
  | none=>False
 | _=>False
theorem run_mm {c:Cx} {F:Fr} {a:Act} (hF:RF c F a) (mx:Bool) {k:IntKind}:∀ (os:List Operand) (ps:List Opd),cList os=some ps→∀ (r:List AV),evL F ps=some r→∀ (z y:Int),mmF mx k z r=some y→∀ w,
  ((os.map a.eval).foldlM (bif mx then Builtin.max2 else Builtin.min2) (.int k z)).run P w=.ok (.int k y) w
 | [],ps,h,r,hr,z,y,hm,w=>by cases h; cases hr; cases hm; rfl
 | o :: os,ps,h,r,hr,z,y,hm,w=>by
  simp only [cList] at h
  split at h
  ·rename_i p ps' hp hps
   cases h
   simp only [evL] at hr
   split at hr
   ·rename_i x xs hx hxs
    cases hr
    cases x with
    | v v=>
     cases v with
     | int k' q=>
      simp only [mmF] at hm
      split at hm
      ·rename_i hk; subst hk
       have e1:=(cOpd_ok hF hp hx).inv_v.1
       have ih:=run_mm hF mx os ps' hps xs hxs _ y hm w
       rw [List.map_cons,List.foldlM_cons,Sem.run_bind,e1]
       cases mx with
       | true=>simp only [cond_true] at ih ⊢; simp only [Builtin.max2,Sem.run_pure,Result.andThen_ok]; exact ih
       | false=>simp only [cond_false] at ih ⊢; simp only [Builtin.min2,Sem.run_pure,Result.andThen_ok]; exact ih
      ·cases hm
     | _=>simp [mmF] at hm
    | _=>simp [mmF] at hm
   ·cases hr
  ·cases h
theorem ok_mm {N:Nat} {o:Oper} {mx:Bool} {args:Array Operand} {ts:Array TypeId} {ps:List Opd} {d:Nat} (ho:o.op=.call { callee:=.builtin (bif mx then .max else .min),args:=args,argTypes:=ts }) (hd:o.dst=some d) (hdN:d < N) (hq:cList args.toList=some ps):OpOk P N o (sMm d mx ps):=by
 intro w0 ds c a F H K Q hS hF hN hds h
 unfold sMm at h
 split at h
 ·rename_i k z r hr
  split at h
  ·rename_i y hy
   cases hal:args.toList with
   | nil=>rw [hal] at hq; cases hq; cases hr
   | cons o1 os=>
    rw [hal] at hq
    simp only [cList] at hq
    split at hq
    ·rename_i p ps' hp hps
     cases hq
     simp only [evL] at hr
     split at hr
     ·rename_i x xs hx hxs
      cases hr
      have e1:=(cOpd_ok hF hp hx).inv_v.1
      have hrun:=run_mm (P:=P) hF mx os ps' hps r hxs z y hy c.w
      have hl:(args.map a.eval).toList=.int k z :: os.map a.eval:=by rw [Array.toList_map,hal,List.map_cons,e1]
      refine wp_val (u:=.int k y) (w':=c.w) ?_ ?_
      ·cases mx with
       | true=>simp only [cond_true] at ho hrun; simp only [execOp,ho,resolve,invoke,builtin,Builtin.max_,Sem.run_bind,Sem.run_pure,Result.andThen_ok,hl,hrun]
       | false=>simp only [cond_false] at ho hrun; simp only [execOp,ho,resolve,invoke,builtin,Builtin.min_,Sem.run_bind,Sem.run_pure,Result.andThen_ok,hl,hrun]
      ·rw [hd]; exact fin_same hS hF hN hds hdN (.deep (.v _ rfl)) h
     ·cases hr
    ·cases hq
  ·exact h.elim
 ·exact h.elim
theorem mark_obj {w0:World} {c:Cx} {H:List Ob} (hS:St w0 c H) {i0 e sz n:Nat} {cs:List AV} (hi0:H[i0]? = some (.own e sz n cs)) {w1:World} (hz:w1.heap.size=c.w.heap.size) (h1:w1.os=c.w.os) (h2:w1.tape=c.w.tape) (h3:w1.output=c.w.output)
  (hs:∀ b,b≠c.β i0→w1.heap[b]? = c.w.heap[b]?) (hc:∀ o,w1.cell? ⟨c.β i0,o,none⟩=c.w.cell? ⟨c.β i0,o,none⟩) :
  St w0 { c with w:=w1,M:=fun b=>c.M b∧b≠c.β i0 } (H.set i0 (.fro n cs))∧Step c H { c with w:=w1,M:=fun b=>c.M b∧b≠c.β i0 } (H.set i0 (.fro n cs)):=by
 have hb0:c.born i0:=(hS.ob i0 _ hi0).1
 have hw0:Wr c H (c.β i0):=⟨i0,_,hi0,rfl,hb0,rfl⟩
 have hle:c.le { c with w:=w1,M:=fun b=>c.M b∧b≠c.β i0 }:=⟨fun _ h=>h,fun _ _=>rfl,fun _ _=>rfl,Nat.le_of_eq hz.symm,fun b _ hm=>⟨hs b (fun e=>hm (e ▸ hS.live_M hw0)),fun h=>hm h.1⟩⟩
 have hwr:∀ b,Wr { c with w:=w1,M:=fun b=>c.M b∧b≠c.β i0 } (H.set i0 (.fro n cs)) b→Wr c H b:=fun b ⟨i,x,hx,hl,hbn,he⟩=>by
  rcases get_set hx with ⟨hx',_⟩ | ⟨rfl,rfl,_⟩
  ·exact ⟨i,x,hx',hl,hbn,he⟩
  ·cases hl
 have hstep:Step c H { c with w:=w1,M:=fun b=>c.M b∧b≠c.β i0 } (H.set i0 (.fro n cs)):=
  ⟨hle,h1,h2,h3,fun b _ hn=>hs b (fun e=>hn (e ▸ hw0)),fun b _ hm=>hm.1,fun b _ hn hm=>⟨hm,fun e=>hn (e ▸ hw0)⟩,fun b hb=>.inl (hwr b hb),Nat.le_refl _,fun _ _ h=>h⟩
 refine ⟨⟨by show c.k=_; rw [hS.k,List.length_set],hS.bl,fun i x hx=>?_,fun i j oi oj hi hj li lj ni nj he=>?_,fun b hb=>hS.base b (hwr b hb),fun b hb=>by show b < w1.heap.size; rw [hz]; exact hS.mlt b hb.1,hS.below' hstep⟩,hstep⟩
 ·rcases get_set hx with ⟨hx',hne⟩ | ⟨rfl,rfl,_⟩
  ·refine (hS.ob i x hx').le hle (fun h=>h) (fun hl hbn=>?_)
   have hne':c.β i≠c.β i0:=fun e=>hne (hS.inj i i0 x _ hx' hi0 hl rfl hbn hb0 e)
   exact ⟨hs _ hne',hS.live_M ⟨i,x,hx',hl,hbn,rfl⟩,hne'⟩
  ·obtain ⟨_,us,g1,g2,g3,g4⟩:=hS.ob i _ hi0
   obtain ⟨cap,hv,hcap,hl,hb,hcell⟩:=own_cells g1 g2
   refine ⟨hb0,?_⟩
   show RD w1 (fun b=>c.M b∧b≠c.β i) _ (c.sv i)
   rw [hv]
   exact .sl (c.β i) 0 n cap cs us g3.len (fun h=>h.2 rfl) (by rw [hz]; exact hb) (fun j u hu=>(hc _).trans (hcell j u hu)) g3.one (fun j x u h5 h6=>(g3.at' j x u h5 h6).le hle) hcap
 ·rcases get_set hi with ⟨hi',_⟩ | ⟨_,rfl,_⟩
  ·rcases get_set hj with ⟨hj',_⟩ | ⟨_,rfl,_⟩
   ·exact hS.inj i j oi oj hi' hj' li lj ni nj he
   ·cases lj
  ·cases li
def sCvm (d e:Nat) (st:Bool) (x:Opd) (F:Fr) (H:List Ob) (K:Fr→List Ob→Prop):Prop:=
 bif st then match opd F x with
  | some (.v (.string b))=>b.size≤1073741824∧K (upd F d (.row H.length)) (H++[.own e 1 b.size (strA b)])
  | _=>False
 else match opd F x with
  | some (.row i)=>match H[i]? with
   | some (.own _ _ _ _)=>K (upd F d (.row i)) H
   | _=>False
  | _=>False
theorem set_same {α:Type} {l:List α} {i:Nat} {x:α} (h:l[i]? = some x):l.set i x=l:=by
 apply List.ext_getElem?
 intro j
 rw [List.getElem?_set]
 split
 ·rename_i he; subst he
  rw [if_pos (List.getElem?_eq_some_iff.1 h).1,h]
 ·rfl
theorem ok_cvm {N : Nat} {o : Oper} {t e : TypeId} {x : Operand} {p : Opd} {d : Nat} (ho : o.op = .convert t t x) (hd : o.dst = some d) (hdN : d < N) (hx : cOpd x = some p)
    (ht : P.underlying t = some (.slice e)) (he : P.underlying e = some (.int .u8)) : OpOk P N o (sCvm d e false p) := by
  intro w0 ds c a F H K Q hS hF hN hds h
  unfold sCvm at h
  simp only [cond_false] at h
  split at h
  · rename_i r hr
    have hrv := cOpd_ok hF hx hr
    obtain ⟨e2, hrk, h1⟩ := hrv.inv_row
    split at h
    · rename_i e' sz n cs hob
      obtain ⟨hb0, us, o1, o2, o3, o4⟩ := hS.ob r _ hob
      obtain ⟨hxl, g, cap, cur, fz, hv, hh, hfz, hc1, hc2, hc3, hc4⟩ := o1
      have hgb : g = c.β r := by rw [hv] at o2; exact Option.some.inj o2
      subst hgb
      have hsh : c.w.shape? (c.β r) = some (e', cur.size) := by unfold World.shape?; rw [hh]
      have hm : ∃ fz' : Nat × Nat, (c.w.freeze ⟨c.β r, cur.size, none⟩ 1).heap[c.β r]? = some (.cells cur e' fz') ∧ (fz' = (0, 0) ∨ cur.size ≤ fz'.1) := by
        simp only [World.freeze]; rw [if_neg (by decide)]
        simp only [Array.getElem?_modify, if_true, hh, Option.map_some]
        obtain ⟨lo, hi⟩ := fz
        refine ⟨_, rfl, ?_⟩
        rcases hfz with h | h
        · simp only [Prod.mk.injEq] at h
          obtain ⟨rfl, rfl⟩ := h
          right
          simp
        · simp only at h
          right
          split <;> simp <;> omega
      obtain ⟨fz', hm, hfz'⟩ := hm
      have hwr := write_obj hS (.own e' sz n cs) hob rfl hb0 rfl (w1 := c.w.freeze ⟨c.β r, cur.size, none⟩ 1) (by simp [World.freeze]) rfl rfl rfl
        (fun b hb => by simp only [World.freeze]; rw [if_neg (by decide)]; simp only [Array.getElem?_modify]; rw [if_neg (fun e => hb e.symm)])
        (fun hle => ⟨hb0, us, ⟨hxl, c.β r, cap, cur, fz', hv, hm, hfz', hc1, hc2, hc3, hc4⟩, o2, o3.le hle, o4⟩)
      rw [set_same hob] at hwr
      refine wp_val (u := a.eval x) (w' := c.w.freeze ⟨c.β r, cur.size, none⟩ 1) ?_ ?_
      · rw [e2, hv]
        simp only [execOp, ho, e2, hv, convert, Sem.run_bind, run_underlying ht, Result.andThen_ok]
        simp [run_underlying he, markStringish, hsh]
      · rw [hd]
        exact fin_to (c' := c.at (c.w.freeze ⟨c.β r, cur.size, none⟩ 1)) hwr hF hN hds hdN (hrv.le hwr.2.le) h
    · exact h.elim
  · exact h.elim
theorem ok_cvt {N:Nat} {o:Oper} {src dst e:TypeId} {x:Operand} {p:Opd} {d:Nat} (ho:o.op=.convert src dst x) (hd:o.dst=some d) (hdN:d < N) (hx:cOpd x=some p)
  (hs:P.underlying src=some .string) (ht:P.underlying dst=some (.slice e)) (he:P.underlying e=some (.int .u8)):OpOk P N o (sCvm d e true p):=by
 intro w0 ds c a F H K Q hS hF hN hds h
 unfold sCvm at h
 simp only [cond_true] at h
 split at h
 ·rename_i b hb
  obtain ⟨hbz,hK⟩:=h
  have e1:=(cOpd_ok hF hx hb).inv_v.1
  have hrun:=Lib.run_convert_string_bytes (P:=P) c.w src dst e b hs ht he
  have hge:=grownCap_ge c.w b.size 0 e
  have hcm:=grownCap_le_maxLen c.w b.size 0 e (by simp only [maxLen]; omega)
  have hcz:(Lib.bytesCells c.w e b).size=grownCap c.w b.size 0 e:=by
   have:b.data.size=b.size:=rfl
   simp [Lib.bytesCells,this]; omega
  have hown:OwnsM (Lib.bytesWorld c.w e b) e 1 (.slice (some ⟨c.w.heap.size,0,none⟩) b.size (grownCap c.w b.size 0 e)) b.size (strCells b):=by
   refine ⟨by simp [strCells_length],c.w.heap.size,_,_,_,rfl,Lib.bytesWorld_at_new c.w e b,.inr (Nat.le_refl _),hge,hcm,by rw [hcz]; simp,?_⟩
   have hl:(strCells b).length=b.size:=strCells_length b
   have:(Lib.bytesCells c.w e b).toList=strCells b++List.replicate (grownCap c.w b.size 0 e - b.size) (.int .u8 0):=by simp [Lib.bytesCells,strCells]
   rw [this,Nat.mul_one,← hl]
   exact List.take_left
  have hgr:c.w.grownBy (Lib.bytesWorld c.w e b) none:=⟨rfl,rfl,rfl,by rw [Lib.bytesWorld_size]; omega,fun k hk _=>Lib.bytesWorld_at_old c.w e b k hk⟩
  have hnew:=own_new hS (Nat.le_refl _) hown hgr (strCells_rdl _ _ b)
  refine wp_val (u:=.slice (some ⟨c.w.heap.size,0,none⟩) b.size (grownCap c.w b.size 0 e)) (w':=Lib.bytesWorld c.w e b) ?_ ?_
  ·simp [execOp,ho,e1,hrun]
  ·rw [hd]
   exact fin_to hnew hF hN hds hdN (row_rv rfl) (by rw [hS.k]; exact hK)
 ·exact h.elim
def eqV1:Value→Value→Option Bool
 | .int k a,.int k' b=>if k=k' then some (a == b) else none
 | .string a,.string b=>some (a == b)
 | .bool a,.bool b=>some (a == b)
 | .complex .f64 a b,.complex .f64 a' b'=>some (cEq a b a' b')
 | _,_=>none
def eqCells:List Nat→List AV→List AV→Option Bool
 | [],_,_=>some true
 | o :: r,cs,ds=>match cs[o]?,ds[o]?,eqCells r cs ds with
  | some (.v a),some (.v b),some q'=>match eqV1 a b with
   | some q=>some (q && q')
   | none=>none
  | _,_,_=>none
def fitsT:TypeDesc→Value→Bool
 | .int _,.int _ _=>true
 | .string,.string _=>true
 | .bool,.bool _=>true
 | .complex _,.complex _ _ _=>true
 | _,_=>false
def eqFs (P:Program):List Field→Option (List (Nat × TypeDesc))
 | []=>some []
 | f :: r=>match P.underlying f.type,eqFs P r with
  | some td,some l=>if f.name ≠ "_" then some ((f.offset,td) :: l) else none
  | _,_=>none
def sEqs (d:Nat) (neq:Bool) (fs:List (Nat × TypeDesc)) (x y:Opd) (F:Fr) (H:List Ob) (K:Fr→List Ob→Prop):Prop:=
 match opd F x,opd F y with
 | some (.agg cs),some (.agg ds)=>match eqCells (fs.map (·.1)) cs ds with
  | some b=>(fs.all fun f=>match cs[f.1]?,ds[f.1]? with | some (.v a),some (.v b)=>fitsT f.2 a && fitsT f.2 b | _,_=>false)=true∧K (upd F d (.v (.bool (bif neq then !b else b)))) H
  | none=>False
 | _,_=>False
theorem run_eq1 {t:TypeId} {td:TypeDesc} (hu:P.underlying t=some td) {a b:Value} {q:Bool} (h:eqV1 a b=some q) (ha:fitsT td a=true) (hb:fitsT td b=true) (n:Nat) (w:World):(Op.equalIn (n + 1) t a b).run P w=.ok q w:=by
 unfold Op.equalIn
 cases a<;>cases b<;>simp only [eqV1] at h<;>try (cases h; done)
 ·cases h
  cases td<;>first | (cases ha; done) | simp [run_underlying hu]
 ·split at h
  ·rename_i hk; subst hk; cases h
   cases td<;>first | (cases ha; done) | simp [run_underlying hu]
  ·cases h
 ·rename_i k x y k' x' y'
  cases k<;>cases k'<;>simp only at h<;>try (cases h; done)
  cases h
  cases td<;>first | (cases ha; done) | simp [run_underlying hu,cEq,Op.floatEq]
 ·cases h
  cases td<;>first | (cases ha; done) | simp [run_underlying hu]
theorem run_forIn_all {β γ:Type} (g:γ→β→Sem (ForInStep β)) (init done:β) (w:World):∀ (fs:List γ) (q:γ→Bool),(∀ f ∈ fs,(g f init).run P w=.ok (if q f then .yield init else .done done) w)→(forIn fs init g).run P w=.ok (if fs.all q then init else done) w
 | [],q,h=>by simp
 | f :: fs,q,h=>by
  rw [List.forIn_cons]
  simp only [Sem.run_bind,h f (by simp),Result.andThen_ok]
  cases hq:q f with
  | true=>
   simp only [if_true,List.all_cons,hq,Bool.true_and]
   exact run_forIn_all g init done w fs q (fun f hf=>h f (by simp [hf]))
  | false=>simp [hq]
theorem eqCells_at:∀ (fs:List (Nat × TypeDesc)) (cs ds:List AV) (b:Bool),eqCells (fs.map (·.1)) cs ds=some b→∃ q:Nat→Bool,(∀ f ∈ fs,∃ x y,cs[f.1]? = some (.v x)∧ds[f.1]? = some (.v y)∧eqV1 x y=some (q f.1))∧b=fs.all fun f=>q f.1
 | [],cs,ds,b,h=>by cases h; exact ⟨fun _=>true,fun f h=>by simp at h,rfl⟩
 | f :: fs,cs,ds,b,h=>by
  simp only [List.map_cons,eqCells] at h
  split at h
  ·rename_i x y q' hx hy hq
   split at h
   ·rename_i q hq1
    cases h
    obtain ⟨g,g1,g2⟩:=eqCells_at fs cs ds q' hq
    refine ⟨fun o=>if o=f.1 then q else g o,fun f' hf'=>?_,?_⟩
    ·rcases List.mem_cons.1 hf' with rfl | hf'
     ·exact ⟨x,y,hx,hy,by simp [hq1]⟩
     ·obtain ⟨x',y',a1,a2,a3⟩:=g1 f' hf'
      by_cases he:f'.1=f.1
      ·rw [he] at a1 a2 ⊢
       rw [hx] at a1; rw [hy] at a2
       cases a1; cases a2
       exact ⟨_,_,hx,hy,by simp [hq1]⟩
      ·exact ⟨x',y',a1,a2,by simp [he,a3]⟩
    ·rw [List.all_cons,g2]
     simp only [if_true]
     congr 1
     rw [Bool.eq_iff_iff,List.all_eq_true,List.all_eq_true]
     have key:∀ f' ∈ fs,(if f'.1=f.1 then q else g f'.1)=g f'.1:=fun f' hf'=>by
      split
      ·rename_i he
       obtain ⟨x',y',a1,a2,a3⟩:=g1 f' hf'
       rw [he] at a1 a2 a3 ⊢
       rw [hx] at a1; rw [hy] at a2
       cases a1; cases a2
       rw [hq1] at a3; exact Option.some.inj a3
      ·rfl
     exact ⟨fun h f' hf'=>by rw [key f' hf']; exact h f' hf',fun h f' hf'=>by have:=h f' hf'; rwa [key f' hf'] at this⟩
   ·cases h
  ·cases h
theorem eqFs_at:∀ (fs:List Field) (l:List (Nat × TypeDesc)),eqFs P fs=some l→(l.map (·.1)=fs.map (·.offset))∧∀ f ∈ fs,f.name ≠ "_"∧∃ td,P.underlying f.type=some td∧(f.offset,td) ∈ l
 | [],l,h=>by cases h; exact ⟨rfl,fun f h=>by simp at h⟩
 | f :: r,l,h=>by
  simp only [eqFs] at h
  split at h
  ·rename_i td l' h1 h2
   split at h
   ·rename_i hn
    cases h
    obtain ⟨g1,g2⟩:=eqFs_at r l' h2
    refine ⟨by simp [g1],fun f' hf'=>?_⟩
    rcases List.mem_cons.1 hf' with rfl | hf'
    ·exact ⟨hn,td,h1,by simp⟩
    ·obtain ⟨a1,td',a2,a3⟩:=g2 f' hf'
     exact ⟨a1,td',a2,by simp [a3]⟩
   ·cases h
  ·cases h
theorem run_part1 {t:TypeId} {td:TypeDesc} (hu:P.underlying t=some td) (hn:isAggD td=false) {us:List Value} {o:Nat} {v:Value} (hv:us[o]? = some v) (w:World):(part t us.toArray o).run P w=.ok v w:=by
 simp [part,run_isAgg hu,hn,hv]
theorem fits_flat {td:TypeDesc} {v:Value} (h:fitsT td v=true):isAggD td=false:=by
 cases td<;>first | rfl | (cases v<;>cases h)
theorem run_eqs {t:TypeId} {fs:Array Field} {l:List (Nat × TypeDesc)} (hu:P.underlying t=some (.struct fs)) (hst:P.stoodInHeld t=false) (hl:eqFs P fs.toList=some l) {c:Cx} {cs ds:List AV} {us vs:List Value} (h1:RL c cs us) (h2:RL c ds vs) {b:Bool}
  (hb:eqCells (l.map (·.1)) cs ds=some b) (hf:(l.all fun f=>match cs[f.1]?,ds[f.1]? with | some (.v a),some (.v b)=>fitsT f.2 a && fitsT f.2 b | _,_=>false)=true) (n:Nat) (w:World) :
  (Op.equalIn (n + 2) t (.agg us.toArray) (.agg vs.toArray)).run P w=.ok b w:=by
 obtain ⟨q,q1,q2⟩:=eqCells_at l cs ds b hb
 obtain ⟨f1,f2⟩:=eqFs_at (P:=P) fs.toList l hl
 unfold Op.equalIn
 simp only [Sem.run_bind,run_underlying hu,Result.andThen_ok,run_program,hst]
 have hall:b=fs.toList.all fun f=>q f.offset:=by
  rw [q2]
  have:(l.all fun f=>q f.1)=(l.map (·.1)).all q:=by rw [List.all_map]; rfl
  rw [this,f1,List.all_map]; rfl
 rw [hall]
 simp only [Bool.false_eq_true,if_false,Sem.run_pure,Result.andThen_ok]
 rw [← Array.forIn_toList]
 rw [Sem.run_bind,run_forIn_all (P:=P) _ (none,()) (some false,()) w fs.toList (fun f=>q f.offset) (fun f hfm=>?_)]
 ·simp only [Result.andThen_ok]
  cases (fs.toList.all fun f=>q f.offset)<;>rfl
 ·obtain ⟨hn,td,ht,hm⟩:=f2 f hfm
  obtain ⟨x,y,a1,a2,a3⟩:=q1 _ hm
  have hfit:=List.all_eq_true.1 hf _ hm
  simp only at a1 a2 a3 hfit
  rw [a1,a2] at hfit
  simp only [Bool.and_eq_true] at hfit
  obtain ⟨u,hu1,hu2,_⟩:=h1.get a1
  obtain ⟨v,hv1,hv2,_⟩:=h2.get a2
  have e1:=hu2.inv_v.1
  have e2:=hv2.inv_v.1
  subst e1; subst e2
  rw [if_pos hn]
  simp only [Sem.run_bind,run_part1 ht (fits_flat hfit.1) hu1,run_part1 ht (fits_flat hfit.1) hv1,Result.andThen_ok,run_eq1 ht a3 hfit.1 hfit.2]
  cases q f.offset<;>rfl
theorem ok_eqs {N:Nat} {o:Oper} {neq:Bool} {t t':TypeId} {fs:Array Field} {l:List (Nat × TypeDesc)} {x y:Operand} {p q:Opd} {d:Nat} (ho:o.op=.binOp (bif neq then .neq else .eql) t x y t') (hd:o.dst=some d) (hdN:d < N) (hx:cOpd x=some p) (hy:cOpd y=some q)
  (hu:P.underlying t=some (.struct fs)) (hst:P.stoodInHeld t=false) (hgt:P.eqGuardType P.depth t=false) (hl:eqFs P fs.toList=some l):OpOk P N o (sEqs d neq l p q):=by
 intro w0 ds c a F H K Q hS hF hN hds h
 unfold sEqs at h
 split at h
 ·rename_i cs ds' hcs hds'
  split at h
  ·rename_i b hb
   obtain ⟨us,e1,r1⟩:=(cOpd_ok hF hx hcs).inv_agg
   obtain ⟨vs,e2,r2⟩:=(cOpd_ok hF hy hds').inv_agg
   have hrun:=run_eqs (P:=P) hu hst hl r1 r2 hb h.1 9998 c.w
   have hrun':(Op.equal t (.agg us.toArray) (.agg vs.toArray)).run P c.w=.ok b c.w:=hrun
   refine wp_val (u:=.bool (bif neq then !b else b)) (w':=c.w) ?_ ?_
   ·cases neq
    ·simp only [cond_false] at ho ⊢
     simp [execOp,ho,e1,e2,eqGuard,binOp,hgt,hrun']
    ·simp only [cond_true] at ho ⊢
     simp [execOp,ho,e1,e2,eqGuard,binOp,hgt,hrun']
   ·rw [hd]; exact fin_same hS hF hN hds hdN (.deep (.v _ rfl)) h.2
  ·exact h.elim
 ·exact h.elim
end
end Ab
end Go.Proofs.YtgddkgbidhhheaaGreatDoor
namespace Go.Proofs.YtgddkgbidhhheaaGreatDoor
open Go.RowKit Go.MapKept
namespace Ab
section
variable {P:Program}
def isIface:TypeDesc→Bool
 | .interface _=>true
 | _=>false
def sMki (d:Nat) (t:TypeId) (x:Opd) (F:Fr) (H:List Ob) (K:Fr→List Ob→Prop):Prop:=
 match opd F x with
 | some y=>deepE y=true∧K (upd F d (.ifc t y)) H
 | none=>False
theorem ok_mki {N:Nat} {o:Oper} {t:TypeId} {td:TypeDesc} {x:Operand} {p:Opd} {d:Nat} (ho:o.op=.makeInterface t x) (hd:o.dst=some d) (hdN:d < N) (hx:cOpd x=some p)
  (hu:P.underlying t=some td) (hn:isIface td=false):OpOk P N o (sMki d t p):=by
 intro w0 ds c a F H K Q hS hF hN hds h
 unfold sMki at h
 split at h
 ·rename_i y hy
  obtain ⟨hdp,hK⟩:=h
  have hr:=(cOpd_ok hF hx hy).rdE hdp
  refine wp_val (u:=.iface t (a.eval x)) (w':=c.w) ?_ ?_
  ·cases td<;>first | (simp [isIface] at hn; done) | simp [execOp,ho,Instr.makeInterface,run_underlying hu]
  ·rw [hd]; exact fin_same hS hF hN hds hdN (.deep (.ifc t y _ hr)) hK
 ·exact h.elim
def tasR (ok:Bool) (x:AV):AV:=bif ok then .tup [x,.v (.bool true)] else x
def sTas (d:Nat) (t:TypeId) (ok:Bool) (z:AV) (x:Opd) (F:Fr) (H:List Ob) (K:Fr→List Ob→Prop):Prop:=
 match opd F x with
 | some (.ifc t' y)=>if t'=t then K (upd F d (tasR ok y)) H else ok=true∧K (upd F d (.tup [z,.v (.bool false)])) H
 | some (.v .nilIface)=>ok=true∧K (upd F d (.tup [z,.v (.bool false)])) H
 | _=>False
theorem tup2_rv {c : Cx} {x : AV} {u : Value} (h : RV c x u) (b : Bool) : RV c (.tup [x, .v (.bool b)]) (.tuple #[u, .bool b]) := by
  have := RV.tup (c := c) [x, .v (.bool b)] [u, .bool b] rfl (fun j y v hy hv => by
    match j with
    | 0 => cases hy; cases hv; exact h
    | 1 => cases hy; cases hv; exact .deep (.v _ rfl)
    | j + 2 => simp at hy)
  exact this
theorem ok_tas {N:Nat} {o:Oper} {t xt:TypeId} {td:TypeDesc} {i:TypeInfo} {zv:Value} {z:AV} {ok:Bool} {x:Operand} {p:Opd} {d:Nat} (ho:o.op=.typeAssert x xt t ok) (hd:o.dst=some d) (hdN:d < N) (hx:cOpd x=some p)
  (hu:P.underlying t=some td) (hn:isIface td=false) (hi:P.info? t=some i) (hz:i.zero=some zv) (hzz:cav zv=some z):OpOk P N o (sTas d t ok z p):=by
 intro w0 ds c a F H K Q hS hF hN hds h
 have hz0:(zeroValue t).run P c.w=.ok zv c.w:=by simp [zeroValue,typeInfo,hi,hz]
 have hzr:RV c z zv:=cav_ok hzz
 unfold sTas at h
 split at h
 ·rename_i t' y hy
  obtain ⟨v,e1,hv⟩:=(cOpd_ok hF hx hy).inv_ifc
  split at h
  ·rename_i htt
   subst htt
   refine wp_val (u:=bif ok then .tuple #[v,.bool true] else v) (w':=c.w) ?_ ?_
   ·cases td<;>first | (simp [isIface] at hn; done) | (cases ok<;>simp [execOp,ho,e1,Instr.typeAssert,run_underlying hu])
   ·rw [hd]
    refine fin_same hS hF hN hds hdN ?_ h
    cases ok
    ·exact .deep hv
    ·exact tup2_rv (.deep hv) true
  ·rename_i htt
   obtain ⟨rfl,h⟩:=h
   refine wp_val (u:=.tuple #[zv,.bool false]) (w':=c.w) ?_ ?_
   ·cases td<;>first | (simp [isIface] at hn; done) | simp [execOp,ho,e1,Instr.typeAssert,run_underlying hu,htt,hz0]
   ·rw [hd]; exact fin_same hS hF hN hds hdN (tup2_rv hzr false) h
 ·rename_i hy
  have e1:=(cOpd_ok hF hx hy).inv_v.1
  obtain ⟨rfl,h⟩:=h
  refine wp_val (u:=.tuple #[zv,.bool false]) (w':=c.w) ?_ ?_
  ·cases td<;>first | (simp [isIface] at hn; done) | simp [execOp,ho,e1,Instr.typeAssert,run_underlying hu,hz0]
  ·rw [hd]; exact fin_same hS hF hN hds hdN (tup2_rv hzr false) h
 ·exact h.elim
def sMkf (d:Nat) (f:FuncId) (ps:List Opd) (F:Fr) (H:List Ob) (K:Fr→List Ob→Prop):Prop:=
 match evL F ps with
 | some xs=>K (upd F d (.clo f xs)) H
 | none=>False
theorem evL_ok {c:Cx} {F:Fr} {a:Act} (hF:RF c F a):∀ (os:List Operand) (ps:List Opd),cList os=some ps→∀ (xs:List AV),evL F ps=some xs →
  (os.map a.eval).length=xs.length∧∀ (j:Nat) (x:AV) (u:Value),xs[j]? = some x→(os.map a.eval)[j]? = some u→RV c x u
 | [],ps,h,xs,hx=>by cases h; cases hx; exact ⟨rfl,fun j x u h=>by simp at h⟩
 | o :: os,ps,h,xs,hx=>by
  simp only [cList] at h
  split at h
  ·rename_i p ps' hp hps
   cases h
   simp only [evL] at hx
   split at hx
   ·rename_i y ys hy hys
    cases hx
    obtain ⟨h1,h2⟩:=evL_ok hF os ps' hps ys hys
    refine ⟨by simpa using h1,fun j x u hx hu=>?_⟩
    cases j with
    | zero=>cases hx; cases hu; exact cOpd_ok hF hp hy
    | succ j=>exact h2 j x u hx hu
   ·cases hx
  ·cases h
theorem ok_mkf {N:Nat} {o:Oper} {f:FuncId} {cap:Array Operand} {ps:List Opd} {d:Nat} (ho:o.op=.makeFunc (.func f) #[] cap) (hd:o.dst=some d) (hdN:d < N) (hc:cList cap.toList=some ps):OpOk P N o (sMkf d f ps):=by
 intro w0 ds c a F H K Q hS hF hN hds h
 unfold sMkf at h
 split at h
 ·rename_i xs hxs
  obtain ⟨h1,h2⟩:=evL_ok hF _ _ hc _ hxs
  have e:(cap.map a.eval)=(cap.toList.map a.eval).toArray:=by apply Array.ext'; simp
  refine wp_val (u:=.func (.func f) #[] (cap.toList.map a.eval).toArray) (w':=c.w) ?_ ?_
  ·simp [execOp,ho,Instr.makeFunc,e]
  ·rw [hd]; exact fin_same hS hF hN hds hdN (.clo f xs _ h1 h2) h
 ·exact h.elim
def keyB:TypeDesc→Value→Bool
 | .bool,.bool _=>true
 | .int k,.int k' _=>k' == k
 | .string,.string _=>true
 | _,_=>false
theorem keyB_is {kd:TypeDesc} {k:Value} (h:keyB kd k=true):IsKey kd k:=by
 cases kd<;>cases k<;>simp_all [keyB,IsKey]
def keq:Value→Value→Bool
 | .int _ a,.int _ b=>a == b
 | .string a,.string b=>a == b
 | .bool a,.bool b=>a == b
 | _,_=>false
def mfind (k:Value):List (Value × Value)→Option (Nat × Value)
 | []=>none
 | (a,v) :: r=>bif keq k a then some (0,v) else (mfind k r).map fun p=>(p.1 + 1,p.2)
def mget (k:Value) (es:List (Value × Value)):Option Value:=(mfind k es).map (·.2)
def midx (k:Value) (es:List (Value × Value)):Nat:=match mfind k es with | some p=>p.1 | none=>es.length
def mst (i:Nat) (v:Value) (es:List (Value × Value)):List (Value × Value):=es.modify i fun p=>(p.1,v)
def mset (k v:Value) (es:List (Value × Value)):List (Value × Value):=match mfind k es with | some p=>mst p.1 v es | none=>es++[(k,v)]
def mput (k z:Value) (es:List (Value × Value)):List (Value × Value):=match mfind k es with | some _=>es | none=>es++[(k,z)]
theorem sameNow_keq {kd:TypeDesc} {a b:Value} (ha:IsKey kd a) (hb:IsKey kd b):Instr.sameNow kd a b=some (keq a b)∧(keq a b=true→a=b):=by
 cases kd<;>cases a<;>cases b<;>simp_all [IsKey,Instr.sameNow,keq,bytes_beq]
theorem findNow_mfind {kd:TypeDesc} {k:Value} (hk:IsKey kd k):∀ (l:List MapEntry) (i:Nat),(∀ x ∈ l,IsKey kd x.key) →
  Instr.findNow kd k l i=some ((mfind k (l.map fun e=>(e.key,e.val))).map fun p=>(i + p.1,p.2))
 | [],i,_=>rfl
 | e :: es,i,h=>by
  obtain ⟨h1,h2⟩:=sameNow_keq hk (h e (.head _))
  have ih:=findNow_mfind hk es (i + 1) (fun x hx=>h x (.tail _ hx))
  simp only [List.map_cons,mfind,Instr.findNow,h1]
  cases keq k e.key
  ·simp only [cond_false,ih,Option.map_map]
   congr 2
   funext p
   simp only [Function.comp]
   congr 1
   omega
  ·rfl
theorem mfind_at {kd:TypeDesc} {k:Value} (hk:IsKey kd k):∀ (es:List (Value × Value)) (p:Nat × Value),(∀ q ∈ es,IsKey kd q.1)→mfind k es=some p→es[p.1]? = some (k,p.2)
 | [],p,_,h=>by cases h
 | (a,v) :: r,p,hks,h=>by
  simp only [mfind] at h
  cases hq:keq k a with
  | true=>
   rw [hq] at h
   cases h
   rw [(sameNow_keq hk (hks (a,v) (.head _))).2 hq]; rfl
  | false=>
   rw [hq] at h
   simp only [cond_false,Option.map_eq_some_iff] at h
   obtain ⟨q,h1,rfl⟩:=h
   exact mfind_at hk r q (fun x hx=>hks x (.tail _ hx)) h1
def sMkm (d:Nat) (kd:TypeDesc) (F:Fr) (H:List Ob) (K:Fr→List Ob→Prop):Prop:=K (upd F d (.row H.length)) (H++[.mp kd []])
theorem ok_mkm {N : Nat} {o : Oper} {t : TypeId} {kd : TypeDesc} {d : Nat} (ho : o.op = .makeMap t none) (hd : o.dst = some d) (hdN : d < N) : OpOk P N o (sMkm d kd) := by
  intro w0 ds c a F H K Q hS hF hN hds h
  unfold sMkm at h
  have hnew : St w0 (c.push (c.w.alloc (.map #[] 0)) c.w.heap.size (.map (some c.w.heap.size))) (H ++ [.mp kd []]) ∧ Step c H (c.push (c.w.alloc (.map #[] 0)) c.w.heap.size (.map (some c.w.heap.size))) (H ++ [.mp kd []]) :=
    push_new hS (.mp kd []) (Nat.le_refl _) (by simp) rfl rfl rfl (fun b hb => Below.heap_alloc _ _ _ hb) (fun hle => by
      refine ⟨.inr rfl, ?_, ?_, #[], ?_, rfl, fun i e he => by simp at he, fun p hp => by simp at hp⟩
      · rw [c.push_sv, c.push_β]
      · rw [c.push_β]; exact .inr rfl
      · rw [c.push_β]; exact heap_alloc_new c.w _)
  refine wp_val (u := .map (some c.w.heap.size)) (w' := c.w.alloc (.map #[] 0)) ?_ ?_
  · simp [execOp, ho, Instr.makeMap]
  · rw [hd]
    refine fin_to hnew hF hN hds hdN ?_ h
    have := RV.row (c := c.push (c.w.alloc (.map #[] 0)) c.w.heap.size (.map (some c.w.heap.size))) c.k (.inr rfl) (by rw [c.push_sv]; rfl)
    rw [c.push_sv, hS.k] at this
    exact this
theorem mp_inv {w0:World} {c:Cx} {H:List Ob} (hS:St w0 c H) {i:Nat} {kd:TypeDesc} {es:List (Value × Value)} (ho:H[i]? = some (.mp kd es)) {u:Value} (hu:RV c (.row i) u) :
  u=.map (some (c.β i))∧c.born i∧MapIs c.w (c.β i) kd es:=by
 obtain ⟨h1,h2,h3,h4⟩:=hS.ob i _ ho
 exact ⟨hu.inv_row.1.trans h2,h1,h4⟩
theorem mp_put {w0:World} {c:Cx} {H:List Ob} (hS:St w0 c H) {i:Nat} {kd:TypeDesc} {es es':List (Value × Value)} (ho:H[i]? = some (.mp kd es)) (ents:Array MapEntry)
  (h1:ents.toList.map (fun e=>(e.key,e.val))=es') (h2:∀ (i:Nat) (e:MapEntry),ents.toList[i]? = some e→e.born=i) (h3:∀ p ∈ es',IsKey kd p.1∧flat p.2=true) :
  St w0 (c.at { c.w with heap:=c.w.heap.setIfInBounds (c.β i) (.map ents ents.size) }) (H.set i (.mp kd es'))∧Step c H (c.at { c.w with heap:=c.w.heap.setIfInBounds (c.β i) (.map ents ents.size) }) (H.set i (.mp kd es')):=by
 obtain ⟨g1,g2,g3,es0,g4,_⟩:=hS.ob i _ ho
 obtain ⟨q1,q2⟩:=heap_set (o':=.map ents ents.size) g4
 exact write_obj hS _ ho rfl g1 rfl (by simp) rfl rfl rfl q2 (fun hle=>⟨g1,g2,g3,ents,q1,h1,h2,h3⟩)
def lkr (ok:Bool) (z:Value) (o:Option Value):AV:=bif ok then .tup [.v (o.getD z),.v (.bool o.isSome)] else .v (o.getD z)
def sLku (d:Nat) (kd:TypeDesc) (ok:Bool) (z:Value) (m k:Opd) (F:Fr) (H:List Ob) (K:Fr→List Ob→Prop):Prop:=
 match opd F m,opd F k with
 | some (.row i),some (.v kv)=>match H[i]? with
  | some (.mp kd' es)=>(kd'=kd∧keyB kd kv=true)∧K (upd F d (lkr ok z (mget kv es))) H
  | _=>False
 | some (.v (.map none)),some (.v kv)=>keyB kd kv=true∧K (upd F d (lkr ok z none)) H
 | _,_=>False
theorem lkr_rv {c:Cx} {ok:Bool} {z:Value} {o:Option Value} (hz:flat z=true) (ho:∀ v,o=some v→flat v=true):RV c (lkr ok z o) (bif ok then .tuple #[o.getD z,.bool o.isSome] else o.getD z):=by
 have hf:RV c (.v (o.getD z)) (o.getD z):=.deep (.v _ (by cases o with | none=>exact hz | some v=>exact ho v rfl))
 cases ok
 ·exact hf
 ·exact tup2_rv hf _
theorem mget_flat {kd:TypeDesc} {k v:Value} {es:List (Value × Value)} (hk:IsKey kd k) (hes:∀ p ∈ es,IsKey kd p.1∧flat p.2=true) (h:mget k es=some v):flat v=true:=by
 simp only [mget,Option.map_eq_some_iff] at h
 obtain ⟨p,hp,rfl⟩:=h
 exact (hes _ (List.mem_of_getElem? (mfind_at hk es p (fun q hq=>(hes q hq).1) hp))).2
theorem keys_ents {kd:TypeDesc} {ents:Array MapEntry} {es:List (Value × Value)} (h:ents.toList.map (fun e=>(e.key,e.val))=es) (hes:∀ p ∈ es,IsKey kd p.1∧flat p.2=true):∀ x ∈ ents.toList,IsKey kd x.key:=fun x hx=>
 (hes (x.key,x.val) (by rw [← h]; exact List.mem_map.2 ⟨x,hx,rfl⟩)).1
theorem ok_lku {N:Nat} {o:Oper} {t kt et:TypeId} {kd:TypeDesc} {i:TypeInfo} {z:Value} {ok:Bool} {m k:Operand} {p q:Opd} {d:Nat} (ho:o.op=.lookup t m k ok) (hd:o.dst=some d) (hdN:d < N) (hm:cOpd m=some p) (hk:cOpd k=some q)
  (hu:P.underlying t=some (.map kt et)) (hkd:P.underlying kt=some kd) (hi:P.info? et=some i) (hz:i.zero=some z) (hf:flat z=true):OpOk P N o (sLku d kd ok z p q):=by
 intro w0 ds c a F H K Q hS hF hN hds h
 have hz0:(zeroValue et).run P c.w=.ok z c.w:=by simp [zeroValue,typeInfo,hi,hz]
 unfold sLku at h
 split at h
 ·rename_i r kv hy hkv
  have e2:=(cOpd_ok hF hk hkv).inv_v.1
  split at h
  ·rename_i kd' es hob
   obtain ⟨⟨rfl,hkb⟩,hK⟩:=h
   obtain ⟨e1,hb,ents,g1,g2,g3,g4⟩:=mp_inv hS hob (cOpd_ok hF hm hy)
   have hkk:=keyB_is hkb
   have hfn:=findNow_mfind hkk ents.toList 0 (keys_ents g2 g4)
   rw [g2] at hfn
   have hrun:(execOp a.eval o).run P c.w=.ok (.value (bif ok then .tuple #[(mget kv es).getD z,.bool (mget kv es).isSome] else (mget kv es).getD z)) c.w:=by
    simp only [execOp,ho,e1,e2,Instr.lookup,Sem.run_bind,run_underlying hu,Result.andThen_ok,MapKept.run_getObj_map g1,Sem.run_pure,run_checkKey hkd hkk,run_findKey hkd hfn]
    cases hmf:mfind kv es with
    | none=>cases ok<;>simp [mget,hmf,hz0]
    | some pp=>cases ok<;>simp [mget,hmf]
   refine wp_val hrun ?_
   rw [hd]; exact fin_same hS hF hN hds hdN (lkr_rv hf (fun v hv=>mget_flat hkk g4 hv)) hK
  ·exact h.elim
 ·rename_i kv hy hkv
  have e1:=(cOpd_ok hF hm hy).inv_v.1
  have e2:=(cOpd_ok hF hk hkv).inv_v.1
  obtain ⟨hkb,hK⟩:=h
  have hkk:=keyB_is hkb
  have hfn:Instr.findNow kd kv [] 0=some none:=rfl
  have hrun:(execOp a.eval o).run P c.w=.ok (.value (bif ok then .tuple #[z,.bool false] else z)) c.w:=by
   simp only [execOp,ho,e1,e2,Instr.lookup,Sem.run_bind,run_underlying hu,Result.andThen_ok,Sem.run_pure,run_checkKey hkd hkk,run_findKey hkd hfn]
   cases ok<;>simp [hz0]
  refine wp_val hrun ?_
  rw [hd]; exact fin_same hS hF hN hds hdN (lkr_rv (o:=none) hf (fun v hv=>by cases hv)) hK
 ·exact h.elim
def sMup (kd:TypeDesc) (m k x:Opd) (F:Fr) (H:List Ob) (K:Fr→List Ob→Prop):Prop:=
 match opd F m,opd F k,opd F x with
 | some (.row i),some (.v kv),some (.v xv)=>match H[i]? with
  | some (.mp kd' es)=>(kd'=kd∧keyB kd kv=true)∧K F (H.set i (.mp kd (mset kv xv es)))
  | _=>False
 | _,_,_=>False
theorem ents_modify {ents:Array MapEntry} {es:List (Value × Value)} (h:ents.toList.map (fun e=>(e.key,e.val))=es) (j:Nat) (v:Value) (f:MapEntry→MapEntry) (hf:∀ e,ents[j]? = some e→(f e).key=e.key∧(f e).val=v) :
  (ents.modify j f).toList.map (fun e=>(e.key,e.val))=mst j v es:=by
 subst h
 apply List.ext_getElem?
 intro i
 simp only [mst,List.getElem?_map,Array.getElem?_toList,Array.getElem?_modify,List.getElem?_modify]
 by_cases hij:j=i
 ·subst hij
  cases he:ents[j]? with
  | none=>simp
  | some e=>simp [(hf e he).1,(hf e he).2]
 ·simp [hij]
theorem ents_born {ents:Array MapEntry} (h:∀ (i:Nat) (e:MapEntry),ents.toList[i]? = some e→e.born=i) (j:Nat) (f:MapEntry→MapEntry) (hf:∀ e,(f e).born=e.born):∀ (i:Nat) (e:MapEntry),(ents.modify j f).toList[i]? = some e→e.born=i:=by
 intro i e he
 simp only [Array.getElem?_toList,Array.getElem?_modify] at he
 split at he
 ·simp only [Option.map_eq_some_iff] at he
  obtain ⟨x,hx,rfl⟩:=he
  rw [hf]
  exact h i x (by simpa using hx)
 ·exact h i e (by simpa using he)
theorem ents_push {ents:Array MapEntry} {es:List (Value × Value)} (h:ents.toList.map (fun e=>(e.key,e.val))=es) (hb:∀ (i:Nat) (e:MapEntry),ents.toList[i]? = some e→e.born=i) (k v:Value) :
  (ents.push { key:=k,val:=v,born:=ents.size }).toList.map (fun e=>(e.key,e.val))=es++[(k,v)]∧∀ (i:Nat) (e:MapEntry),(ents.push { key:=k,val:=v,born:=ents.size }).toList[i]? = some e→e.born=i:=by
 refine ⟨by rw [← h]; simp,fun i e he=>?_⟩
 simp only [Array.getElem?_toList,Array.getElem?_push] at he
 split at he
 ·rename_i hi; cases he; exact hi.symm
 ·exact hb i e (by simpa using he)
theorem mst_ok {kd:TypeDesc} {es:List (Value × Value)} (h:∀ p ∈ es,IsKey kd p.1∧flat p.2=true) (j:Nat) {v:Value} (hv:flat v=true):∀ p ∈ mst j v es,IsKey kd p.1∧flat p.2=true:=by
 intro p hp
 obtain ⟨i,hi⟩:=List.getElem?_of_mem hp
 simp only [mst,List.getElem?_modify] at hi
 simp only [Option.map_eq_map,Option.map_eq_some_iff] at hi
 obtain ⟨q,hq,rfl⟩:=hi
 have:=h q (List.mem_of_getElem? hq)
 split
 ·exact ⟨this.1,hv⟩
 ·exact this
theorem app_ok {kd:TypeDesc} {es:List (Value × Value)} (h:∀ p ∈ es,IsKey kd p.1∧flat p.2=true) {k v:Value} (hk:IsKey kd k) (hv:flat v=true):∀ p ∈ es++[(k,v)],IsKey kd p.1∧flat p.2=true:=by
 intro p hp
 rcases List.mem_append.1 hp with hp | hp
 ·exact h p hp
 ·rw [List.mem_singleton.1 hp]; exact ⟨hk,hv⟩
theorem ok_mup {N:Nat} {o:Oper} {t kt et:TypeId} {kd:TypeDesc} {m k x:Operand} {p q r:Opd} (ho:o.op=.mapUpdate t m k x∨o.op=.insert t m k x) (hd:o.dst=none) (hm:cOpd m=some p) (hk:cOpd k=some q) (hx:cOpd x=some r)
  (hu:P.underlying t=some (.map kt et)) (hkd:P.underlying kt=some kd):OpOk P N o (sMup kd p q r):=by
 intro w0 ds c a F H K Q hS hF hN hds h
 unfold sMup at h
 split at h
 ·rename_i i kv xv hy hkv hxv
  have e2:=(cOpd_ok hF hk hkv).inv_v.1
  have e3:=(cOpd_ok hF hx hxv).inv_v
  split at h
  ·rename_i kd' es hob
   obtain ⟨⟨rfl,hkb⟩,hK⟩:=h
   obtain ⟨e1,hb,ents,g1,g2,g3,g4⟩:=mp_inv hS hob (cOpd_ok hF hm hy)
   have hkk:=keyB_is hkb
   have hfn:=findNow_mfind hkk ents.toList 0 (keys_ents g2 g4)
   rw [g2] at hfn
   cases hmf:mfind kv es with
   | none=>
    rw [hmf] at hfn
    have hms:mset kv xv es=es++[(kv,xv)]:=by simp only [mset,hmf]
    obtain ⟨p1,p2⟩:=ents_push g2 g3 kv xv
    have hput:=mp_put hS hob (ents.push { key:=kv,val:=xv,born:=ents.size }) (es':=mset kv xv es) (by rw [hms]; exact p1) p2 (by rw [hms]; exact app_ok g4 hkk e3.2)
    refine wp_skp (w':={ c.w with heap:=c.w.heap.setIfInBounds (c.β i) (.map (ents.push { key:=kv,val:=xv,born:=ents.size }) (ents.push { key:=kv,val:=xv,born:=ents.size }).size) }) ?_ ?_
    ·rcases ho with ho | ho<;>simp [execOp,ho,e1,e2,e3.1,Instr.mapUpdate,run_underlying hu,MapKept.run_getObj_map g1,run_checkKey hkd hkk,run_findKey hkd hfn,MapKept.run_setObj_map _ g1]
    ·rw [hd]; exact ⟨_,F,_,rfl,hput.2,hput.1,hF.le hput.2.le,hN,hds,hK⟩
   | some pp=>
    rw [hmf] at hfn
    have hat:=mfind_at hkk es pp (fun q hq=>(g4 q hq).1) hmf
    have hms:mset kv xv es=mst pp.1 xv es:=by simp only [mset,hmf]
    have hj:∃ e,ents[pp.1]? = some e∧e.key=kv:=by
     rw [← g2,List.getElem?_map,Option.map_eq_some_iff] at hat
     obtain ⟨e,he,h1⟩:=hat
     exact ⟨e,by simpa using he,(Prod.mk.inj h1).1⟩
    obtain ⟨e,hj,hek⟩:=hj
    have hput:=mp_put hS hob (ents.modify pp.1 fun e=>{ e with key:=kv,val:=xv }) (es':=mset kv xv es) (by rw [hms]; exact ents_modify g2 _ _ _ (fun e' he'=>by rw [hj] at he'; cases he'; exact ⟨hek.symm,rfl⟩)) (ents_born g3 _ _ (fun _=>rfl)) (by rw [hms]; exact mst_ok g4 _ e3.2)
    refine wp_skp (w':={ c.w with heap:=c.w.heap.setIfInBounds (c.β i) (.map (ents.modify pp.1 fun e=>{ e with key:=kv,val:=xv }) (ents.modify pp.1 fun e=>{ e with key:=kv,val:=xv }).size) }) ?_ ?_
    ·rcases ho with ho | ho<;>simp [execOp,ho,e1,e2,e3.1,Instr.mapUpdate,run_underlying hu,MapKept.run_getObj_map g1,run_checkKey hkd hkk,run_findKey hkd hfn,hj,hek,run_keyThatStays hkk,MapKept.run_setObj_map _ g1]
    ·rw [hd]; exact ⟨_,F,_,rfl,hput.2,hput.1,hF.le hput.2.le,hN,hds,hK⟩
  ·exact h.elim
 ·exact h.elim
def sMen (d:Nat) (kd:TypeDesc) (z:Value) (m k:Opd) (F:Fr) (H:List Ob) (K:Fr→List Ob→Prop):Prop:=
 match opd F m,opd F k with
 | some (.row i),some (.v kv)=>match H[i]? with
  | some (.mp kd' es)=>(kd'=kd∧keyB kd kv=true)∧K (upd F d (.tup [.v ((mget kv es).getD z),.v (.int .i64 (midx kv es:Nat))])) (H.set i (.mp kd (mput kv z es)))
  | _=>False
 | _,_=>False
theorem tup2v_rv {c : Cx} {x y : Value} (hx : flat x = true) (hy : flat y = true) : RV c (.tup [.v x, .v y]) (.tuple #[x, y]) := by
  have := RV.tup (c := c) [.v x, .v y] [x, y] rfl (fun j a v ha hv => by
    match j with
    | 0 => cases ha; cases hv; exact .deep (.v _ hx)
    | 1 => cases ha; cases hv; exact .deep (.v _ hy)
    | j + 2 => simp at ha)
  exact this
theorem ok_men {N:Nat} {o:Oper} {t kt et:TypeId} {kd:TypeDesc} {i:TypeInfo} {z:Value} {m k:Operand} {p q:Opd} {d:Nat} (ho:o.op=.mapEntry t m k) (hd:o.dst=some d) (hdN:d < N) (hm:cOpd m=some p) (hk:cOpd k=some q)
  (hu:P.underlying t=some (.map kt et)) (hkd:P.underlying kt=some kd) (hi:P.info? et=some i) (hz:i.zero=some z) (hf:flat z=true):OpOk P N o (sMen d kd z p q):=by
 intro w0 ds c a F H K Q hS hF hN hds h
 have hz0:(zeroValue et).run P c.w=.ok z c.w:=by simp [zeroValue,typeInfo,hi,hz]
 unfold sMen at h
 split at h
 ·rename_i r kv hy hkv
  have e2:=(cOpd_ok hF hk hkv).inv_v.1
  split at h
  ·rename_i kd' es hob
   obtain ⟨⟨rfl,hkb⟩,hK⟩:=h
   obtain ⟨e1,hb,ents,g1,g2,g3,g4⟩:=mp_inv hS hob (cOpd_ok hF hm hy)
   have hkk:=keyB_is hkb
   have hfn:=findNow_mfind hkk ents.toList 0 (keys_ents g2 g4)
   rw [g2] at hfn
   have hlen:es.length=ents.size:=by rw [← g2]; simp
   cases hmf:mfind kv es with
   | none=>
    rw [hmf] at hfn
    have hms:mput kv z es=es++[(kv,z)]:=by simp only [mput,hmf]
    have hmi:midx kv es=ents.size:=by simp only [midx,hmf,hlen]
    obtain ⟨p1,p2⟩:=ents_push g2 g3 kv z
    have hput:=mp_put hS hob (ents.push { key:=kv,val:=z,born:=ents.size }) (es':=mput kv z es) (by rw [hms]; exact p1) p2 (by rw [hms]; exact app_ok g4 hkk hf)
    refine wp_val (u:=.tuple #[z,.int .i64 (ents.size:Nat)]) (w':={ c.w with heap:=c.w.heap.setIfInBounds (c.β r) (.map (ents.push { key:=kv,val:=z,born:=ents.size }) (ents.push { key:=kv,val:=z,born:=ents.size }).size) }) ?_ ?_
    ·simp [execOp,ho,e1,e2,Instr.mapEntry,run_underlying hu,MapKept.run_getObj_map g1,run_checkKey hkd hkk,run_findKey hkd hfn,hz0,MapKept.run_setObj_map _ g1,goInt]
    ·rw [hd]
     refine fin_to hput hF hN hds hdN ?_ hK
     rw [hmi,show (mget kv es).getD z=z by simp [mget,hmf]]
     exact tup2v_rv hf rfl
   | some pp=>
    rw [hmf] at hfn
    have hat:=mfind_at hkk es pp (fun q hq=>(g4 q hq).1) hmf
    have hms:mput kv z es=es:=by simp only [mput,hmf]
    have hmi:midx kv es=pp.1:=by simp only [midx,hmf]
    have hj:∃ e,ents[pp.1]? = some e∧e.key=kv∧e.val=pp.2:=by
     rw [← g2,List.getElem?_map,Option.map_eq_some_iff] at hat
     obtain ⟨e,he,h1⟩:=hat
     exact ⟨e,by simpa using he,(Prod.mk.inj h1).1,(Prod.mk.inj h1).2⟩
    obtain ⟨e,hj,hek,hev⟩:=hj
    have heb:e.born=pp.1:=g3 pp.1 e (by simpa using hj)
    have hes:mst pp.1 pp.2 es=es:=by
     apply List.ext_getElem?
     intro i
     simp only [mst,List.getElem?_modify]
     by_cases hij:pp.1=i
     ·subst hij; simp [hat]
     ·simp [hij]
    have hput:=mp_put hS hob (ents.modify pp.1 fun e=>{ e with key:=kv }) (es':=mput kv z es) (by rw [hms,← hes]; exact (ents_modify g2 pp.1 pp.2 (fun e=>{ e with key:=kv }) (fun e' he'=>by rw [hj] at he'; cases he'; exact ⟨hek.symm,hev⟩))) (ents_born g3 _ _ (fun _=>rfl)) (by rw [hms]; exact g4)
    refine wp_val (u:=.tuple #[pp.2,.int .i64 (pp.1:Nat)]) (w':={ c.w with heap:=c.w.heap.setIfInBounds (c.β r) (.map (ents.modify pp.1 fun e=>{ e with key:=kv }) (ents.modify pp.1 fun e=>{ e with key:=kv }).size) }) ?_ ?_
    ·simp [execOp,ho,e1,e2,Instr.mapEntry,run_underlying hu,MapKept.run_getObj_map g1,run_checkKey hkd hkk,run_findKey hkd hfn,hj,hek,heb,run_keyThatStays hkk,MapKept.run_setObj_map _ g1,goInt]
    ·rw [hd]
     refine fin_to hput hF hN hds hdN ?_ hK
     rw [hmi,show (mget kv es).getD z=pp.2 by simp [mget,hmf]]
     exact tup2v_rv (g4 _ (List.mem_of_getElem? hat)).2 rfl
  ·exact h.elim
 ·exact h.elim
def sMes (m s x:Opd) (F:Fr) (H:List Ob) (K:Fr→List Ob→Prop):Prop:=
 match opd F m,opd F s,opd F x with
 | some (.row i),some (.v (.int .i64 n)),some (.v xv)=>match H[i]? with
  | some (.mp kd es)=>(0≤n∧n < (es.length:Int))∧K F (H.set i (.mp kd (mst n.toNat xv es)))
  | _=>False
 | _,_,_=>False
theorem ok_mes {N:Nat} {o:Oper} {t:TypeId} {m s x:Operand} {p q r:Opd} (ho:o.op=.entryStore t m s x) (hd:o.dst=none) (hm:cOpd m=some p) (hs:cOpd s=some q) (hx:cOpd x=some r):OpOk P N o (sMes p q r):=by
 intro w0 ds c a F H K Q hS hF hN hds h
 unfold sMes at h
 split at h
 ·rename_i i n xv hy hkv hxv
  have e2:=(cOpd_ok hF hs hkv).inv_v.1
  have e3:=(cOpd_ok hF hx hxv).inv_v
  split at h
  ·rename_i kd es hob
   obtain ⟨⟨hn0,hn1⟩,hK⟩:=h
   obtain ⟨j,rfl⟩:∃ j:Nat,n=(j:Int):=⟨n.toNat,by omega⟩
   obtain ⟨e1,hb,ents,g1,g2,g3,g4⟩:=mp_inv hS hob (cOpd_ok hF hm hy)
   have hlen:es.length=ents.size:=by rw [← g2]; simp
   have hjl:j < ents.size:=by omega
   have hfi:ents.findIdx? (fun e=>(e.born:Int) == (j:Int))=some j:=by
    rw [Array.findIdx?_eq_some_iff_getElem]
    refine ⟨hjl,?_,fun k hk=>?_⟩
    ·have:=g3 j ents[j] (by simp)
     simp [this]
    ·have:=g3 k ents[k] (by simp)
     simp only [this]
     simp; omega
   have hput:=mp_put hS hob (ents.modify j fun e=>{ e with val:=xv }) (es':=mst j xv es) (ents_modify g2 _ _ _ (fun e' he'=>⟨rfl,rfl⟩)) (ents_born g3 _ _ (fun _=>rfl)) (mst_ok g4 _ e3.2)
   refine wp_skp (w':={ c.w with heap:=c.w.heap.setIfInBounds (c.β i) (.map (ents.modify j fun e=>{ e with val:=xv }) (ents.modify j fun e=>{ e with val:=xv }).size) }) ?_ ?_
   ·simp [execOp,ho,e1,e2,e3.1,Instr.entryStore,MapKept.run_getObj_map g1,asInt,asIntOf,hfi,MapKept.run_setObj_map _ g1]
   ·rw [hd]; exact ⟨_,F,_,rfl,hput.2,hput.1,hF.le hput.2.le,hN,hds,by simpa using hK⟩
  ·exact h.elim
 ·exact h.elim
def sUsd (d:Nat) (x:Opd) (F:Fr) (H:List Ob) (K:Fr→List Ob→Prop):Prop:=
 match opd F x with
 | some (.row i)=>match H[i]? with
  | some (.own _ _ n _)=>0 < n∧K (upd F d (.ptr i 0)) H
  | _=>False
 | some (.v (.slice none _ _))=>K (upd F d (.v (.pointer none))) H
 | _=>False
theorem ok_usd {N:Nat} {o:Oper} {x:Operand} {ts:Array TypeId} {p:Opd} {d:Nat} (ho:o.op=.call { callee:=.builtin .unsafeSliceData,args:=#[x],argTypes:=ts }) (hd:o.dst=some d) (hdN:d < N) (hx:cOpd x=some p):OpOk P N o (sUsd d p):=by
 intro w0 ds c a F H K Q hS hF hN hds h
 unfold sUsd at h
 split at h
 ·rename_i i hi
  obtain ⟨e1,hb,_⟩:=(cOpd_ok hF hx hi).inv_row
  split at h
  ·rename_i e sz n cs hob
   obtain ⟨hn,hK⟩:=h
   obtain ⟨hb0,us,o1,o2,o3,o4⟩:=hS.ob i _ hob
   obtain ⟨cap,hv,hc,hl,hbz,hcell⟩:=own_cells o1 o2
   refine wp_val (u:=.pointer (some ⟨c.β i,0,none⟩)) (w':=c.w) ?_ ?_
   ·simp only [execOp,ho,resolve,invoke,Sem.run_bind,Sem.run_pure,Result.andThen_ok]
    simp only [builtin,List.map_toArray,List.map_cons,List.map_nil,e1,hv,Sem.run_bind]
    rw [Lib.run_unsafeSliceData_row _ _ _ _ _ _ (by omega)]
    rfl
   ·rw [hd]; exact fin_same hS hF hN hds hdN (.ptr i 0 hb0) hK
  ·exact h.elim
 ·rename_i n' c' hi
  obtain ⟨e1,hf⟩:=(cOpd_ok hF hx hi).inv_v
  refine wp_val (u:=.pointer none) (w':=c.w) ?_ ?_
  ·simp only [execOp,ho,resolve,invoke,Sem.run_bind,Sem.run_pure,Result.andThen_ok]
   simp only [builtin,List.map_toArray,List.map_cons,List.map_nil,e1,Sem.run_bind]
   rw [Lib.run_unsafeSliceData_nil]
   rfl
  ·rw [hd]; exact fin_same hS hF hN hds hdN (.deep (.v _ rfl)) h
 ·exact h.elim
def sUst (d e:Nat) (x n:Opd) (F:Fr) (H:List Ob) (K:Fr→List Ob→Prop):Prop:=
 match opd F x,opd F n with
 | some (.ptr i 0),some (.v (.int .i64 z))=>match H[i]? with
  | some (.own e' sz m cs)=>match bytesOf cs with
   | some l=>(e'=e∧sz=1∧z=(m:Int)∧0 < m∧l.length=m∧m≤1073741824)∧K (upd F d (.v (.string ⟨l.toArray⟩))) (H.set i (.fro m cs))
   | none=>False
  | _=>False
 | some (.v (.pointer none)),some (.v (.int .i64 z))=>z=0∧K (upd F d (.v (.string ⟨#[]⟩))) H
 | _,_=>False
theorem ok_ust {N : Nat} {o : Oper} {x n : Operand} {pt it e : TypeId} {p q : Opd} {d : Nat} (ho : o.op = .call { callee := .builtin .unsafeString, args := #[x, n], argTypes := #[pt, it] }) (hd : o.dst = some d) (hdN : d < N) (hx : cOpd x = some p) (hn : cOpd n = some q)
    (hu : P.underlying pt = some (.pointer e)) (hce : P.cellsOf e = 1) : OpOk P N o (sUst d e p q) := by
  intro w0 ds c a F H K Q hS hF hN hds h
  unfold sUst at h
  split at h
  · rename_i i z hi hz
    obtain ⟨e1, hb⟩ := (cOpd_ok hF hx hi).inv_ptr
    have e2 := (cOpd_ok hF hn hz).inv_v.1
    split at h
    · rename_i e' sz m cs hob
      split at h
      · rename_i l hl
        obtain ⟨⟨rfl, rfl, rfl, hm0, hlm, hm1⟩, hK⟩ := h
        obtain ⟨hb0, us, o1, o2, o3, o4⟩ := hS.ob i _ hob
        obtain ⟨hul, g, cap, cur, fz, hv, hh, hfz0, hc1, hc2, hc3, hc4⟩ := o1
        · have hgb : g = c.β i := by rw [hv] at o2; exact Option.some.inj o2
          subst hgb
          have hsh : c.w.shape? (c.β i) = some (e', cur.size) := by unfold World.shape?; rw [hh]
          obtain ⟨fz', hfz⟩ : ∃ fz', (c.w.freeze ⟨c.β i, 0, none⟩ m).heap[c.β i]? = some (.cells cur e' fz') := by
            simp only [World.freeze]; rw [if_neg (by omega)]
            simp only [Array.getElem?_modify, if_true, hh, Option.map_some]
            exact ⟨_, rfl⟩
          obtain ⟨s1, t1⟩ := mark_obj hS hob (w1 := c.w.freeze ⟨c.β i, 0, none⟩ m) (by simp only [World.freeze]; rw [if_neg (by omega)]; simp) (by simp only [World.freeze]; rw [if_neg (by omega)]) (by simp only [World.freeze]; rw [if_neg (by omega)]) (by simp only [World.freeze]; rw [if_neg (by omega)])
            (fun b hb => by simp only [World.freeze]; rw [if_neg (by omega)]; simp only [Array.getElem?_modify]; rw [if_neg (fun e => hb e.symm)])
            (fun q => by rw [cell_of_row _ _ _ _ _ _ hfz, cell_of_row _ _ _ _ _ _ hh])
          have hcs := bytesOf_spec cs l hl
          have hmax : l.length ≤ cur.size := by rw [hlm, hc3]; omega
          refine wp_val (u := .string ⟨l.toArray⟩) (w' := c.w.freeze ⟨c.β i, 0, none⟩ m) ?_ ?_
          · simp only [execOp, ho, resolve, invoke, Sem.run_bind, Sem.run_pure, Result.andThen_ok]
            simp only [builtin, List.map_toArray, List.map_cons, List.map_nil, e1, e2, Sem.run_bind]
            subst hlm
            rw [Lib.run_unsafeString_row c.w pt it o.type e' hu hce (c.β i) cur.size hsh l (by intro h0; rw [h0] at hm0; simp at hm0) hmax (by omega) (fun j x hj => by
              have hjc : cs[j]? = some (byA x) := by rw [hcs, List.getElem?_map, hj]; rfl
              obtain ⟨u, hu1, hu2, _⟩ := o3.rl.get hjc
              have hcu : cur.toList[j]? = some u := by rw [← hc4, List.getElem?_take] at hu1; split at hu1 <;> first | exact hu1 | (cases hu1)
              rw [Go.WideShapes.add_plain, Nat.zero_add, cell_of_row _ _ _ _ _ _ hh]
              have hu2' : u = .int .u8 x.toNat := hu2.inv_v.1
              rw [← hu2']; simpa using hcu)]
            rfl
          · rw [hd]
            exact fin_to (c' := { c with w := c.w.freeze ⟨c.β i, 0, none⟩ m, M := fun b => c.M b ∧ b ≠ c.β i }) ⟨s1, t1⟩ hF hN hds hdN (.deep (.v _ rfl)) hK
      · exact h.elim
    · exact h.elim
  · rename_i z hi hz
    have e1 := (cOpd_ok hF hx hi).inv_v.1
    have e2 := (cOpd_ok hF hn hz).inv_v.1
    obtain ⟨rfl, hK⟩ := h
    refine wp_val (u := .string ⟨#[]⟩) (w' := c.w) ?_ ?_
    · simp only [execOp, ho, resolve, invoke, Sem.run_bind, Sem.run_pure, Result.andThen_ok]
      simp only [builtin, List.map_toArray, List.map_cons, List.map_nil, e1, e2, Sem.run_bind]
      rw [Lib.run_unsafeString_none]
      rfl
    · rw [hd]; exact fin_same hS hF hN hds hdN (.deep (.v _ rfl)) hK
  · exact h.elim
def sSlo (d esz:Nat) (x:Opd) (lo hi:Option Opd) (F:Fr) (H:List Ob) (K:Fr→List Ob→Prop):Prop:=
 match (opd F x).bind (slcD H) with
 | some (n,cs)=>match bOpd F lo 0,bOpd F hi (n:Int) with
  | some l,some h=>(0≤l∧l≤h∧h≤(n:Int))∧K (upd F d (.sl (h.toNat - l.toNat) ((cs.drop (l.toNat * esz)).take ((h.toNat - l.toNat) * esz)))) H
  | _,_=>False
 | none=>match opd F x with
  | some (.row i)=>match H[i]? with
   | some (.own e sz n cs)=>match bOpd F lo 0,bOpd F hi (n:Int) with
    | some l,some h=>(l=0∧0 < h∧h≤(n:Int))∧sz=esz∧K (upd F d (.row H.length)) (H.set i .gone++[.own e sz h.toNat (cs.take (h.toNat * sz))])
    | _,_=>False
   | _=>False
  | _=>False
theorem ok_slo {N:Nat} {o:Oper} {t e:TypeId} {i:TypeInfo} {x:Operand} {lo hi:Option Operand} {p:Opd} {pl ph:Option Opd} {d:Nat} (ho:o.op=.slice t x lo hi none) (hd:o.dst=some d) (hdN:d < N) (hx:cOpd x=some p) (hl:cOpds lo=some pl) (hh:cOpds hi=some ph)
  (hu:P.underlying t=some (.slice e)) (hi':P.info? e=some i):OpOk P N o (sSlo d i.size p pl ph):=by
 intro w0 ds c a F H K Q hS hF hN hds h
 cases hb:(opd F p).bind (slcD H) with
 | some nc=>exact ok_slc ho hd hdN hx hl hh hu hi' w0 ds c a F H K Q hS hF hN hds (by unfold sSlo at h; unfold sSlc; rw [hb] at h ⊢; exact h)
 | none=>
  unfold sSlo at h
  rw [hb] at h
  simp only at h
  split at h
  ·rename_i r hr
   obtain ⟨e2,hrk,_⟩:=(cOpd_ok hF hx hr).inv_row
   split at h
   ·rename_i e' sz n cs hob
    split at h
    ·rename_i l hv el er
     obtain ⟨⟨rfl,h0,h1⟩,rfl,hK⟩:=h
     obtain ⟨_,us0,o1,o2,o3,o4⟩:=hS.ob r _ hob
     obtain ⟨hul,g,cap,cur,fz,hvv,hh',hfz,hc1,hc2,hc3,hc4⟩:=o1
     ·have hgb:g=c.β r:=by rw [hvv] at o2; exact Option.some.inj o2
      subst hgb
      have hcap0:¬ cap=0:=by omega
      have hle:hv.toNat≤n:=by omega
      have hmul:hv.toNat * i.size≤n * i.size:=Nat.mul_le_mul_right _ hle
      have hmul2:n * i.size≤cap * i.size:=Nat.mul_le_mul_right _ hc1
      have hnew:=own_move hS hob rfl hrk (.inl rfl) (cs:=cs.take (hv.toNat * i.size)) (us:=us0.take (hv.toNat * i.size)) (e:=e') (sz:=i.size) (n:=hv.toNat) (cap:=cap) (w1:=c.w)
       ⟨by rw [List.length_take]; omega,c.β r,cap,cur,fz,rfl,hh',hfz,by omega,hc2,hc3,by rw [← hc4,List.take_take,Nat.min_eq_left hmul]⟩ ⟨rfl,rfl,rfl,Nat.le_refl _,fun _ _ _=>rfl⟩ (o3.take _)
      have hr2:=run_bounds (P:=P) (isSl:=true) (cap:=cap) hF hl hh el er (by omega) (by omega) (by omega) c.w
      refine wp_val (u:=.slice (some ⟨c.β r,0,none⟩) hv.toNat cap) (w':=c.w) ?_ ?_
      ·simp only [execOp,ho,e2,hvv,Instr.sliceAt,Instr.slice,Sem.run_bind,run_underlying hu,Result.andThen_ok,Option.map_none]
       simp [hr2,run_underlying hu,run_sizeOf' hi',hcap0,Go.WideShapes.add_plain]
      ·rw [hd]
       refine fin_to hnew hF hN hds hdN (row_rv rfl) (by rw [hS.k]; exact hK)
    ·exact h.elim
   ·exact h.elim
  ·exact h.elim
end
end Ab
end Go.Proofs.YtgddkgbidhhheaaGreatDoor
namespace Go.Proofs.YtgddkgbidhhheaaGreatDoor
open Go.RowKit
namespace Ab
inductive AOp where
 | mov (d:Nat) (x:Opd)
 | pick (d:Nat) (q x y:Opd)
 | ld (d:Nat) (ag:Bool) (sz:Nat) (x:Opd)
 | fad (d off:Nat) (x:Opd)
 | ixa (d esz:Nat) (x i:Opd)
 | len (d:Nat) (str:Bool) (x:Opd)
 | bin (d:Nat) (op:BinOp) (x y:Opd)
 | cat (d:Nat) (x y:Opd)
 | eqb (d:Nat) (neq:Bool) (x y:Opd)
 | eqc (d:Nat) (neq:Bool) (x y:Opd)
 | un (d:Nat) (op:UnOp) (x:Opd)
 | cvi (d:Nat) (k:IntKind) (x:Opd)
 | cvb (d:Nat) (x:Opd)
 | cvs (d:Nat) (x:Opd)
 | ixs (d:Nat) (x i:Opd)
 | slS (d:Nat) (x:Opd) (lo hi:Option Opd)
 | slc (d esz:Nat) (x:Opd) (lo hi:Option Opd)
 | ext (d i:Nat) (x:Opd)
 | fld (d off:Nat) (ag:Bool) (sz:Nat) (x:Opd)
 | var (d:Nat) (zs:List AV)
 | box (d:Nat) (x:Opd)
 | st (sz:Nat) (p x:Opd)
 | bld (d:Nat) (zs:List AV) (pl:List (Nat × Nat)) (ps:List (Nat × Opd))
 | bsl (d e sz n:Nat) (zs:List AV) (ps:List (Nat × Opd))
 | mks (d e eb:Nat) (z:Value) (l:Opd)
 | app (d e sz eb:Nat) (s x:Opd)
 | aps (d e:Nat) (s x:Opd)
 | nilc (d:Nat) (x:Opd)
 | mm (d:Nat) (mx:Bool) (xs:List Opd)
 | cvm (d e:Nat) (st:Bool) (x:Opd)
 | eqs (d:Nat) (neq:Bool) (fs:List (Nat × TypeDesc)) (x y:Opd)
 | ldd (d:Nat) (ag:Bool) (sz:Nat) (x:Opd) (ps:List Opd)
 | ixd (d esz:Nat) (x i:Opd)
 | call (d:Option Nat) (f:Nat) (args:List Opd)
 | mki (d:Nat) (t:Nat) (x:Opd)
 | tas (d:Nat) (t:Nat) (ok:Bool) (z:AV) (x:Opd)
 | mkf (d:Nat) (f:Nat) (ps:List Opd)
 | mkm (d:Nat) (kd:TypeDesc)
 | mup (kd:TypeDesc) (m k x:Opd)
 | lku (d:Nat) (kd:TypeDesc) (ok:Bool) (z:Value) (m k:Opd)
 | men (d:Nat) (kd:TypeDesc) (z:Value) (m k:Opd)
 | mes (m s x:Opd)
 | slo (d esz:Nat) (x:Opd) (lo hi:Option Opd)
 | callv (d:Option Nat) (x:Opd) (args:List Opd)
 | pan (x:Opd)
 | boxt (d:Nat) (t:Nat) (x:Opd)
 | usd (d:Nat) (x:Opd)
 | ust (d e:Nat) (x n:Opd)
structure Gs where
 inv:World→Prop
 pan:AV→List Ob→Prop
 keep:Nat→Option AV
@[reducible] def Gs.np (G:World→Prop):Gs:=⟨G,fun _ _=>False,fun _=>none⟩
def KeepF (K:Nat→Option AV) (F:Fr):Prop:=∀ t x,K t=some x→F t=some x
theorem KeepF.none (F:Fr):KeepF (fun _=>Option.none) F:=fun _ _ h=>by cases h
theorem KeepF.rf {K:Nat→Option AV} {F:Fr} {c:Cx} {a:Act} (h:KeepF K F) (hF:RF c F a):RF c K a:=fun t x ht=>hF t x (h t x ht)
instance:Coe (World→Prop) Gs:=⟨Gs.np⟩
def PanAt (G:Gs) (w0:World) (ds:List Deferred) (c:Cx) (H:List Ob) (ch:List PanicEntry) (a':Act) (w':World):Prop:=
 ∃ (c':Cx) (H':List Ob) (u:Value) (x:AV),c'.w=w'∧Step c H c' H'∧St w0 c' H'∧ch=[{ v:=u,recovered:=false }]∧RD c'.w c'.M x u∧G.pan x H'∧a'.defers=ds∧RF c' G.keep a'
theorem PanAt.trans {G:Gs} {w0:World} {ds:List Deferred} {c c1:Cx} {H H1:List Ob} {ch:List PanicEntry} {a':Act} {w':World} (h:Step c H c1 H1) (h':PanAt G w0 ds c1 H1 ch a' w'):PanAt G w0 ds c H ch a' w':=by
 obtain ⟨c',H',u,x,q1,q2,q3⟩:=h'
 exact ⟨c',H',u,x,q1,h.trans q2,q3⟩
def farP (F:Fr) (ps:List Opd) (i:Nat):Bool:=ps.all fun q=>match opd F q with
 | some (.ptr j _)=>j != i
 | _=>false
def sLdd (d:Nat) (ag:Bool) (sz:Nat) (x:Opd) (ps:List Opd) (F:Fr) (H:List Ob) (K:Fr→List Ob→Prop):Prop:=match opd F x with
 | some (.ep _ _)=>sLd d ag sz x F H K
 | some (.ptr i _)=>match H[i]? with
  | some (.var _)=>farP F ps i=true∧sLd d ag sz x F H K
  | _=>False
 | _=>False
def sIxd (d esz:Nat) (x i:Opd) (F:Fr) (H:List Ob) (K:Fr→List Ob→Prop):Prop:=match opd F x with
 | some (.sl _ _)=>sIxa d esz x i F H K
 | _=>False
def SCall (P:Program) (G:Gs) (N:Nat) (d:Option Nat) (f:FuncId) (args:List Opd) (F:Fr) (H:List Ob) (K:Fr→List Ob→Prop):Prop:=
 ∀ (w0:World) (ds:List Deferred) (c:Cx) (a:Act) (vs:Array Value),G.inv w0→St w0 c H→RF c F a→a.tmps.size=N→a.defers=ds →
  (vs.size=args.length∧∀ (j:Nat) (p:Opd) (x:AV),args[j]? = some p→opd F p=some x→∃ u,vs[j]? = some u∧RV c x u) →
  Calls P f vs c.w fun e w'=>(∃ u,e=.returned u∧Fin w0 N ds c H K (a.put d u) w')∨∃ ch,e=.panicked ch∧PanAt G w0 ds c H ch a w'
def HasBody (P:Program) (f:FuncId):Prop:=∃ fn code,P.funcs[f]? = some fn∧(fn.name == "runtime.NumGoroutine")=false∧fn.body=some code
def sCallv (P:Program) (G:Gs) (N:Nat) (d:Option Nat) (x:Opd) (args:List Opd) (F:Fr) (H:List Ob) (K:Fr→List Ob→Prop):Prop:=
 match opd F x with
 | some (.clo f caps)=>HasBody P f∧SCall P G N d f (args++caps.map .k) F H K
 | _=>False
def sPan (G:Gs) (x:Opd) (F:Fr) (H:List Ob):Prop:=
 match opd F x with
 | some (.ifc t y)=>G.pan (.ifc t y) H∧KeepF G.keep F
 | _=>False
def sem (P:Program) (G:Gs) (N:Nat):AOp→Fr→List Ob→(Fr→List Ob→Prop)→Prop
 | .mov d x=>sMov d x
 | .pick d q x y=>sPick d q x y
 | .ld d ag sz x=>sLd d ag sz x
 | .fad d off x=>sFad d off x
 | .ixa d esz x i=>sIxa d esz x i
 | .len d str x=>sLen d str x
 | .bin d op x y=>sBin d op x y
 | .cat d x y=>sCat d x y
 | .eqb d neq x y=>sEqb d neq x y
 | .eqc d neq x y=>sEqc d neq x y
 | .un d op x=>sUn d op x
 | .cvi d k x=>sCvi d k x
 | .cvb d x=>sCvb d x
 | .cvs d x=>fun F H K=>match opd F x with | some (.v (.string s))=>K (upd F d (.v (.string s))) H | _=>False
 | .ixs d x i=>sIxs d x i
 | .slS d x lo hi=>sSlS d x lo hi
 | .slc d esz x lo hi=>sSlc d esz x lo hi
 | .ext d i x=>sExt d i x
 | .fld d off ag sz x=>sFld d off ag sz x
 | .var d zs=>sVar d zs
 | .box d x=>sBox d x
 | .st sz p x=>sSt sz p x
 | .bld d zs pl ps=>sBld d zs pl ps
 | .bsl d e sz n zs ps=>sBsl d e sz n zs ps
 | .mks d e eb z l=>sMks d e eb z l
 | .app d e sz eb s x=>sApp d e sz eb s x
 | .aps d e s x=>sAps d e s x
 | .nilc d x=>sNil d x
 | .mm d mx xs=>sMm d mx xs
 | .cvm d e st x=>sCvm d e st x
 | .eqs d neq fs x y=>sEqs d neq fs x y
 | .ldd d ag sz x ps=>sLdd d ag sz x ps
 | .ixd d esz x i=>sIxd d esz x i
 | .call d f args=>SCall P G N d f args
 | .mki d t x=>sMki d t x
 | .tas d t ok z x=>sTas d t ok z x
 | .mkf d f ps=>sMkf d f ps
 | .mkm d kd=>sMkm d kd
 | .mup kd m k x=>sMup kd m k x
 | .lku d kd ok z m k=>sLku d kd ok z m k
 | .men d kd z m k=>sMen d kd z m k
 | .mes m s x=>sMes m s x
 | .slo d esz x lo hi=>sSlo d esz x lo hi
 | .callv d x args=>sCallv P G N d x args
 | .pan x=>fun F H _=>sPan G x F H
 | .boxt d t x=>sBoxt d t x
 | .usd d x=>sUsd d x
 | .ust d e x n=>sUst d e x n
def deepen (ps:List Opd):AOp→AOp
 | .ld d ag sz x=>.ldd d ag sz x ps
 | .ixa d esz x i=>.ixd d esz x i
 | .slo d esz x lo hi=>.slc d esz x lo hi
 | o=>o
def soften:AOp→AOp
 | .slo d esz x lo hi=>.slc d esz x lo hi
 | o=>o
inductive Dp where
 | plain
 | soft
 | deep (ps:List Opd)
 | each (l:List (Nat × List Opd))
def eachO (l:List (Nat × List Opd)):AOp→AOp
 | .ld d ag sz x=>match l.find? (fun p=>p.1 == d) with
  | some p=>.ldd d ag sz x p.2
  | none=>.ld d ag sz x
 | .ixa d esz x i=>match l.find? (fun p=>p.1 == d) with
  | some _=>.ixd d esz x i
  | none=>.ixa d esz x i
 | .slo d esz x lo hi=>.slc d esz x lo hi
 | o=>o
def deepO (dp:Dp) (o:AOp):AOp:=
 match dp with
 | .plain=>o
 | .soft=>soften o
 | .deep ps=>deepen ps o
 | .each l=>eachO l o
def OpOkG (P:Program) (G:Gs) (N:Nat) (o:Oper) (S:Fr→List Ob→(Fr→List Ob→Prop)→Prop):Prop:=
 ∀ (w0:World) (ds:List Deferred) (c:Cx) (a:Act) (F:Fr) (H:List Ob) (K:Fr→List Ob→Prop) (Q:Exit→Act→World→Prop),
  G.inv w0→St w0 c H→RF c F a→a.tmps.size=N→a.defers=ds→(∀ ch a' w',PanAt G w0 ds c H ch a' w'→Q (.panic ch) a' w')→S F H K→o.wp P a c.w (Fin w0 N ds c H K) Q
section
variable {P:Program} {G:Gs}
theorem OpOk.g {N:Nat} {o:Oper} {S:Fr→List Ob→(Fr→List Ob→Prop)→Prop} (h:OpOk P N o S):OpOkG P G N o S:=fun w0 ds c a F H K Q _ h1 h2 h3 h4 _ h5=>h w0 ds c a F H K Q h1 h2 h3 h4 h5
theorem slc_slo {d esz:Nat} {x:Opd} {lo hi:Option Opd} {F:Fr} {H:List Ob} {K:Fr→List Ob→Prop} (h:sSlc d esz x lo hi F H K):sSlo d esz x lo hi F H K:=by
 unfold sSlc at h
 unfold sSlo
 split at h
 ·rename_i n cs hz
  rw [hz]; exact h
 ·exact h.elim
theorem deepen_sem {N:Nat} {o:AOp} {dp:Dp} {F:Fr} {H:List Ob} {K:Fr→List Ob→Prop} (h:sem P G N (deepO dp o) F H K):sem P G N o F H K:=by
 cases dp with
 | plain=>exact h
 | soft=>
  cases o with
  | slo d esz x lo hi=>exact slc_slo h
  | _=>exact h
 | deep ps=>
  cases o with
  | slo d esz x lo hi=>exact slc_slo h
  | ld d ag sz x=>
   simp only [deepO,deepen,sem,sLdd] at h ⊢
   split at h
   ·exact h
   ·split at h
    ·exact h.2
    ·exact h.elim
   ·exact h.elim
  | ixa d esz x i=>
   simp only [deepO,deepen,sem,sIxd] at h ⊢
   split at h
   ·exact h
   ·exact h.elim
  | _=>exact h
 | each l=>
  cases o with
  | slo d esz x lo hi=>exact slc_slo h
  | ld d ag sz x=>
   simp only [deepO,eachO] at h
   split at h
   ·simp only [sem,sLdd] at h ⊢
    split at h
    ·exact h
    ·split at h
     ·exact h.2
     ·exact h.elim
    ·exact h.elim
   ·exact h
  | ixa d esz x i=>
   simp only [deepO,eachO] at h
   split at h
   ·simp only [sem,sIxd] at h ⊢
    split at h
    ·exact h
    ·exact h.elim
   ·exact h
  | _=>exact h
theorem deepen_is {o o':AOp} {dp:Dp} (h:(deepO dp o)=o') (h1:∀ d ag sz x ps,o'≠.ldd d ag sz x ps) (h2:∀ d esz x i,o'≠.ixd d esz x i) (h3:∀ d esz x lo hi,o'≠.slc d esz x lo hi):o=o':=by
 cases dp with
 | plain=>exact h
 | soft=>
  cases o with
  | slo d esz x lo hi=>exact absurd h.symm (h3 d esz x lo hi)
  | _=>exact h
 | deep ps=>
  cases o with
  | slo d esz x lo hi=>exact absurd h.symm (h3 d esz x lo hi)
  | ld d ag sz x=>exact absurd h.symm (h1 d ag sz x ps)
  | ixa d esz x i=>exact absurd h.symm (h2 d esz x i)
  | _=>exact h
 | each l=>
  cases o with
  | slo d esz x lo hi=>exact absurd h.symm (h3 d esz x lo hi)
  | ld d ag sz x=>
   simp only [deepO,eachO] at h
   split at h
   ·exact absurd h.symm (h1 d ag sz x _)
   ·exact h
  | ixa d esz x i=>
   simp only [deepO,eachO] at h
   split at h
   ·exact absurd h.symm (h2 d esz x i)
   ·exact h
  | _=>exact h
def cArgs:List Operand→Option (List Opd)
 | []=>some []
 | o :: r=>match cOpd o,cArgs r with
  | some p,some ps=>some (p :: ps)
  | _,_=>none
theorem cArgs_at:∀ (os:List Operand) (ps:List Opd),cArgs os=some ps→os.length=ps.length∧∀ (j:Nat) (p:Opd),ps[j]? = some p→∃ o,os[j]? = some o∧cOpd o=some p
 | [],ps,h=>by cases h; exact ⟨rfl,fun j p h=>by simp at h⟩
 | o :: os,ps,h=>by
  simp only [cArgs] at h
  split at h
  ·rename_i p ps' hp hps
   cases h
   obtain ⟨h1,h2⟩:=cArgs_at os ps' hps
   refine ⟨by simp [h1],fun j q hq=>?_⟩
   cases j with
   | zero=>cases hq; exact ⟨o,rfl,hp⟩
   | succ j=>exact h2 j q hq
  ·cases h
theorem run_enter {f:FuncId} {fn:Func} {body:Code} (hf:P.funcs[f]? = some fn) (hname:(fn.name == "runtime.NumGoroutine")=false) (hb:fn.body=some body) (args:Array Value) (w:World) :
  (callFunc f args).run P w=.ok (.enter f args) w:=by
 have h1:fn.name ≠ "runtime.NumGoroutine":=by simpa using hname
 simp [callFunc,hf,h1,hb]
theorem ok_call {N : Nat} {o : Oper} {f : FuncId} {fn : Func} {body : Code} {args : Array Operand} {ts : Array TypeId} {ps : List Opd} (ho : o.op = .call { callee := .value (.func f), args := args, argTypes := ts })
    (hf : P.funcs[f]? = some fn) (hname : (fn.name == "runtime.NumGoroutine") = false) (hb : fn.body = some body) (hq : cArgs args.toList = some ps) : OpOkG P G N o (SCall P G N o.dst f ps) := by
  intro w0 ds c a F H K Q hG hS hF hN hds hQ h
  obtain ⟨h1, h2⟩ := cArgs_at _ _ hq
  have hc := h w0 ds c a (args.map a.eval) hG hS hF hN hds ⟨by simpa using h1, fun j p x hp hx => by
    obtain ⟨q, hq1, hq2⟩ := h2 j p hp
    refine ⟨a.eval q, ?_, cOpd_ok hF hq2 hx⟩
    rw [Array.getElem?_map, ← Array.getElem?_toList, hq1]; rfl⟩
  unfold Oper.wp
  have hrun : (execOp a.eval o).run P c.w = .ok (.enter f (args.map a.eval)) c.w := by
    have he : a.eval (.func f) = .func (.func f) #[] #[] := rfl
    simp only [execOp, ho, resolve, Sem.run_bind, he, Deferred.ofValue, Sem.run_pure, Result.andThen_ok, invoke]
    simp only [Array.empty_append, Array.append_empty]
    exact run_enter hf hname hb _ _
  rw [hrun, Oper.upon_enter]
  refine hc.mono fun e w' hh => ?_
  rcases hh with ⟨u, he, hfin⟩ | ⟨ch, he, hp⟩
  · subst he; exact hfin
  · subst he; exact hQ _ _ _ hp
theorem ok_callv {N : Nat} {o : Oper} {args : Array Operand} {ts : Array TypeId} {fo : Operand} {fp : Opd} {ps : List Opd} (ho : o.op = .call { callee := .value fo, args := args, argTypes := ts })
    (hf : cOpd fo = some fp) (hq : cArgs args.toList = some ps) : OpOkG P G N o (sCallv P G N o.dst fp ps) := by
  intro w0 ds c a F H K Q hG hS hF hN hds hQ h
  unfold sCallv at h
  split at h
  · rename_i f caps hcl
    obtain ⟨⟨fn, code, hfn, hname, hb⟩, h⟩ := h
    obtain ⟨us, e1, hul, hur⟩ := (cOpd_ok hF hf hcl).inv_clo
    obtain ⟨h1, h2⟩ := cArgs_at _ _ hq
    have hsz : (args.map a.eval).size = ps.length := by simpa using h1
    have hc := h w0 ds c a (args.map a.eval ++ us.toArray) hG hS hF hN hds ⟨by simpa [hul] using h1, fun j p x hp hx => by
      rw [List.getElem?_append] at hp
      split at hp
      · rename_i hj
        obtain ⟨q, hq1, hq2⟩ := h2 j p hp
        refine ⟨a.eval q, ?_, cOpd_ok hF hq2 hx⟩
        rw [Array.getElem?_append_left (by rw [hsz]; exact hj), Array.getElem?_map, ← Array.getElem?_toList, hq1]; rfl
      · rename_i hj
        rw [List.getElem?_map, Option.map_eq_some_iff] at hp
        obtain ⟨y, hy, rfl⟩ := hp
        cases hx
        have hju : j - ps.length < us.length := by rw [hul]; exact (List.getElem?_eq_some_iff.1 hy).1
        refine ⟨us[j - ps.length], ?_, hur _ _ _ hy (List.getElem?_eq_getElem hju)⟩
        rw [Array.getElem?_append_right (by rw [hsz]; omega), hsz]
        simp [hju]⟩
    unfold Oper.wp
    have hrun : (execOp a.eval o).run P c.w = .ok (.enter f (args.map a.eval ++ us.toArray)) c.w := by
      simp only [execOp, ho, resolve, Sem.run_bind, e1, Deferred.ofValue, Sem.run_pure, Result.andThen_ok, invoke]
      simp only [Array.empty_append]
      exact run_enter hfn hname hb _ _
    rw [hrun, Oper.upon_enter]
    refine hc.mono fun e w' hh => ?_
    rcases hh with ⟨u, he, hfin⟩ | ⟨ch, he, hp⟩
    · subst he; exact hfin
    · subst he; exact hQ _ _ _ hp
  · exact h.elim
theorem ok_pan {N:Nat} {o:Oper} {x:Operand} {p:Opd} (ho:o.op=.panic x) (hx:cOpd x=some p):OpOkG P G N o (fun F H _=>sPan G p F H):=by
 intro w0 ds c a F H K Q hG hS hF hN hds hQ h
 unfold sPan at h
 split at h
 ·rename_i t y hy
  have hr:=(cOpd_ok hF hx hy)
  obtain ⟨v,e1,hv⟩:=hr.inv_ifc
  unfold Oper.wp
  have hrun:(execOp a.eval o).run P c.w=.halt (.panic (a.eval x)) c.w:=by
   simp [execOp,ho,e1,Instr.panic,goPanic]
  rw [hrun,Oper.upon_panic]
  exact hQ _ _ _ ⟨c,H,_,_,rfl,.refl c H,hS,rfl,by rw [e1]; exact .ifc t y v hv,h.1,hds,h.2.rf hF⟩
 ·exact h.elim
def dstOk (N:Nat) (o:Oper):Bool:=match o.dst with | some d=>decide (d < N) | none=>true
def _root_.Go.Operand.same:Operand→Operand→Bool
 | .tmp a,.tmp b=>a == b
 | .const (.int k a),.const (.int k' b)=>k == k' && a == b
 | _,_=>false
theorem same_opd {a b:Operand} (h:a.same b=true) {p q:Opd} (hp:cOpd a=some p) (hq:cOpd b=some q):p=q:=by
 cases a<;>cases b<;>simp only [Operand.same] at h<;>try (cases h; done)
 ·rename_i x y
  rw [beq_iff_eq] at h; subst h; rw [hp] at hq; exact Option.some.inj hq
 ·rename_i x y
  cases x<;>cases y<;>simp only at h<;>try (cases h; done)
  simp only [Bool.and_eq_true,beq_iff_eq] at h
  obtain ⟨rfl,rfl⟩:=h
  rw [hp] at hq; exact Option.some.inj hq
theorem eq_arr1 {α:Type} {a:Array α} {x:α} (h:a.toList=[x]):a = #[x]:=by apply Array.ext'; simpa using h
theorem eq_arr2 {α:Type} {a:Array α} {x y:α} (h:a.toList=[x,y]):a = #[x,y]:=by apply Array.ext'; simpa using h
def cMove (P:Program) (N:Nat) (o:Oper) (x:Operand):Option AOp:=
 match o.dst,cOpd x with
 | some d,some p=>if d < N then some (.mov d p) else none
 | _,_=>none
def cPick (P:Program) (N:Nat) (o:Oper) (q x y:Operand):Option AOp:=
 match o.dst,cOpd q,cOpd x,cOpd y with
 | some d,some pq,some px,some py=>if d < N then some (.pick d pq px py) else none
 | _,_,_,_=>none
def cLoad (P:Program) (N:Nat) (o:Oper) (t:TypeId) (x:Operand):Option AOp:=
 match o.dst,cOpd x,P.underlying t,P.info? t with
 | some d,some p,some td,some i=>if d < N then some (.ld d (isAggD td) i.size p) else none
 | _,_,_,_=>none
def cFad (P:Program) (N:Nat) (o:Oper) (s:TypeId) (x:Operand) (fn:Nat):Option AOp:=
 match o.dst,cOpd x,P.underlying s with
 | some d,some p,some (.struct fs)=>match fs[fn]? with
  | some fd=>match P.info? fd.type with
   | some i=>if d < N∧i.size≠0 then some (.fad d fd.offset p) else none
   | none=>none
  | none=>none
 | _,_,_=>none
def cIxa (P:Program) (N:Nat) (o:Oper) (t:TypeId) (x j:Operand):Option AOp:=
 match o.dst,cOpd x,cOpd j,P.underlying t with
 | some d,some p,some q,some (.slice e)=>match P.info? e with
  | some i=>if d < N then some (.ixa d i.size p q) else none
  | none=>none
 | _,_,_,_=>none
def cBin (P:Program) (N:Nat) (o:Oper) (op:BinOp) (t:TypeId) (x y:Operand):Option AOp:=
 match o.dst,cOpd x,cOpd y,P.underlying t with
 | some d,some p,some q,some .string=>if d < N then (if op=.add then some (.cat d p q) else some (.bin d op p q)) else none
 | some d,some p,some q,some (.int _)=>if d < N then some (.bin d op p q) else none
 | some d,some p,some q,some .bool=>if d < N then (if op=.eql then some (.eqb d false p q) else if op=.neq then some (.eqb d true p q) else none) else none
 | some d,some p,some q,some (.complex _)=>if d < N then (if op=.eql then some (.eqc d false p q) else if op=.neq then some (.eqc d true p q) else none) else none
 | some d,some p,some q,some (.struct fs)=>match eqFs P fs.toList with
  | some l=>if d < N∧P.stoodInHeld t=false∧P.eqGuardType P.depth t=false then (if op=.eql then some (.eqs d false l p q) else if op=.neq then some (.eqs d true l p q) else none) else none
  | none=>none
 | _,_,_,_=>none
def cUn (P:Program) (N:Nat) (o:Oper) (op:UnOp) (x:Operand):Option AOp:=
 match o.dst,cOpd x with
 | some d,some p=>if d < N then some (.un d op p) else none
 | _,_=>none
def cCnv (P:Program) (N:Nat) (o:Oper) (src dst:TypeId) (x:Operand):Option AOp:=
 match o.dst,cOpd x,P.underlying src,P.underlying dst with
 | some d,some p,some _,some (.int k)=>if d < N then some (.cvi d k p) else none
 | some d,some p,some .string,some .string=>if d < N then some (.cvs d p) else none
 | some d,some p,some (.slice e),some .string=>match P.underlying e with
  | some (.int .u8)=>if d < N then some (.cvb d p) else none
  | _=>none
 | some d,some p,some (.slice e),some (.slice _)=>match P.underlying e with
  | some (.int .u8)=>if d < N∧src=dst then some (.cvm d e false p) else none
  | _=>none
 | some d,some p,some .string,some (.slice e)=>match P.underlying e with
  | some (.int .u8)=>if d < N then some (.cvm d e true p) else none
  | _=>none
 | _,_,_,_=>none
def cIxs (P:Program) (N:Nat) (o:Oper) (t:TypeId) (x j:Operand):Option AOp:=
 match o.dst,cOpd x,cOpd j,P.underlying t with
 | some d,some p,some q,some .string=>if d < N then some (.ixs d p q) else none
 | _,_,_,_=>none
def cSlc (P:Program) (N:Nat) (o:Oper) (t:TypeId) (x:Operand) (lo hi mx:Option Operand):Option AOp:=
 match o.dst,cOpd x,cOpds lo,cOpds hi,mx,P.underlying t with
 | some d,some p,some pl,some ph,none,some .string=>if d < N then some (.slS d p pl ph) else none
 | some d,some p,some pl,some ph,none,some (.slice e)=>match P.info? e with
  | some i=>if d < N then some (.slo d i.size p pl ph) else none
  | none=>none
 | _,_,_,_,_,_=>none
def cExt (P:Program) (N:Nat) (o:Oper) (x:Operand) (i:Nat):Option AOp:=
 match o.dst,cOpd x with
 | some d,some p=>if d < N then some (.ext d i p) else none
 | _,_=>none
def cFld (P:Program) (N:Nat) (o:Oper) (s:TypeId) (x:Operand) (fn:Nat):Option AOp:=
 match o.dst,cOpd x,P.underlying s with
 | some d,some p,some (.struct fs)=>match fs[fn]? with
  | some fd=>match P.underlying fd.type,P.info? fd.type with
   | some td,some i=>if d < N then some (.fld d fd.offset (isAggD td) i.size p) else none
   | _,_=>none
  | none=>none
 | _,_,_=>none
def cVar (P:Program) (N:Nat) (o:Oper) (t:TypeId):Option AOp:=
 match o.dst,P.info? t with
 | some d,some i=>match i.zero with
  | some z=>if d < N∧z.cells.toList.all flat=true then some (.var d (z.cells.toList.map .v)) else none
  | none=>none
 | _,_=>none
def oneIn (P:Program) (t:TypeId):Bool:=
 match P.underlying t with
 | some (.struct fs)=>match fs.toList with
  | [f]=>match P.underlying f.type with
   | some (.struct _)=>true
   | _=>false
  | _=>false
 | _=>false
def cBox (P:Program) (N:Nat) (o:Oper) (t:TypeId) (x:Operand):Option AOp:=
 match o.dst,cOpd x with
 | some d,some p=>if d < N then (if oneIn P t=true then some (.boxt d t p) else some (.box d p)) else none
 | _,_=>none
def cSt (P:Program) (N:Nat) (o:Oper) (t:TypeId) (x y:Operand):Option AOp:=
 match o.dst,cOpd x,cOpd y,P.info? t with
 | none,some p,some q,some i=>some (.st i.size p q)
 | _,_,_,_=>none
def cBld (P:Program) (N:Nat) (o:Oper) (t:TypeId) (ps:Array (Nat × Operand)):Option AOp:=
 match o.dst,P.info? t,P.underlying t,cParts ps.toList with
 | some d,some i,some (.struct fs),some qs=>match i.zero,plc P fs.toList with
  | some z,some pl=>if d < N∧z.cells.toList.all flat=true then some (.bld d (z.cells.toList.map .v) pl qs) else none
  | _,_=>none
 | _,_,_,_=>none
def cBsl (P:Program) (N:Nat) (o:Oper) (t:TypeId) (n:Nat) (ps:Array (Nat × Operand)):Option AOp:=
 match o.dst,P.underlying t,cParts ps.toList with
 | some d,some (.slice e),some qs=>match P.info? e with
  | some i=>match i.zero with
   | some z=>if d < N∧(zeroRow z.cells (n * i.size)).all flat=true∧n * i.size≤16777216∧n≤maxLen then some (.bsl d e i.size n ((zeroRow z.cells (n * i.size)).map .v) qs) else none
   | none=>none
  | none=>none
 | _,_,_=>none
def cMks (P:Program) (N:Nat) (o:Oper) (t:TypeId) (l cp:Operand):Option AOp:=
 match o.dst,P.underlying t,cOpd l,cOpd cp with
 | some d,some (.slice e),some p,some q=>match P.info? e with
  | some i=>match i.zero with
   | some z=>if d < N∧z.cells.toList.length=1∧flat z=true∧i.size=1∧l.same cp=true then some (.mks d e i.bytes z p) else none
   | none=>none
  | none=>none
 | _,_,_,_=>none
def cLen (P:Program) (N:Nat) (o:Oper) (xs:List Operand) (ts:List TypeId):Option AOp:=
 match xs,ts,o.dst with
 | [x],[t],some d=>match cOpd x,P.underlying t with
  | some p,some .string=>if d < N then some (.len d true p) else none
  | some p,some (.slice _)=>if d < N then some (.len d false p) else none
  | _,_=>none
 | _,_,_=>none
def cApp (P : Program) (N : Nat) (o : Oper) (xs : List Operand) (ts : List TypeId) : Option AOp :=
  match xs, ts, o.dst with
  | [s, x], [t, u], some d => match cOpd s, cOpd x, P.underlying t with
    | some p, some q, some (.slice e) => match P.info? e with
      | some i => match i.zero with
        | some z => if d < N ∧ z.cells.size = i.size ∧ 0 < i.size then (if t = u then some (.app d e i.size i.bytes p q) else match P.underlying u, z with
          | some .string, .int .u8 n => if i.size = 1 ∧ i.bytes = 1 ∧ n = 0 then some (.aps d e p q) else none
          | _, _ => none) else none
        | none => none
      | none => none
    | _, _, _ => none
  | _, _, _ => none
def cCall (P:Program) (N:Nat) (o:Oper) (f:FuncId) (args:Array Operand):Option AOp:=
 match P.funcs[f]?,cArgs args.toList with
 | some fn,some ps=>if (fn.name == "runtime.NumGoroutine")=false∧fn.body.isSome=true∧dstOk N o=true then some (.call o.dst f ps) else none
 | _,_=>none
def cNil (P:Program) (N:Nat) (o:Oper) (x:Operand):Option AOp:=
 match o.dst,cOpd x with
 | some d,some p=>if d < N then some (.nilc d p) else none
 | _,_=>none
def cMm (P:Program) (N:Nat) (o:Oper) (mx:Bool) (xs:List Operand):Option AOp:=
 match o.dst,cList xs with
 | some d,some ps=>if d < N then some (.mm d mx ps) else none
 | _,_=>none
def cCallv (P:Program) (N:Nat) (o:Oper) (f:Operand) (args:Array Operand):Option AOp:=
 match cOpd f,cArgs args.toList with
 | some p,some ps=>if dstOk N o=true then some (.callv o.dst p ps) else none
 | _,_=>none
def cUsd (P:Program) (N:Nat) (o:Oper) (xs:List Operand):Option AOp:=
 match xs,o.dst with
 | [x],some d=>match cOpd x with
  | some p=>if d < N then some (.usd d p) else none
  | none=>none
 | _,_=>none
def cUst (P:Program) (N:Nat) (o:Oper) (xs:List Operand) (ts:List TypeId):Option AOp:=
 match xs,ts,o.dst with
 | [x,n],[pt,_],some d=>match cOpd x,cOpd n,P.underlying pt with
  | some p,some q,some (.pointer e)=>if d < N∧P.cellsOf e=1 then some (.ust d e p q) else none
  | _,_,_=>none
 | _,_,_=>none
def cMki (P:Program) (N:Nat) (o:Oper) (t:TypeId) (x:Operand):Option AOp:=
 match o.dst,cOpd x,P.underlying t with
 | some d,some p,some td=>if d < N∧isIface td=false then some (.mki d t p) else none
 | _,_,_=>none
def cTas (P:Program) (N:Nat) (o:Oper) (x:Operand) (t:TypeId) (ok:Bool):Option AOp:=
 match o.dst,cOpd x,P.underlying t,P.info? t with
 | some d,some p,some td,some i=>match i.zero.bind cav with
  | some z=>if d < N∧isIface td=false then some (.tas d t ok z p) else none
  | none=>none
 | _,_,_,_=>none
def cMkf (P:Program) (N:Nat) (o:Oper) (fn:Fn) (first cap:Array Operand):Option AOp:=
 match fn,first.toList,cList cap.toList,o.dst with
 | .func f,[],some ps,some d=>if d < N then some (.mkf d f ps) else none
 | _,_,_,_=>none
def cMkm (P:Program) (N:Nat) (o:Oper) (t:TypeId) (r:Option Operand):Option AOp:=
 match r,o.dst,P.underlying t with
 | none,some d,some (.map kt _)=>match P.underlying kt with
  | some kd=>if d < N then some (.mkm d kd) else none
  | none=>none
 | _,_,_=>none
def cMup (P:Program) (N:Nat) (o:Oper) (t:TypeId) (m k x:Operand):Option AOp:=
 match o.dst,cOpd m,cOpd k,cOpd x,P.underlying t with
 | none,some p,some q,some r,some (.map kt _)=>match P.underlying kt with
  | some kd=>some (.mup kd p q r)
  | none=>none
 | _,_,_,_,_=>none
def cLku (P:Program) (N:Nat) (o:Oper) (t:TypeId) (m k:Operand) (ok:Bool):Option AOp:=
 match o.dst,cOpd m,cOpd k,P.underlying t with
 | some d,some p,some q,some (.map kt et)=>match P.underlying kt,(P.info? et).bind (·.zero) with
  | some kd,some z=>if d < N∧flat z=true then some (.lku d kd ok z p q) else none
  | _,_=>none
 | _,_,_,_=>none
def cMen (P:Program) (N:Nat) (o:Oper) (t:TypeId) (m k:Operand):Option AOp:=
 match o.dst,cOpd m,cOpd k,P.underlying t with
 | some d,some p,some q,some (.map kt et)=>match P.underlying kt,(P.info? et).bind (·.zero) with
  | some kd,some z=>if d < N∧flat z=true then some (.men d kd z p q) else none
  | _,_=>none
 | _,_,_,_=>none
def cMes (P:Program) (N:Nat) (o:Oper) (m s x:Operand):Option AOp:=
 match o.dst,cOpd m,cOpd s,cOpd x with
 | none,some p,some q,some r=>some (.mes p q r)
 | _,_,_,_=>none
def cPan (P:Program) (N:Nat) (o:Oper) (x:Operand):Option AOp:=
 match cOpd x with
 | some p=>some (.pan p)
 | none=>none
def compCall (P:Program) (N:Nat) (o:Oper) (c:Call):Option AOp:=
 match c.callee with
 | .builtin .len=>cLen P N o c.args.toList c.argTypes.toList
 | .builtin .append=>cApp P N o c.args.toList c.argTypes.toList
 | .builtin .max=>cMm P N o true c.args.toList
 | .builtin .min=>cMm P N o false c.args.toList
 | .builtin .unsafeSliceData=>cUsd P N o c.args.toList
 | .builtin .unsafeString=>cUst P N o c.args.toList c.argTypes.toList
 | .value (.func f)=>cCall P N o f c.args
 | .value f=>cCallv P N o f c.args
 | _=>none
def compOp (P:Program) (N:Nat) (o:Oper):Option AOp:=
 match o.op with
 | .move x=>cMove P N o x
 | .assign x=>cMove P N o x
 | .pick q x y=>cPick P N o q x y
 | .load t x=>cLoad P N o t x
 | .fieldAddr s x fn=>cFad P N o s x fn
 | .indexAddr t x j=>cIxa P N o t x j
 | .binOp op t x y _=>cBin P N o op t x y
 | .unOp op _ x=>cUn P N o op x
 | .convert src dst x=>cCnv P N o src dst x
 | .index t x j=>cIxs P N o t x j
 | .slice t x lo hi mx=>cSlc P N o t x lo hi mx
 | .extract x i=>cExt P N o x i
 | .field s x fn=>cFld P N o s x fn
 | .alloc t=>cVar P N o t
 | .box t x=>cBox P N o t x
 | .store t x y=>cSt P N o t x y
 | .build t ps=>cBld P N o t ps
 | .buildSlice t n ps=>cBsl P N o t n ps
 | .makeSlice t l cp=>cMks P N o t l cp
 | .nilCheck x=>cNil P N o x
 | .call c=>compCall P N o c
 | .makeInterface t x=>cMki P N o t x
 | .typeAssert x _ t ok=>cTas P N o x t ok
 | .makeFunc fn first cap=>cMkf P N o fn first cap
 | .makeMap t r=>cMkm P N o t r
 | .mapUpdate t m k x=>cMup P N o t m k x
 | .insert t m k x=>cMup P N o t m k x
 | .lookup t m k ok=>cLku P N o t m k ok
 | .mapEntry t m k=>cMen P N o t m k
 | .entryStore _ m s x=>cMes P N o m s x
 | .panic x=>cPan P N o x
 | _=>none
set_option maxHeartbeats 4000000 in
theorem compOp_ok {N:Nat} {o:Oper} {ao:AOp} (h:compOp P N o=some ao):OpOkG P G N o (sem P G N ao):=by
 unfold compOp at h
 split at h
 ·rename_i x ho
  unfold cMove at h
  repeat' split at h
  all_goals first | (cases h; done) | skip
  cases h; exact (ok_move (.inl ho) ‹_› ‹_› ‹_›).g
 ·rename_i x ho
  unfold cMove at h
  repeat' split at h
  all_goals first | (cases h; done) | skip
  cases h; exact (ok_move (.inr ho) ‹_› ‹_› ‹_›).g
 ·rename_i q x y ho
  unfold cPick at h
  split at h
  ·rename_i d pq px py hd h1 h2 h3
   split at h
   ·cases h; exact (ok_pick ho hd ‹_› h1 h2 h3).g
   ·cases h
  ·cases h
 ·rename_i t x ho
  unfold cLoad at h
  repeat' split at h
  all_goals first | (cases h; done) | skip
  cases h; exact (ok_load ho ‹_› ‹_› ‹_› ‹_› ‹_›).g
 ·rename_i t x fn ho
  unfold cFad at h
  repeat' split at h
  all_goals first | (cases h; done) | skip
  rename_i hc
  cases h; exact (ok_fad ho ‹_› hc.1 ‹_› ‹_› ‹_› ‹_› hc.2).g
 ·rename_i t x j ho
  unfold cIxa at h
  split at h
  ·rename_i d p q e hd h1 h2 h3
   split at h
   ·split at h
    ·cases h; exact (ok_ixa ho hd ‹_› h1 h2 h3 ‹_›).g
    ·cases h
   ·cases h
  ·cases h
 ·rename_i op t x y t' ho
  unfold cBin at h
  split at h
  ·rename_i d p q hd h1 h2 h3
   split at h
   ·split at h
    ·rename_i he; subst he; cases h; exact (ok_cat ho hd ‹_› h1 h2).g
    ·cases h; exact (ok_bin ho hd ‹_› h1 h2).g
   ·cases h
  ·rename_i d p q k hd h1 h2 h3
   split at h
   ·cases h; exact (ok_bin ho hd ‹_› h1 h2).g
   ·cases h
  ·rename_i d p q hd h1 h2 h3
   split at h
   ·split at h
    ·rename_i he; subst he; cases h; exact (ok_eqb (neq:=false) ho hd ‹_› h1 h2 h3).g
    ·split at h
     ·rename_i he; subst he; cases h; exact (ok_eqb (neq:=true) ho hd ‹_› h1 h2 h3).g
     ·cases h
   ·cases h
  ·rename_i d p q k hd h1 h2 h3
   split at h
   ·split at h
    ·rename_i he; subst he; cases h; exact (ok_eqc (neq:=false) ho hd ‹_› h1 h2).g
    ·split at h
     ·rename_i he; subst he; cases h; exact (ok_eqc (neq:=true) ho hd ‹_› h1 h2).g
     ·cases h
   ·cases h
  ·rename_i d p q fs hd h1 h2 h3
   split at h
   ·rename_i l hl
    split at h
    ·rename_i hc
     split at h
     ·rename_i he; subst he; cases h; exact (ok_eqs (neq:=false) ho hd hc.1 h1 h2 h3 hc.2.1 hc.2.2 hl).g
     ·split at h
      ·rename_i he; subst he; cases h; exact (ok_eqs (neq:=true) ho hd hc.1 h1 h2 h3 hc.2.1 hc.2.2 hl).g
      ·cases h
    ·cases h
   ·cases h
  ·cases h
 ·rename_i op t x ho
  unfold cUn at h
  repeat' split at h
  all_goals first | (cases h; done) | skip
  cases h; exact (ok_un ho ‹_› ‹_› ‹_›).g
 ·rename_i src dst x ho
  unfold cCnv at h
  split at h
  ·split at h
   ·cases h; exact (ok_cvi ho ‹_› ‹_› ‹_› ‹_› ‹_›).g
   ·cases h
  ·split at h
   ·cases h; exact (ok_cvs ho ‹_› ‹_› ‹_› ‹_› ‹_›).g
   ·cases h
  ·split at h
   ·split at h
    ·cases h; exact (ok_cvb ho ‹_› ‹_› ‹_› ‹_› ‹_› ‹_›).g
    ·cases h
   ·cases h
  ·split at h
   ·split at h
    ·rename_i hc
     obtain ⟨hc1,rfl⟩:=hc
     cases h
     refine (ok_cvm ho ‹_› hc1 ‹_› ?_ ‹P.underlying _=some (.int .u8)›).g
     assumption
    ·cases h
   ·cases h
  ·split at h
   ·split at h
    ·cases h
     exact (ok_cvt ho ‹_› ‹_› ‹_› ‹_› ‹_› ‹P.underlying _=some (.int .u8)›).g
    ·cases h
   ·cases h
  ·cases h
 ·rename_i t x j ho
  unfold cIxs at h
  split at h
  ·rename_i d p q hd h1 h2 h3
   split at h
   ·cases h; exact (ok_ixs ho hd ‹_› h1 h2 h3).g
   ·cases h
  ·cases h
 ·rename_i t x lo hi mx ho
  unfold cSlc at h
  split at h
  ·rename_i d p pl ph hd h1 h2 h3 h4
   split at h
   ·cases h; exact (ok_slS ho hd ‹_› h1 h2 h3 h4).g
   ·cases h
  ·rename_i d p pl ph e hd h1 h2 h3 h4
   split at h
   ·split at h
    ·cases h; exact (ok_slo ho hd ‹_› h1 h2 h3 h4 ‹_›).g
    ·cases h
   ·cases h
  ·cases h
 ·rename_i x i ho
  unfold cExt at h
  repeat' split at h
  all_goals first | (cases h; done) | skip
  cases h; exact (ok_ext ho ‹_› ‹_› ‹_›).g
 ·rename_i s x fn ho
  unfold cFld at h
  repeat' split at h
  all_goals first | (cases h; done) | skip
  cases h; exact (ok_fld ho ‹_› ‹_› ‹_› ‹_› ‹_› ‹_› ‹_›).g
 ·rename_i t ho
  unfold cVar at h
  repeat' split at h
  all_goals first | (cases h; done) | skip
  rename_i hc
  cases h; exact (ok_var ho ‹_› hc.1 ‹_› ‹_› hc.2).g
 ·rename_i t x ho
  unfold cBox at h
  split at h
  ·split at h
   ·split at h
    ·cases h; exact (ok_boxt ho ‹_› ‹_› ‹_›).g
    ·cases h; exact (ok_box ho ‹_› ‹_› ‹_›).g
   ·cases h
  ·cases h
 ·rename_i t x y ho
  unfold cSt at h
  split at h
  ·rename_i p q i hd h1 h2 h3
   cases h; exact (ok_st ho hd h1 h2 h3).g
  ·cases h
 ·rename_i t ps ho
  unfold cBld at h
  repeat' split at h
  all_goals first | (cases h; done) | skip
  rename_i hc
  cases h; exact (ok_bld ho ‹_› hc.1 ‹_› ‹_› hc.2 ‹_› ‹_› ‹_›).g
 ·rename_i t n ps ho
  unfold cBsl at h
  repeat' split at h
  all_goals first | (cases h; done) | skip
  rename_i hc
  cases h; exact (ok_bsl ho ‹_› hc.1 ‹_› ‹_› ‹_› hc.2.1 hc.2.2.1 hc.2.2.2 ‹_›).g
 ·rename_i t l cp ho
  unfold cMks at h
  split at h
  ·rename_i d e p q hd h1 h2 h3
   split at h
   ·rename_i i hi
    split at h
    ·rename_i z hz
     split at h
     ·rename_i hc
      obtain ⟨c1,c2,c3,c4,c5⟩:=hc
      have hpq:=same_opd c5 h2 h3
      subst hpq
      have hz1:z.cells = #[z]:=by cases z<;>first | rfl | (simp [flat] at c3)
      cases h; exact (ok_mks ho hd c1 h1 hi hz hz1 c3 c4 h2 h3 (fun _=>rfl)).g
     ·cases h
    ·cases h
   ·cases h
  ·cases h
 ·rename_i x ho
  unfold cNil at h
  repeat' split at h
  all_goals first | (cases h; done) | skip
  cases h; exact (ok_nil ho ‹_› ‹_› ‹_›).g
 ·rename_i c ho
  obtain ⟨cl,args,ts⟩:=c
  unfold compCall at h
  split at h
  ·rename_i hcl
   dsimp only at hcl h
   subst hcl
   unfold cLen at h
   split at h
   ·rename_i x t d hx ht hd
    have hx':=eq_arr1 hx
    have ht':=eq_arr1 ht
    subst hx' ht'
    split at h
    ·split at h
     ·cases h; exact (ok_len_str ho hd ‹_› ‹_› ‹_›).g
     ·cases h
    ·split at h
     ·cases h; exact (ok_len_sl ho hd ‹_› ‹_› ‹_›).g
     ·cases h
    ·cases h
   ·cases h
  ·rename_i hcl
   dsimp only at hcl h
   subst hcl
   unfold cApp at h
   split at h
   ·rename_i s x t u d hx ht hd
    have hx':=eq_arr2 hx
    have ht':=eq_arr2 ht
    subst hx' ht'
    split at h
    ·rename_i p q e h1 h2 h3
     split at h
     ·rename_i i hi
      split at h
      ·rename_i z hz
       split at h
       ·rename_i hc
        split at h
        ·rename_i he; subst he
         cases h; exact (ok_app ho hd hc.1 h3 hi hz hc.2.1 hc.2.2 h1 h2).g
        ·split at h
         ·split at h
          ·rename_i hcc
           obtain ⟨g1,g2,rfl⟩:=hcc
           cases h; exact (ok_aps ho hd hc.1 h3 ‹_› hi hz g1 g2 h1 h2).g
          ·cases h
         ·cases h
       ·cases h
      ·cases h
     ·cases h
    ·cases h
   ·cases h
  ·rename_i hcl
   dsimp only at hcl h
   subst hcl
   unfold cMm at h
   repeat' split at h
   all_goals first | (cases h; done) | skip
   cases h; exact (ok_mm (mx:=true) ho ‹_› ‹_› ‹_›).g
  ·rename_i hcl
   dsimp only at hcl h
   subst hcl
   unfold cMm at h
   repeat' split at h
   all_goals first | (cases h; done) | skip
   cases h; exact (ok_mm (mx:=false) ho ‹_› ‹_› ‹_›).g
  ·rename_i hcl
   dsimp only at hcl h
   subst hcl
   unfold cUsd at h
   split at h
   ·rename_i x d hx hd
    have hx':=eq_arr1 hx
    subst hx'
    split at h
    ·split at h
     ·cases h; exact (ok_usd ho hd ‹_› ‹_›).g
     ·cases h
    ·cases h
   ·cases h
  ·rename_i hcl
   dsimp only at hcl h
   subst hcl
   unfold cUst at h
   split at h
   ·rename_i x n pt it d hx ht hd
    have hx':=eq_arr2 hx
    have ht':=eq_arr2 ht
    subst hx' ht'
    split at h
    ·split at h
     ·rename_i hc
      cases h; exact (ok_ust ho hd hc.1 ‹_› ‹_› ‹P.underlying _=some (.pointer _)› hc.2).g
     ·cases h
    ·cases h
   ·cases h
  ·rename_i f hcl
   dsimp only at hcl h
   subst hcl
   unfold cCall at h
   split at h
   ·rename_i fn ps hf hps
    split at h
    ·rename_i hc
     obtain ⟨body,hb⟩:=Option.isSome_iff_exists.1 hc.2.1
     cases h; exact ok_call ho hf hc.1 hb hps
    ·cases h
   ·cases h
  ·rename_i f hnf hcl
   dsimp only at hcl h
   subst hcl
   unfold cCallv at h
   split at h
   ·split at h
    ·cases h; exact ok_callv ho ‹_› ‹_›
    ·cases h
   ·cases h
  ·cases h
 ·rename_i t x ho
  unfold cMki at h
  repeat' split at h
  all_goals first | (cases h; done) | skip
  rename_i hc
  cases h; exact (ok_mki ho ‹_› hc.1 ‹_› ‹_› hc.2).g
 ·rename_i x xt t ok ho
  unfold cTas at h
  repeat' split at h
  all_goals first | (cases h; done) | skip
  rename_i hz hc
  obtain ⟨zv,hz1,hz2⟩:=Option.bind_eq_some_iff.1 hz
  cases h; exact (ok_tas ho ‹_› hc.1 ‹_› ‹_› hc.2 ‹_› hz1 hz2).g
 ·rename_i fn first cap ho
  unfold cMkf at h
  split at h
  ·rename_i f ps d hfirst hcap hd
   split at h
   ·have hf0:first = #[]:=by apply Array.ext'; simpa using hfirst
    subst hf0
    cases h; exact (ok_mkf ho hd ‹_› hcap).g
   ·cases h
  ·cases h
 ·rename_i t r ho
  unfold cMkm at h
  split at h
  ·split at h
   ·split at h
    ·cases h; exact (ok_mkm ho ‹_› ‹_›).g
    ·cases h
   ·cases h
  ·cases h
 ·rename_i t m k x ho
  unfold cMup at h
  split at h
  ·split at h
   ·cases h; exact (ok_mup (.inl ho) ‹_› ‹_› ‹_› ‹_› ‹P.underlying _=some (.map _ _)› ‹_›).g
   ·cases h
  ·cases h
 ·rename_i t m k x ho
  unfold cMup at h
  split at h
  ·split at h
   ·cases h; exact (ok_mup (.inr ho) ‹_› ‹_› ‹_› ‹_› ‹P.underlying _=some (.map _ _)› ‹_›).g
   ·cases h
  ·cases h
 ·rename_i t m k ok ho
  unfold cLku at h
  split at h
  ·split at h
   ·rename_i hkd hz
    split at h
    ·rename_i hc
     obtain ⟨i,hi,hz⟩:=Option.bind_eq_some_iff.1 hz
     cases h; exact (ok_lku ho ‹_› hc.1 ‹_› ‹_› ‹P.underlying _=some (.map _ _)› hkd hi hz hc.2).g
    ·cases h
   ·cases h
  ·cases h
 ·rename_i t m k ho
  unfold cMen at h
  split at h
  ·split at h
   ·rename_i hkd hz
    split at h
    ·rename_i hc
     obtain ⟨i,hi,hz⟩:=Option.bind_eq_some_iff.1 hz
     cases h; exact (ok_men ho ‹_› hc.1 ‹_› ‹_› ‹P.underlying _=some (.map _ _)› hkd hi hz hc.2).g
    ·cases h
   ·cases h
  ·cases h
 ·rename_i t m s x ho
  unfold cMes at h
  split at h
  ·cases h; exact (ok_mes ho ‹_› ‹_› ‹_› ‹_›).g
  ·cases h
 ·rename_i x ho
  unfold cPan at h
  split at h
  ·cases h; exact ok_pan ho ‹_›
  ·cases h
 ·cases h
end
end Ab
end Go.Proofs.YtgddkgbidhhheaaGreatDoor
