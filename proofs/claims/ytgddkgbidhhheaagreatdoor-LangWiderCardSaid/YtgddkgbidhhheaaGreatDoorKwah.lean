/- Texts joined: Am1. -/
import Derived.WalkKit
import Derived.Below
import Derived.Laws.CopyRow
import Derived.MapKept
import Derived.Laws.AppendOwn
import Derived.Laws.IdiomStrings
import Derived.Laws.BytesArg
set_option linter.unusedVariables false
set_option linter.unusedSimpArgs false
namespace Go.Proofs.YtgddkgbidhhheaaGreatDoor
open Go.RowKit
namespace Ab
inductive AV where
 | v (x:Value)
 | sl (n:Nat) (cs:List AV)
 | row (i:Nat)
 | ptr (i off:Nat)
 | ep (cs:List AV) (off:Nat)
 | agg (cs:List AV)
 | tup (xs:List AV)
 | ifc (t:TypeId) (x:AV)
 | clo (f:FuncId) (cs:List AV)
def flat:Value→Bool
 | .bool _=>true
 | .int _ _=>true
 | .float _ _=>true
 | .complex _ _ _=>true
 | .string _=>true
 | .nilFunc=>true
 | .nilIface=>true
 | .pointer none=>true
 | .map none=>true
 | .slice none n c=>n == 0 && c == 0
 | _=>false
theorem flat_one {x:Value} (h:flat x=true):x.oneCell'=true:=by
 cases x<;>first | rfl | (simp [flat] at h)
inductive RD (w:World) (M:Nat→Prop):AV→Value→Prop
 | v (x:Value) (h:flat x=true):RD w M (.v x) x
 | sl0 (p:Option Addr) (cap:Nat):RD w M (.sl 0 []) (.slice p 0 cap)
 | sl (b o n cap:Nat) (cs:List AV) (us:List Value) (hl:us.length=cs.length) (hb:¬ M b) (hs:b < w.heap.size)
   (hc:∀ (j:Nat) (u:Value),us[j]? = some u→w.cell? ⟨b,o + j,none⟩=some u) (h1:∀ u ∈ us,u.oneCell'=true)
   (hr:∀ (j:Nat) (x:AV) (u:Value),cs[j]? = some x→us[j]? = some u→RD w M x u) (hn:n≤cap):RD w M (.sl n cs) (.slice (some ⟨b,o,none⟩) n cap)
 | ep (b o off:Nat) (cs:List AV) (us:List Value) (hl:us.length=cs.length) (hb:¬ M b) (hs:b < w.heap.size)
   (hc:∀ (j:Nat) (u:Value),us[j]? = some u→w.cell? ⟨b,o + j,none⟩=some u) (h1:∀ u ∈ us,u.oneCell'=true)
   (hr:∀ (j:Nat) (x:AV) (u:Value),cs[j]? = some x→us[j]? = some u→RD w M x u):RD w M (.ep cs off) (.pointer (some ⟨b,o + off,none⟩))
 | agg (cs:List AV) (us:List Value) (hl:us.length=cs.length) (h1:∀ u ∈ us,u.oneCell'=true)
   (hr:∀ (j:Nat) (x:AV) (u:Value),cs[j]? = some x→us[j]? = some u→RD w M x u):RD w M (.agg cs) (.agg us.toArray)
 | tup (cs:List AV) (us:List Value) (hl:us.length=cs.length)
   (hr:∀ (j:Nat) (x:AV) (u:Value),cs[j]? = some x→us[j]? = some u→RD w M x u):RD w M (.tup cs) (.tuple us.toArray)
 | ifc (t:TypeId) (x:AV) (u:Value) (h:RD w M x u):RD w M (.ifc t x) (.iface t u)
structure Cx where
 w:World
 M:Nat→Prop
 k:Nat
 born:Nat→Prop
 β:Nat→Nat
 sv:Nat→Value
inductive RV (c:Cx):AV→Value→Prop
 | deep {x:AV} {u:Value} (h:RD c.w c.M x u):RV c x u
 | row (i:Nat) (hi:c.born i) (h1:(c.sv i).oneCell'=true):RV c (.row i) (c.sv i)
 | ptr (i off:Nat) (hi:c.born i):RV c (.ptr i off) (.pointer (some ⟨c.β i,off,none⟩))
 | agg (cs:List AV) (us:List Value) (hl:us.length=cs.length) (h1:∀ u ∈ us,u.oneCell'=true)
   (hr:∀ (j:Nat) (x:AV) (u:Value),cs[j]? = some x→us[j]? = some u→RV c x u):RV c (.agg cs) (.agg us.toArray)
 | tup (cs:List AV) (us:List Value) (hl:us.length=cs.length)
   (hr:∀ (j:Nat) (x:AV) (u:Value),cs[j]? = some x→us[j]? = some u→RV c x u):RV c (.tup cs) (.tuple us.toArray)
 | clo (f:FuncId) (cs:List AV) (us:List Value) (hl:us.length=cs.length)
   (hr:∀ (j:Nat) (x:AV) (u:Value),cs[j]? = some x→us[j]? = some u→RV c x u):RV c (.clo f cs) (.func (.func f) #[] us.toArray)
theorem RD.mono {w w':World} {M M':Nat→Prop} (hz:w.heap.size≤w'.heap.size) (hk:∀ b,b < w.heap.size→¬ M b→w'.heap[b]? = w.heap[b]?∧¬ M' b)
  {x:AV} {u:Value} (h:RD w M x u):RD w' M' x u:=by
 induction h with
 | v x h=>exact .v x h
 | sl0 p cap=>exact .sl0 p cap
 | sl b o n cap cs us hl hb hs hc h1 hr hn ih=>
  exact .sl b o n cap cs us hl (hk b hs hb).2 (Nat.lt_of_lt_of_le hs hz) (fun j u hu=>(World.cell?_of_block (hk b hs hb).1).trans (hc j u hu)) h1 ih hn
 | ep b o off cs us hl hb hs hc h1 hr ih=>
  exact .ep b o off cs us hl (hk b hs hb).2 (Nat.lt_of_lt_of_le hs hz) (fun j u hu=>(World.cell?_of_block (hk b hs hb).1).trans (hc j u hu)) h1 ih
 | agg cs us hl h1 hr ih=>exact .agg cs us hl h1 ih
 | tup cs us hl hr ih=>exact .tup cs us hl ih
 | ifc t x u h ih=>exact .ifc t x u ih
structure Cx.le (c c':Cx):Prop where
 born:∀ i,c.born i→c'.born i
 β:∀ i,c.born i→c'.β i=c.β i
 sv:∀ i,c.born i→c'.sv i=c.sv i
 size:c.w.heap.size≤c'.w.heap.size
 keep:∀ b,b < c.w.heap.size→¬ c.M b→c'.w.heap[b]? = c.w.heap[b]?∧¬ c'.M b
theorem Cx.le.refl (c:Cx):c.le c:=⟨fun _ h=>h,fun _ _=>rfl,fun _ _=>rfl,Nat.le_refl _,fun _ _ h=>⟨rfl,h⟩⟩
theorem Cx.le.trans {a b c:Cx} (h:a.le b) (h':b.le c):a.le c:=
 ⟨fun i hi=>h'.born i (h.born i hi),fun i hi=>(h'.β i (h.born i hi)).trans (h.β i hi),fun i hi=>(h'.sv i (h.born i hi)).trans (h.sv i hi),Nat.le_trans h.size h'.size,
  fun x hx hm=>⟨(h'.keep x (Nat.lt_of_lt_of_le hx h.size) (h.keep x hx hm).2).1.trans (h.keep x hx hm).1,(h'.keep x (Nat.lt_of_lt_of_le hx h.size) (h.keep x hx hm).2).2⟩⟩
theorem RD.le {c c':Cx} (hle:c.le c') {x:AV} {u:Value} (h:RD c.w c.M x u):RD c'.w c'.M x u:=h.mono hle.size hle.keep
theorem RV.le {c c':Cx} (hle:c.le c') {x:AV} {u:Value} (h:RV c x u):RV c' x u:=by
 induction h with
 | deep h=>exact .deep (h.le hle)
 | row i hi h1=>rw [← hle.sv i hi] at h1 ⊢; exact .row i (hle.born i hi) h1
 | ptr i off hi=>rw [← hle.β i hi]; exact .ptr i off (hle.born i hi)
 | agg cs us hl h1 hr ih=>exact .agg cs us hl h1 ih
 | tup cs us hl hr ih=>exact .tup cs us hl ih
 | clo f cs us hl hr ih=>exact .clo f cs us hl ih
structure RL (c:Cx) (cs:List AV) (us:List Value):Prop where
 len:us.length=cs.length
 one:∀ u ∈ us,u.oneCell'=true
 at':∀ (j:Nat) (x:AV) (u:Value),cs[j]? = some x→us[j]? = some u→RV c x u
structure RDL (w:World) (M:Nat→Prop) (cs:List AV) (us:List Value):Prop where
 len:us.length=cs.length
 one:∀ u ∈ us,u.oneCell'=true
 at':∀ (j:Nat) (x:AV) (u:Value),cs[j]? = some x→us[j]? = some u→RD w M x u
theorem RDL.rl {c:Cx} {cs:List AV} {us:List Value} (h:RDL c.w c.M cs us):RL c cs us:=⟨h.len,h.one,fun j x u h1 h2=>.deep (h.at' j x u h1 h2)⟩
theorem RL.le {c c':Cx} (hle:c.le c') {cs:List AV} {us:List Value} (h:RL c cs us):RL c' cs us:=⟨h.len,h.one,fun j x u h1 h2=>(h.at' j x u h1 h2).le hle⟩
theorem RDL.le {c c':Cx} (hle:c.le c') {cs:List AV} {us:List Value} (h:RDL c.w c.M cs us):RDL c'.w c'.M cs us:=⟨h.len,h.one,fun j x u h1 h2=>(h.at' j x u h1 h2).le hle⟩
theorem RDL.nil (w:World) (M:Nat→Prop):RDL w M [] []:=⟨rfl,fun _ h=>by simp at h,fun _ _ _ h=>by simp at h⟩
theorem RL.get {c:Cx} {cs:List AV} {us:List Value} (h:RL c cs us) {j:Nat} {x:AV} (hx:cs[j]? = some x):∃ u,us[j]? = some u∧RV c x u∧u.oneCell'=true:=by
 have hj:j < us.length:=by rw [h.len]; exact (List.getElem?_eq_some_iff.1 hx).1
 exact ⟨us[j],List.getElem?_eq_getElem hj,h.at' j x _ hx (List.getElem?_eq_getElem hj),h.one _ (List.getElem_mem hj)⟩
theorem RL.drop {c:Cx} {cs:List AV} {us:List Value} (h:RL c cs us) (n:Nat):RL c (cs.drop n) (us.drop n):=
 ⟨by simp [h.len],fun u hu=>h.one u (List.mem_of_mem_drop hu),fun j x u h1 h2=>h.at' (n + j) x u (by rwa [List.getElem?_drop] at h1) (by rwa [List.getElem?_drop] at h2)⟩
theorem RL.take {c:Cx} {cs:List AV} {us:List Value} (h:RL c cs us) (n:Nat):RL c (cs.take n) (us.take n):=by
 refine ⟨by simp [h.len],fun u hu=>h.one u (List.mem_of_mem_take hu),fun j x u h1 h2=>?_⟩
 rw [List.getElem?_take] at h1 h2
 split at h1
 ·rw [if_pos ‹_›] at h2; exact h.at' j x u h1 h2
 ·cases h1
theorem RL.app {c:Cx} {cs ds:List AV} {us vs:List Value} (h:RL c cs us) (h':RL c ds vs):RL c (cs++ds) (us++vs):=by
 refine ⟨by simp [h.len,h'.len],fun u hu=>(List.mem_append.1 hu).elim (h.one u) (h'.one u),fun j x u h1 h2=>?_⟩
 rw [List.getElem?_append] at h1 h2
 rw [h.len] at h2
 split at h1
 ·rw [if_pos ‹_›] at h2; exact h.at' j x u h1 h2
 ·rw [if_neg ‹_›] at h2; exact h'.at' _ x u h1 h2
theorem RDL.drop {w:World} {M:Nat→Prop} {cs:List AV} {us:List Value} (h:RDL w M cs us) (n:Nat):RDL w M (cs.drop n) (us.drop n):=
 ⟨by simp [h.len],fun u hu=>h.one u (List.mem_of_mem_drop hu),fun j x u h1 h2=>h.at' (n + j) x u (by rwa [List.getElem?_drop] at h1) (by rwa [List.getElem?_drop] at h2)⟩
theorem RDL.take {w:World} {M:Nat→Prop} {cs:List AV} {us:List Value} (h:RDL w M cs us) (n:Nat):RDL w M (cs.take n) (us.take n):=by
 refine ⟨by simp [h.len],fun u hu=>h.one u (List.mem_of_mem_take hu),fun j x u h1 h2=>?_⟩
 rw [List.getElem?_take] at h1 h2
 split at h1
 ·rw [if_pos ‹_›] at h2; exact h.at' j x u h1 h2
 ·cases h1
theorem RDL.app {w:World} {M:Nat→Prop} {cs ds:List AV} {us vs:List Value} (h:RDL w M cs us) (h':RDL w M ds vs):RDL w M (cs++ds) (us++vs):=by
 refine ⟨by simp [h.len,h'.len],fun u hu=>(List.mem_append.1 hu).elim (h.one u) (h'.one u),fun j x u h1 h2=>?_⟩
 rw [List.getElem?_append] at h1 h2
 rw [h.len] at h2
 split at h1
 ·rw [if_pos ‹_›] at h2; exact h.at' j x u h1 h2
 ·rw [if_neg ‹_›] at h2; exact h'.at' _ x u h1 h2
theorem RV.inv_v {c:Cx} {x u:Value} (h:RV c (.v x) u):u=x∧flat x=true:=by
 cases h with | deep h=>cases h with | v _ h=>exact ⟨rfl,h⟩
theorem RV.inv_deep_sl {c:Cx} {n:Nat} {cs:List AV} {u:Value} (h:RV c (.sl n cs) u):RD c.w c.M (.sl n cs) u:=by cases h with | deep h=>exact h
theorem RV.inv_ep {c:Cx} {k:Nat} {cs:List AV} {u:Value} (h:RV c (.ep cs k) u):∃ b o us,u=.pointer (some ⟨b,o + k,none⟩)∧RDL c.w c.M cs us∧¬ c.M b∧b < c.w.heap.size∧∀ (j:Nat) (u:Value),us[j]? = some u→c.w.cell? ⟨b,o + j,none⟩=some u:=by
 cases h with | deep h=>cases h with | ep b o _ _ us hl hb hs hc h1 hr=>exact ⟨b,o,us,rfl,⟨hl,h1,hr⟩,hb,hs,hc⟩
theorem RV.inv_row {c:Cx} {i:Nat} {u:Value} (h:RV c (.row i) u):u=c.sv i∧c.born i∧u.oneCell'=true:=by
 cases h with
 | deep h=>cases h
 | row _ hi h1=>exact ⟨rfl,hi,h1⟩
theorem RV.inv_ptr {c:Cx} {i off:Nat} {u:Value} (h:RV c (.ptr i off) u):u=.pointer (some ⟨c.β i,off,none⟩)∧c.born i:=by
 cases h with
 | deep h=>cases h
 | ptr _ _ hi=>exact ⟨rfl,hi⟩
theorem RV.inv_agg {c:Cx} {cs:List AV} {u:Value} (h:RV c (.agg cs) u):∃ us:List Value,u=.agg us.toArray∧RL c cs us:=by
 cases h with
 | deep h=>cases h with | agg _ us hl h1 hr=>exact ⟨us,rfl,hl,h1,fun j x u a b=>.deep (hr j x u a b)⟩
 | agg _ us hl h1 hr=>exact ⟨us,rfl,hl,h1,hr⟩
theorem RV.inv_tup {c:Cx} {cs:List AV} {u:Value} (h:RV c (.tup cs) u):∃ us:List Value,u=.tuple us.toArray∧us.length=cs.length∧∀ (j:Nat) (x:AV) (u:Value),cs[j]? = some x→us[j]? = some u→RV c x u:=by
 cases h with
 | deep h=>cases h with | tup _ us hl hr=>exact ⟨us,rfl,hl,fun j x u a b=>.deep (hr j x u a b)⟩
 | tup _ us hl hr=>exact ⟨us,rfl,hl,hr⟩
theorem RV.inv_ifc {c:Cx} {t:TypeId} {x:AV} {u:Value} (h:RV c (.ifc t x) u):∃ v,u=.iface t v∧RD c.w c.M x v:=by
 cases h with | deep h=>cases h with | ifc _ _ v h=>exact ⟨v,rfl,h⟩
theorem RV.inv_clo {c:Cx} {f:FuncId} {cs:List AV} {u:Value} (h:RV c (.clo f cs) u):∃ us:List Value,u=.func (.func f) #[] us.toArray∧us.length=cs.length∧∀ (j:Nat) (x:AV) (u:Value),cs[j]? = some x→us[j]? = some u→RV c x u:=by
 cases h with
 | deep h=>cases h
 | clo _ _ us hl hr=>exact ⟨us,rfl,hl,hr⟩
def one1:AV→Bool
 | .agg _=>false
 | .tup _=>false
 | _=>true
theorem RV.one {c:Cx} {x:AV} {u:Value} (h:RV c x u) (h1:one1 x=true):u.oneCell'=true:=by
 cases h with
 | deep h=>
  cases h with
  | v _ h=>exact flat_one h
  | sl0=>rfl
  | sl=>rfl
  | ep=>rfl
  | agg=>cases h1
  | tup=>cases h1
  | ifc=>rfl
 | row _ _ h=>exact h
 | ptr=>rfl
 | agg=>cases h1
 | tup=>cases h1
 | clo=>rfl
def deep1:AV→Bool
 | .v _=>true
 | .sl _ _=>true
 | .ep _ _=>true
 | .ifc _ _=>true
 | _=>false
theorem RV.rd1 {c:Cx} {x:AV} {u:Value} (h:RV c x u) (h1:deep1 x=true):RD c.w c.M x u:=by
 cases h with
 | deep h=>exact h
 | row=>cases h1
 | ptr=>cases h1
 | agg=>cases h1
 | tup=>cases h1
 | clo=>cases h1
theorem RL.rdl {c:Cx} {cs:List AV} {us:List Value} (h:RL c cs us) (hd:∀ x ∈ cs,deep1 x=true):RDL c.w c.M cs us:=
 ⟨h.len,h.one,fun j x u h1 h2=>(h.at' j x u h1 h2).rd1 (hd x (List.mem_of_getElem? h1))⟩
def deepE:AV→Bool
 | .agg cs=>cs.all deep1
 | x=>deep1 x
theorem RV.rdE {c:Cx} {x:AV} {u:Value} (h:RV c x u) (hd:deepE x=true):RD c.w c.M x u:=by
 cases x with
 | agg cs=>
  obtain ⟨us,rfl,hrl⟩:=h.inv_agg
  have:=hrl.rdl (fun y hy=>List.all_eq_true.1 hd y hy)
  exact .agg _ _ this.len this.one this.at'
 | _=>exact h.rd1 hd
inductive Ob where
 | var (cs:List AV)
 | own (e sz n:Nat) (cs:List AV)
 | fro (n:Nat) (cs:List AV)
 | gone
 | mp (kd:TypeDesc) (es:List (Value × Value))
 | tvar (T:TypeId) (cs:List AV)
def Ob.live:Ob→Bool
 | .var _=>true
 | .own _ _ _ _=>true
 | .mp _ _=>true
 | .tvar _ _=>true
 | _=>false
def OwnsM (w:World) (e sz:Nat) (v:Value) (n:Nat) (us:List Value):Prop:=
 us.length=n * sz∧∃ g cap cur fz,v=.slice (some ⟨g,0,none⟩) n cap∧w.heap[g]? = some (.cells cur e fz)∧(fz=(0,0)∨cur.size≤fz.1)∧n≤cap∧cap≤maxLen∧cur.size=cap * sz∧cur.toList.take (n * sz)=us
theorem OwnsM.of {w:World} {e sz:Nat} {v:Value} {n:Nat} {us:List Value} {b:Nat} (h:w.ownsRow 0 e sz v n us) (hb:v.ownBlock=some b):OwnsM w e sz v n us:=by
 refine ⟨h.1,?_⟩
 rcases h.2 with ⟨hn,_⟩ | ⟨g,cap,cur,hv,_,hh,r⟩
 ·rw [hn] at hb; cases hb
 ·exact ⟨g,cap,cur,(0,0),hv,hh,.inl rfl,r⟩
theorem OwnsM.lt {w:World} {e sz:Nat} {v:Value} {n:Nat} {us:List Value} (h:OwnsM w e sz v n us) {b:Nat} (hb:v.ownBlock=some b):b < w.heap.size:=by
 obtain ⟨_,g,cap,cur,fz,hv,hh,_⟩:=h
 have:g=b:=by rw [hv] at hb; exact Option.some.inj hb
 subst this
 exact (Array.getElem?_eq_some_iff.1 hh).1
theorem OwnsM.kept {w w':World} {e sz:Nat} {v:Value} {n:Nat} {us:List Value} (h:OwnsM w e sz v n us) {b:Nat} (hb:v.ownBlock=some b) (hk:w'.heap[b]? = w.heap[b]?):OwnsM w' e sz v n us:=by
 obtain ⟨h1,g,cap,cur,fz,hv,hh,r⟩:=h
 have:g=b:=by rw [hv] at hb; exact Option.some.inj hb
 subst this
 exact ⟨h1,g,cap,cur,fz,hv,hk.trans hh,r⟩
def MapIs (w:World) (b:Nat) (kd:TypeDesc) (es:List (Value × Value)):Prop:=
 ∃ ents:Array MapEntry,w.heap[b]? = some (.map ents ents.size)∧ents.toList.map (fun e=>(e.key,e.val))=es∧(∀ (i:Nat) (e:MapEntry),ents.toList[i]? = some e→e.born=i)∧∀ p ∈ es,MapKept.IsKey kd p.1∧flat p.2=true
def ObOk (c:Cx) (i:Nat):Ob→Prop
 | .var cs=>(c.born i∧∃ (us:List Value) (T:TypeId),c.w.heap[c.β i]? = some (.cells us.toArray T (0,0))∧RL c cs us∧c.M (c.β i))∨(¬ c.born i∧∃ zs:List Value,cs=zs.map .v∧zs.all flat=true)
 | .own e sz n cs=>c.born i∧∃ us,OwnsM c.w e sz (c.sv i) n us∧(c.sv i).ownBlock=some (c.β i)∧RDL c.w c.M cs us∧c.M (c.β i)
 | .fro n cs=>c.born i∧RD c.w c.M (.sl n cs) (c.sv i)
 | .gone=>True
 | .tvar T cs=>c.born i∧(∃ us:List Value,c.w.heap[c.β i]? = some (.cells us.toArray T (0,0))∧RL c cs us)∧c.M (c.β i)
 | .mp kd es=>c.born i∧c.sv i=.map (some (c.β i))∧c.M (c.β i)∧MapIs c.w (c.β i) kd es
def Wr (c:Cx) (H:List Ob) (b:Nat):Prop:=∃ (i:Nat) (o:Ob),H[i]? = some o∧o.live=true∧c.born i∧c.β i=b
structure St (w0:World) (c:Cx) (H:List Ob):Prop where
 k:c.k=H.length
 bl:∀ i,c.born i→i < c.k
 ob:∀ i o,H[i]? = some o→ObOk c i o
 inj:∀ i j oi oj,H[i]? = some oi→H[j]? = some oj→oi.live=true→oj.live=true→c.born i→c.born j→c.β i=c.β j→i=j
 base:∀ b,Wr c H b→w0.heap.size≤b
 mlt:∀ b,c.M b→b < c.w.heap.size
 below:Below w0.heap.size w0 c.w
structure Step (c:Cx) (H:List Ob) (c':Cx) (H':List Ob):Prop where
 le:c.le c'
 os:c'.w.os=c.w.os
 tape:c'.w.tape=c.w.tape
 output:c'.w.output=c.w.output
 same:∀ b,b < c.w.heap.size→¬ Wr c H b→c'.w.heap[b]? = c.w.heap[b]?
 mm:∀ b,b < c.w.heap.size→c'.M b→c.M b
 mw:∀ b,b < c.w.heap.size→¬ Wr c H b→c.M b→c'.M b
 wr:∀ b,Wr c' H' b→Wr c H b∨c.w.heap.size≤b
 kk:c.k≤c'.k
 nb:∀ i,i < c.k→c'.born i→c.born i
theorem Step.refl (c:Cx) (H:List Ob):Step c H c H:=⟨.refl c,rfl,rfl,rfl,fun _ _ _=>rfl,fun _ _ h=>h,fun _ _ _ h=>h,fun _ h=>.inl h,Nat.le_refl _,fun _ _ h=>h⟩
theorem Step.trans {a b c:Cx} {A B C:List Ob} (h:Step a A b B) (h':Step b B c C):Step a A c C:=by
 have hs:=h.le.size
 have nw:∀ x,x < a.w.heap.size→¬ Wr a A x→¬ Wr b B x:=fun x hx hn hb=>(h.wr x hb).elim hn (fun h=>by omega)
 exact ⟨h.le.trans h'.le,h'.os.trans h.os,h'.tape.trans h.tape,h'.output.trans h.output,
  fun x hx hn=>(h'.same x (Nat.lt_of_lt_of_le hx hs) (nw x hx hn)).trans (h.same x hx hn),
  fun x hx hm=>h.mm x hx (h'.mm x (Nat.lt_of_lt_of_le hx hs) hm),
  fun x hx hn hm=>h'.mw x (Nat.lt_of_lt_of_le hx hs) (nw x hx hn) (h.mw x hx hn hm),
  fun x hx=>(h'.wr x hx).elim (h.wr x) (fun h=>.inr (Nat.le_trans hs h)),Nat.le_trans h.kk h'.kk,fun i hi hb=>h.nb i hi (h'.nb i (Nat.lt_of_lt_of_le hi h.kk) hb)⟩
theorem St.live_M {w0:World} {c:Cx} {H:List Ob} (h:St w0 c H) {b:Nat} (hb:Wr c H b):c.M b:=by
 obtain ⟨i,o,ho,hl,hbn,rfl⟩:=hb
 have hk:=h.ob i o ho
 cases o with
 | var cs=>
  rcases hk with ⟨_,_,_,_,_,hm⟩ | ⟨hn,_⟩
  ·exact hm
  ·exact absurd hbn hn
 | own e sz n cs=>obtain ⟨_,_,_,_,_,hm⟩:=hk; exact hm
 | fro n cs=>cases hl
 | gone=>cases hl
 | mp kd es=>exact hk.2.2.1
 | tvar T cs=>exact hk.2.2
theorem St.below' {w0:World} {c c':Cx} {H H':List Ob} (h:St w0 c H) (hs:Step c H c' H'):Below w0.heap.size w0 c'.w:=by
 have hz:=h.below.size
 exact ⟨hs.os.trans h.below.os,hs.tape.trans h.below.tape,hs.output.trans h.below.output,Nat.le_trans hz hs.le.size,
  fun b hb=>(hs.same b (by omega) (fun hw=>by have:=h.base b hw; omega)).trans (h.below.block b hb)⟩
end Ab
end Go.Proofs.YtgddkgbidhhheaaGreatDoor
namespace Go.Proofs.YtgddkgbidhhheaaGreatDoor
open Go.RowKit
namespace Ab
abbrev Fr:=Nat→Option AV
def upd (F:Fr) (d:Nat) (x:AV):Fr:=fun t=>if t=d then some x else F t
def updN (F:Fr) (d:Nat):Fr:=fun t=>if t=d then none else F t
def RF (c:Cx) (F:Fr) (a:Act):Prop:=∀ t x,F t=some x→∃ u,a.tmps[t]? = some u∧RV c x u
theorem RF.le {c c':Cx} {F:Fr} {a:Act} (hle:c.le c') (h:RF c F a):RF c' F a:=fun t x ht=>by
 obtain ⟨u,h1,h2⟩:=h t x ht
 exact ⟨u,h1,h2.le hle⟩
theorem put_some (a:Act) (d:Nat) (u:Value):a.put (some d) u = { a with tmps:=a.tmps.setIfInBounds d u }:=rfl
theorem RF.put {c:Cx} {F:Fr} {a:Act} (h:RF c F a) {d:Nat} (hd:d < a.tmps.size) {x:AV} {u:Value} (hx:RV c x u):RF c (upd F d x) (a.put (some d) u):=fun t y ht=>by
 unfold upd at ht
 split at ht
 ·rename_i he; subst he; cases ht
  exact ⟨u,by rw [put_some]; simp [hd],hx⟩
 ·rename_i he
  obtain ⟨v,h1,h2⟩:=h t y ht
  refine ⟨v,?_,h2⟩
  rw [put_some]
  show (a.tmps.setIfInBounds d u)[t]? = _
  rw [Array.getElem?_setIfInBounds_ne (Ne.symm he)]; exact h1
theorem size_put (a:Act) (d:Option Nat) (u:Value):(a.put d u).tmps.size=a.tmps.size:=by cases d<;>simp [Act.put]
theorem defers_put (a:Act) (d:Option Nat) (u:Value):(a.put d u).defers=a.defers:=by cases d<;>rfl
theorem RF.eval {c:Cx} {F:Fr} {a:Act} (h:RF c F a) {t:Nat} {x:AV} (ht:F t=some x):RV c x (a.eval (.tmp t)):=by
 obtain ⟨u,h1,h2⟩:=h t x ht
 have:a.eval (.tmp t)=u:=by
  show a.tmps.getD t undef=u
  rw [Array.getD_eq_getD_getElem?,h1]; rfl
 rw [this]; exact h2
structure Fin (w0:World) (N:Nat) (ds:List Deferred) (c:Cx) (H:List Ob) (K:Fr→List Ob→Prop) (a':Act) (w':World):Prop where
 ex:∃ c' F' H',c'.w=w'∧Step c H c' H'∧St w0 c' H'∧RF c' F' a'∧a'.tmps.size=N∧a'.defers=ds∧K F' H'
def Cx.push (c:Cx) (w1:World) (B:Nat) (V:Value):Cx:=
 { w:=w1,M:=fun b=>c.M b∨b=B,k:=c.k + 1,born:=fun i=>c.born i∨i=c.k,β:=fun i=>if i=c.k then B else c.β i,sv:=fun i=>if i=c.k then V else c.sv i }
theorem Cx.push_β (c:Cx) (w1:World) (B:Nat) (V:Value):(c.push w1 B V).β c.k=B:=if_pos rfl
theorem Cx.push_sv (c:Cx) (w1:World) (B:Nat) (V:Value):(c.push w1 B V).sv c.k=V:=if_pos rfl
theorem Cx.push_β_lt (c:Cx) (w1:World) (B:Nat) (V:Value) {i:Nat} (h:i < c.k):(c.push w1 B V).β i=c.β i:=if_neg (by omega)
theorem Cx.push_sv_lt (c:Cx) (w1:World) (B:Nat) (V:Value) {i:Nat} (h:i < c.k):(c.push w1 B V).sv i=c.sv i:=if_neg (by omega)
theorem ObOk.le {c c':Cx} (hle:c.le c') {i:Nat} {o:Ob} (hbn:c'.born i→c.born i) (hb:o.live=true→c.born i→c'.w.heap[c.β i]? = c.w.heap[c.β i]?∧c'.M (c.β i)) (h:ObOk c i o):ObOk c' i o:=by
 cases o with
 | var cs=>
  rcases h with ⟨hi,us,T,h1,h2,h3⟩ | ⟨hn,h⟩
  ·refine .inl ⟨hle.born i hi,us,T,?_,h2.le hle,?_⟩
   ·rw [hle.β i hi,(hb rfl hi).1]; exact h1
   ·rw [hle.β i hi]; exact (hb rfl hi).2
  ·exact .inr ⟨fun hx=>hn (hbn hx),h⟩
 | own e sz n cs=>
  obtain ⟨hi,us,h1,h2,h3,h4⟩:=h
  refine ⟨hle.born i hi,us,?_,?_,h3.le hle,?_⟩
  ·rw [hle.sv i hi]
   exact h1.kept h2 (hb rfl hi).1
  ·rw [hle.sv i hi,hle.β i hi]; exact h2
  ·rw [hle.β i hi]; exact (hb rfl hi).2
 | fro n cs=>
  obtain ⟨hi,h⟩:=h
  refine ⟨hle.born i hi,?_⟩
  rw [hle.sv i hi]; exact RD.le hle h
 | gone=>trivial
 | tvar T cs=>
  obtain ⟨hi,⟨us,h1,h2⟩,h3⟩:=h
  exact ⟨hle.born i hi,⟨us,by rw [hle.β i hi,(hb rfl hi).1]; exact h1,h2.le hle⟩,by rw [hle.β i hi]; exact (hb rfl hi).2⟩
 | mp kd es=>
  obtain ⟨hi,h1,h2,ents,h3,h4⟩:=h
  exact ⟨hle.born i hi,by rw [hle.sv i hi,hle.β i hi]; exact h1,by rw [hle.β i hi]; exact (hb rfl hi).2,ents,by rw [hle.β i hi,(hb rfl hi).1]; exact h3,h4⟩
theorem St.blt {w0:World} {c:Cx} {H:List Ob} (h:St w0 c H) {b:Nat} (hb:Wr c H b):b < c.w.heap.size:=h.mlt b (h.live_M hb)
theorem push_le {c:Cx} {w1:World} {B:Nat} {V:Value} (hbl:∀ i,c.born i→i < c.k) (hz:c.w.heap.size≤w1.heap.size) (hB:∀ b,b < c.w.heap.size→b=B→c.M b)
  (hs:∀ b,b < c.w.heap.size→¬ c.M b→w1.heap[b]? = c.w.heap[b]?):c.le (c.push w1 B V):=
 ⟨fun i hi=>.inl hi,fun i hi=>c.push_β_lt w1 B V (hbl i hi),fun i hi=>c.push_sv_lt w1 B V (hbl i hi),hz,fun b hb hm=>⟨hs b hb hm,fun h=>h.elim hm (fun e=>hm (hB b hb e))⟩⟩
theorem push_new {w0:World} {c:Cx} {H:List Ob} (hS:St w0 c H) (o:Ob) {w1:World} {B:Nat} {V:Value} (hB:c.w.heap.size≤B) (hB':B < w1.heap.size)
  (h1:w1.os=c.w.os) (h2:w1.tape=c.w.tape) (h3:w1.output=c.w.output) (hs:∀ b,b < c.w.heap.size→w1.heap[b]? = c.w.heap[b]?)
  (ho:c.le (c.push w1 B V)→ObOk (c.push w1 B V) c.k o):St w0 (c.push w1 B V) (H++[o])∧Step c H (c.push w1 B V) (H++[o]):=by
 have hz:c.w.heap.size≤w1.heap.size:=by omega
 have hle:c.le (c.push w1 B V):=push_le hS.bl hz (fun b hb e=>by omega) (fun b hb _=>hs b hb)
 have hget:∀ i x,(H++[o])[i]? = some x→(i < c.k∧H[i]? = some x)∨(i=c.k∧x=o):=fun i x hx=>by
  rw [List.getElem?_append] at hx
  split at hx
  ·left; exact ⟨by rw [hS.k]; assumption,hx⟩
  ·right
   have:i - H.length=0:=by
    cases hq:i - H.length with
    | zero=>rfl
    | succ m=>rw [hq] at hx; simp at hx
   rw [this] at hx
   exact ⟨by rw [hS.k]; omega,by simpa using hx.symm⟩
 have hbk:∀ i,i < c.k→(c.push w1 B V).born i→c.born i:=fun i hi hb=>hb.elim id (fun e=>by omega)
 have hwr:∀ b,Wr (c.push w1 B V) (H++[o]) b→Wr c H b∨b=B:=fun b ⟨i,x,hx,hl,hbn,he⟩=>by
  rcases hget i x hx with ⟨hi,hx'⟩ | ⟨rfl,rfl⟩
  ·rw [c.push_β_lt w1 B V hi] at he; exact .inl ⟨i,x,hx',hl,hbk i hi hbn,he⟩
  ·rw [c.push_β] at he; exact .inr he.symm
 have hstep:Step c H (c.push w1 B V) (H++[o]):=
  ⟨hle,h1,h2,h3,fun b hb _=>hs b hb,fun b hb hm=>hm.elim id (fun e=>by omega),fun b _ _ hm=>.inl hm,fun b hb=>(hwr b hb).imp id (fun e=>by omega),Nat.le_succ _,fun i hi hb=>hbk i hi hb⟩
 refine ⟨⟨by show c.k + 1=_; rw [hS.k,List.length_append]; rfl,fun i hi=>by show i < c.k + 1; exact hi.elim (fun h=>Nat.lt_succ_of_lt (hS.bl i h)) (fun e=>by omega),fun i x hx=>?_,fun i j oi oj hi hj li lj ni nj he=>?_,fun b hb=>?_,fun b hb=>?_,hS.below' hstep⟩,hstep⟩
 ·rcases hget i x hx with ⟨hi,hx'⟩ | ⟨rfl,rfl⟩
  ·refine (hS.ob i x hx').le hle (hbk i hi) (fun hl hbn=>?_)
   have hw:Wr c H (c.β i):=⟨i,x,hx',hl,hbn,rfl⟩
   exact ⟨hs _ (hS.blt hw),.inl (hS.live_M hw)⟩
  ·exact ho hle
 ·rcases hget i oi hi with ⟨hi1,hi2⟩ | ⟨rfl,rfl⟩<;>rcases hget j oj hj with ⟨hj1,hj2⟩ | ⟨rfl,rfl⟩
  ·rw [c.push_β_lt w1 B V hi1,c.push_β_lt w1 B V hj1] at he
   exact hS.inj i j oi oj hi2 hj2 li lj (hbk i hi1 ni) (hbk j hj1 nj) he
  ·rw [c.push_β_lt w1 B V hi1,c.push_β] at he
   have:=hS.blt (b:=c.β i) ⟨i,oi,hi2,li,hbk i hi1 ni,rfl⟩
   omega
  ·rw [c.push_β_lt w1 B V hj1,c.push_β] at he
   have:=hS.blt (b:=c.β j) ⟨j,oj,hj2,lj,hbk j hj1 nj,rfl⟩
   omega
  ·rfl
 ·rcases hwr b hb with h | rfl
  ·exact hS.base b h
  ·have:=hS.below.size; omega
 ·rcases hb with h | rfl
  ·exact Nat.lt_of_lt_of_le (hS.mlt b h) hz
  ·exact hB'
theorem push_move {w0 : World} {c : Cx} {H : List Ob} (hS : St w0 c H) (o : Ob) {i0 : Nat} {o0 : Ob} (hi0 : H[i0]? = some o0) (hl0 : o0.live = true) (hb0 : c.born i0) {w1 : World} {B : Nat} {V : Value} (hB : B = c.β i0 ∨ c.w.heap.size ≤ B) (hB' : B < w1.heap.size)
    (hz : c.w.heap.size ≤ w1.heap.size) (h1 : w1.os = c.w.os) (h2 : w1.tape = c.w.tape) (h3 : w1.output = c.w.output) (hs : ∀ b, b < c.w.heap.size → b ≠ c.β i0 → w1.heap[b]? = c.w.heap[b]?)
    (ho : c.le (c.push w1 B V) → ObOk (c.push w1 B V) c.k o) : St w0 (c.push w1 B V) (H.set i0 .gone ++ [o]) ∧ Step c H (c.push w1 B V) (H.set i0 .gone ++ [o]) := by
  have hw0 : Wr c H (c.β i0) := ⟨i0, o0, hi0, hl0, hb0, rfl⟩
  have hBM : ∀ b, b < c.w.heap.size → b = B → c.M b := fun b hb e => by
    rcases hB with h | h
    · rw [e, h]; exact hS.live_M hw0
    · omega
  have hle : c.le (c.push w1 B V) := push_le hS.bl hz hBM (fun b hb hm => hs b hb (fun e => hm (e ▸ hS.live_M hw0)))
  have hget : ∀ i x, (H.set i0 .gone ++ [o])[i]? = some x → (i < c.k ∧ ((H[i]? = some x ∧ i ≠ i0) ∨ (i = i0 ∧ x = .gone))) ∨ (i = c.k ∧ x = o) := fun i x hx => by
    rw [List.getElem?_append] at hx
    split at hx
    · rename_i hi
      rw [List.length_set] at hi
      left
      refine ⟨by rw [hS.k]; exact hi, ?_⟩
      rw [List.getElem?_set] at hx
      split at hx
      · rename_i he; subst he
        rw [if_pos hi] at hx
        exact .inr ⟨rfl, (Option.some.inj hx).symm⟩
      · rename_i he; exact .inl ⟨hx, Ne.symm he⟩
    · right
      rw [List.length_set] at *
      have : i - H.length = 0 := by
        cases hq : i - H.length with
        | zero => rfl
        | succ m => rw [hq] at hx; simp at hx
      rw [this] at hx
      exact ⟨by rw [hS.k]; omega, by simpa using hx.symm⟩
  have hbk : ∀ i, i < c.k → (c.push w1 B V).born i → c.born i := fun i hi hb => hb.elim id (fun e => by omega)
  have hwr : ∀ b, Wr (c.push w1 B V) (H.set i0 .gone ++ [o]) b → Wr c H b ∨ b = B := fun b ⟨i, x, hx, hl, hbn, he⟩ => by
    rcases hget i x hx with ⟨hi, ⟨hx', _⟩ | ⟨_, rfl⟩⟩ | ⟨rfl, rfl⟩
    · rw [c.push_β_lt w1 B V hi] at he; exact .inl ⟨i, x, hx', hl, hbk i hi hbn, he⟩
    · cases hl
    · rw [c.push_β] at he; exact .inr he.symm
  have hstep : Step c H (c.push w1 B V) (H.set i0 .gone ++ [o]) :=
    ⟨hle, h1, h2, h3, fun b hb hn => hs b hb (fun e => hn (e ▸ hw0)), fun b hb hm => hm.elim id (hBM b hb), fun b _ _ hm => .inl hm,
      fun b hb => by rcases hwr b hb with h | rfl
                     · exact .inl h
                     · rcases hB with h | h
                       · exact .inl (h ▸ hw0)
                       · exact .inr h, Nat.le_succ _, fun i hi hb => hbk i hi hb⟩
  refine ⟨⟨by show c.k + 1 = _; rw [hS.k, List.length_append, List.length_set]; rfl, fun i hi => by show i < c.k + 1; exact hi.elim (fun h => Nat.lt_succ_of_lt (hS.bl i h)) (fun e => by omega), fun i x hx => ?_, fun i j oi oj hi hj li lj ni nj he => ?_, fun b hb => ?_, fun b hb => ?_, hS.below' hstep⟩, hstep⟩
  · rcases hget i x hx with ⟨hi, ⟨hx', hne⟩ | ⟨_, rfl⟩⟩ | ⟨rfl, rfl⟩
    · refine (hS.ob i x hx').le hle (hbk i hi) (fun hl hbn => ?_)
      have hw : Wr c H (c.β i) := ⟨i, x, hx', hl, hbn, rfl⟩
      exact ⟨hs _ (hS.blt hw) (fun e => hne (hS.inj i i0 x o0 hx' hi0 hl hl0 hbn hb0 e)), .inl (hS.live_M hw)⟩
    · trivial
    · exact ho hle
  · rcases hget i oi hi with ⟨hi1, ⟨hi2, hni⟩ | ⟨_, rfl⟩⟩ | ⟨rfl, rfl⟩
    · rcases hget j oj hj with ⟨hj1, ⟨hj2, hnj⟩ | ⟨_, rfl⟩⟩ | ⟨rfl, rfl⟩
      · rw [c.push_β_lt w1 B V hi1, c.push_β_lt w1 B V hj1] at he
        exact hS.inj i j oi oj hi2 hj2 li lj (hbk i hi1 ni) (hbk j hj1 nj) he
      · cases lj
      · rw [c.push_β_lt w1 B V hi1, c.push_β] at he
        have := hS.blt (b := c.β i) ⟨i, oi, hi2, li, hbk i hi1 ni, rfl⟩
        rcases hB with h | h
        · exact absurd (hS.inj i i0 oi o0 hi2 hi0 li hl0 (hbk i hi1 ni) hb0 (he.trans h)) hni
        · omega
    · cases li
    · rcases hget j oj hj with ⟨hj1, ⟨hj2, hnj⟩ | ⟨_, rfl⟩⟩ | ⟨rfl, rfl⟩
      · rw [c.push_β_lt w1 B V hj1, c.push_β] at he
        have := hS.blt (b := c.β j) ⟨j, oj, hj2, lj, hbk j hj1 nj, rfl⟩
        rcases hB with h | h
        · exact absurd (hS.inj j i0 oj o0 hj2 hi0 lj hl0 (hbk j hj1 nj) hb0 (he.symm.trans h)) hnj
        · omega
      · cases lj
      · rfl
  · rcases hwr b hb with h | rfl
    · exact hS.base b h
    · rcases hB with h | h
      · rw [h]; exact hS.base _ hw0
      · have := hS.below.size; omega
  · rcases hb with h | rfl
    · exact Nat.lt_of_lt_of_le (hS.mlt b h) hz
    · exact hB'
def Cx.at (c:Cx) (w1:World):Cx:={ c with w:=w1 }
theorem at_le {c:Cx} {w1:World} (hz:c.w.heap.size≤w1.heap.size) (hs:∀ b,b < c.w.heap.size→¬ c.M b→w1.heap[b]? = c.w.heap[b]?):c.le (c.at w1):=
 ⟨fun _ h=>h,fun _ _=>rfl,fun _ _=>rfl,hz,fun b hb hm=>⟨hs b hb hm,hm⟩⟩
theorem get_set {H:List Ob} {i0:Nat} {o:Ob} {i:Nat} {x:Ob} (hx:(H.set i0 o)[i]? = some x):(H[i]? = some x∧i≠i0)∨(i=i0∧x=o∧i0 < H.length):=by
 rw [List.getElem?_set] at hx
 split at hx
 ·rename_i he; subst he
  split at hx
  ·exact .inr ⟨rfl,(Option.some.inj hx).symm,by assumption⟩
  ·cases hx
 ·rename_i he; exact .inl ⟨hx,Ne.symm he⟩
theorem write_obj {w0:World} {c:Cx} {H:List Ob} (hS:St w0 c H) (o:Ob) {i0:Nat} {o0:Ob} (hi0:H[i0]? = some o0) (hl0:o0.live=true) (hb0:c.born i0) (hl:o.live=true) {w1:World}
  (hz:w1.heap.size=c.w.heap.size) (h1:w1.os=c.w.os) (h2:w1.tape=c.w.tape) (h3:w1.output=c.w.output) (hs:∀ b,b≠c.β i0→w1.heap[b]? = c.w.heap[b]?)
  (ho:c.le (c.at w1)→ObOk (c.at w1) i0 o):St w0 (c.at w1) (H.set i0 o)∧Step c H (c.at w1) (H.set i0 o):=by
 have hw0:Wr c H (c.β i0):=⟨i0,o0,hi0,hl0,hb0,rfl⟩
 have hle:c.le (c.at w1):=at_le (Nat.le_of_eq hz.symm) (fun b hb hm=>hs b (fun e=>hm (e ▸ hS.live_M hw0)))
 have hwr:∀ b,Wr (c.at w1) (H.set i0 o) b→Wr c H b:=fun b ⟨i,x,hx,hl,hbn,he⟩=>by
  rcases get_set hx with ⟨hx',_⟩ | ⟨rfl,rfl,_⟩
  ·exact ⟨i,x,hx',hl,hbn,he⟩
  ·exact ⟨i,o0,hi0,hl0,hbn,he⟩
 have hstep:Step c H (c.at w1) (H.set i0 o):=
  ⟨hle,h1,h2,h3,fun b hb hn=>hs b (fun e=>hn (e ▸ hw0)),fun b _ hm=>hm,fun b _ _ hm=>hm,fun b hb=>.inl (hwr b hb),Nat.le_refl _,fun _ _ h=>h⟩
 refine ⟨⟨by show c.k=_; rw [hS.k,List.length_set],hS.bl,fun i x hx=>?_,fun i j oi oj hi hj li lj ni nj he=>?_,fun b hb=>hS.base b (hwr b hb),fun b hb=>by show b < w1.heap.size; rw [hz]; exact hS.mlt b hb,hS.below' hstep⟩,hstep⟩
 ·rcases get_set hx with ⟨hx',hne⟩ | ⟨rfl,rfl,_⟩
  ·refine (hS.ob i x hx').le hle (fun h=>h) (fun hl hbn=>?_)
   have hw:Wr c H (c.β i):=⟨i,x,hx',hl,hbn,rfl⟩
   exact ⟨hs _ (fun e=>hne (hS.inj i i0 x o0 hx' hi0 hl hl0 hbn hb0 e)),hS.live_M hw⟩
  ·exact ho hle
 ·have back:∀ {i:Nat} {x:Ob},(H.set i0 o)[i]? = some x→x.live=true→∃ y,H[i]? = some y∧y.live=true:=fun hx hl=>by
   rcases get_set hx with ⟨hx',_⟩ | ⟨rfl,rfl,_⟩
   ·exact ⟨_,hx',hl⟩
   ·exact ⟨o0,hi0,hl0⟩
  obtain ⟨yi,a1,a2⟩:=back hi li
  obtain ⟨yj,b1,b2⟩:=back hj lj
  exact hS.inj i j yi yj a1 b1 a2 b2 ni nj he
theorem grow_st {w0:World} {c:Cx} {H:List Ob} (hS:St w0 c H) {w1:World}
  (hz:c.w.heap.size≤w1.heap.size) (h1:w1.os=c.w.os) (h2:w1.tape=c.w.tape) (h3:w1.output=c.w.output) (hs:∀ b,b < c.w.heap.size→w1.heap[b]? = c.w.heap[b]?):St w0 (c.at w1) H∧Step c H (c.at w1) H:=by
 have hle:c.le (c.at w1):=at_le hz (fun b hb _=>hs b hb)
 have hstep:Step c H (c.at w1) H:=⟨hle,h1,h2,h3,fun b hb _=>hs b hb,fun b _ hm=>hm,fun b _ _ hm=>hm,fun b hb=>.inl hb,Nat.le_refl _,fun _ _ h=>h⟩
 refine ⟨⟨hS.k,hS.bl,fun i x hx=>(hS.ob i x hx).le hle (fun h=>h) (fun hl hbn=>?_),hS.inj,hS.base,fun b hb=>Nat.lt_of_lt_of_le (hS.mlt b hb) hz,hS.below' hstep⟩,hstep⟩
 have hw:Wr c H (c.β i):=⟨i,x,hx,hl,hbn,rfl⟩
 exact ⟨hs _ (hS.blt hw),hS.live_M hw⟩
theorem below_st {w0:World} {c:Cx} {H:List Ob} (hS:St w0 c H) {w1:World} (hb:Below c.w.heap.size c.w w1):St w0 (c.at w1) H∧Step c H (c.at w1) H:=
 grow_st hS hb.size hb.os hb.tape hb.output hb.block
theorem own_cells {w:World} {e sz n:Nat} {v:Value} {us:List Value} {b:Nat} (h:OwnsM w e sz v n us) (hb:v.ownBlock=some b) :
  ∃ cap,v=.slice (some ⟨b,0,none⟩) n cap∧n≤cap∧us.length=n * sz∧b < w.heap.size∧∀ (j:Nat) (u:Value),us[j]? = some u→w.cell? ⟨b,0 + j,none⟩=some u:=by
 obtain ⟨hl,g,cap,cur,fz,hv,hh,_,h1,_,_,ht⟩:=h
 have:g=b:=by rw [hv] at hb; exact Option.some.inj hb
 subst this
 refine ⟨cap,hv,h1,hl,(Array.getElem?_eq_some_iff.1 hh).1,fun j u hu=>?_⟩
 rw [Nat.zero_add,cell_of_row w g j cur e fz hh]
 rw [← ht,List.getElem?_take] at hu
 split at hu
 ·simpa using hu
 ·cases hu
theorem freeze_obj {w0:World} {c:Cx} {H:List Ob} (hS:St w0 c H) {i0 e sz n:Nat} {cs:List AV} (hi0:H[i0]? = some (.own e sz n cs)) :
  St w0 { c with M:=fun b=>c.M b∧b≠c.β i0 } (H.set i0 (.fro n cs))∧Step c H { c with M:=fun b=>c.M b∧b≠c.β i0 } (H.set i0 (.fro n cs)):=by
 have hb0:c.born i0:=(hS.ob i0 _ hi0).1
 have hw0:Wr c H (c.β i0):=⟨i0,_,hi0,rfl,hb0,rfl⟩
 have hle:c.le { c with M:=fun b=>c.M b∧b≠c.β i0 }:=⟨fun _ h=>h,fun _ _=>rfl,fun _ _=>rfl,Nat.le_refl _,fun b _ hm=>⟨rfl,fun h=>hm h.1⟩⟩
 have hwr:∀ b,Wr { c with M:=fun b=>c.M b∧b≠c.β i0 } (H.set i0 (.fro n cs)) b→Wr c H b:=fun b ⟨i,x,hx,hl,hbn,he⟩=>by
  rcases get_set hx with ⟨hx',_⟩ | ⟨rfl,rfl,_⟩
  ·exact ⟨i,x,hx',hl,hbn,he⟩
  ·cases hl
 have hstep:Step c H { c with M:=fun b=>c.M b∧b≠c.β i0 } (H.set i0 (.fro n cs)):=
  ⟨hle,rfl,rfl,rfl,fun b _ _=>rfl,fun b _ hm=>hm.1,fun b _ hn hm=>⟨hm,fun e=>hn (e ▸ hw0)⟩,fun b hb=>.inl (hwr b hb),Nat.le_refl _,fun _ _ h=>h⟩
 refine ⟨⟨by show c.k=_; rw [hS.k,List.length_set],hS.bl,fun i x hx=>?_,fun i j oi oj hi hj li lj ni nj he=>?_,fun b hb=>hS.base b (hwr b hb),fun b hb=>hS.mlt b hb.1,hS.below' hstep⟩,hstep⟩
 ·rcases get_set hx with ⟨hx',hne⟩ | ⟨rfl,rfl,_⟩
  ·refine (hS.ob i x hx').le hle (fun h=>h) (fun hl hbn=>⟨rfl,hS.live_M ⟨i,x,hx',hl,hbn,rfl⟩,fun e=>hne (hS.inj i i0 x _ hx' hi0 hl rfl hbn hb0 e)⟩)
  ·obtain ⟨_,us,h1,h2,h3,h4⟩:=hS.ob i _ hi0
   obtain ⟨cap,hv,hc,hl,hb,hcell⟩:=own_cells h1 h2
   refine ⟨hb0,?_⟩
   show RD c.w (fun b=>c.M b∧b≠c.β i) _ (c.sv i)
   rw [hv]
   exact .sl (c.β i) 0 n cap cs us h3.len (fun h=>h.2 rfl) hb hcell h3.one (fun j x u h5 h6=>(h3.at' j x u h5 h6).le hle) hc
 ·rcases get_set hi with ⟨hi',_⟩ | ⟨_,rfl,_⟩
  ·rcases get_set hj with ⟨hj',_⟩ | ⟨_,rfl,_⟩
   ·exact hS.inj i j oi oj hi' hj' li lj ni nj he
   ·cases lj
  ·cases li
end Ab
end Go.Proofs.YtgddkgbidhhheaaGreatDoor
namespace Go.Proofs.YtgddkgbidhhheaaGreatDoor
open Go.RowKit
namespace Ab
inductive Opd where
 | t (n:Nat)
 | k (x:AV)
def opd (F:Fr):Opd→Option AV
 | .t n=>F n
 | .k x=>some x
def cav:Value→Option AV
 | .agg cs=>if cs.toList.all flat then some (.agg (cs.toList.map .v)) else none
 | v=>if flat v then some (.v v) else none
def cOpd:Operand→Option Opd
 | .tmp t=>some (.t t)
 | .const v=>(cav v).map .k
 | .func f=>some (.k (.clo f []))
 | _=>none
theorem cav_ok {c:Cx} {v:Value} {x:AV} (h:cav v=some x):RV c x v:=by
 have flatcase:∀ {v:Value},flat v=true→RV c (.v v) v:=fun h=>.deep (.v _ h)
 cases v with
 | agg cs=>
  simp only [cav] at h
  split at h
  ·rename_i hf
   cases h
   have hc:cs=cs.toList.toArray:=by simp
   rw [hc]
   refine .deep (.agg _ _ (by simp) (fun u hu=>flat_one (List.all_eq_true.1 hf u hu)) (fun j x u h1 h2=>?_))
   rw [List.getElem?_map,h2] at h1
   cases h1
   exact .v u (List.all_eq_true.1 hf u (List.mem_of_getElem? h2))
  ·cases h
 | _=>
  simp only [cav] at h
  split at h
  ·rename_i hf; cases h; exact flatcase hf
  ·cases h
theorem cOpd_ok {c:Cx} {F:Fr} {a:Act} (hF:RF c F a) {o:Operand} {p:Opd} (h:cOpd o=some p) {x:AV} (hx:opd F p=some x):RV c x (a.eval o):=by
 cases o with
 | tmp t=>cases h; exact hF.eval hx
 | const v=>
  simp only [cOpd,Option.map_eq_some_iff] at h
  obtain ⟨y,hy,rfl⟩:=h
  cases hx
  exact cav_ok hy
 | global g=>cases h
 | func f=>
  cases h; cases hx
  exact .clo f [] [] rfl (fun j x u h=>by simp at h)
section
variable {P:Program}
theorem wp_val {o:Oper} {a:Act} {w w':World} {u:Value} {K:Act→World→Prop} {Q:Exit→Act→World→Prop} (h:(execOp a.eval o).run P w=.ok (.value u) w') (hk:K (a.put o.dst u) w'):o.wp P a w K Q:=by
 unfold Oper.wp; rw [h]; exact hk
theorem wp_skp {o:Oper} {a:Act} {w w':World} {K:Act→World→Prop} {Q:Exit→Act→World→Prop} (h:(execOp a.eval o).run P w=.ok .skip w') (hk:K (a.put o.dst undef) w'):o.wp P a w K Q:=by
 unfold Oper.wp; rw [h]; exact hk
def OpOk (P:Program) (N:Nat) (o:Oper) (S:Fr→List Ob→(Fr→List Ob→Prop)→Prop):Prop:=
 ∀ (w0:World) (ds:List Deferred) (c:Cx) (a:Act) (F:Fr) (H:List Ob) (K:Fr→List Ob→Prop) (Q:Exit→Act→World→Prop),
  St w0 c H→RF c F a→a.tmps.size=N→a.defers=ds→S F H K→o.wp P a c.w (Fin w0 N ds c H K) Q
theorem fin_same {w0:World} {N:Nat} {ds:List Deferred} {c:Cx} {H:List Ob} {F:Fr} {a:Act} {K:Fr→List Ob→Prop} (hS:St w0 c H) (hF:RF c F a) (hN:a.tmps.size=N) (hd:a.defers=ds)
  {d:Nat} (hdN:d < N) {x:AV} {u:Value} (hx:RV c x u) (hK:K (upd F d x) H):Fin w0 N ds c H K (a.put (some d) u) c.w:=
 ⟨c,_,H,rfl,.refl c H,hS,hF.put (by rw [hN]; exact hdN) hx,by rw [size_put,hN],by rw [defers_put,hd],hK⟩
theorem fin_to {w0:World} {N:Nat} {ds:List Deferred} {c c':Cx} {H H':List Ob} {F:Fr} {a:Act} {K:Fr→List Ob→Prop} (h:St w0 c' H'∧Step c H c' H') (hF:RF c F a) (hN:a.tmps.size=N) (hd:a.defers=ds)
  {d:Nat} (hdN:d < N) {x:AV} {u:Value} (hx:RV c' x u) (hK:K (upd F d x) H'):Fin w0 N ds c H K (a.put (some d) u) c'.w:=
 ⟨c',_,H',rfl,h.2,h.1,(hF.le h.2.le).put (by rw [hN]; exact hdN) hx,by rw [size_put,hN],by rw [defers_put,hd],hK⟩
def sMov (d:Nat) (x:Opd) (F:Fr) (H:List Ob) (K:Fr→List Ob→Prop):Prop:=match opd F x with | some y=>K (upd F d y) H | none=>False
theorem ok_move {N:Nat} {o:Oper} {x:Operand} {p:Opd} {d:Nat} (ho:o.op=.move x∨o.op=.assign x) (hd:o.dst=some d) (hdN:d < N) (hx:cOpd x=some p):OpOk P N o (sMov d p):=by
 intro w0 ds c a F H K Q hS hF hN hds h
 unfold sMov at h
 cases hy:opd F p with
 | none=>rw [hy] at h; exact h.elim
 | some y=>
  rw [hy] at h
  refine wp_val (u:=a.eval x) (w':=c.w) (by rcases ho with ho | ho<;>simp [execOp,ho]) ?_
  rw [hd]; exact fin_same hS hF hN hds hdN (cOpd_ok hF hx hy) h
def sPick (d:Nat) (q x y:Opd) (F:Fr) (H:List Ob) (K:Fr→List Ob→Prop):Prop:=
 match opd F q with
 | some (.v (.bool b))=>match (if b then opd F x else opd F y) with | some z=>K (upd F d z) H | none=>False
 | _=>False
theorem ok_pick {N:Nat} {o:Oper} {x y q:Operand} {px py pq:Opd} {d:Nat} (ho:o.op=.pick q x y) (hd:o.dst=some d) (hdN:d < N) (hq:cOpd q=some pq) (hx:cOpd x=some px) (hy:cOpd y=some py):OpOk P N o (sPick d pq px py):=by
 intro w0 ds c a F H K Q hS hF hN hds h
 unfold sPick at h
 split at h
 ·rename_i b hb
  have hq':=(cOpd_ok hF hq hb).inv_v.1
  cases b with
  | true=>
   simp only [if_true] at h
   cases hz:opd F px with
   | none=>rw [hz] at h; exact h.elim
   | some z=>
    rw [hz] at h
    refine wp_val (u:=a.eval x) (w':=c.w) (by simp [execOp,ho,hq',asBool]) ?_
    rw [hd]; exact fin_same hS hF hN hds hdN (cOpd_ok hF hx hz) h
  | false=>
   simp only [Bool.false_eq_true,if_false] at h
   cases hz:opd F py with
   | none=>rw [hz] at h; exact h.elim
   | some z=>
    rw [hz] at h
    refine wp_val (u:=a.eval y) (w':=c.w) (by simp [execOp,ho,hq',asBool]) ?_
    rw [hd]; exact fin_same hS hF hN hds hdN (cOpd_ok hF hy hz) h
 ·exact h.elim
def adr (H:List Ob):AV→Option (List AV × Nat)
 | .ptr i off=>match H[i]? with
  | some (.var cs)=>some (cs,off)
  | some (.tvar _ cs)=>some (cs,off)
  | some (.own _ _ _ cs)=>some (cs,off)
  | _=>none
 | .ep cs off=>some (cs,off)
 | _=>none
theorem adr_ok {w0:World} {c:Cx} {H:List Ob} (hS:St w0 c H) {x:AV} {u:Value} (hx:RV c x u) {cs:List AV} {off:Nat} (h:adr H x=some (cs,off)) :
  ∃ b o us,u=.pointer (some ⟨b,o + off,none⟩)∧RL c cs us∧b < c.w.heap.size∧∀ (j:Nat) (v:Value),us[j]? = some v→c.w.cell? ⟨b,o + j,none⟩=some v:=by
 cases x with
 | ptr i k=>
  obtain ⟨rfl,hi⟩:=hx.inv_ptr
  simp only [adr] at h
  split at h
  ·rename_i ds hds
   cases h
   obtain ⟨us,T,h1,h2,h3⟩:∃ (us:List Value) (T:TypeId),c.w.heap[c.β i]? = some (.cells us.toArray T (0,0))∧RL c cs us∧c.M (c.β i):=by
    rcases hS.ob i _ hds with ⟨_,h⟩ | ⟨hn,_⟩
    ·exact h
    ·exact absurd hi hn
   refine ⟨c.β i,0,us,by rw [Nat.zero_add],h2,(Array.getElem?_eq_some_iff.1 h1).1,fun j v hv=>?_⟩
   rw [Nat.zero_add,cell_of_row c.w (c.β i) j us.toArray T (0,0) h1]; simpa using hv
  ·rename_i T ds hds
   cases h
   obtain ⟨_,⟨us,h1,h2⟩,h3⟩:=hS.ob i _ hds
   refine ⟨c.β i,0,us,by rw [Nat.zero_add],h2,(Array.getElem?_eq_some_iff.1 h1).1,fun j v hv=>?_⟩
   rw [Nat.zero_add,cell_of_row c.w (c.β i) j us.toArray T (0,0) h1]; simpa using hv
  ·rename_i e sz n ds hds
   cases h
   obtain ⟨_,us,h1,h2,h3,h4⟩:=hS.ob i _ hds
   obtain ⟨cap,hv,hc,hl,hb,hcell⟩:=own_cells h1 h2
   exact ⟨c.β i,0,us,by rw [Nat.zero_add],h3.rl,hb,hcell⟩
  ·cases h
 | ep ds k=>
  cases h
  obtain ⟨b,o,us,he,hl,hb,hs,hc⟩:=hx.inv_ep
  exact ⟨b,o,us,he,hl.rl,hs,hc⟩
 | v x=>cases h
 | sl n cs=>cases h
 | row i=>cases h
 | agg cs=>cases h
 | tup cs=>cases h
 | ifc t x=>cases h
 | clo f cs=>cases h
def isAggD:TypeDesc→Bool
 | .struct _=>true
 | .array _ _=>true
 | _=>false
theorem run_isAgg {t:TypeId} {td:TypeDesc} (h:P.underlying t=some td) (w:World):(isAgg t).run P w=.ok (isAggD td) w:=by
 cases td<;>simp [isAgg,run_underlying h,isAggD]
theorem run_sizeOf' {t:TypeId} {i:TypeInfo} (h:P.info? t=some i) (w:World):(sizeOf t).run P w=.ok i.size w:=by
 simp [sizeOf,typeInfo,h]
def sLd (d:Nat) (ag:Bool) (sz:Nat) (x:Opd) (F:Fr) (H:List Ob) (K:Fr→List Ob→Prop):Prop:=
 match (opd F x).bind (adr H) with
 | some (cs,off)=>bif ag then off + sz≤cs.length∧K (upd F d (.agg ((cs.drop off).take sz))) H else match cs[off]? with | some y=>K (upd F d y) H | none=>False
 | none=>False
theorem ok_load {N : Nat} {o : Oper} {t : TypeId} {td : TypeDesc} {i : TypeInfo} {x : Operand} {p : Opd} {d : Nat} (ho : o.op = .load t x) (hd : o.dst = some d) (hdN : d < N) (hx : cOpd x = some p)
    (hu : P.underlying t = some td) (hi : P.info? t = some i) : OpOk P N o (sLd d (isAggD td) i.size p) := by
  intro w0 ds c a F H K Q hS hF hN hds h
  unfold sLd at h
  cases hy : opd F p with
  | none => rw [hy] at h; exact h.elim
  | some y =>
    rw [hy] at h
    simp only [Option.bind_some] at h
    cases hz : adr H y with
    | none => rw [hz] at h; exact h.elim
    | some z =>
      obtain ⟨cs, off⟩ := z
      rw [hz] at h
      simp only at h
      obtain ⟨b, q, us, he, hrl, hb, hc⟩ := adr_ok hS (cOpd_ok hF hx hy) hz
      cases hag : isAggD td with
      | true =>
        rw [hag] at h
        obtain ⟨hlen, hK⟩ := h
        have hr := hrl.drop off |>.take i.size
        have hl : ((us.drop off).take i.size).length = i.size := by rw [List.length_take, List.length_drop, hrl.len]; omega
        refine wp_val (u := .agg ((us.drop off).take i.size).toArray) (w' := c.w) ?_ ?_
        · have hlc := run_loadCells_list (P := P) c.w ⟨b, q + off, none⟩ ((us.drop off).take i.size) (fun j v hv => by
            rw [Go.WideShapes.add_plain]
            rw [List.getElem?_take] at hv
            split at hv
            · rw [List.getElem?_drop] at hv
              have := hc _ v hv
              rwa [← Nat.add_assoc] at this
            · cases hv)
          rw [hl] at hlc
          simp [execOp, ho, Instr.loadAt, he, Instr.sureAddr, loadVar, run_isAgg hu, hag, run_sizeOf' hi, hlc]
        · rw [hd]; exact fin_same hS hF hN hds hdN (.agg _ _ hr.len hr.one hr.at') hK
      | false =>
        rw [hag] at h
        simp only [cond_false] at h
        cases hc0 : cs[off]? with
        | none => rw [hc0] at h; exact h.elim
        | some y' =>
          rw [hc0] at h
          obtain ⟨u, hu1, hu2, hu3⟩ := hrl.get hc0
          have hcell := hc _ u hu1
          refine wp_val (u := u) (w' := c.w) ?_ ?_
          · simp [execOp, ho, Instr.loadAt, he, Instr.sureAddr, loadVar, run_isAgg hu, hag, hcell]
          · rw [hd]; exact fin_same hS hF hN hds hdN hu2 h
def sFad (d off:Nat) (x:Opd) (F:Fr) (H:List Ob) (K:Fr→List Ob→Prop):Prop:=
 match opd F x with
 | some (.ptr i k)=>K (upd F d (.ptr i (k + off))) H
 | some (.ep cs k)=>K (upd F d (.ep cs (k + off))) H
 | _=>False
theorem ok_fad {N:Nat} {o:Oper} {s:TypeId} {fs:Array Field} {fn:Nat} {fd:Field} {i:TypeInfo} {x:Operand} {p:Opd} {d:Nat} (ho:o.op=.fieldAddr s x fn) (hd:o.dst=some d) (hdN:d < N) (hx:cOpd x=some p)
  (hu:P.underlying s=some (.struct fs)) (hf:fs[fn]? = some fd) (hi:P.info? fd.type=some i) (hz:i.size≠0):OpOk P N o (sFad d fd.offset p):=by
 intro w0 ds c a F H K Q hS hF hN hds h
 unfold sFad at h
 split at h
 ·rename_i j k hy
  obtain ⟨he,hj⟩:=(cOpd_ok hF hx hy).inv_ptr
  refine wp_val (u:=.pointer (some ⟨c.β j,k + fd.offset,none⟩)) (w':=c.w) ?_ ?_
  ·simp [execOp,ho,Instr.fieldAt,run_underlying hu,hf,he,Instr.sureAddr,fieldPlace,run_sizeOf' hi,hz,Go.WideShapes.add_plain]
  ·rw [hd]; exact fin_same hS hF hN hds hdN (.ptr j _ hj) h
 ·rename_i cs k hy
  obtain ⟨b,q,us,he,hl,hb,hs,hc⟩:=(cOpd_ok hF hx hy).inv_ep
  refine wp_val (u:=.pointer (some ⟨b,q + (k + fd.offset),none⟩)) (w':=c.w) ?_ ?_
  ·simp [execOp,ho,Instr.fieldAt,run_underlying hu,hf,he,Instr.sureAddr,fieldPlace,run_sizeOf' hi,hz,Go.WideShapes.add_plain,Nat.add_assoc]
  ·rw [hd]; exact fin_same hS hF hN hds hdN (.deep (.ep b q _ cs us hl.len hb hs hc hl.one hl.at')) h
 ·exact h.elim
def slc (H:List Ob):AV→Option (Nat × List AV)
 | .sl n cs=>some (n,cs)
 | .row i=>match H[i]? with
  | some (.own _ _ n cs)=>some (n,cs)
  | some (.fro n cs)=>some (n,cs)
  | _=>none
 | .v (.slice none _ _)=>some (0,[])
 | _=>none
theorem slc_ok {w0:World} {c:Cx} {H:List Ob} (hS:St w0 c H) {x:AV} {u:Value} (hx:RV c x u) {n:Nat} {cs:List AV} (h:slc H x=some (n,cs)) :
  ∃ p cap us,u=.slice p n cap∧n≤cap∧RDL c.w c.M cs us∧(p=none→cs=[]∧n=0)∧(us=[]∨∃ b o,p=some ⟨b,o,none⟩∧b < c.w.heap.size∧∀ (j:Nat) (v:Value),us[j]? = some v→c.w.cell? ⟨b,o + j,none⟩=some v):=by
 have dsl:∀ {n:Nat} {cs:List AV} {u:Value},RD c.w c.M (.sl n cs) u→∃ p cap us,u=.slice p n cap∧n≤cap∧RDL c.w c.M cs us∧(p=none→cs=[]∧n=0)∧(us=[]∨∃ b o,p=some ⟨b,o,none⟩∧b < c.w.heap.size∧∀ (j:Nat) (v:Value),us[j]? = some v→c.w.cell? ⟨b,o + j,none⟩=some v):=by
  intro n cs u h
  cases h with
  | sl0 p cap=>exact ⟨p,cap,[],rfl,Nat.zero_le _,.nil _ _,fun _=>⟨rfl,rfl⟩,.inl rfl⟩
  | sl b o n cap cs us hl hb hs hc h1 hr hn=>exact ⟨_,cap,us,rfl,hn,⟨hl,h1,hr⟩,fun h=>by simp at h,.inr ⟨b,o,rfl,hs,hc⟩⟩
 cases x with
 | sl m ds=>cases h; exact dsl hx.inv_deep_sl
 | row i=>
  obtain ⟨rfl,hi,_⟩:=hx.inv_row
  simp only [slc] at h
  split at h
  ·rename_i e sz m ds hds
   cases h
   obtain ⟨_,us,h1,h2,h3,h4⟩:=hS.ob i _ hds
   obtain ⟨cap,hv,hc,hl,hb,hcell⟩:=own_cells h1 h2
   rw [hv]
   exact ⟨_,cap,us,rfl,hc,h3,fun h=>by simp at h,.inr ⟨_,0,rfl,hb,hcell⟩⟩
  ·rename_i m ds hds
   cases h
   exact dsl (hS.ob i _ hds).2
  ·cases h
 | v x=>
  obtain ⟨rfl,hf⟩:=hx.inv_v
  cases u with
  | slice p n' c'=>
   cases p with
   | none=>
    cases h
    simp only [flat,Bool.and_eq_true,beq_iff_eq] at hf
    obtain ⟨rfl,rfl⟩:=hf
    exact ⟨none,0,[],rfl,Nat.le_refl _,.nil _ _,fun _=>⟨rfl,rfl⟩,.inl rfl⟩
   | some _=>simp [slc] at h
  | _=>simp [slc] at h
 | ptr=>cases h
 | ep=>cases h
 | agg cs=>cases h
 | tup cs=>cases h
 | ifc t x=>cases h
 | clo f cs=>cases h
def sIxa (d esz:Nat) (x i:Opd) (F:Fr) (H:List Ob) (K:Fr→List Ob→Prop):Prop:=
 match opd F x,opd F i with
 | some (.row r),some (.v (.int _ z))=>match H[r]? with
  | some (.own _ _ n _)=>(0≤z∧z < (n:Int))∧K (upd F d (.ptr r (z.toNat * esz))) H
  | some (.fro n cs)=>(0≤z∧z < (n:Int))∧K (upd F d (.ep cs (z.toNat * esz))) H
  | _=>False
 | some (.sl n cs),some (.v (.int _ z))=>(0≤z∧z < (n:Int))∧K (upd F d (.ep cs (z.toNat * esz))) H
 | _,_=>False
theorem ok_ixa {N:Nat} {o:Oper} {t e:TypeId} {i:TypeInfo} {x j:Operand} {p q:Opd} {d:Nat} (ho:o.op=.indexAddr t x j) (hd:o.dst=some d) (hdN:d < N) (hx:cOpd x=some p) (hj:cOpd j=some q)
  (hu:P.underlying t=some (.slice e)) (hi:P.info? e=some i):OpOk P N o (sIxa d i.size p q):=by
 intro w0 ds c a F H K Q hS hF hN hds h
 have run:∀ (b o' n cap:Nat) (k:IntKind) (z:Int),a.eval x=.slice (some ⟨b,o',none⟩) n cap→a.eval j=.int k z→0≤z∧z < (n:Int) →
   (execOp a.eval o).run P c.w=.ok (.value (.pointer (some ⟨b,o' + z.toNat * i.size,none⟩))) c.w:=by
  intro b o' n cap k z e1 e2 hz
  simp [execOp,ho,Instr.indexAt,e1,e2,asIntOf,run_underlying hu,run_sizeOf' hi,hz,Go.WideShapes.add_plain]
 have deep:∀ {n:Nat} {cs:List AV} {u:Value} {z:Int},RD c.w c.M (.sl n cs) u→z < (n:Int)→0≤z→∃ b o' cap,u=.slice (some ⟨b,o',none⟩) n cap∧RD c.w c.M (.ep cs (z.toNat * i.size)) (.pointer (some ⟨b,o' + z.toNat * i.size,none⟩)):=by
  intro n cs u z h hz h0
  cases h with
  | sl0 p cap=>omega
  | sl b o n cap cs us hl hb hs hc h1 hr hn=>exact ⟨b,o,cap,rfl,.ep b o _ cs us hl hb hs hc h1 hr⟩
 unfold sIxa at h
 split at h
 ·rename_i r k z hy hz
  obtain ⟨he,hr,_⟩:=(cOpd_ok hF hx hy).inv_row
  have hzv:=(cOpd_ok hF hj hz).inv_v.1
  split at h
  ·rename_i e' sz n cs hob
   obtain ⟨_,us,h1,h2,h3,h4⟩:=hS.ob r _ hob
   obtain ⟨cap,hv,hc,hl,hb,hcell⟩:=own_cells h1 h2
   refine wp_val (run _ _ _ _ _ _ (he.trans hv) hzv h.1) ?_
   rw [hd,Nat.zero_add]; exact fin_same hS hF hN hds hdN (.ptr r _ hr) h.2
  ·rename_i n cs hob
   obtain ⟨b,o',cap,e1,e2⟩:=deep (hS.ob r _ hob).2 h.1.2 h.1.1
   refine wp_val (run _ _ _ _ _ _ (he.trans e1) hzv h.1) ?_
   rw [hd]; exact fin_same hS hF hN hds hdN (.deep e2) h.2
  ·exact h.elim
 ·rename_i n cs k z hy hz
  have hzv:=(cOpd_ok hF hj hz).inv_v.1
  obtain ⟨b,o',cap,e1,e2⟩:=deep (cOpd_ok hF hx hy).inv_deep_sl h.1.2 h.1.1
  refine wp_val (run _ _ _ _ _ _ e1 hzv h.1) ?_
  rw [hd]; exact fin_same hS hF hN hds hdN (.deep e2) h.2
 ·exact h.elim
end
end Ab
end Go.Proofs.YtgddkgbidhhheaaGreatDoor
namespace Go.Proofs.YtgddkgbidhhheaaGreatDoor
open Go.RowKit
namespace Ab
section
variable {P:Program}
def sLen (d:Nat) (str:Bool) (x:Opd) (F:Fr) (H:List Ob) (K:Fr→List Ob→Prop):Prop:=
 bif str then match opd F x with
  | some (.v (.string s))=>K (upd F d (.v (.int .i64 s.size))) H
  | _=>False
 else match (opd F x).bind (slc H) with
  | some (n,_)=>K (upd F d (.v (.int .i64 n))) H
  | none=>False
theorem ok_len_str {N:Nat} {o:Oper} {t:TypeId} {x:Operand} {p:Opd} {d:Nat} (ho:o.op=.call { callee:=.builtin .len,args:=#[x],argTypes:=#[t] }) (hd:o.dst=some d) (hdN:d < N) (hx:cOpd x=some p)
  (hu:P.underlying t=some .string):OpOk P N o (sLen d true p):=by
 intro w0 ds c a F H K Q hS hF hN hds h
 simp only [sLen,cond_true] at h
 split at h
 ·rename_i s hy
  have hxv:=(cOpd_ok hF hx hy).inv_v.1
  refine wp_val (u:=.int .i64 s.size) (w':=c.w) (by simp [execOp,ho,resolve,invoke,builtin,Builtin.len_,run_underlying hu,hxv,goInt]) ?_
  rw [hd]; exact fin_same hS hF hN hds hdN (.deep (.v _ rfl)) h
 ·exact h.elim
theorem ok_len_sl {N:Nat} {o:Oper} {t e:TypeId} {x:Operand} {p:Opd} {d:Nat} (ho:o.op=.call { callee:=.builtin .len,args:=#[x],argTypes:=#[t] }) (hd:o.dst=some d) (hdN:d < N) (hx:cOpd x=some p)
  (hu:P.underlying t=some (.slice e)):OpOk P N o (sLen d false p):=by
 intro w0 ds c a F H K Q hS hF hN hds h
 simp only [sLen,cond_false] at h
 cases hy:opd F p with
 | none=>rw [hy] at h; exact h.elim
 | some y=>
  rw [hy] at h
  simp only [Option.bind_some] at h
  split at h
  ·rename_i n cs hz
   obtain ⟨q,cap,us,hxv,_⟩:=slc_ok hS (cOpd_ok hF hx hy) hz
   refine wp_val (u:=.int .i64 n) (w':=c.w) (by simp [execOp,ho,resolve,invoke,builtin,Builtin.len_,run_underlying hu,hxv,goInt]) ?_
   rw [hd]; exact fin_same hS hF hN hds hdN (.deep (.v _ rfl)) h
  ·exact h.elim
def intOp (op:BinOp) (k:IntKind) (a b:Int):Option Value:=
 match op with
 | .add=>some (.int k (k.wrap (a + b)))
 | .sub=>some (.int k (k.wrap (a - b)))
 | .mul=>some (.int k (k.wrap (a * b)))
 | .quo=>if b=0 then none else some (.int k (k.wrap (a.tdiv b)))
 | .rem=>if b=0 then none else some (.int k (a.tmod b))
 | .eql=>some (.bool (a == b))
 | .neq=>some (.bool (a != b))
 | .lss=>some (.bool (decide (a < b)))
 | .leq=>some (.bool (decide (a≤b)))
 | .gtr=>some (.bool (decide (a > b)))
 | .geq=>some (.bool (decide (a ≥ b)))
 | .and=>some (.int k (k.wrap (BitVec.ofInt k.bits a &&& BitVec.ofInt k.bits b).toNat))
 | .or=>some (.int k (k.wrap (BitVec.ofInt k.bits a ||| BitVec.ofInt k.bits b).toNat))
 | .xor=>some (.int k (k.wrap (BitVec.ofInt k.bits a ^^^ BitVec.ofInt k.bits b).toNat))
 | .andNot=>some (.int k (k.wrap (BitVec.ofInt k.bits a &&& ~~~ BitVec.ofInt k.bits b).toNat))
 | _=>none
def strOp (op:BinOp) (a b:ByteArray):Option Value:=
 match op with
 | .eql=>some (.bool (a.toList == b.toList))
 | .neq=>some (.bool (!(a.toList == b.toList)))
 | .lss=>some (.bool (Op.bytesLess a.toList b.toList))
 | _=>none
def binF (op:BinOp):Value→Value→Option Value
 | .int k a,.int k' b=>if k=k' then intOp op k a b else none
 | .string a,.string b=>strOp op a b
 | _,_=>none
def sBin (d:Nat) (op:BinOp) (x y:Opd) (F:Fr) (H:List Ob) (K:Fr→List Ob→Prop):Prop:=
 match opd F x,opd F y with
 | some (.v a),some (.v b)=>match binF op a b with
  | some r=>K (upd F d (.v r)) H
  | none=>False
 | _,_=>False
theorem run_binF {op : BinOp} {x y : Operand} {t t' : TypeId} {a b r : Value} (h : binF op a b = some r) (w : World) :
    (do eqGuard op t x y a b; binOp op t a b : Sem Value).run P w = .ok r w ∧ flat r = true := by
  cases a <;> cases b <;> simp only [binF] at h <;> try (cases h; done)
  · rename_i k a k' b
    split at h
    · rename_i hk; subst hk
      cases op <;> simp only [intOp] at h <;> first
        | (cases h; done)
        | (cases h; refine ⟨?_, rfl⟩; simp [eqGuard, binOp, Op.intArith, Op.intCmp, Op.intBits])
        | (split at h
           · cases h
           · rename_i hb; cases h; refine ⟨?_, rfl⟩; simp [eqGuard, binOp, Op.intDiv, hb])
    · cases h
  · rename_i a b
    cases op <;> simp only [strOp] at h <;> first
      | (cases h; done)
      | (cases h; refine ⟨?_, rfl⟩; simp [eqGuard, binOp, Op.stringOp])
theorem ok_bin {N:Nat} {o:Oper} {op:BinOp} {t t':TypeId} {x y:Operand} {p q:Opd} {d:Nat} (ho:o.op=.binOp op t x y t') (hd:o.dst=some d) (hdN:d < N) (hx:cOpd x=some p) (hy:cOpd y=some q):OpOk P N o (sBin d op p q):=by
 intro w0 ds c a F H K Q hS hF hN hds h
 unfold sBin at h
 split at h
 ·rename_i u v hu hv
  split at h
  ·rename_i r hr
   have e1:=(cOpd_ok hF hx hu).inv_v.1
   have e2:=(cOpd_ok hF hy hv).inv_v.1
   obtain ⟨hrun,hfl⟩:=run_binF (P:=P) (x:=x) (y:=y) (t:=t) (t':=t') hr c.w
   refine wp_val (u:=r) (w':=c.w) (by rw [← e1,← e2] at hrun; simp only [execOp,ho,Sem.run_bind,Sem.run_pure] at hrun ⊢; rw [hrun]; rfl) ?_
   rw [hd]; exact fin_same hS hF hN hds hdN (.deep (.v _ hfl)) h
  ·exact h.elim
 ·exact h.elim
def sCat (d:Nat) (x y:Opd) (F:Fr) (H:List Ob) (K:Fr→List Ob→Prop):Prop:=
 match opd F x,opd F y with
 | some (.v (.string a)),some (.v (.string b))=>a.size + b.size≤9223372036854775807∧K (upd F d (.v (.string (a++b)))) H
 | _,_=>False
theorem ok_cat {N:Nat} {o:Oper} {t t':TypeId} {x y:Operand} {p q:Opd} {d:Nat} (ho:o.op=.binOp .add t x y t') (hd:o.dst=some d) (hdN:d < N) (hx:cOpd x=some p) (hy:cOpd y=some q):OpOk P N o (sCat d p q):=by
 intro w0 ds c a F H K Q hS hF hN hds h
 unfold sCat at h
 split at h
 ·rename_i u v hu hv
  have e1:=(cOpd_ok hF hx hu).inv_v.1
  have e2:=(cOpd_ok hF hy hv).inv_v.1
  have hmax:IntKind.i64.max=9223372036854775807:=by decide
  have hsz:=h.1
  have hb:¬ (((u.size + v.size:Nat):Int) > IntKind.i64.max):=by rw [hmax]; omega
  refine wp_val (u:=.string (u++v)) (w':=c.w) (by simp only [execOp,ho,e1,e2,eqGuard,binOp,Op.stringOp,if_neg hb]; simp) ?_
  rw [hd]; exact fin_same hS hF hN hds hdN (.deep (.v _ rfl)) h.2
 ·exact h.elim
def eqF (neq:Bool):Value→Value→Option Bool
 | .bool a,.bool b=>some (bif neq then a != b else a == b)
 | _,_=>none
def sEqb (d:Nat) (neq:Bool) (x y:Opd) (F:Fr) (H:List Ob) (K:Fr→List Ob→Prop):Prop:=
 match opd F x,opd F y with
 | some (.v (.bool a)),some (.v (.bool b))=>K (upd F d (.v (.bool (bif neq then a != b else a == b)))) H
 | _,_=>False
theorem run_eqb {t:TypeId} (hu:P.underlying t=some .bool) (a b:Bool) (w:World):(Op.equal t (.bool a) (.bool b)).run P w=.ok (a == b) w:=by
 show (Op.equalIn (9999 + 1) t (.bool a) (.bool b)).run P w=_
 rw [Op.equalIn]
 simp only [Sem.run_bind,run_underlying hu,Result.andThen_ok,Sem.run_pure]
theorem ok_eqb {N:Nat} {o:Oper} {neq:Bool} {t t':TypeId} {x y:Operand} {p q:Opd} {d:Nat} (ho:o.op=.binOp (bif neq then .neq else .eql) t x y t') (hd:o.dst=some d) (hdN:d < N) (hx:cOpd x=some p) (hy:cOpd y=some q)
  (hu:P.underlying t=some .bool):OpOk P N o (sEqb d neq p q):=by
 intro w0 ds c a F H K Q hS hF hN hds h
 unfold sEqb at h
 split at h
 ·rename_i u v hu' hv'
  have e1:=(cOpd_ok hF hx hu').inv_v.1
  have e2:=(cOpd_ok hF hy hv').inv_v.1
  refine wp_val (u:=.bool (bif neq then u != v else u == v)) (w':=c.w) ?_ ?_
  ·cases neq
   ·simp only [cond_false] at ho ⊢
    simp [execOp,ho,e1,e2,eqGuard,binOp,run_eqb hu]
   ·simp only [cond_true] at ho ⊢
    simp [execOp,ho,e1,e2,eqGuard,binOp,run_eqb hu]
    cases u<;>cases v<;>rfl
  ·rw [hd]; exact fin_same hS hF hN hds hdN (.deep (.v _ rfl)) h
 ·exact h.elim
def cEq (a b a' b':Nat):Bool:=(FloatKind.f64.format.order a a' == some .eq) && (FloatKind.f64.format.order b b' == some .eq)
def sEqc (d:Nat) (neq:Bool) (x y:Opd) (F:Fr) (H:List Ob) (K:Fr→List Ob→Prop):Prop:=
 match opd F x,opd F y with
 | some (.v (.complex .f64 a b)),some (.v (.complex .f64 a' b'))=>K (upd F d (.v (.bool (bif neq then !(cEq a b a' b') else cEq a b a' b')))) H
 | _,_=>False
theorem ok_eqc {N:Nat} {o:Oper} {neq:Bool} {t t':TypeId} {x y:Operand} {p q:Opd} {d:Nat} (ho:o.op=.binOp (bif neq then .neq else .eql) t x y t') (hd:o.dst=some d) (hdN:d < N) (hx:cOpd x=some p) (hy:cOpd y=some q):OpOk P N o (sEqc d neq p q):=by
 intro w0 ds c a F H K Q hS hF hN hds h
 unfold sEqc at h
 split at h
 ·rename_i x1 x2 y1 y2 hu' hv'
  have e1:=(cOpd_ok hF hx hu').inv_v.1
  have e2:=(cOpd_ok hF hy hv').inv_v.1
  refine wp_val (u:=.bool (bif neq then !(cEq x1 x2 y1 y2) else cEq x1 x2 y1 y2)) (w':=c.w) ?_ ?_
  ·cases neq
   ·simp only [cond_false] at ho ⊢
    simp [execOp,ho,e1,e2,eqGuard,binOp,Op.complexOp,Op.Complex.cmp,Op.floatCmp,asBool,cEq]
   ·simp only [cond_true] at ho ⊢
    simp [execOp,ho,e1,e2,eqGuard,binOp,Op.complexOp,Op.Complex.cmp,Op.floatCmp,asBool,cEq]
  ·rw [hd]; exact fin_same hS hF hN hds hdN (.deep (.v _ rfl)) h
 ·exact h.elim
def unF:UnOp→Value→Option Value
 | .not,.bool b=>some (.bool (!b))
 | .neg,.int k n=>some (.int k (k.wrap (0 - n)))
 | _,_=>none
def sUn (d:Nat) (op:UnOp) (x:Opd) (F:Fr) (H:List Ob) (K:Fr→List Ob→Prop):Prop:=
 match opd F x with
 | some (.v a)=>match unF op a with
  | some r=>K (upd F d (.v r)) H
  | none=>False
 | _=>False
theorem ok_un {N:Nat} {o:Oper} {op:UnOp} {t:TypeId} {x:Operand} {p:Opd} {d:Nat} (ho:o.op=.unOp op t x) (hd:o.dst=some d) (hdN:d < N) (hx:cOpd x=some p):OpOk P N o (sUn d op p):=by
 intro w0 ds c a F H K Q hS hF hN hds h
 unfold sUn at h
 split at h
 ·rename_i u hu
  have e1:=(cOpd_ok hF hx hu).inv_v.1
  split at h
  ·rename_i r hr
   have:(Op.unary op u).run P c.w=.ok r c.w∧flat r=true:=by
    cases op<;>cases u<;>simp only [unF] at hr<;>first | (cases hr; done) | (cases hr; refine ⟨?_,rfl⟩; simp [Op.unary,Op.intArith])
   refine wp_val (u:=r) (w':=c.w) (by simp [execOp,ho,e1,this.1]) ?_
   rw [hd]; exact fin_same hS hF hN hds hdN (.deep (.v _ this.2)) h
  ·exact h.elim
 ·exact h.elim
def sCvi (d:Nat) (k:IntKind) (x:Opd) (F:Fr) (H:List Ob) (K:Fr→List Ob→Prop):Prop:=
 match opd F x with
 | some (.v (.int _ n))=>K (upd F d (.v (.int k (k.wrap n)))) H
 | _=>False
theorem ok_cvi {N:Nat} {o:Oper} {src dst:TypeId} {ts:TypeDesc} {k:IntKind} {x:Operand} {p:Opd} {d:Nat} (ho:o.op=.convert src dst x) (hd:o.dst=some d) (hdN:d < N) (hx:cOpd x=some p)
  (hs:P.underlying src=some ts) (ht:P.underlying dst=some (.int k)):OpOk P N o (sCvi d k p):=by
 intro w0 ds c a F H K Q hS hF hN hds h
 unfold sCvi at h
 split at h
 ·rename_i k' n hu
  have e1:=(cOpd_ok hF hx hu).inv_v.1
  refine wp_val (u:=.int k (k.wrap n)) (w':=c.w) (by simp [execOp,ho,e1,convert,run_underlying hs,run_underlying ht,Conv.intToInt]) ?_
  rw [hd]; exact fin_same hS hF hN hds hdN (.deep (.v _ rfl)) h
 ·exact h.elim
def bytesOf:List AV→Option (List UInt8)
 | []=>some []
 | .v (.int .u8 n) :: r=>if 0≤n∧n < 256 then (bytesOf r).map (UInt8.ofNat n.toNat :: ·) else none
 | _=>none
def byA (b:UInt8):AV:=.v (.int .u8 (b.toNat:Int))
theorem bytesOf_map (t:List UInt8):bytesOf (t.map byA)=some t:=by
 induction t with
 | nil=>rfl
 | cons b t ih=>
  have hb:=b.toNat_lt
  show (if (0:Int)≤(b.toNat:Int)∧(b.toNat:Int) < 256 then (bytesOf (t.map byA)).map _ else none)=_
  rw [if_pos ⟨by omega,by omega⟩,ih]; simp
theorem bytesOf_cons {x:AV} {r:List AV} {l:List UInt8} (h:bytesOf (x :: r)=some l):∃ n l',x=.v (.int .u8 n)∧0≤n∧n < 256∧bytesOf r=some l'∧l=UInt8.ofNat n.toNat :: l':=by
 cases x with
 | v y=>
  cases y with
  | int k n=>
   cases k with
   | u8=>
    simp only [bytesOf] at h
    split at h
    ·rename_i hn
     cases hb:bytesOf r with
     | none=>rw [hb] at h; cases h
     | some l'=>rw [hb] at h; cases h; exact ⟨n,l',rfl,hn.1,hn.2,rfl,rfl⟩
    ·cases h
   | _=>simp [bytesOf] at h
  | _=>simp [bytesOf] at h
 | _=>simp [bytesOf] at h
theorem bytesOf_spec:∀ (cs:List AV) (l:List UInt8),bytesOf cs=some l→cs=l.map byA
 | [],l,h=>by cases h; rfl
 | x :: r,l,h=>by
  obtain ⟨n,l',rfl,h0,h1,hb,rfl⟩:=bytesOf_cons h
  rw [List.map_cons,← bytesOf_spec r l' hb]
  congr 1
  unfold byA
  congr 2
  rw [UInt8.toNat_ofNat']
  omega
def sCvb (d:Nat) (x:Opd) (F:Fr) (H:List Ob) (K:Fr→List Ob→Prop):Prop:=
 match (opd F x).bind (slc H) with
 | some (n,cs)=>match bytesOf cs with
  | some l=>l.length=n∧K (upd F d (.v (.string ⟨l.toArray⟩))) H
  | none=>False
 | none=>False
theorem ok_cvb {N : Nat} {o : Oper} {src dst e : TypeId} {x : Operand} {p : Opd} {d : Nat} (ho : o.op = .convert src dst x) (hd : o.dst = some d) (hdN : d < N) (hx : cOpd x = some p)
    (hs : P.underlying src = some (.slice e)) (he : P.underlying e = some (.int .u8)) (ht : P.underlying dst = some .string) : OpOk P N o (sCvb d p) := by
  intro w0 ds c a F H K Q hS hF hN hds h
  unfold sCvb at h
  cases hy : opd F p with
  | none => rw [hy] at h; exact h.elim
  | some y =>
    rw [hy] at h
    simp only [Option.bind_some] at h
    split at h
    · rename_i n cs hz
      split at h
      · rename_i l hl
        obtain ⟨hln, hK⟩ := h
        subst hln
        have hcs := bytesOf_spec cs l hl
        obtain ⟨q, cap, us, e1, _, hrdl, hnone, hcell⟩ := slc_ok hS (cOpd_ok hF hx hy) hz
        refine wp_val (u := .string ⟨l.toArray⟩) (w' := c.w) ?_ ?_
        · have hlen : us.length = l.length := by rw [hrdl.len, hcs, List.length_map]
          simp only [execOp, ho, Sem.run_bind, e1]
          rcases hcell with h0 | ⟨b, q', rfl, hb, hcell⟩
          · obtain rfl : l = [] := List.eq_nil_of_length_eq_zero (by rw [← hlen, h0]; rfl)
            cases q with
            | none => rw [run_convert_bytes_nil (P := P) c.w src e hs he _ _ dst ht]; rfl
            | some ad =>
              have hr := run_convert_bytes_back (P := P) c.w src dst e ad cap [] hs he ht (fun j hj => by simp at hj)
              simp only [List.length_nil] at hr ⊢
              rw [hr]; rfl
          · rw [run_convert_bytes_back (P := P) c.w src dst e _ cap l hs he ht (fun j hj => by
              have hjc : cs[j]? = some (byA l[j]) := by rw [hcs, List.getElem?_map, List.getElem?_eq_getElem hj]; rfl
              obtain ⟨u, hu1, hu2, _⟩ := hrdl.rl.get hjc
              rw [Go.WideShapes.add_plain, hcell j u hu1]; exact congrArg some hu2.inv_v.1)]
            rfl
        · rw [hd]; exact fin_same hS hF hN hds hdN (.deep (.v _ rfl)) hK
      · exact h.elim
    · exact h.elim
end
end Ab
end Go.Proofs.YtgddkgbidhhheaaGreatDoor
namespace Go.Proofs.YtgddkgbidhhheaaGreatDoor
open Go.RowKit
namespace Ab
section
variable {P:Program}
def sIxs (d:Nat) (x i:Opd) (F:Fr) (H:List Ob) (K:Fr→List Ob→Prop):Prop:=
 match opd F x,opd F i with
 | some (.v (.string s)),some (.v (.int _ z))=>0≤z∧(match s[z.toNat]? with | some b=>K (upd F d (byA b)) H | none=>False)
 | _,_=>False
theorem ok_ixs {N:Nat} {o:Oper} {t:TypeId} {x j:Operand} {p q:Opd} {d:Nat} (ho:o.op=.index t x j) (hd:o.dst=some d) (hdN:d < N) (hx:cOpd x=some p) (hj:cOpd j=some q)
  (hu:P.underlying t=some .string):OpOk P N o (sIxs d p q):=by
 intro w0 ds c a F H K Q hS hF hN hds h
 unfold sIxs at h
 split at h
 ·rename_i s k z hy hz
  have e1:=(cOpd_ok hF hx hy).inv_v.1
  have e2:=(cOpd_ok hF hj hz).inv_v.1
  obtain ⟨h0,h⟩:=h
  split at h
  ·rename_i b hb
   refine wp_val (u:=.int .u8 b.toNat) (w':=c.w) (by simp [execOp,ho,e1,e2,Instr.index,asIntOf,run_underlying hu,h0,hb]) ?_
   rw [hd]; exact fin_same hS hF hN hds hdN (.deep (.v _ rfl)) h
  ·exact h.elim
 ·exact h.elim
def bOpd (F:Fr) (o:Option Opd) (dflt:Int):Option Int:=
 match o with
 | none=>some dflt
 | some p=>match opd F p with
  | some (.v (.int _ n))=>some n
  | _=>none
def cOpds:Option Operand→Option (Option Opd)
 | none=>some none
 | some o=>(cOpd o).map some
theorem bOpd_ok {c:Cx} {F:Fr} {a:Act} (hF:RF c F a) {o:Option Operand} {p:Option Opd} (h:cOpds o=some p) {dflt z:Int} (hz:bOpd F p dflt=some z) :
  (o=none∧z=dflt)∨∃ q k,o=some q∧a.eval q=.int k z:=by
 cases o with
 | none=>cases h; cases hz; exact .inl ⟨rfl,rfl⟩
 | some q=>
  right
  simp only [cOpds,Option.map_eq_some_iff] at h
  obtain ⟨r,hr,rfl⟩:=h
  simp only [bOpd] at hz
  split at hz
  ·rename_i k n hy
   cases hz
   exact ⟨q,k,rfl,(cOpd_ok hF hr hy).inv_v.1⟩
  ·cases hz
theorem run_bounds {c:Cx} {F:Fr} {a:Act} (hF:RF c F a) {isSl:Bool} {len cap:Nat} {lo hi:Option Operand} {pl ph:Option Opd} (hl:cOpds lo=some pl) (hh:cOpds hi=some ph) {l h:Int}
  (el:bOpd F pl 0=some l) (eh:bOpd F ph (len:Int)=some h) (h0:0≤l) (h1:l≤h) (h2:h≤(cap:Int)) (w:World) :
  (Instr.sliceBounds isSl len cap (lo.map a.eval) (hi.map a.eval) none).run P w=.ok (l.toNat,h.toNat,cap) w:=by
 have hb:0≤h:=by omega
 unfold Instr.sliceBounds
 rcases bOpd_ok hF hl el with ⟨rfl,rfl⟩ | ⟨q,k,rfl,e1⟩<;>rcases bOpd_ok hF hh eh with ⟨rfl,rfl⟩ | ⟨q',k',rfl,e2⟩
 ·simp
 ·simp [Instr.sliceBound,e2,asIntOf,hb,h2]
 ·have:l≤(len:Int):=by omega
  simp [Instr.sliceBound,e1,asIntOf,h0,this]
 ·have h3:l≤max h 0:=by omega
  simp [Instr.sliceBound,e1,e2,asIntOf,h0,hb,h2,h3]
def sSlS (d:Nat) (x:Opd) (lo hi:Option Opd) (F:Fr) (H:List Ob) (K:Fr→List Ob→Prop):Prop:=
 match opd F x with
 | some (.v (.string s))=>match bOpd F lo 0,bOpd F hi (s.size:Int) with
  | some l,some h=>(0≤l∧l≤h∧h≤(s.size:Int))∧K (upd F d (.v (.string (s.extract l.toNat h.toNat)))) H
  | _,_=>False
 | _=>False
theorem ok_slS {N:Nat} {o:Oper} {t:TypeId} {x:Operand} {lo hi:Option Operand} {p:Opd} {pl ph:Option Opd} {d:Nat} (ho:o.op=.slice t x lo hi none) (hd:o.dst=some d) (hdN:d < N) (hx:cOpd x=some p) (hl:cOpds lo=some pl) (hh:cOpds hi=some ph)
  (hu:P.underlying t=some .string):OpOk P N o (sSlS d p pl ph):=by
 intro w0 ds c a F H K Q hS hF hN hds h
 unfold sSlS at h
 split at h
 ·rename_i s hy
  have e1:=(cOpd_ok hF hx hy).inv_v.1
  split at h
  ·rename_i l r el er
   obtain ⟨⟨h0,h1,h2⟩,hK⟩:=h
   have hr:=run_bounds (P:=P) (isSl:=false) hF hl hh el er h0 h1 h2 c.w
   refine wp_val (u:=.string (s.extract l.toNat r.toNat)) (w':=c.w) ?_ ?_
   ·simp only [execOp,ho,e1,Instr.sliceAt,Instr.slice,Sem.run_bind,run_underlying hu,Result.andThen_ok,Option.map_none,Option.isSome_none]
    simp [hr,run_underlying hu]
   ·rw [hd]; exact fin_same hS hF hN hds hdN (.deep (.v _ rfl)) hK
  ·exact h.elim
 ·exact h.elim
def slcD (H:List Ob):AV→Option (Nat × List AV)
 | .sl n cs=>some (n,cs)
 | .row i=>match H[i]? with
  | some (.fro n cs)=>some (n,cs)
  | _=>none
 | .v (.slice none _ _)=>some (0,[])
 | _=>none
theorem slcD_ok {w0:World} {c:Cx} {H:List Ob} (hS:St w0 c H) {x:AV} {u:Value} (hx:RV c x u) {n:Nat} {cs:List AV} (h:slcD H x=some (n,cs)):RD c.w c.M (.sl n cs) u:=by
 cases x with
 | sl m ds=>cases h; exact hx.inv_deep_sl
 | row i=>
  obtain ⟨rfl,hi,_⟩:=hx.inv_row
  simp only [slcD] at h
  split at h
  ·rename_i m ds hds; cases h; exact (hS.ob i _ hds).2
  ·cases h
 | v x=>
  obtain ⟨rfl,hf⟩:=hx.inv_v
  cases u with
  | slice p n' c'=>
   cases p with
   | none=>
    cases h
    simp only [flat,Bool.and_eq_true,beq_iff_eq] at hf
    obtain ⟨rfl,rfl⟩:=hf
    exact .sl0 _ _
   | some _=>simp [slcD] at h
  | _=>simp [slcD] at h
 | ptr=>cases h
 | ep=>cases h
 | agg cs=>cases h
 | tup cs=>cases h
 | ifc t x=>cases h
 | clo f cs=>cases h
def sSlc (d esz:Nat) (x:Opd) (lo hi:Option Opd) (F:Fr) (H:List Ob) (K:Fr→List Ob→Prop):Prop:=
 match (opd F x).bind (slcD H) with
 | some (n,cs)=>match bOpd F lo 0,bOpd F hi (n:Int) with
  | some l,some h=>(0≤l∧l≤h∧h≤(n:Int))∧K (upd F d (.sl (h.toNat - l.toNat) ((cs.drop (l.toNat * esz)).take ((h.toNat - l.toNat) * esz)))) H
  | _,_=>False
 | none=>False
theorem ok_slc {N:Nat} {o:Oper} {t e:TypeId} {i:TypeInfo} {x:Operand} {lo hi:Option Operand} {p:Opd} {pl ph:Option Opd} {d:Nat} (ho:o.op=.slice t x lo hi none) (hd:o.dst=some d) (hdN:d < N) (hx:cOpd x=some p) (hl:cOpds lo=some pl) (hh:cOpds hi=some ph)
  (hu:P.underlying t=some (.slice e)) (hi':P.info? e=some i):OpOk P N o (sSlc d i.size p pl ph):=by
 intro w0 ds c a F H K Q hS hF hN hds h
 unfold sSlc at h
 cases hy:opd F p with
 | none=>rw [hy] at h; exact h.elim
 | some y=>
  rw [hy] at h
  simp only [Option.bind_some] at h
  split at h
  ·rename_i n cs hz
   have hrd:=slcD_ok hS (cOpd_ok hF hx hy) hz
   obtain ⟨ux,hux⟩:∃ ux,a.eval x=ux:=⟨_,rfl⟩
   rw [hux] at hrd
   split at h
   ·rename_i l r el er
    obtain ⟨⟨h0,h1,h2⟩,hK⟩:=h
    have key:∃ q cap,ux=.slice q n cap∧n≤cap∧RD c.w c.M (.sl (r.toNat - l.toNat) ((cs.drop (l.toNat * i.size)).take ((r.toNat - l.toNat) * i.size))) (.slice (if cap=l.toNat then q else q.map (·.add (l.toNat * i.size))) (r.toNat - l.toNat) (cap - l.toNat)):=by
     cases hrd with
     | sl0 q cap=>
      refine ⟨q,cap,rfl,Nat.zero_le _,?_⟩
      rw [show r.toNat - l.toNat=0 by omega]
      simp only [Nat.zero_mul,List.take_zero]
      exact .sl0 _ _
     | sl b o n cap cs us hlen hb hs hc h1' hr hn=>
      refine ⟨_,cap,rfl,hn,?_⟩
      by_cases hcap:cap=l.toNat
      ·rw [show r.toNat - l.toNat=0 by omega]
       simp only [Nat.zero_mul,List.take_zero]
       exact .sl0 _ _
      ·rw [if_neg hcap]
       have hrl:RDL c.w c.M cs us:=⟨hlen,h1',hr⟩
       have hrl':=(hrl.drop (l.toNat * i.size)).take ((r.toNat - l.toNat) * i.size)
       simp only [Option.map_some,Go.WideShapes.add_plain]
       refine .sl b _ _ _ _ _ hrl'.len hb hs (fun j u hj=>?_) hrl'.one hrl'.at' (by omega)
       rw [List.getElem?_take] at hj
       split at hj
       ·rw [List.getElem?_drop] at hj
        have:=hc _ u hj
        rwa [← Nat.add_assoc] at this
       ·cases hj
    obtain ⟨q,cap,rfl,hnc,hrd'⟩:=key
    have hr:=run_bounds (P:=P) (isSl:=true) (cap:=cap) hF hl hh el er h0 h1 (by omega) c.w
    refine wp_val (u:=.slice (if cap=l.toNat then q else q.map (·.add (l.toNat * i.size))) (r.toNat - l.toNat) (cap - l.toNat)) (w':=c.w) ?_ ?_
    ·simp only [execOp,ho,hux,Instr.sliceAt,Instr.slice,Sem.run_bind,run_underlying hu,Result.andThen_ok,Option.map_none]
     simp [hr,run_underlying hu,run_sizeOf' hi']
    ·rw [hd]; exact fin_same hS hF hN hds hdN (.deep hrd') hK
   ·exact h.elim
  ·exact h.elim
def sExt (d i:Nat) (x:Opd) (F:Fr) (H:List Ob) (K:Fr→List Ob→Prop):Prop:=
 match opd F x with
 | some (.tup xs)=>match xs[i]? with
  | some y=>K (upd F d y) H
  | none=>False
 | _=>False
theorem ok_ext {N:Nat} {o:Oper} {i:Nat} {x:Operand} {p:Opd} {d:Nat} (ho:o.op=.extract x i) (hd:o.dst=some d) (hdN:d < N) (hx:cOpd x=some p):OpOk P N o (sExt d i p):=by
 intro w0 ds c a F H K Q hS hF hN hds h
 unfold sExt at h
 split at h
 ·rename_i xs hy
  obtain ⟨us,e1,hl,hr⟩:=(cOpd_ok hF hx hy).inv_tup
  split at h
  ·rename_i y hyi
   have hiu:i < us.length:=by rw [hl]; exact (List.getElem?_eq_some_iff.1 hyi).1
   have hui:us[i]? = some us[i]:=List.getElem?_eq_getElem hiu
   refine wp_val (u:=us[i]) (w':=c.w) (by simp [execOp,ho,e1,Instr.extract,hui]) ?_
   rw [hd]; exact fin_same hS hF hN hds hdN (hr i y _ hyi hui) h
  ·exact h.elim
 ·exact h.elim
def sFld (d off:Nat) (ag:Bool) (sz:Nat) (x:Opd) (F:Fr) (H:List Ob) (K:Fr→List Ob→Prop):Prop:=
 match opd F x with
 | some (.agg cs)=>bif ag then off + sz≤cs.length∧K (upd F d (.agg ((cs.drop off).take sz))) H else match cs[off]? with | some y=>K (upd F d y) H | none=>False
 | _=>False
theorem ok_fld {N:Nat} {o:Oper} {s:TypeId} {fs:Array Field} {fn:Nat} {fd:Field} {td:TypeDesc} {i:TypeInfo} {x:Operand} {p:Opd} {d:Nat} (ho:o.op=.field s x fn) (hd:o.dst=some d) (hdN:d < N) (hx:cOpd x=some p)
  (hu:P.underlying s=some (.struct fs)) (hf:fs[fn]? = some fd) (hu':P.underlying fd.type=some td) (hi:P.info? fd.type=some i):OpOk P N o (sFld d fd.offset (isAggD td) i.size p):=by
 intro w0 ds c a F H K Q hS hF hN hds h
 unfold sFld at h
 split at h
 ·rename_i cs hy
  obtain ⟨us,e1,hrl⟩:=(cOpd_ok hF hx hy).inv_agg
  cases hag:isAggD td with
  | true=>
   rw [hag] at h
   obtain ⟨hlen,hK⟩:=h
   have hr:=(hrl.drop fd.offset).take i.size
   have hex:us.toArray.extract fd.offset (fd.offset + i.size)=((us.drop fd.offset).take i.size).toArray:=by
    rw [List.extract_toArray,List.extract_eq_take_drop]
    simp
   refine wp_val (u:=.agg ((us.drop fd.offset).take i.size).toArray) (w':=c.w) ?_ ?_
   ·simp only [execOp,ho,e1,Instr.field,part,asAgg,Sem.run_bind,run_underlying hu,Result.andThen_ok,hf]
    simp [run_isAgg hu',hag,run_sizeOf' hi,hex]
   ·rw [hd]; exact fin_same hS hF hN hds hdN (.agg _ _ hr.len hr.one hr.at') hK
  | false=>
   rw [hag] at h
   simp only [cond_false] at h
   split at h
   ·rename_i y' hy'
    obtain ⟨u,hu1,hu2,_⟩:=hrl.get hy'
    refine wp_val (u:=u) (w':=c.w) ?_ ?_
    ·simp only [execOp,ho,e1,Instr.field,part,asAgg,Sem.run_bind,run_underlying hu,Result.andThen_ok,hf]
     simp [run_isAgg hu',hag,hu1]
    ·rw [hd]; exact fin_same hS hF hN hds hdN hu2 h
   ·exact h.elim
 ·exact h.elim
theorem ok_cvs {N:Nat} {o:Oper} {src dst:TypeId} {x:Operand} {p:Opd} {d:Nat} (ho:o.op=.convert src dst x) (hd:o.dst=some d) (hdN:d < N) (hx:cOpd x=some p)
  (hs:P.underlying src=some .string) (ht:P.underlying dst=some .string):OpOk P N o (fun F H K=>match opd F p with | some (.v (.string s))=>K (upd F d (.v (.string s))) H | _=>False):=by
 intro w0 ds c a F H K Q hS hF hN hds h
 split at h
 ·rename_i s hu
  have e1:=(cOpd_ok hF hx hu).inv_v.1
  refine wp_val (u:=.string s) (w':=c.w) (by simp [execOp,ho,e1,convert,run_underlying hs,run_underlying ht]) ?_
  rw [hd]; exact fin_same hS hF hN hds hdN (.deep (.v _ rfl)) h
 ·exact h.elim
end
end Ab
end Go.Proofs.YtgddkgbidhhheaaGreatDoor
namespace Go.Proofs.YtgddkgbidhhheaaGreatDoor
open Go.RowKit
namespace Ab
section
variable {P:Program}
def cellsA:AV→List AV
 | .agg cs=>cs
 | x=>[x]
theorem cells_ok {c:Cx} {x:AV} {u:Value} (hx:RV c x u) (hnt:∀ xs,x≠.tup xs):RL c (cellsA x) u.cells.toList:=by
 cases x with
 | agg cs=>
  obtain ⟨us,rfl,hrl⟩:=hx.inv_agg
  exact hrl
 | tup xs=>exact absurd rfl (hnt xs)
 | _=>
  have h1:u.oneCell'=true:=hx.one rfl
  have hc:u.cells = #[u]:=by cases u<;>first | rfl | (simp [Value.oneCell'] at h1)
  rw [hc]
  refine ⟨rfl,fun v hv=>by rw [List.mem_singleton.1 hv]; exact h1,fun j x v ha hb=>?_⟩
  cases j with
  | zero=>cases ha; cases hb; exact hx
  | succ j=>simp [cellsA] at ha
theorem RL.ofFlat {c : Cx} : ∀ {us : List Value}, us.all flat = true → RL c (us.map .v) us := fun {us} h =>
  ⟨by simp, fun u hu => flat_one (List.all_eq_true.1 h u hu), fun j x u h1 h2 => by
    rw [List.getElem?_map, h2] at h1
    cases h1
    exact .deep (.v u (List.all_eq_true.1 h u (List.mem_of_getElem? h2)))⟩
theorem var_new {w0 : World} {c : Cx} {H : List Ob} (hS : St w0 c H) {cs : List AV} {us : List Value} (T : TypeId) (hrl : RL c cs us) :
    St w0 (c.push (c.w.alloc (.cells us.toArray T)) c.w.heap.size undef) (H ++ [.var cs]) ∧ Step c H (c.push (c.w.alloc (.cells us.toArray T)) c.w.heap.size undef) (H ++ [.var cs]) :=
  push_new hS (.var cs) (Nat.le_refl _) (by simp) rfl rfl rfl (fun b hb => Below.heap_alloc _ _ _ hb) (fun hle => by
    refine .inl ⟨.inr rfl, us, T, ?_, hrl.le hle, ?_⟩
    · rw [c.push_β]; exact heap_alloc_new c.w _
    · rw [c.push_β]; exact .inr rfl)
def sVar (d:Nat) (zs:List AV) (F:Fr) (H:List Ob) (K:Fr→List Ob→Prop):Prop:=K (upd F d (.ptr H.length 0)) (H++[.var zs])
theorem ok_var {N:Nat} {o:Oper} {t:TypeId} {i:TypeInfo} {z:Value} {d:Nat} (ho:o.op=.alloc t) (hd:o.dst=some d) (hdN:d < N) (hi:P.info? t=some i) (hz:i.zero=some z) (hf:z.cells.toList.all flat=true) :
  OpOk P N o (sVar d (z.cells.toList.map .v)):=by
 intro w0 ds c a F H K Q hS hF hN hds h
 unfold sVar at h
 have hv:=var_new hS t (RL.ofFlat (c:=c) hf)
 refine wp_val (u:=.pointer (some ⟨c.w.heap.size,0,none⟩)) (w':=c.w.alloc (.cells z.cells.toList.toArray t)) ?_ ?_
 ·simp [execOp,ho,Instr.alloc,zeroValue,typeInfo,hi,hz,newVar,newRow]
 ·rw [hd]
  refine fin_to hv hF hN hds hdN ?_ h
  have:=RV.ptr (c:=c.push (c.w.alloc (.cells z.cells.toList.toArray t)) c.w.heap.size undef) c.k 0 (.inr rfl)
  rw [c.push_β,hS.k] at this
  exact this
def sBox (d:Nat) (x:Opd) (F:Fr) (H:List Ob) (K:Fr→List Ob→Prop):Prop:=
 match opd F x with
 | some (.tup _)=>False
 | some y=>K (upd F d (.ptr H.length 0)) (H++[.var (cellsA y)])
 | none=>False
theorem ok_box {N:Nat} {o:Oper} {t:TypeId} {x:Operand} {p:Opd} {d:Nat} (ho:o.op=.box t x) (hd:o.dst=some d) (hdN:d < N) (hx:cOpd x=some p):OpOk P N o (sBox d p):=by
 intro w0 ds c a F H K Q hS hF hN hds h
 unfold sBox at h
 split at h
 ·exact h.elim
 ·rename_i y hnt hy
  have hrl:=cells_ok (cOpd_ok hF hx hy) (fun xs e=>hnt xs e)
  have hv:=var_new hS t hrl
  refine wp_val (u:=.pointer (some ⟨c.w.heap.size,0,none⟩)) (w':=c.w.alloc (.cells (a.eval x).cells.toList.toArray t)) ?_ ?_
  ·simp [execOp,ho,Instr.box,newVar,newRow]
  ·rw [hd]
   refine fin_to hv hF hN hds hdN ?_ h
   have:=RV.ptr (c:=c.push (c.w.alloc (.cells (a.eval x).cells.toList.toArray t)) c.w.heap.size undef) c.k 0 (.inr rfl)
   rw [c.push_β,hS.k] at this
   exact this
 ·exact h.elim
def sBoxt (d:Nat) (t:TypeId) (x:Opd) (F:Fr) (H:List Ob) (K:Fr→List Ob→Prop):Prop:=
 match opd F x with
 | some (.agg cs)=>K (upd F d (.ptr H.length 0)) (H++[.tvar t cs])
 | _=>False
theorem ok_boxt {N : Nat} {o : Oper} {t : TypeId} {x : Operand} {p : Opd} {d : Nat} (ho : o.op = .box t x) (hd : o.dst = some d) (hdN : d < N) (hx : cOpd x = some p) : OpOk P N o (sBoxt d t p) := by
  intro w0 ds c a F H K Q hS hF hN hds h
  unfold sBoxt at h
  split at h
  · rename_i cs hy
    obtain ⟨us, e1, hrl⟩ := (cOpd_ok hF hx hy).inv_agg
    have hv : St w0 (c.push (c.w.alloc (.cells us.toArray t)) c.w.heap.size undef) (H ++ [.tvar t cs]) ∧ Step c H (c.push (c.w.alloc (.cells us.toArray t)) c.w.heap.size undef) (H ++ [.tvar t cs]) :=
      push_new hS (.tvar t cs) (Nat.le_refl _) (by simp) rfl rfl rfl (fun b hb => Below.heap_alloc _ _ _ hb) (fun hle => by
        refine ⟨.inr rfl, ⟨us, ?_, hrl.le hle⟩, ?_⟩
        · rw [c.push_β]; exact heap_alloc_new c.w _
        · rw [c.push_β]; exact .inr rfl)
    refine wp_val (u := .pointer (some ⟨c.w.heap.size, 0, none⟩)) (w' := c.w.alloc (.cells us.toArray t)) ?_ ?_
    · simp [execOp, ho, Instr.box, newVar, newRow, e1, Value.cells]
    · rw [hd]
      refine fin_to hv hF hN hds hdN ?_ h
      have := RV.ptr (c := c.push (c.w.alloc (.cells us.toArray t)) c.w.heap.size undef) c.k 0 (.inr rfl)
      rw [c.push_β, hS.k] at this
      exact this
  · exact h.elim
def splice (cs xs:List AV) (off:Nat):List AV:=cs.take off++xs++cs.drop (off + xs.length)
def wrOb (o:Ob) (xs:List AV) (off:Nat):Option Ob:=
 match o with
 | .var cs=>if off + xs.length≤cs.length then some (.var (splice cs xs off)) else none
 | .tvar T cs=>if off + xs.length≤cs.length then some (.tvar T (splice cs xs off)) else none
 | .own e sz n cs=>if off + xs.length≤cs.length∧xs.all deep1=true then some (.own e sz n (splice cs xs off)) else none
 | _=>none
def frz1 (H:List Ob) (x:AV):List Ob × AV:=
 match x with
 | .row i=>match H[i]? with
  | some (.own _ _ n cs)=>(H.set i (.fro n cs),.sl n cs)
  | some (.fro n cs)=>(H,.sl n cs)
  | _=>(H,x)
 | .v (.slice none _ _)=>(H,.sl 0 [])
 | _=>(H,x)
def frzL:List Ob→List AV→List Ob × List AV
 | H,[]=>(H,[])
 | H,x :: r=>((frzL (frz1 H x).1 r).1,(frz1 H x).2 :: (frzL (frz1 H x).1 r).2)
theorem frz1_ok {w0:World} {c:Cx} {H:List Ob} (hS:St w0 c H) {x:AV} {u:Value} (hx:RV c x u) :
  ∃ c',c'.w=c.w∧St w0 c' (frz1 H x).1∧Step c H c' (frz1 H x).1∧RV c' (frz1 H x).2 u:=by
 have same:∃ c',c'.w=c.w∧St w0 c' H∧Step c H c' H∧RV c' x u:=⟨c,rfl,hS,.refl c H,hx⟩
 cases x with
 | row i=>
  obtain ⟨rfl,hi,_⟩:=hx.inv_row
  simp only [frz1]
  split
  ·rename_i e sz n cs ho
   obtain ⟨h1,h2⟩:=freeze_obj hS ho
   have hlt:i < H.length:=(List.getElem?_eq_some_iff.1 ho).1
   have:=h1.ob i (.fro n cs) (by rw [List.getElem?_set_self hlt])
   exact ⟨{ c with M:=fun b=>c.M b∧b≠c.β i },rfl,h1,h2,.deep this.2⟩
  ·rename_i n cs ho
   exact ⟨c,rfl,hS,.refl c H,.deep (hS.ob i _ ho).2⟩
  ·exact same
 | v x=>
  obtain ⟨rfl,hf⟩:=hx.inv_v
  cases u with
  | slice p n cap=>
   cases p with
   | none=>
    simp only [flat,Bool.and_eq_true,beq_iff_eq] at hf
    obtain ⟨rfl,rfl⟩:=hf
    exact ⟨c,rfl,hS,.refl c H,.deep (.sl0 _ _)⟩
   | some _=>simp [flat] at hf
  | _=>exact same
 | sl n cs=>exact same
 | ptr i off=>exact same
 | ep cs off=>exact same
 | agg cs=>exact same
 | tup cs=>exact same
 | ifc t x=>exact same
 | clo f cs=>exact same
theorem frzL_ok {w0:World}:∀ (xs:List AV) {c:Cx} {H:List Ob},St w0 c H→∀ {us:List Value},RL c xs us →
  ∃ c',c'.w=c.w∧St w0 c' (frzL H xs).1∧Step c H c' (frzL H xs).1∧RL c' (frzL H xs).2 us
 | [],c,H,hS,us,h=>⟨c,rfl,hS,.refl c H,h⟩
 | x :: r,c,H,hS,us,h=>by
  cases us with
  | nil=>have:=h.len; simp at this
  | cons u us=>
   obtain ⟨c1,e1,s1,t1,v1⟩:=frz1_ok hS (h.at' 0 x u rfl rfl)
   have hr:RL c1 r us:=RL.le t1.le ⟨by have:=h.len; simpa using this,fun v hv=>h.one v (by simp [hv]),fun j y v a b=>h.at' (j + 1) y v (by simpa using a) (by simpa using b)⟩
   obtain ⟨c2,e2,s2,t2,v2⟩:=frzL_ok r s1 hr
   refine ⟨c2,e2.trans e1,s2,t1.trans t2,by simp [frzL,v2.len],h.one,fun j y v a b=>?_⟩
   cases j with
   | zero=>simp only [frzL,List.getElem?_cons_zero,Option.some.injEq] at a b; subst a; subst b; exact v1.le t2.le
   | succ j=>simp only [frzL,List.getElem?_cons_succ] at a b; exact v2.at' j y v a b
def sSt (sz : Nat) (p x : Opd) (F : Fr) (H : List Ob) (K : Fr → List Ob → Prop) : Prop :=
  match opd F p, opd F x with
  | some (.ptr i off), some y => (cellsA y).length = sz ∧ (∀ xs, y ≠ .tup xs) ∧ (match H[i]? with
    | some (.var cs) => match wrOb (.var cs) (cellsA y) off with
      | some o' => K F (H.set i o')
      | none => False
    | some (.tvar T cs) => match wrOb (.tvar T cs) (cellsA y) off with
      | some o' => K F (H.set i o')
      | none => False
    | some (.own _ _ _ _) => match (frzL H (cellsA y)).1[i]? with
      | some o => match wrOb o (frzL H (cellsA y)).2 off with
        | some o' => K F ((frzL H (cellsA y)).1.set i o')
        | none => False
      | none => False
    | _ => False)
  | _, _ => False
theorem splice_rl {c:Cx} {cs xs:List AV} {us vs:List Value} {off:Nat} (h:RL c cs us) (h':RL c xs vs):RL c (splice cs xs off) (us.take off++vs++us.drop (off + vs.length)):=by
 unfold splice
 rw [h'.len]
 exact ((h.take off).app h').app (h.drop _)
theorem splice_rdl {w:World} {M:Nat→Prop} {cs xs:List AV} {us vs:List Value} {off:Nat} (h:RDL w M cs us) (h':RDL w M xs vs):RDL w M (splice cs xs off) (us.take off++vs++us.drop (off + vs.length)):=by
 unfold splice
 rw [h'.len]
 exact ((h.take off).app h').app (h.drop _)
theorem setRow_size (w:World) (g:Nat) (cs:Array Value):(w.setRow g cs).heap.size=w.heap.size:=by simp [World.setRow]
theorem run_storeCells_M (P:Program) (g o:Nat) (t:TypeId) (fz:Nat × Nat):∀ (vs:List Value) (i:Nat) (cur:Array Value) (w:World),w.heap[g]? = some (.cells cur t fz)→(fz=(0,0)∨cur.size≤fz.1)→o + i + vs.length≤cur.size→(∀ v ∈ vs,v.oneCell'=true) →
  (storeCells ⟨g,o,none⟩ vs i).run P w=.ok () (w.setRow g (cur.toList.take (o + i)++vs++cur.toList.drop (o + i + vs.length)).toArray)
 | [],i,cur,w,hg,_,_,_=>by
  simp only [storeCells,List.append_nil,List.length_nil,Nat.add_zero,List.take_append_drop,Array.toArray_toList]
  rw [setRow_self w g cur t fz hg]
  rfl
 | v :: rest,i,cur,w,hg,hfz,hl,h1=>by
  have hi:o + i < cur.size:=by simp at hl; omega
  have hadd:(⟨g,o,none⟩:Addr).add i=⟨g,o + i,none⟩:=by unfold Addr.add; split<;>simp_all
  have hcell:w.cell? ⟨g,o + i,none⟩=some cur[o + i]:=by simp [World.cell?,hg,hi]
  have hfro:w.frozen? ⟨g,o + i,none⟩=false:=by
   obtain ⟨lo,hi'⟩:=fz
   simp only [World.frozen?,hg,Bool.and_eq_false_iff,decide_eq_false_iff_not]
   rcases hfz with h | h
   ·simp only [Prod.mk.injEq] at h
    omega
   ·simp only at h
    omega
  have hst:(store ((⟨g,o,none⟩:Addr).add i) v).run P w=.ok () (w.setRow g (cur.setIfInBounds (o + i) v)):=by
   rw [hadd,run_store P w _ v _ (h1 v (by simp)),hcell]
   simp [hfro,setCell_eq_setRow w g (o + i) cur t fz v hg]
  have ih:=run_storeCells_M P g o t fz rest (i + 1) (cur.setIfInBounds (o + i) v) (w.setRow g (cur.setIfInBounds (o + i) v)) (setRow_heap w g cur _ t _ hg) (by simpa using hfz) (by simp at hl ⊢; omega) (fun x hx=>h1 x (by simp [hx]))
  simp only [storeCells,Sem.run_bind,hst,Result.andThen_ok,ih,setRow_setRow]
  congr 3
  have e:=list_seg_step cur.toList (o + i) v rest (by simp at hl ⊢; omega)
  simpa [Array.toList_setIfInBounds,Nat.add_assoc] using e
theorem store_obj {w0:World} {c:Cx} {H:List Ob} (hS:St w0 c H) {i:Nat} {o o':Ob} (ho:H[i]? = some o) (hbi:c.born i) {xs:List AV} {vs:List Value} {off:Nat} (hw:wrOb o xs off=some o') (hrl:RL c xs vs) :
  ∃ w1,(storeCells ⟨c.β i,off,none⟩ vs).run P c.w=.ok () w1∧St w0 (c.at w1) (H.set i o')∧Step c H (c.at w1) (H.set i o'):=by
 cases o with
 | var cs=>
  simp only [wrOb] at hw
  split at hw
  ·rename_i hlen
   cases hw
   obtain ⟨us,T,h1,h2,h3⟩:∃ (us:List Value) (T:TypeId),c.w.heap[c.β i]? = some (.cells us.toArray T (0,0))∧RL c cs us∧c.M (c.β i):=by
    rcases hS.ob i _ ho with ⟨_,h⟩ | ⟨hn,_⟩
    ·exact h
    ·exact absurd hbi hn
   have hfit:off + 0 + vs.length≤us.toArray.size:=by simp; rw [hrl.len,h2.len]; exact hlen
   have hrun:=run_storeCells_at P (c.β i) off T vs 0 us.toArray c.w h1 hfit hrl.one
   refine ⟨_,hrun,write_obj hS _ ho rfl hbi rfl (setRow_size _ _ _) rfl rfl rfl (fun b hb=>setRow_other _ _ _ _ hb) (fun hle=>?_)⟩
   refine .inl ⟨hbi,us.take off++vs++us.drop (off + vs.length),T,?_,splice_rl (h2.le hle) (hrl.le hle),h3⟩
   have:=setRow_heap c.w (c.β i) us.toArray (us.toArray.toList.take (off + 0)++vs++us.toArray.toList.drop (off + 0 + vs.length)).toArray T (0,0) h1
   exact this.trans (by simp)
  ·cases hw
 | own e sz n cs=>
  simp only [wrOb] at hw
  split at hw
  ·rename_i hlen
   cases hw
   obtain ⟨_,us,h1,h2,h3,h4⟩:=hS.ob i _ ho
   have hdeep:=hrl.rdl (fun x hx=>List.all_eq_true.1 hlen.2 x hx)
   obtain ⟨hul,g,cap,cur,fz,hv,hh,hfz,hc1,hc2,hc3,hc4⟩:=h1
   ·have hgb:g=c.β i:=by rw [hv] at h2; exact Option.some.inj h2
    subst hgb
    have hmul:n * sz≤cap * sz:=Nat.mul_le_mul_right _ hc1
    have hvl:off + vs.length≤n * sz:=by rw [hrl.len,← hul,h3.len]; exact hlen.1
    have hfit:off + 0 + vs.length≤cur.size:=by rw [hc3]; omega
    have hrun:=run_storeCells_M P (c.β i) off e fz vs 0 cur c.w hh hfz hfit hrl.one
    refine ⟨_,hrun,write_obj hS _ ho rfl hbi rfl (setRow_size _ _ _) rfl rfl rfl (fun b hb=>setRow_other _ _ _ _ hb) (fun hle=>?_)⟩
    have hcl:n * sz≤cur.toList.length:=by simp [hc3]; omega
    have hus:us=cur.toList.take (n * sz):=hc4.symm
    have hnew:us.take off++vs++us.drop (off + vs.length)=(cur.toList.take off++vs++cur.toList.drop (off + vs.length)).take (n * sz):=by
     rw [hus,List.take_take,Nat.min_eq_left (by omega),List.take_append (l₁:=cur.toList.take off++vs),List.take_of_length_le (l:=cur.toList.take off++vs) (by simp; omega),List.drop_take]
     congr 2
     simp; omega
    refine ⟨hbi,us.take off++vs++us.drop (off + vs.length),⟨?_,c.β i,cap,(cur.toList.take (off + 0)++vs++cur.toList.drop (off + 0 + vs.length)).toArray,fz,hv,setRow_heap c.w (c.β i) cur _ e _ hh,?_,hc1,hc2,?_,?_⟩,h2,splice_rdl (h3.le hle) (hdeep.le hle),h4⟩
    ·rw [List.length_append,List.length_append,List.length_take,List.length_drop,hul]; omega
    ·have:cur.toList.length=cur.size:=by simp
     refine hfz.imp id (fun h=>?_)
     simp only [List.size_toArray,List.length_append,List.length_take,List.length_drop,this]; omega
    ·have:cur.toList.length=cap * sz:=by simp [hc3]
     simp only [List.size_toArray,List.length_append,List.length_take,List.length_drop,this]; omega
    ·rw [hnew]; simp
  ·cases hw
 | fro n cs=>cases hw
 | gone=>cases hw
 | mp kd es=>cases hw
 | tvar T cs=>
  simp only [wrOb] at hw
  split at hw
  ·rename_i hlen
   cases hw
   obtain ⟨_,⟨us,h1,h2⟩,h3⟩:=hS.ob i _ ho
   have hfit:off + 0 + vs.length≤us.toArray.size:=by simp; rw [hrl.len,h2.len]; exact hlen
   have hrun:=run_storeCells_at P (c.β i) off T vs 0 us.toArray c.w h1 hfit hrl.one
   refine ⟨_,hrun,write_obj hS _ ho rfl hbi rfl (setRow_size _ _ _) rfl rfl rfl (fun b hb=>setRow_other _ _ _ _ hb) (fun hle=>?_)⟩
   refine ⟨hbi,⟨us.take off++vs++us.drop (off + vs.length),?_,splice_rl (h2.le hle) (hrl.le hle)⟩,h3⟩
   have:=setRow_heap c.w (c.β i) us.toArray (us.toArray.toList.take (off + 0)++vs++us.toArray.toList.drop (off + 0 + vs.length)).toArray T (0,0) h1
   exact this.trans (by simp)
  ·cases hw
theorem ok_st {N:Nat} {o:Oper} {t:TypeId} {i:TypeInfo} {x y:Operand} {p q:Opd} (ho:o.op=.store t x y) (hd:o.dst=none) (hx:cOpd x=some p) (hy:cOpd y=some q) (hi:P.info? t=some i):OpOk P N o (sSt i.size p q):=by
 intro w0 ds c a F H K Q hS hF hN hds h
 unfold sSt at h
 split at h
 ·rename_i j off z hz hw
  obtain ⟨hsz,hnt,h⟩:=h
  obtain ⟨e1,hj⟩:=(cOpd_ok hF hx hz).inv_ptr
  have hrl:=cells_ok (cOpd_ok hF hy hw) hnt
  have hcs:(a.eval y).cells.size=i.size:=by rw [← hsz,← hrl.len]; simp
  split at h
  ·rename_i cs hob
   split at h
   ·rename_i ob' hob'
    obtain ⟨w1,hrun,hst,hstep⟩:=store_obj (P:=P) hS hob hj hob' hrl
    refine wp_skp (w':=w1) ?_ ?_
    ·simp [execOp,ho,Instr.storeAt,e1,Instr.sureAddr,storeVar,run_sizeOf' hi,hcs,hrun]
    ·rw [hd]
     exact ⟨c.at w1,F,_,rfl,hstep,hst,hF.le hstep.le,hN,hds,h⟩
   ·exact h.elim
  ·rename_i T cs hob
   split at h
   ·rename_i ob' hob'
    obtain ⟨w1,hrun,hst,hstep⟩:=store_obj (P:=P) hS hob hj hob' hrl
    refine wp_skp (w':=w1) ?_ ?_
    ·simp [execOp,ho,Instr.storeAt,e1,Instr.sureAddr,storeVar,run_sizeOf' hi,hcs,hrun]
    ·rw [hd]
     exact ⟨c.at w1,F,_,rfl,hstep,hst,hF.le hstep.le,hN,hds,h⟩
   ·exact h.elim
  ·rename_i e0 sz0 n0 cs0 hob0
   obtain ⟨c1,ew,s1,t1,v1⟩:=frzL_ok _ hS hrl
   split at h
   ·rename_i ob hob
    split at h
    ·rename_i ob' hob'
     obtain ⟨w1,hrun,hst,hstep⟩:=store_obj (P:=P) s1 hob (t1.le.born j hj) hob' v1
     have hβ:c1.β j=c.β j:=t1.le.β j hj
     rw [hβ,ew] at hrun
     refine wp_skp (w':=w1) ?_ ?_
     ·simp [execOp,ho,Instr.storeAt,e1,Instr.sureAddr,storeVar,run_sizeOf' hi,hcs,hrun]
     ·rw [hd]
      exact ⟨c1.at w1,F,_,rfl,t1.trans hstep,hst,(hF.le t1.le).le hstep.le,hN,hds,h⟩
    ·exact h.elim
   ·exact h.elim
  ·exact h.elim
 ·exact h.elim
end
end Ab
end Go.Proofs.YtgddkgbidhhheaaGreatDoor
