/- Texts joined: Dig Whole Rparse Agv. -/
import Derived.Test.YtgddkgbidhhheaaGreatDoorKwaa
import Derived.Test.YtgddkgbidhhheaaGreatDoorKwae
import Derived.Laws.BytesString
import Derived.Lib.ItoaLen
import Derived.Test.YtgddkgbidhhheaaGreatDoorKwab
import Derived.Deep.LoopGhost
import Derived.Test.YtgddkgbidhhheaaGreatDoorKwac
import Derived.Test.YtgddkgbidhhheaaGreatDoorKwaf
import Derived.Test.YtgddkgbidhhheaaGreatDoorKwaj
namespace Go.Proofs.YtgddkgbidhhheaaGreatDoor
open Go.RowKit Flo
end Go.Proofs.YtgddkgbidhhheaaGreatDoor
namespace Go.Proofs.YtgddkgbidhhheaaGreatDoor
open Go.RowKit Flo
namespace Flo
end Flo
end Go.Proofs.YtgddkgbidhhheaaGreatDoor
namespace Go.Proofs.YtgddkgbidhhheaaGreatDoor
open Go.RowKit Flo
namespace Flo
end Flo
end Go.Proofs.YtgddkgbidhhheaaGreatDoor
set_option linter.unusedVariables false
set_option linter.unusedSimpArgs false
namespace Go.Proofs.YtgddkgbidhhheaaGreatDoor
open Go.RowKit Flo Ab
structure Gv (w:World):Prop where
 inv:Inv w
 tab:∃ m:Int,w.cell? ⟨1,0,none⟩=some (.int .i64 m)
 one:1 < w.heap.size
theorem hmix:Tryz.prog.follows .mixedOrders=true:=by rfl
abbrev sv (l:List UInt8):AV:=.v (.string ⟨l.toArray⟩)
abbrev iv (n:Int):AV:=.v (.int .i64 n)
abbrev bv (b:Bool):AV:=.v (.bool b)
abbrev cv (a b:Nat):AV:=.v (.complex .f64 a b)
theorem vs1 {w:World} {L:Nat→Prop} {vs:Array Value} {x:AV} (h:vs.size=[x].length∧∀ (j:Nat) (y:AV),[x][j]? = some y→∃ u,vs[j]? = some u∧RD w L y u):∃ u,vs = #[u]∧RD w L x u:=by
 obtain ⟨u,hu,hr⟩:=h.2 0 _ rfl
 refine ⟨u,?_,hr⟩
 apply Array.ext
 ·simpa using h.1
 ·intro i h1 h2
  obtain rfl:i=0:=by simp at h2; omega
  simpa [Array.getElem?_eq_getElem h1] using hu
theorem vs2 {w:World} {L:Nat→Prop} {vs:Array Value} {x y:AV} (h:vs.size=[x,y].length∧∀ (j:Nat) (z:AV),[x,y][j]? = some z→∃ u,vs[j]? = some u∧RD w L z u):∃ u v,vs = #[u,v]∧RD w L x u∧RD w L y v:=by
 obtain ⟨u,hu,hr⟩:=h.2 0 _ rfl
 obtain ⟨v,hv,hr'⟩:=h.2 1 _ rfl
 refine ⟨u,v,?_,hr,hr'⟩
 apply Array.ext
 ·simpa using h.1
 ·intro i h1 h2
  have:i=0∨i=1:=by simp at h2; omega
  rcases this with rfl | rfl
  ·simpa [Array.getElem?_eq_getElem h1] using hu
  ·simpa [Array.getElem?_eq_getElem h1] using hv
theorem rd_two {w:World} {M:Nat→Prop} {x y:AV} {a b:Value} (h1:RD w M x a) (h2:RD w M y b):RD w M (.tup [x,y]) (.tuple #[a,b]):=by
 refine .tup _ [a,b] rfl (fun j z u hz hu=>?_)
 match j,hz,hu with
 | 0,rfl,rfl=>exact h1
 | 1,rfl,rfl=>exact h2
theorem rd_pair {w:World} {M:Nat→Prop} {x y:Value} (hx:flat x=true) (hy:flat y=true):RD w M (.agg [.v x,.v y]) (.agg #[x,y]):=by
 refine .agg _ [x,y] rfl (fun u hu=>?_) (fun j z u hz hu=>?_)
 ·simp only [List.mem_cons,List.not_mem_nil,or_false] at hu
  rcases hu with rfl | rfl
  ·exact flat_one hx
  ·exact flat_one hy
 ·match j,hz,hu with
  | 0,rfl,rfl=>exact .v _ hx
  | 1,rfl,rfl=>exact .v _ hy
section
variable {G:World→Prop} (hGv:∀ w,G w→Gv w)
end
end Go.Proofs.YtgddkgbidhhheaaGreatDoor
