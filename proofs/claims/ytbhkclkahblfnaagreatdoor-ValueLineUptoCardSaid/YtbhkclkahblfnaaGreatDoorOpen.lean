/- How the arguments of the statements of layer 1 read, and what the rows' last steps want. -/
import Derived.Test.YtbhkclkahblfnaaGreatDoorRows
import Derived.WalkKit
import Derived.ProofKit
import Derived.OpenShut
import Derived.Lib.SmallJoins
import Derived.Below
import Derived.ChangeSame
namespace Go.Proofs.YtbhkclkahblfnaaGreatDoor
open Go.ChangeShapes Go.WideShapes Go.ChangeAt Go.RowKit Go.Joins
theorem ownK : ownKnob Tryz.prog.godebug = none := by kernel_rfl
theorem cellsNum : Tryz.prog.cellsOf 23 = 3 := by kernel_rfl
section
variable {H : Type} {enc : TypeId × Value → H} {w : World} {base : Nat} {spare : Nat → Bool} {held : Bool}
set_option maxRecDepth 100000 in
theorem open_num {r : Reach} {b0 : Nat} {v : Value} {d : DataW H} {p : List MemPlace} (hv : Value.okWide Tryz.prog w r b0 23 v) (h : DataW.Trod enc Tryz.prog w base spare held 23 v d p) :
    ∃ (x y : Int) (raw : Bool), v = .agg #[.int .i64 x, .int .i64 y, .bool raw] ∧ d = .agg [.lit (.int .i64 x), .lit (.int .i64 y), .lit (.bool raw)] ∧ p = [] ∧ (Lit.int .i64 x).wf = true ∧ (Lit.int .i64 y).wf = true := by
  obtain ⟨c0, c1, c2, y0, y1, y2, m, rfl, rfl, rfl, hy0, hy1, hy2⟩ := open_agg3 Tryz.underlying23 (by kernel_rfl) cellsNum hv h
  obtain ⟨x, e0, rfl, w0⟩ := DataW.trod_int Tryz.underlying3 hy0
  obtain ⟨y, e1, rfl, w1⟩ := DataW.trod_int Tryz.underlying3 hy1
  obtain ⟨b, e2, rfl⟩ := DataW.trod_bool Tryz.underlying4 hy2
  simp at e0 e1 e2
  subst e0 e1 e2
  exact ⟨x, y, b, rfl, rfl, rfl, w0, w1⟩
set_option maxRecDepth 100000 in
theorem shut_num {x y : Int} {raw : Bool} (wx : (Lit.int .i64 x).wf = true) (wy : (Lit.int .i64 y).wf = true) :
    DataW.Trod enc Tryz.prog w base spare held 23 (.agg #[.int .i64 x, .int .i64 y, .bool raw]) (.agg [.lit (.int .i64 x), .lit (.int .i64 y), .lit (.bool raw)]) [] :=
  shut_agg3 (y0 := (.lit (.int .i64 x), [])) (y1 := (.lit (.int .i64 y), [])) (y2 := (.lit (.bool raw), [])) Tryz.underlying23 (by kernel_rfl) cellsNum
    ⟨1, by simp [DataW.trod, Tryz.underlying3, wx]⟩ ⟨1, by simp [DataW.trod, Tryz.underlying3, wy]⟩ ⟨1, by simp [DataW.trod, Tryz.underlying4]⟩
end
section
variable {H : Type} {enc : TypeId × Value → H} {P : Program}
theorem post_of_below {f : Func} {s : ChangeSpec} {apart fresh handsOn again : Bool} {W W' : World} {args : Array Value} {v : Value} {ds gs : List (DataW H)} {before pa pv : List MemPlace}
    (hW : DataW.Whole enc P f.params.toList s.vars apart W args.toList ds gs before)
    (hres : ∀ (b : Nat) (sp : Nat → Bool) (hd : Bool), DataW.TrodAll enc P W' b sp hd f.resultTypes.toList (v.resultList f.resultTypes.size) (s.fn H (ds ++ gs)).results [])
    (hargs : ∀ sp : Nat → Bool, (∀ p ∈ before, sp p.block = true) → DataW.TrodAll enc P W' 0 sp true f.params.toList args.toList (s.fn H (ds ++ gs)).args pa)
    (hvars : ∀ sp : Nat → Bool, (∀ p ∈ before, sp p.block = true) → DataW.TrodVars enc P W' sp s.vars (s.fn H (ds ++ gs)).vars pv)
    (hps : before = pa ++ pv) (hb : Below W.heap.size W W')
    (hok : ∀ (j : Nat) (t : TypeId) (r : Value), f.resultTypes[j]? = some t → (v.resultList f.resultTypes.size)[j]? = some r → Value.okWide P W' .any 0 t r) :
    s.post enc P f apart fresh handsOn again W args v W' := by
  have hlt : ∀ p ∈ before, p.block < W.heap.size := fun p hp => hW.lt p hp
  have hold : ∀ p ∈ before, (fun b => decide (b < W.heap.size)) p.block = true := fun p hp => by simpa using hlt p hp
  refine ⟨ds, gs, before, [], pa, pv, hW, hres _ _ _, hargs _ hold, hvars _ hold, World.keptBut_mono (fun p hp => ⟨hp, ?_⟩) (hb.frame (· ∈ before)), fun _ => ?_⟩
  · rw [hps, List.mem_append] at hp
    exact Or.inr hp
  · obtain ⟨_, _, _, _, _, hz, hn⟩ := hW
    refine ⟨hok, _, _, ([] ++ pa) ++ pv, ⟨[] ++ pa, pv, trodAll_append (hargs _ (fun _ _ => rfl)) (hres _ _ _), hvars _ (fun _ _ => rfl), rfl, ?_, ?_⟩, ?_⟩
    · intro b off hp
      have hin : MemPlace.cell b off ∈ before := by rw [hps]; simpa using hp
      rw [hb.frozen (hlt _ hin)]
      exact hz b off hin
    · intro ha
      have := hn ha
      rw [hps] at this
      simpa using this
    · intro p hp _
      rw [hps]
      simpa using hp
end
end Go.Proofs.YtbhkclkahblfnaaGreatDoor
