/- The statement LangWider holds for every input: the law returns true and its arguments stay. -/
import Derived.Test.YtgddkgbidhhheaaGreatDoorCards
import Derived.Test.YtgddkgbidhhheaaGreatDoorTie
import Derived.Test.YtgddkgbidhhheaaGreatDoorKwaa
import Derived.Test.YtgddkgbidhhheaaGreatDoorKwab
import Derived.Test.YtgddkgbidhhheaaGreatDoorKwag
import Derived.Test.YtgddkgbidhhheaaGreatDoorKwbd
import Derived.LaidMore
import Derived.Lay
import Derived.ChangeMaps5
import Derived.MakeChecks
import Derived.Stop.Joined
import Derived.SizedLaws
import Derived.Deep.DeepHandedRow
namespace Go.Proofs.YtgddkgbidhhheaaGreatDoor.lawLangWider
open Go.ChangeShapes Go.WideShapes Go.ChangeAt Go.RowKit Go.Joins
theorem door_met (os:Os) (args:Array Value):laidMetH Tryz.prog Rows.langWiderRow.laid ((World.laidAll Tryz.prog os Rows.langWiderRow.laid).forCall (fun _ _=>0) ⟨#[],args,[]⟩).memory:=by
 rw [MakeChecks.laidMetH_plain _ _ _ (by kernel_rfl)]; exact laidMet_laidAll _ (by kernel_rfl) (by kernel_rfl)
theorem reads (os:Os) {H:Type} (enc:TypeId × Value→H):∃ places,DataW.whole enc Tryz.prog ((World.laidAll Tryz.prog os Rows.langWiderRow.laid).forCall (fun _ _=>0) ⟨#[],#[.slice none 0 0,.agg #[.int .i64 0,.int .i64 0,.int .i64 0,.int .i64 0],.agg #[.int .i64 0,.int .i64 0,.int .i64 0,.int .i64 0]],[]⟩).memory Tryz.f6.params.toList Rows.langWiderSpec.vars false #[.slice none 0 0,.agg #[.int .i64 0,.int .i64 0,.int .i64 0,.int .i64 0],.agg #[.int .i64 0,.int .i64 0,.int .i64 0,.int .i64 0]].toList 8=some ([.nil,.agg [.lit (.int .i64 0),.lit (.int .i64 0),.lit (.int .i64 0),.lit (.int .i64 0)],.agg [.lit (.int .i64 0),.lit (.int .i64 0),.lit (.int .i64 0),.lit (.int .i64 0)]],[],places):=
 ⟨[],by kernel_rfl⟩
set_option maxRecDepth 100000 in
theorem lifted (os : Os) (started : os.Started) (H : Type) (enc : TypeId × Value → H) (F : Stop.Interp) :
    ReturnsInHanded {} Tryz.checked os 6 .any ((OpenSpec.ofChange Rows.langWiderSpec).preRow enc Tryz.prog Tryz.f6 Rows.langWiderRow.domain false Rows.langWiderRow.laid) (((OpenSpec.ofChange Rows.langWiderSpec).at F).post enc Tryz.prog Tryz.f6 false true false false) := by
  obtain ⟨places, hx⟩ := reads os enc
  refine returnsInHanded_of_row (C := Tryz.checked) (s := OpenSpec.ofChange Rows.langWiderSpec) ownK started (by kernel_rfl) Tryz.func6
    (row_witness (enc := enc) (C := Tryz.checked) false (World.laidAll Tryz.prog os Rows.langWiderRow.laid) #[.slice none 0 0, .agg #[.int .i64 0, .int .i64 0, .int .i64 0, .int .i64 0], .agg #[.int .i64 0, .int .i64 0, .int .i64 0, .int .i64 0]] (World.laidAll_os _ _ _) (World.shaped_of_ZipB (by kernel_rfl) (by kernel_rfl)) (by kernel_rfl)
      (OpenSpec.preRow_of_cond 8 hx (by kernel_rfl) (fun k hk => by cases hk) (by kernel_rfl) (door_met os _))) ?_
  intro W base args ds gs before hval0 hW _ hcond _ hL hSh _
  have hval : ∀ (j : Nat) t v, Tryz.f6.params[j]? = some t → args[j]? = some v → Value.okWide Tryz.prog W .any base t v := hval0
  have hW' := hW
  obtain ⟨p, q, hA0, hV, rfl, hfz, hnd⟩ := hW
  have hA : DataW.TrodAll enc Tryz.prog W 0 (fun _ => true) true Tryz.f6.params.toList args.toList ds p := hA0
  rw [Tryz.params6] at hA hval
  obtain ⟨v0, vs0, d0, ds0, p0, q0, hargs, rfl, rfl, h0, r0⟩ := trodAll_cons hA
  obtain ⟨v1, vs1, d1, ds1, p1, q1, rfl, rfl, rfl, h1, r1⟩ := trodAll_cons r0
  obtain ⟨v2, vs2, d2, ds2, p2, q2, rfl, rfl, rfl, h2, r2⟩ := trodAll_cons r1
  obtain ⟨rfl, rfl, rfl⟩ := trodAll_nil r2
  obtain rfl : args = #[v0, v1, v2] := by cases args; simp_all
  obtain ⟨rfl, rfl⟩ := trodVars_none hV
  obtain ⟨a0, c0, t0, rfl, hc0, ht0, hz0, hb0⟩ := open_txt (hval 0 22 v0 rfl rfl) h0
  obtain ⟨x1a, x1b, x1c, x1d, rfl, rfl, rfl, w1a, w1b, w1c, w1d⟩ := open_lim (hval 1 43 v1 rfl rfl) h1
  obtain ⟨x2a, x2b, x2c, x2d, rfl, rfl, rfl, w2a, w2b, w2c, w2d⟩ := open_lim (hval 2 43 v2 rfl rfl) h2
  clear hA0 hval0
  have hlt : ∀ x ∈ (p0 ++ (([] : List MemPlace) ++ (([] : List MemPlace) ++ [])) ++ [] : List MemPlace), x.block < W.heap.size := fun x hx => by simpa using hW'.lt x (by simpa using hx)
  refine (calls_st (mwider_ap t0 ⟨x1a, x1b, x1c, x1d⟩ ⟨x2a, x2b, x2c, x2d⟩) W (inv_of_laid hL) (us := [.slice a0 t0.length c0, .agg #[.int .i64 x1a, .int .i64 x1b, .int .i64 x1c, .int .i64 x1d], .agg #[.int .i64 x2a, .int .i64 x2b, .int .i64 x2c, .int .i64 x2d]]) rfl (fun j x u hx hu => by
    match j, hx, hu with
    | 0, rfl, rfl => exact rd_txtL ht0 hc0 (fun _ h => h)
    | 1, rfl, rfl => exact rd_limL _ _ _ _
    | 2, rfl, rfl => exact rd_limL _ _ _ _
    )).mono fun e W' ⟨he, hg⟩ => ?_
  subst he
  exact ⟨_, rfl, post_of_below (pa := _) (pv := []) hW' (fun _ _ _ => trodAll_cons_mk (shut_bool Tryz.underlying4 _) trodAll_mk0) (fun sp hsp => (trodAll_cons_mk (WideElems.Trod_stays (by kernel_rfl) (by kernel_rfl) (of_decide_eq_true (by kernel_rfl)) h0 (fun x hx => hg.same (hlt x (by simp [hx]))) (fun x hx => hsp x (by simp [hx]))) (trodAll_cons_mk (shut_lim w1a w1b w1c w1d) (trodAll_cons_mk (shut_lim w2a w2b w2c w2d) trodAll_mk0)))) (fun _ _ => rfl) (by simp) hg (ok_one (by kernel_rfl) rfl (okWide_bool_mk Tryz.underlying4 _))⟩
theorem said : Rows.LangWiderSaid :=
  OpenClaim.holds_of_cond 6 Tryz.f6 rfl rfl rfl rfl rfl rfl rfl ⟨rfl, rfl, rfl, rfl, rfl⟩ rfl rfl rfl rfl rfl (by kernel_rfl) Tryz.func6 (by kernel_rfl)
    (of_decide_eq_true (by kernel_rfl)) (by unfold Func.isWrapper; first | (rw [if_pos (by decide +kernel)]; kernel_rfl) | (rw [if_neg (by decide +kernel)]; exact ⟨rfl, rfl⟩))
    (fun os started H enc _ F => by rw [OpenClaim.pre_eq_preRow]; exact lifted os started H enc F)
theorem plain (f:FuncId) (fn:Func) (hf:Tryz.pinned.checked.prog.funcNamed "fathom/fathomlaw04.LangWider" = some f) (hfn:Tryz.pinned.checked.prog.funcs[f]? = some fn) :
  true=Tryz.pinned.checked.prog.looks []∧∀ (j:Nat) t,fn.params[j]? = some t→Tryz.pinned.checked.prog.wantsStandIn t=false:=by
 obtain rfl:f=6:=Option.some.inj ((show Tryz.prog.funcNamed "fathom/fathomlaw04.LangWider" = some 6 by kernel_rfl).symm.trans hf) |>.symm
 obtain rfl:fn=Tryz.f6:=(Option.some.inj (Tryz.func6.symm.trans hfn)).symm
 refine ⟨by kernel_rfl,fun j t ht=>?_⟩
 rw [Tryz.params6] at ht
 have hm:t ∈ [22,43,43]:=by simpa using Array.mem_of_getElem? ht
 have hall:([22,43,43].all fun u=>!Tryz.prog.wantsStandIn u)=true:=by kernel_rfl
 exact (show Tryz.prog.wantsStandIn t=false by simpa using List.all_eq_true.1 hall t hm)
theorem card:Rows.LangWiderCardSaid:=
 Claim7.holds_tied_plain_at .later [] _ _ _ _ said (fun _ h=>by cases h) (by kernel_rfl) (fun _ h=>by cases h) langWider_row_tie rfl ⟨rfl,rfl⟩ (by kernel_rfl) rfl plain (by kernel_rfl)
#print axioms card
end Go.Proofs.YtgddkgbidhhheaaGreatDoor.lawLangWider
