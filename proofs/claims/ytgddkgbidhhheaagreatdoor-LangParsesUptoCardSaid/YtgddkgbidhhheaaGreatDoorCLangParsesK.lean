/- The statement LangParses holds in its upto form: where what it reads is of bulk at most 1048576 the law returns true and its arguments stay. -/
import Derived.Test.YtgddkgbidhhheaaGreatDoorCards
import Derived.Test.YtgddkgbidhhheaaGreatDoorTie
import Derived.Test.YtgddkgbidhhheaaGreatDoorKtaa
import Derived.Test.YtgddkgbidhhheaaGreatDoorKtab
import Derived.Test.YtgddkgbidhhheaaGreatDoorKtag
import Derived.Test.YtgddkgbidhhheaaGreatDoorKtbi
import Derived.LaidMore
import Derived.Lay
import Derived.ChangeMaps5
import Derived.MakeChecks
import Derived.Stop.Joined
import Derived.SizedLaws
import Derived.Deep.DeepHandedRow
namespace Go.Proofs.YtgddkgbidhhheaaGreatDoor.lawLangParses
open Go.ChangeShapes Go.WideShapes Go.ChangeAt Go.RowKit Go.Joins
theorem door_met (os:Os) (args:Array Value):laidMetH Tryz.prog Rows.langParsesUptoRow.laid ((World.laidAll Tryz.prog os Rows.langParsesUptoRow.laid).forCall (fun _ _=>0) ⟨#[],args,[]⟩).memory:=by
 rw [MakeChecks.laidMetH_plain _ _ _ (by kernel_rfl)]; exact laidMet_laidAll _ (by kernel_rfl) (by kernel_rfl)
theorem reads (os:Os) {H:Type} (enc:TypeId × Value→H):∃ places,DataW.whole enc Tryz.prog ((World.laidAll Tryz.prog os Rows.langParsesUptoRow.laid).forCall (fun _ _=>0) ⟨#[],#[.slice none 0 0,.agg #[.int .i64 0,.int .i64 0,.int .i64 0,.int .i64 0]],[]⟩).memory Tryz.f4.params.toList Rows.langParsesSpec.vars false #[.slice none 0 0,.agg #[.int .i64 0,.int .i64 0,.int .i64 0,.int .i64 0]].toList 8=some ([.nil,.agg [.lit (.int .i64 0),.lit (.int .i64 0),.lit (.int .i64 0),.lit (.int .i64 0)]],[],places):=
 ⟨[],by kernel_rfl⟩
set_option maxRecDepth 100000 in
theorem lifted (os : Os) (started : os.Started) (H : Type) (enc : TypeId × Value → H) (F : Stop.Interp) :
    ReturnsInHanded {} Tryz.checked os 4 .any ((Rows.OpenSpec.upto Rows.langParsesSpec).preRow enc Tryz.prog Tryz.f4 Rows.langParsesUptoRow.domain false Rows.langParsesUptoRow.laid) (((Rows.OpenSpec.upto Rows.langParsesSpec).at F).post enc Tryz.prog Tryz.f4 false true false false) := by
  obtain ⟨places, hx⟩ := reads os enc
  refine returnsInHanded_of_row (C := Tryz.checked) (s := Rows.OpenSpec.upto Rows.langParsesSpec) ownK started (by kernel_rfl) Tryz.func4
    (row_witness (enc := enc) (C := Tryz.checked) false (World.laidAll Tryz.prog os Rows.langParsesUptoRow.laid) #[.slice none 0 0, .agg #[.int .i64 0, .int .i64 0, .int .i64 0, .int .i64 0]] (World.laidAll_os _ _ _) (World.shaped_of_ZipB (by kernel_rfl) (by kernel_rfl)) (by kernel_rfl)
      (OpenSpec.preRow_of_cond 8 hx (by kernel_rfl) (fun k hk => by cases hk; kernel_rfl) (by kernel_rfl) (door_met os _))) ?_
  intro W base args ds gs before hval0 hW _ hcond _ hL hSh _
  have hk : Rows.uptoBulkAll (ds ++ gs) ≤ 1048576 := bys_bound (hcond _ rfl)
  have hval : ∀ (j : Nat) t v, Tryz.f4.params[j]? = some t → args[j]? = some v → Value.okWide Tryz.prog W .any base t v := hval0
  have hW' := hW
  obtain ⟨p, q, hA0, hV, rfl, hfz, hnd⟩ := hW
  have hA : DataW.TrodAll enc Tryz.prog W 0 (fun _ => true) true Tryz.f4.params.toList args.toList ds p := hA0
  rw [Tryz.params4] at hA hval
  obtain ⟨v0, vs0, d0, ds0, p0, q0, hargs, rfl, rfl, h0, r0⟩ := trodAll_cons hA
  obtain ⟨v1, vs1, d1, ds1, p1, q1, rfl, rfl, rfl, h1, r1⟩ := trodAll_cons r0
  obtain ⟨rfl, rfl, rfl⟩ := trodAll_nil r1
  obtain rfl : args = #[v0, v1] := by cases args; simp_all
  obtain ⟨rfl, rfl⟩ := trodVars_none hV
  simp only [List.append_nil, Rows.uptoBulkAll] at hk
  obtain ⟨a0, c0, t0, rfl, hc0, ht0, hz0, hb0⟩ := open_txt (hval 0 22 v0 rfl rfl) h0
  obtain ⟨x1a, x1b, x1c, x1d, rfl, rfl, rfl, w1a, w1b, w1c, w1d⟩ := open_lim (hval 1 43 v1 rfl rfl) h1
  clear hA0 hval0
  have hlt : ∀ x ∈ (p0 ++ (([] : List MemPlace) ++ []) ++ [] : List MemPlace), x.block < W.heap.size := fun x hx => by simpa using hW'.lt x (by simpa using hx)
  refine (calls_st (mparses_ap t0 (by omega) ⟨x1a, x1b, x1c, x1d⟩) W (inv_of_laid hL) (us := [.slice a0 t0.length c0, .agg #[.int .i64 x1a, .int .i64 x1b, .int .i64 x1c, .int .i64 x1d]]) rfl (fun j x u hx hu => by
    match j, hx, hu with
    | 0, rfl, rfl => exact rd_txtL ht0 hc0 (fun _ h => h)
    | 1, rfl, rfl => exact rd_limL _ _ _ _
    )).mono fun e W' ⟨he, hg⟩ => ?_
  subst he
  exact ⟨_, rfl, post_of_below (pa := _) (pv := []) hW' (fun _ _ _ => trodAll_cons_mk (shut_bool Tryz.underlying4 _) trodAll_mk0) (fun sp hsp => (trodAll_cons_mk (WideElems.Trod_stays (by kernel_rfl) (by kernel_rfl) (of_decide_eq_true (by kernel_rfl)) h0 (fun x hx => hg.same (hlt x (by simp [hx]))) (fun x hx => hsp x (by simp [hx]))) (trodAll_cons_mk (shut_lim w1a w1b w1c w1d) trodAll_mk0))) (fun _ _ => rfl) (by simp) hg (ok_one (by kernel_rfl) rfl (okWide_bool_mk Tryz.underlying4 _))⟩
theorem said : Rows.LangParsesUptoSaid :=
  OpenClaim.holds_of_cond 4 Tryz.f4 rfl rfl rfl rfl rfl rfl rfl ⟨rfl, rfl, rfl, rfl, rfl⟩ rfl rfl rfl rfl rfl (by kernel_rfl) Tryz.func4 (by kernel_rfl)
    (of_decide_eq_true (by kernel_rfl)) (by unfold Func.isWrapper; first | (rw [if_pos (by decide +kernel)]; kernel_rfl) | (rw [if_neg (by decide +kernel)]; exact ⟨rfl, rfl⟩))
    (fun os started H enc _ F => by rw [OpenClaim.pre_eq_preRow]; exact lifted os started H enc F)
theorem plain (f:FuncId) (fn:Func) (hf:Tryz.pinned.checked.prog.funcNamed "fathom/fathomlaw04.LangParses" = some f) (hfn:Tryz.pinned.checked.prog.funcs[f]? = some fn) :
  true=Tryz.pinned.checked.prog.looks []∧∀ (j:Nat) t,fn.params[j]? = some t→Tryz.pinned.checked.prog.wantsStandIn t=false:=by
 obtain rfl:f=4:=Option.some.inj ((show Tryz.prog.funcNamed "fathom/fathomlaw04.LangParses" = some 4 by kernel_rfl).symm.trans hf) |>.symm
 obtain rfl:fn=Tryz.f4:=(Option.some.inj (Tryz.func4.symm.trans hfn)).symm
 refine ⟨by kernel_rfl,fun j t ht=>?_⟩
 rw [Tryz.params4] at ht
 have hm:t ∈ [22,43]:=by simpa using Array.mem_of_getElem? ht
 have hall:([22,43].all fun u=>!Tryz.prog.wantsStandIn u)=true:=by kernel_rfl
 exact (show Tryz.prog.wantsStandIn t=false by simpa using List.all_eq_true.1 hall t hm)
theorem card:Rows.LangParsesUptoCardSaid:=
 Claim7.holds_tied_plain_at .later [] _ _ _ _ said (fun _ h=>by cases h) (by kernel_rfl) (fun _ h=>by cases h) langParsesUpto_row_tie rfl ⟨rfl,rfl⟩ (by kernel_rfl) rfl plain (by kernel_rfl)
#print axioms card
end Go.Proofs.YtgddkgbidhhheaaGreatDoor.lawLangParses
