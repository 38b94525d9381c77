/- What the small functions of the package marks answer. -/
import Derived.Test.YtedgcllgifiajaaDoorGp
import Derived.Test.YtedgcllgifiajaaDoorShelf
import Derived.Test.YtedgcllgifiajaaDoorScang
import Derived.Test.YtedgcllgifiajaaDoorJump
import Derived.Test.YtedgcllgifiajaaDoorTxt
namespace Go.Proofs.YtedgcllgifiajaaDoor
open Go.RowKit Flo Mk
theorem u8_all {p : UInt8 → Prop} (h : ∀ n : Fin 256, p (UInt8.ofNat n.val)) (c : UInt8) : p c := by
  have := h ⟨c.toNat, c.toNat_lt⟩
  simpa using this
set_option maxHeartbeats 4000000 in
theorem digit_any (c : UInt8) (w : World) :
    Calls Tryd.prog 25 #[.int .u8 (c.toNat : Int)] w fun e w' => e = .returned (.bool (digB c)) ∧ w = w' := by
  have hc := c.toNat_lt
  have HD : Hid (digB c = (decide (48 ≤ c.toNat) && decide (c.toNat ≤ 57))) := rfl
  go_enter Tryd.func25, Tryd.ntmps25
  go_wp2_with fail
  all_goals go_ret
  all_goals refine ⟨ret2 (congrArg Value.bool ?_), rfl⟩
  · rw [HD.out, decide_eq_true (p := 48 ≤ c.toNat) (by omega), Bool.true_and]; exact decide_eq_decide.2 (by omega)
  · rw [HD.out, decide_eq_false (by omega), Bool.false_and]
theorem or_32 (c : UInt8) : bits .or .u8 (c.toNat : Int) 32 = ((c ||| 32).toNat : Int) := by
  refine u8_all (p := fun c => bits .or .u8 (c.toNat : Int) 32 = ((c ||| 32).toNat : Int)) ?_ c
  decide +kernel
theorem runB_or (c : UInt8) : runB c = (decide (97 ≤ (c ||| 32).toNat ∧ (c ||| 32).toNat ≤ 122) || digB c || c == 95) := by
  refine u8_all (p := fun c => runB c = (decide (97 ≤ (c ||| 32).toNat ∧ (c ||| 32).toNat ≤ 122) || digB c || c == 95)) ?_ c
  decide +kernel
set_option maxHeartbeats 4000000 in
theorem runs_any (c : UInt8) (w : World) :
    Calls Tryd.prog 18 #[.int .u8 (c.toNat : Int)] w fun e w' => e = .returned (.bool (runB c)) ∧ w = w' := by
  have hc := c.toNat_lt
  have ho := or_32 c
  have HD := Lib.hid (runB_or c)
  obtain ⟨d, hd⟩ : ∃ d, (c ||| 32).toNat = d := ⟨_, rfl⟩
  rw [hd] at ho HD
  have hdl : d < 256 := by rw [← hd]; exact (c ||| 32).toNat_lt
  obtain ⟨g, hg⟩ : ∃ g, digB c = g := ⟨_, rfl⟩
  have HQ := Lib.hid (fun w => digit_any c w)
  rw [hg] at HQ HD
  have h95 : ((c.toNat : Int) == 95) = (c == 95) := by
    refine u8_all (p := fun c => ((c.toNat : Int) == 95) = (c == 95)) ?_ c
    decide +kernel
  obtain ⟨k, hk⟩ : ∃ k, (c == 95) = k := ⟨_, rfl⟩
  rw [hk] at h95 HD
  clear hd hg hk
  go_enter Tryd.func18, Tryd.ntmps18
  go_wp2_with (go_at_call 25; refine (HQ.out _).mono ?_; rintro e w' ⟨rfl, rfl⟩)
  all_goals go_ret
  all_goals refine ⟨ret2 (congrArg Value.bool ?_), rfl⟩
  · have h1 : g = true := by assumption
    rw [HD.out, h1, Bool.or_true, Bool.true_or]
  · have h1 : g = false := by simpa using (show ¬ g = true by assumption)
    rw [HD.out, h1, decide_eq_false (by omega), Bool.or_false, Bool.false_or]; simp; omega
  · rw [HD.out, decide_eq_true (by omega), Bool.true_or, Bool.true_or]
  · have h1 : g = true := by assumption
    rw [HD.out, h1, Bool.or_true, Bool.true_or]
  · have h1 : g = false := by simpa using (show ¬ g = true by assumption)
    rw [HD.out, h1, decide_eq_false (by omega), Bool.or_false, Bool.false_or]
/-- the reserved words as the program spells them -/
def resvS : List ByteArray := resv.map fun l => ⟨l.toArray⟩
abbrev resText : ByteArray := ⟨#[66, 32, 76, 32, 78, 32, 99, 97, 115, 101, 32, 99, 111, 110, 106, 32, 101, 108, 115, 101, 32, 102, 97, 105, 108, 32, 102, 97, 108, 115, 101, 32, 105, 102, 32, 105, 109, 32, 105, 110, 32, 108, 101, 116, 32, 110, 105, 108, 32, 110, 111, 116, 32, 111, 102, 32, 114, 101, 32, 115, 116, 114, 105, 99, 116, 32, 116, 104, 101, 110, 32, 116, 114, 117, 101]⟩
theorem res_fields : Lib.fields resText.data.toList = resv := by decide +kernel
abbrev Spc (w : World) : Prop := Lib.TabIs Tryd.prog w "strings.asciiSpace" .u8 Lib.asciiSpaceTab
theorem words_any (w : World) (hT : Spc w) :
    Calls Tryd.prog 9 #[] w fun e w' => e = .returned (.slice (some ⟨w.heap.size, 0, none⟩) 19 19) ∧ w' = w.alloc (.cells (resvS.map Value.string).toArray 9) := by
  have h := Tryd.strings_Fields resText w (by decide) (by
    intro j b hb
    have hm := List.mem_of_getElem? hb
    exact (show ∀ b ∈ resText.data.toList, b.toNat < 128 by decide +kernel) b hm) hT
  rw [res_fields] at h
  have HQ := Lib.hid h
  clear h hT
  go_enter Tryd.func9, Tryd.ntmps9
  go_wp2_with fail
  refine HQ.out.mono ?_; rintro e w' ⟨rfl, rfl⟩
  go_wp2_with fail
  go_ret
  exact ⟨rfl, rfl⟩
theorem contains_resv (s : ByteArray) : Lib.containsS (resvS.take 19) s = decide (s.data.toList ∈ resv) := by
  rw [Bool.eq_iff_iff, Lib.containsS_iff, decide_eq_true_eq]
  show s ∈ resvS ↔ _
  unfold resvS
  rw [List.mem_map]
  constructor
  · rintro ⟨l, hl, rfl⟩; simpa using hl
  · intro h; exact ⟨_, h, by apply ByteArray.ext; simp⟩
theorem reserved_any (s : ByteArray) (w : World) (hT : Spc w) :
    Calls Tryd.prog 11 #[.string s] w fun e w' => e = .returned (.bool (decide (s.data.toList ∈ resv))) ∧ w' = w.alloc (.cells (resvS.map Value.string).toArray 9) := by
  have HQ := Lib.hid (words_any w hT)
  have hz : resvS.length = 19 := by decide
  have hc := Tryd.slices_Contains_string w.heap.size 0 19 19 resvS s (w.alloc (.cells (resvS.map Value.string).toArray 9)) (by rw [hz]; decide) (by decide) (by
    intro j hj
    rw [World.cell?_alloc_at _ _ _ _ rfl]
    simp [List.getD, hj])
  rw [contains_resv] at hc
  have HC := Lib.hid hc
  clear hc hz hT
  go_enter Tryd.func11, Tryd.ntmps11
  go_wp2_with fail
  refine HQ.out.mono ?_; rintro e w' ⟨rfl, rfl⟩
  go_wp2_with fail
  refine HC.out.mono ?_; rintro e w' ⟨rfl, rfl⟩
  go_wp2_with fail
  go_ret
  exact ⟨rfl, rfl⟩
end Go.Proofs.YtedgcllgifiajaaDoor
