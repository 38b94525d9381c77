/- What part of the package gauss answers, and what the world must hold for it. -/
import Derived.Test.YtbhkclkahblfnaaGreatDoorLast
import Derived.Test.YtbhkclkahblfnaaGreatDoorKeep
import Derived.WideLaws
namespace Go.Proofs.YtbhkclkahblfnaaGreatDoor
open Go.RowKit Flo
/-- an error, or none, stands there -/
def IsErr (w : World) (g : Nat) : Prop := ∃ ev, w.cell? ⟨g, 0, none⟩ = some ev ∧ (ev = .nilIface ∨ ∃ te pe, ev = .iface te pe)
/-- what the given variables hold -/
structure Inv (w : World) : Prop where
  pow : Pow w
  utf : Lib.Utf8Tabs 2 3 w
  syn : IsErr w 6
  ran : IsErr w 7
theorem cell_on {w w' : World} (h : Below w.heap.size w w') {a : Addr} {v : Value} (hc : w.cell? a = some v) (_ : w.heap.size ≤ w.heap.size) : w'.cell? a = some v :=
  (h.cell (World.block_lt_of_cell? w a hc)).trans hc
theorem IsErr.below {w w' : World} {g : Nat} (h : IsErr w g) (hb : Below w.heap.size w w') : IsErr w' g := by
  obtain ⟨ev, h1, h2⟩ := h
  exact ⟨ev, cell_on hb h1 (Nat.le_refl _), h2⟩
theorem Inv.below {w w' : World} (h : Inv w) (hb : Below w.heap.size w w') : Inv w' :=
  ⟨Joins.tab_stays gPow h.pow hb (Nat.le_refl _),
   ⟨fun c hc => cell_on hb (h.utf.1 c hc) (Nat.le_refl _), fun i hi => ⟨cell_on hb (h.utf.2 i hi).1 (Nat.le_refl _), cell_on hb (h.utf.2 i hi).2 (Nat.le_refl _)⟩⟩,
   h.syn.below hb, h.ran.below hb⟩
/-- strconv.Atoi, told by what its text spells -/
theorem atoi_any (s : ByteArray) (hs : s.size ≤ 281474976710656) (w : World) (hI : Inv w) :
    Calls Tryz.prog 113 #[.string s] w fun e w' => (∃ n v, e = .returned (.tuple #[.int .i64 n, v]) ∧ ((v = .nilIface ∧ Lib.atoiAll s.data.toList = .ok n) ∨ ((∃ T p, v = .iface T (.pointer p)) ∧ ∀ k, Lib.atoiAll s.data.toList ≠ .ok k))) ∧ Below w.heap.size w w' := by
  cases h : Lib.atoiAll s.data.toList with
  | ok v =>
    refine (Tryz.strconv_Atoi_ok s (by omega) v h w).mono ?_
    rintro e w' ⟨rfl, hw⟩
    refine ⟨⟨v, _, rfl, Or.inl ⟨rfl, rfl⟩⟩, ?_⟩
    rcases hw with rfl | ⟨t, rfl⟩
    · exact Below.refl _ _
    · exact Joins.below_bytesWorld _ _ _ _ (Nat.le_refl _)
  | «syntax» =>
    obtain ⟨ev, h1, h2⟩ := hI.syn
    refine (Tryz.strconv_Atoi_syntax s hs h ev w h1 h2).mono ?_
    rintro e w' ⟨N, rfl, _, _, hb⟩
    exact ⟨⟨_, _, rfl, Or.inr ⟨⟨_, _, rfl⟩, fun k hk => by cases hk⟩⟩, hb⟩
  | range =>
    obtain ⟨ev, h1, h2⟩ := hI.ran
    refine (Tryz.strconv_Atoi_range s hs h ev w h1 h2).mono ?_
    rintro e w' ⟨N, rfl, _, _, hb⟩
    exact ⟨⟨_, _, rfl, Or.inr ⟨⟨_, _, rfl⟩, fun k hk => by cases hk⟩⟩, hb⟩
theorem err_type : Tryz.prog.underlying 142 = some (.interface (Tryz.prog.methodsAt 142)) := by kernel_rfl
/-- what part answers -/
theorem gpart_any (s : ByteArray) (hs : s.size ≤ 281474976710656) (w : World) (hI : Inv w) :
    Calls Tryz.prog 79 #[.string s] w fun e w' => ((∃ n, e = .returned (.tuple #[.int .i64 n, .bool false]) ∧ partL s.data.toList = some n) ∨ (∃ n, e = .returned (.tuple #[.int .i64 n, .bool true]) ∧ partL s.data.toList = none)) ∧ Below w.heap.size w w' := by
  have HI := Lib.hid hI
  have HS := Lib.hid hs
  clear hI hs
  by_cases he : s.data.toList = []
  · have hs0 : s = ⟨#[]⟩ := by apply ByteArray.ext; exact Array.toList_inj.1 he
    subst hs0
    go_enter Tryz.func79, Tryz.ntmps79
    go_wp2_with fail
    go_ret2
    exact ⟨Or.inl ⟨0, rfl, partL_nil⟩, Below.refl _ _⟩
  · have hne : s.toList.isEmpty = false := by
      rw [Lib.toList_data]
      cases h : s.data.toList with
      | nil => exact absurd h he
      | cons _ _ => rfl
    have HE := Lib.hid he
    clear he
    go_enter Tryz.func79, Tryz.ntmps79
    go_wp2_with fail
    refine (atoi_any s HS.out w HI.out).mono ?_
    rintro e w' ⟨⟨n, v, rfl, hv⟩, hb⟩
    have HB := Lib.hid hb
    clear hb
    rcases hv with ⟨rfl, ha⟩ | ⟨⟨T, p, rfl⟩, ha⟩
    · have HA := Lib.hid (show partL s.data.toList = some n by unfold partL; rw [if_neg HE.out, ha])
      clear ha
      have hq := fun w => run_neq_nil_nil w 142 err_type
      go_wp2_with fail
      go_quiet (fail)
      go_wp2
      go_ret2
      exact ⟨Or.inl ⟨n, rfl, HA.out⟩, Go.below_drewN HB.out _⟩
    · have HA := Lib.hid (show partL s.data.toList = none by
        unfold partL; rw [if_neg HE.out]
        cases hh : Lib.atoiAll s.data.toList with
        | ok k => exact absurd hh (ha k)
        | «syntax» => rfl
        | range => rfl)
      clear ha
      have hq := fun w => run_neq_held_nil w 142 T (.pointer p) err_type
      go_wp2_with fail
      go_quiet (fail)
      go_wp2
      go_ret2
      exact ⟨Or.inr ⟨n, rfl, HA.out⟩, Go.below_drewN HB.out _⟩
end Go.Proofs.YtbhkclkahblfnaaGreatDoor
