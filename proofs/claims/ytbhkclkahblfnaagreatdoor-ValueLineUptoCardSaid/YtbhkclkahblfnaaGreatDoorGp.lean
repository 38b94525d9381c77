/- The package gauss and the reference read the same of every text. -/
import Derived.Test.YtbhkclkahblfnaaGreatDoorRp
import Derived.Test.YtbhkclkahblfnaaGreatDoorRune
import Derived.Test.YtbhkclkahblfnaaGreatDoorBackp
namespace Go.Proofs.YtbhkclkahblfnaaGreatDoor
open Go.RowKit Flo
namespace Flo
theorem parse_same0 {l : List UInt8} {a : Int} (hn : Lib.hasSuffix l [105] = false) : gParse l a = refParse l := by
  cases hr : refParse l with
  | some p =>
    obtain ⟨x, y⟩ := p
    obtain ⟨h1, h2⟩ := refParse_some hr
    rw [← h2] at hn ⊢
    exact gParse_plain h1 hn
  | none =>
    cases hg : gParse l a with
    | none => rfl
    | some p =>
      obtain ⟨x, y⟩ := p
      obtain ⟨h1, h2⟩ := gParse_some hg
      rw [← h2, refParse_text h1] at hr
      cases hr
end Flo
theorem gparse_any (s : ByteArray) (hs : s.size ≤ 140737488351232) (w : World) (hI : Inv w) :
    Calls Tryz.prog 47 #[.string s] w fun e w' => e = .returned (parseA (refParse s.data.toList)) ∧ Below w.heap.size w w' := by
  cases hn : Lib.hasSuffix s.data.toList [105]
  · refine (parse_none s (by omega) w hI hn).mono ?_
    rintro e w' ⟨rfl, hb⟩
    exact ⟨by rw [parse_same0 hn], hb⟩
  · refine (parse_suf s (by omega) w hI hn (fun a => (∀ (j : Nat) b, (Lib.trimSuffix s.data.toList [105])[j]? = some b → b.toNat < 128) → LastPM (Lib.trimSuffix s.data.toList [105]) a) ?_).mono ?_
    · intro w hI
      refine (last_any ⟨(Lib.trimSuffix s.data.toList [105]).toArray⟩ w hI ?_).mono ?_
      · rw [Lib.size_eq]
        show (Lib.trimSuffix s.data.toList [105]).length < _
        have h1 : (Lib.trimSuffix s.data.toList [105]).length ≤ s.data.toList.length := by
          unfold Lib.trimSuffix; split <;> first | (rw [List.length_take]; omega) | exact Nat.le_refl _
        rw [← Lib.size_eq] at h1; omega
      · rintro e w' ⟨a, rfl, ⟨h1, h2⟩, hb⟩
        exact ⟨a, rfl, ⟨h1, h2⟩, hb⟩
    · rintro e w' ⟨a, rfl, ha, hb⟩
      refine ⟨?_, hb⟩
      rw [parse_same ha (fun x y h j b hb => textL_asc x y b (by rw [h]; exact trim_mem (List.mem_of_getElem? hb)))]
end Go.Proofs.YtbhkclkahblfnaaGreatDoor
