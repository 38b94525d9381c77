/- Contracts of layer 1 and of the library's strings as contracts on abstract values (for layer 9). -/
import Derived.Test.YtbhkclkahblfnaaGreatDoorAm3
import Derived.Test.YtbhkclkahblfnaaGreatDoorRparse
import Derived.Test.YtbhkclkahblfnaaGreatDoorGp
import Derived.Test.YtbhkclkahblfnaaGreatDoorDig
set_option linter.unusedVariables false
set_option linter.unusedSimpArgs false
namespace Go.Proofs.YtbhkclkahblfnaaGreatDoor
open Go.RowKit Flo Ab
/-- what the laid memory holds -/
structure Gv (w : World) : Prop where
  inv : Inv w
  tab : ∃ m : Int, w.cell? ⟨1, 0, none⟩ = some (.int .i64 m)
  one : 1 < w.heap.size
theorem hmix : Tryz.prog.follows .mixedOrders = true := by rfl
abbrev sv (l : List UInt8) : AV := .v (.string ⟨l.toArray⟩)
abbrev iv (n : Int) : AV := .v (.int .i64 n)
abbrev bv (b : Bool) : AV := .v (.bool b)
abbrev cv (a b : Nat) : AV := .v (.complex .f64 a b)
theorem vs1 {w : World} {L : Nat → Prop} {vs : Array Value} {x : AV} (h : vs.size = [x].length ∧ ∀ (j : Nat) (y : AV), [x][j]? = some y → ∃ u, vs[j]? = some u ∧ RD w L y u) : ∃ u, vs = #[u] ∧ RD w L x u := by
  obtain ⟨u, hu, hr⟩ := h.2 0 _ rfl
  refine ⟨u, ?_, hr⟩
  apply Array.ext
  · simpa using h.1
  · intro i h1 h2
    obtain rfl : i = 0 := by simp at h2; omega
    simpa [Array.getElem?_eq_getElem h1] using hu
theorem vs2 {w : World} {L : Nat → Prop} {vs : Array Value} {x y : AV} (h : vs.size = [x, y].length ∧ ∀ (j : Nat) (z : AV), [x, y][j]? = some z → ∃ u, vs[j]? = some u ∧ RD w L z u) : ∃ u v, vs = #[u, v] ∧ RD w L x u ∧ RD w L y v := by
  obtain ⟨u, hu, hr⟩ := h.2 0 _ rfl
  obtain ⟨v, hv, hr'⟩ := h.2 1 _ rfl
  refine ⟨u, v, ?_, hr, hr'⟩
  apply Array.ext
  · simpa using h.1
  · intro i h1 h2
    have : i = 0 ∨ i = 1 := by simp at h2; omega
    rcases this with rfl | rfl
    · simpa [Array.getElem?_eq_getElem h1] using hu
    · simpa [Array.getElem?_eq_getElem h1] using hv
theorem rd_two {w : World} {M : Nat → Prop} {x y : AV} {a b : Value} (h1 : RD w M x a) (h2 : RD w M y b) : RD w M (.tup [x, y]) (.tuple #[a, b]) := by
  refine .tup _ [a, b] rfl (fun j z u hz hu => ?_)
  match j, hz, hu with
  | 0, rfl, rfl => exact h1
  | 1, rfl, rfl => exact h2
theorem rd_pair {w : World} {M : Nat → Prop} {x y : Value} (hx : flat x = true) (hy : flat y = true) : RD w M (.agg [.v x, .v y]) (.agg #[x, y]) := by
  refine .agg _ [x, y] rfl (fun u hu => ?_) (fun j z u hz hu => ?_)
  · simp only [List.mem_cons, List.not_mem_nil, or_false] at hu
    rcases hu with rfl | rfl
    · exact flat_one hx
    · exact flat_one hy
  · match j, hz, hu with
    | 0, rfl, rfl => exact .v _ hx
    | 1, rfl, rfl => exact .v _ hy
section
variable {G : World → Prop} (hGv : ∀ w, G w → Gv w)
theorem valid_ap {G : World → Prop} (a b : Nat) (ha : a < 18446744073709551616) (hb : b < 18446744073709551616) : AP Tryz.prog G 43 [cv a b] (fun x => x = bv (numC a b).isSome) := by
  intro w0 w M vs hG hbl hM h
  obtain ⟨u, rfl, hr⟩ := vs1 h
  cases hr
  refine (valid_any a b ha hb w).mono ?_
  rintro e w' ⟨rfl, rfl⟩
  exact ⟨_, _, rfl, Below.refl _ _, .v _ rfl, rfl⟩
/-- a number's text, and whether it is one -/
def txC (a b : Nat) : List UInt8 := match numC a b with | some (x, y) => textL x y | none => []
theorem gtext_ap (a b : Nat) (ha : a < 18446744073709551616) (hb : b < 18446744073709551616) : AP Tryz.prog Gv 38 [cv a b] (fun x => x = .tup [sv (txC a b), iv (if (numC a b).isSome then 0 else 3)]) := by
  intro w0 w M vs hG hbl hM h
  obtain ⟨u, rfl, hr⟩ := vs1 h
  cases hr
  cases hn : numC a b with
  | none =>
    refine (text_none ha hb hn w).mono ?_
    rintro e w' ⟨rfl, rfl⟩
    exact ⟨_, _, rfl, Below.refl _ _, rd_two (.v _ rfl) (.v _ rfl), by simp [txC, hn]⟩
  | some p =>
    obtain ⟨x, y⟩ := p
    refine (text_some ha hb hn w (hG.inv.below hbl).pow).mono ?_
    rintro e w' ⟨rfl, hb'⟩
    exact ⟨_, _, rfl, hb', rd_two (.v _ rfl) (.v _ rfl), by simp [txC, hn]⟩
/-- the number that is read -/
def pzA : Option (Int × Int) → AV
  | some (x, y) => .tup [cv (W x) (W y), iv 0]
  | none => .tup [cv 0 0, iv 10]
theorem gparse_ap (l : List UInt8) (hl : l.length ≤ 16777216) : AP Tryz.prog Gv 47 [sv l] (fun x => x = pzA (refParse l)) := by
  intro w0 w M vs hG hbl hM h
  obtain ⟨u, rfl, hr⟩ := vs1 h
  cases hr
  refine (gparse_any ⟨l.toArray⟩ (by simp [ByteArray.size]; omega) w (hG.inv.below hbl)).mono ?_
  rintro e w' ⟨rfl, hb'⟩
  show ∃ u x, Ending.returned (parseA (refParse l)) = _ ∧ _
  cases refParse l with
  | none => exact ⟨_, _, rfl, hb', rd_two (.v _ rfl) (.v _ rfl), rfl⟩
  | some p => exact ⟨_, _, rfl, hb', rd_two (.v _ rfl) (.v _ rfl), rfl⟩
def ofA : Option (Int × Int) → AV
  | some (x, y) => .tup [.agg [iv x, iv y], bv true]
  | none => .tup [.agg [iv 0, iv 0], bv false]
theorem of_ap {G : World → Prop} (a b : Nat) (ha : a < 18446744073709551616) (hb : b < 18446744073709551616) : AP Tryz.prog G 42 [cv a b] (fun x => x = ofA (numC a b)) := by
  intro w0 w M vs hG hbl hM h
  obtain ⟨u, rfl, hr⟩ := vs1 h
  cases hr
  refine (of_any a b ha hb w).mono ?_
  rintro e w' ⟨rfl, hb'⟩
  cases numC a b with
  | none => exact ⟨_, _, rfl, hb', rd_two (rd_pair rfl rfl) (.v _ rfl), rfl⟩
  | some p => exact ⟨_, _, rfl, hb', rd_two (rd_pair rfl rfl) (.v _ rfl), rfl⟩
def prA : Option (Int × Int) → AV
  | some (x, y) => .tup [.agg [iv x, iv y], iv 0]
  | none => .tup [.agg [iv 0, iv 0], iv 10]
theorem refparse_ap {G : World → Prop} (l : List UInt8) (hl : l.length ≤ 16777216) : AP Tryz.prog G 49 [sv l] (fun x => x = prA (refParse l)) := by
  intro w0 w M vs hG hbl hM h
  obtain ⟨u, rfl, hr⟩ := vs1 h
  cases hr
  refine (refParse_any ⟨l.toArray⟩ (by simp [ByteArray.size]; omega) w).mono ?_
  rintro e w' ⟨rfl, hb'⟩
  show ∃ u x, Ending.returned (refA (refParse l)) = _ ∧ _
  cases refParse l with
  | none => exact ⟨_, _, rfl, hb', rd_two (rd_pair rfl rfl) (.v _ rfl), rfl⟩
  | some p => exact ⟨_, _, rfl, hb', rd_two (rd_pair rfl rfl) (.v _ rfl), rfl⟩
theorem RD.pair {w : World} {L : Nat → Prop} {x y u : Value} (h : RD w L (.agg [.v x, .v y]) u) : u = .agg #[x, y] := by
  cases h with
  | agg cs us hl h1 hr =>
    match us, hl with
    | [a, b], _ =>
      have e1 := hr 0 _ _ rfl rfl
      have e2 := hr 1 _ _ rfl rfl
      cases e1; cases e2; rfl
theorem reftext_ap {G : World → Prop} {x y : Int} (h0 : okR x y = true) : AP Tryz.prog G 70 [.agg [iv x, iv y]] (fun z => z = sv (textL x y)) := by
  intro w0 w M vs hG hbl hM h
  obtain ⟨u, rfl, hr⟩ := vs1 h
  obtain rfl := RD.pair hr
  refine (refText_any h0 w).mono ?_
  rintro e w' ⟨rfl, hb'⟩
  exact ⟨_, _, rfl, hb', .v _ rfl, rfl⟩
theorem refz_ap {G : World → Prop} (x y : Int) : AP Tryz.prog G 50 [.agg [iv x, iv y]] (fun z => z = cv (W x) (W y)) := by
  intro w0 w M vs hG hbl hM h
  obtain ⟨u, rfl, hr⟩ := vs1 h
  obtain rfl := RD.pair hr
  refine (refZ_any x y w).mono ?_
  rintro e w' ⟨rfl, hb'⟩
  exact ⟨_, _, rfl, hb', .v _ rfl, rfl⟩
/-! the library -/
theorem fmtbool_ap {G : World → Prop} (b : Bool) : AP Tryz.prog G 39 [bv b] (fun z => z = sv (Lib.formatBool b)) := by
  intro w0 w M vs hG hbl hM h
  obtain ⟨u, rfl, hr⟩ := vs1 h
  cases hr
  refine (Tryz.strconv_FormatBool b w).mono ?_
  rintro e w' ⟨rfl, rfl⟩
  exact ⟨_, _, rfl, Below.refl _ _, .v _ rfl, rfl⟩
theorem cutpre_ap {G : World → Prop} (l p : List UInt8) : AP Tryz.prog G 45 [sv l, sv p] (fun z => z = .tup [sv (Lib.trimPrefix l p), bv (Lib.hasPrefix l p)]) := by
  intro w0 w M vs hG hbl hM h
  obtain ⟨u, v, rfl, hr, hr'⟩ := vs2 h
  cases hr; cases hr'
  refine (Tryz.strings_CutPrefix ⟨l.toArray⟩ ⟨p.toArray⟩ w).mono ?_
  rintro e w' ⟨rfl, rfl⟩
  exact ⟨_, _, rfl, Below.refl _ _, rd_two (.v _ rfl) (.v _ rfl), rfl⟩
theorem cutsuf_ap {G : World → Prop} (l p : List UInt8) (hl : l.length ≤ 16777216) : AP Tryz.prog G 46 [sv l, sv p] (fun z => z = .tup [sv (Lib.trimSuffix l p), bv (Lib.hasSuffix l p)]) := by
  intro w0 w M vs hG hbl hM h
  obtain ⟨u, v, rfl, hr, hr'⟩ := vs2 h
  cases hr; cases hr'
  refine (Tryz.strings_CutSuffix ⟨l.toArray⟩ ⟨p.toArray⟩ w (by simp [ByteArray.size]; omega)).mono ?_
  rintro e w' ⟨rfl, rfl⟩
  exact ⟨_, _, rfl, Below.refl _ _, rd_two (.v _ rfl) (.v _ rfl), rfl⟩
theorem trimleft_ap {G : World → Prop} (l : List UInt8) (c : UInt8) (hc : c.toNat < 128) : AP Tryz.prog G 52 [sv l, sv [c]] (fun z => z = sv (Lib.trimLeftB l c)) := by
  intro w0 w M vs hG hbl hM h
  obtain ⟨u, v, rfl, hr, hr'⟩ := vs2 h
  cases hr; cases hr'
  refine (Tryz.strings_TrimLeft_one ⟨l.toArray⟩ c hc w).mono ?_
  rintro e w' ⟨rfl, rfl⟩
  exact ⟨_, _, rfl, Below.refl _ _, .v _ rfl, rfl⟩
theorem index_ap {G : World → Prop} (l : List UInt8) (c : UInt8) : AP Tryz.prog G 53 [sv l, sv [c]] (fun z => z = iv (Lib.indexByte l c)) := by
  intro w0 w M vs hG hbl hM h
  obtain ⟨u, v, rfl, hr, hr'⟩ := vs2 h
  cases hr; cases hr'
  refine (Tryz.strings_Index_one ⟨l.toArray⟩ c w).mono ?_
  rintro e w' ⟨rfl, rfl⟩
  exact ⟨_, _, rfl, Below.refl _ _, .v _ rfl, rfl⟩
end
end Go.Proofs.YtbhkclkahblfnaaGreatDoor
