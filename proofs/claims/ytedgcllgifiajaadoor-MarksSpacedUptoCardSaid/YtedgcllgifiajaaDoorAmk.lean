/- The contracts of layer 3 as contracts on abstract values. -/
import Derived.Test.YtedgcllgifiajaaDoorAm3
import Derived.Test.YtedgcllgifiajaaDoorSame
import Derived.Test.YtedgcllgifiajaaDoorBys
namespace Go.Proofs.YtedgcllgifiajaaDoor
open Go.RowKit Flo Mk Ab
/-- what the laid memory holds -/
def Gm (w : World) : Prop := Inv w ∧ Spc w
theorem hmix : Tryd.prog.follows .mixedOrders = true := by rfl
theorem Ab.RD.txt {w : World} {M : Nat → Prop} {n : Nat} {cs : List AV} {u : Value} {t : List UInt8} (h : RD w M (.sl n cs) u) (hn : n = t.length) (hc : cs = t.map byA) :
    ∃ p c, u = .slice p t.length c ∧ t.length ≤ c ∧ Txt w p t := by
  cases h with
  | sl0 p cap =>
    have : t = [] := by cases t with | nil => rfl | cons a b => simp at hc
    subst this
    exact ⟨p, cap, rfl, Nat.zero_le _, Txt.nil _ _⟩
  | sl b o n cap cs us hl hb hs hcell h1 hr hle =>
    subst hn; subst hc
    refine ⟨_, cap, rfl, hle, fun _ => ⟨b, o, rfl, fun j x hx => ?_⟩⟩
    have hj : (t.map byA)[j]? = some (byA x) := by rw [List.getElem?_map, hx]; rfl
    have hjl : j < us.length := by rw [hl]; exact (List.getElem?_eq_some_iff.1 hj).1
    have hu := hr j _ us[j] hj (List.getElem?_eq_getElem hjl)
    have he : us[j] = .int .u8 (x.toNat : Int) := by
      revert hu; generalize us[j] = y; intro hu; cases hu; rfl
    rw [hcell j us[j] (List.getElem?_eq_getElem hjl), he]
/-- a text's bytes, lying there -/
theorem Ab.rd_txt {w : World} {M : Nat → Prop} {p : Option Addr} {c : Nat} {t : List UInt8} (hc : t.length ≤ c) (ht : Txt w p t) (hM : ∀ b, ¬ M b) : RD w M (.sl t.length (t.map byA)) (.slice p t.length c) := by
  by_cases h0 : t = []
  · subst h0; exact .sl0 _ _
  · obtain ⟨b, o, rfl, hcell⟩ := ht h0
    obtain ⟨x, r, rfl⟩ : ∃ x r, t = x :: r := by cases t with | nil => exact absurd rfl h0 | cons a b => exact ⟨a, b, rfl⟩
    refine .sl b o _ c _ ((x :: r).map fun y => .int .u8 (y.toNat : Int)) (by simp) (hM b) (World.block_lt_of_cell? w _ (hcell 0 x rfl)) (fun j u hu => ?_) (fun u hu => ?_) (fun j y u hy hu => ?_) hc
    · rw [List.getElem?_map, Option.map_eq_some_iff] at hu
      obtain ⟨y, hy, rfl⟩ := hu
      exact hcell j y hy
    · obtain ⟨y, _, rfl⟩ := List.mem_map.1 hu; rfl
    · rw [List.getElem?_map, Option.map_eq_some_iff] at hy hu
      obtain ⟨z, hz, rfl⟩ := hy
      obtain ⟨z', hz', rfl⟩ := hu
      rw [hz] at hz'; cases hz'
      exact .v _ rfl
theorem awake_ap : AP Tryd.prog Gm 8 [] (fun x => x = .v (.bool true)) := by
  intro w0 w M vs ⟨hI, hS⟩ hb hM ⟨hvs, _⟩
  obtain rfl : vs = #[] := by simpa using hvs
  refine (awake_any w (hI.below hb) (hS.below' hb)).mono ?_
  rintro e w' ⟨rfl, hb'⟩
  exact ⟨_, _, rfl, hb', .v _ rfl, rfl⟩
theorem reserved_ap (s : List UInt8) : AP Tryd.prog Gm 11 [.v (.string ⟨s.toArray⟩)] (fun x => x = .v (.bool (decide (s ∈ resv)))) := by
  intro w0 w M vs ⟨hI, hS⟩ hb hM ⟨hvs, hargs⟩
  obtain ⟨u, hu, hr⟩ := hargs 0 _ rfl
  obtain rfl : vs = #[u] := by
    apply Array.ext
    · simpa using hvs
    · intro i h1 h2
      obtain rfl : i = 0 := by simp at h2; omega
      simpa [Array.getElem?_eq_getElem h1] using hu
  cases hr
  refine (reserved_any ⟨s.toArray⟩ w (hS.below' hb)).mono ?_
  rintro e w' ⟨rfl, rfl⟩
  exact ⟨_, _, rfl, below_alloc _ _, .v _ rfl, rfl⟩
/-- marks as cells -/
def marksA (ms : List M) : List AV := (rowM ms).map AV.v
theorem rowM_flat (ms : List M) : ∀ u ∈ rowM ms, flat u = true := by
  intro u hu
  obtain ⟨m, _, hm⟩ := List.mem_flatMap.1 hu
  simp only [cellsM, List.mem_cons, List.not_mem_nil, or_false] at hm
  rcases hm with rfl | rfl | rfl | rfl <;> rfl
theorem rd_marks {w w' : World} {L : Nat → Prop} {e : TypeId} {v : Value} {ms : List M} (hM : ∀ b, L b → b < w.heap.size) (h : w'.ownsRow w.heap.size e 4 v ms.length (rowM ms)) : RD w' L (.sl ms.length (marksA ms)) v := by
  rcases h.2 with ⟨rfl, h2⟩ | ⟨g, cap, cur, rfl, h2, h3, h4, h5, h6, h7⟩
  · obtain rfl := List.eq_nil_of_length_eq_zero h2
    exact .sl0 _ _
  · have hc := h.cells (g := g) rfl
    refine .sl g 0 _ cap _ (rowM ms) (by simp [marksA]) (fun hm => absurd (hM g hm) (by omega)) (Array.getElem?_eq_some_iff.1 h3).1 (fun j u hu => ?_) (fun u hu => flat_one (rowM_flat ms u hu)) (fun j y u hy hu => ?_) h4
    · have := hc j u hu
      rw [Go.WideShapes.add_plain] at this
      simpa using this
    · rw [marksA, List.getElem?_map, hu] at hy
      cases hy
      exact .v _ (rowM_flat ms u (List.mem_of_getElem? hu))
def MarksQ (R : Except Nat (List M)) (x : AV) : Prop :=
  (∃ ms, R = .ok ms ∧ x = .tup [.sl ms.length (marksA ms), .agg [.v (.int .i64 0), .v (.int .i64 0)]]) ∨ ∃ a : Nat, R = .error a ∧ x = .tup [.v (.slice none 0 0), .agg [.v (.int .i64 20), .v (.int .i64 (a : Int))]]
theorem rd_pair {w : World} {M : Nat → Prop} (a b : Int) : RD w M (.agg [.v (.int .i64 a), .v (.int .i64 b)]) (.agg #[.int .i64 a, .int .i64 b]) := by
  refine .agg _ [.int .i64 a, .int .i64 b] rfl (fun u hu => ?_) (fun j x u hx hu => ?_)
  · simp only [List.mem_cons, List.not_mem_nil, or_false] at hu
    rcases hu with rfl | rfl <;> rfl
  · match j, hx, hu with
    | 0, rfl, rfl => exact .v _ rfl
    | 1, rfl, rfl => exact .v _ rfl
theorem rd_two {w : World} {M : Nat → Prop} {x y : AV} {a b : Value} (h1 : RD w M x a) (h2 : RD w M y b) : RD w M (.tup [x, y]) (.tuple #[a, b]) := by
  refine .tup _ [a, b] rfl (fun j z u hz hu => ?_)
  match j, hz, hu with
  | 0, rfl, rfl => exact h1
  | 1, rfl, rfl => exact h2
theorem marks_ap (t : List UInt8) (ht : t.length ≤ 16777216) : AP Tryd.prog Gm 13 [.sl t.length (t.map byA)] (MarksQ (scan t 0)) := by
  intro w0 w M vs ⟨hI, hS⟩ hb hM ⟨hvs, hargs⟩
  obtain ⟨u, hu, hr⟩ := hargs 0 _ rfl
  obtain rfl : vs = #[u] := by
    apply Array.ext
    · simpa using hvs
    · intro i h1 h2
      obtain rfl : i = 0 := by simp at h2; omega
      simpa [Array.getElem?_eq_getElem h1] using hu
  obtain ⟨p, c, rfl, hc, hT⟩ := hr.txt rfl rfl
  refine (marks_any p c t hc ht w hT (hI.below hb) (hS.below' hb)).mono ?_
  rintro e w' ⟨hR, hb'⟩
  rcases hR with ⟨ms, v, hR, rfl, hown⟩ | ⟨a, hR, rfl⟩
  · exact ⟨_, _, rfl, hb', rd_two (rd_marks hM hown) (rd_pair 0 0), .inl ⟨ms, hR, rfl⟩⟩
  · exact ⟨_, _, rfl, hb', rd_two (.v _ rfl) (rd_pair 20 a), .inr ⟨a, hR, rfl⟩⟩
end Go.Proofs.YtedgcllgifiajaaDoor
