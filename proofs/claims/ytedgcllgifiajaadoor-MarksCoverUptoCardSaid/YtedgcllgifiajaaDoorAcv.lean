/- The law MarksCover: its walk, on abstract values. -/
import Derived.Test.YtedgcllgifiajaaDoorAmk
import Derived.Test.YtedgcllgifiajaaDoorCdM
set_option linter.unusedVariables false
set_option linter.unusedSimpArgs false
namespace Go.Proofs.YtedgcllgifiajaaDoor
open Go.RowKit Ab Mk
def blankA (b : UInt8) : Bool := decide ((b.toNat : Int) = 9) || decide ((b.toNat : Int) = 10) || decide ((b.toNat : Int) = 13) || decide ((b.toNat : Int) = 32)

theorem blank_ap {G : World → Prop} (b : UInt8) : AP Tryd.prog G 21 [byA b] (fun x => x = .v (.bool (blankA b))) := by
  refine AP.go hmix F_blank (by simp) ?_
  have fin : ∀ q : Bool, blankA b = q → blankA b = q := fun _ h => h
  obtain ⟨z, hz⟩ : ∃ z : Int, (b.toNat : Int) = z := ⟨_, rfl⟩
  simp only [blankA, hz, byA]
  clear hz fin
  by_cases h1 : z = 9
  · subst h1; simp -implicitDefEqProofs [c_blank]
  by_cases h2 : z = 10
  · subst h2; simp -implicitDefEqProofs [c_blank]
  by_cases h3 : z = 13
  · subst h3; simp -implicitDefEqProofs [c_blank]
  by_cases h4 : z = 32
  · subst h4; simp -implicitDefEqProofs [c_blank]
  · simp -implicitDefEqProofs [c_blank, h1, h2, h3, h4]
def fsA : List UInt8 → Bool → Bool
  | [], _ => true
  | b :: r, s => if (b.toNat : Int) = 10 then fsA r false else if (b.toNat : Int) = 35 then fsA r true else if s = false ∧ blankA b = false then false else fsA r s
def FreeI (l : List UInt8) (g : Nat) (F : Fr) (H : List Ob) : Prop := ∃ (k : Nat) (s : Bool), k + g = l.length ∧ F 0 = some (.sl l.length (l.map byA)) ∧ F 4 = some (.v (.int .i64 k)) ∧ F 3 = some (.v (.bool s)) ∧ H = [] ∧ fsA l false = fsA (l.drop k) s

theorem free_ap {G : World → Prop} (l : List UInt8) (hl : l.length ≤ 1048576) : AP Tryd.prog G 14 [.sl l.length (l.map byA)] (fun x => x = .v (.bool (fsA l false))) := by
  refine AP.go hmix F_free (by simp) ?_
  simp -implicitDefEqProofs [c_free]
  refine LP.go (FreeI l) l.length ⟨0, false, by simp⟩ ?_
  unfold c_free_L0
  rintro g F H ⟨k, s, hk, f0, f4, f3, rfl, hf⟩
  by_cases hkl : (k : Int) < l.length
  · have hkl' : k < l.length := by omega
    obtain ⟨b, hb⟩ : ∃ b, l[k]? = some b := ⟨_, List.getElem?_eq_getElem hkl'⟩
    have hd : l.drop k = b :: l.drop (k + 1) := by
      obtain ⟨hi', rfl⟩ := List.getElem?_eq_some_iff.1 hb
      exact List.drop_eq_getElem_cons hi'
    rw [hd] at hf
    have hw : IntKind.i64.wrap ((k : Int) + 1) = (k + 1 : Nat) := by rw [wrap64 _ (by omega)]; omega
    by_cases h1 : (b.toNat : Int) = 10
    · simp -implicitDefEqProofs [hkl, f0, f4, f3, hb, byA, h1, hw]
      exact ⟨g - 1, by omega, k + 1, false, by omega, by simp [f0], by simp, by simp, rfl, by rw [hf, fsA, if_pos h1]⟩
    by_cases h2 : (b.toNat : Int) = 35
    · simp -implicitDefEqProofs [hkl, f0, f4, f3, hb, byA, h2, hw]
      exact ⟨g - 1, by omega, k + 1, true, by omega, by simp [f0], by simp, by simp, rfl, by rw [hf, fsA, if_neg h1, if_pos h2]⟩
    cases s
    · simp -implicitDefEqProofs [hkl, f0, f4, f3, hb, byA, h1, h2, hw]
      refine SC.frz (by simp) [byA b] (by simp [byA]) (post := fun x => x = .v (.bool (blankA b))) (by simpa [byA] using blank_ap b) (by simp [byA]) ?_ (a := .mk)
      rintro x rfl
      cases hbl : blankA b
      · simp -implicitDefEqProofs [hkl, f0, f4, f3, byA, hw]
        rw [hf, fsA, if_neg h1, if_neg h2, if_pos ⟨rfl, hbl⟩]
      · simp -implicitDefEqProofs [hkl, f0, f4, f3, byA, hw]
        exact ⟨g - 1, by omega, k + 1, false, by omega, by simp [f0], by simp, by simp [f3], rfl, by rw [hf, fsA, if_neg h1, if_neg h2, if_neg (by simp [hbl])]⟩
    · simp -implicitDefEqProofs [hkl, f0, f4, f3, hb, byA, h1, h2, hw]
      exact ⟨g - 1, by omega, k + 1, true, by omega, by simp [f0], by simp, by simp [f3], rfl, by rw [hf, fsA, if_neg h1, if_neg h2, if_neg (by simp)]⟩
  · simp -implicitDefEqProofs [hkl, f0, f4, f3]
    rw [hf, List.drop_eq_nil_of_le (by omega)]; rfl
theorem blankA_is (b : UInt8) : blankA b = blankB b := by
  refine u8_all (p := fun b => blankA b = blankB b) ?_ b
  decide +kernel
theorem fsA_of : ∀ (l : List UInt8) (s : Bool), (fs l s).isSome = true → fsA l s = true
  | [], s, h => rfl
  | b :: r, s, h => by
    have e10 : ((b.toNat : Int) = 10) = (b = 10) := propext ⟨fun h => UInt8.toNat_inj.1 (by show b.toNat = 10; omega), fun h => by subst h; rfl⟩
    have e35 : ((b.toNat : Int) = 35) = (b = 35) := propext ⟨fun h => UInt8.toNat_inj.1 (by show b.toNat = 35; omega), fun h => by subst h; rfl⟩
    simp only [fs, fsA, e10, e35, blankA_is] at h ⊢
    split
    · rename_i h1; rw [if_pos h1] at h; exact fsA_of r _ h
    · rename_i h1
      rw [if_neg h1] at h
      split
      · rename_i h2; rw [if_pos h2] at h; exact fsA_of r _ h
      · rename_i h2
        rw [if_neg h2] at h
        split
        · rename_i h3; rw [if_pos h3] at h; cases h
        · rename_i h3; rw [if_neg h3] at h; exact fsA_of r _ h
theorem marksA_len (ms : List M) : (marksA ms).length = ms.length * 4 := by rw [marksA, List.length_map, rowM_len]
theorem marksA_cons (m : M) (ms : List M) : marksA (m :: ms) = [.v (.int .i64 m.kind), .v (.string ⟨m.text.toArray⟩), .v (.complex .f64 (Flo.W m.num.1) (Flo.W m.num.2)), .v (.int .i64 m.pos)] ++ marksA ms := by
  simp [marksA, rowM, cellsM]
theorem marksA_at : ∀ (ms : List M) (i : Nat) (m : M), ms[i]? = some m → ((marksA ms).drop (i * 4)).take 4 = [.v (.int .i64 m.kind), .v (.string ⟨m.text.toArray⟩), .v (.complex .f64 (Flo.W m.num.1) (Flo.W m.num.2)), .v (.int .i64 m.pos)]
  | [], i, m, h => by simp at h
  | x :: ms, 0, m, h => by cases h; rw [marksA_cons]; rfl
  | x :: ms, i + 1, m, h => by
    have := marksA_at ms i m (by simpa using h)
    rw [marksA_cons, show (i + 1) * 4 = 4 + i * 4 by omega, ← List.drop_drop]
    exact this
def CovI (t : List UInt8) (ms : List M) (g : Nat) (F : Fr) (_ : List Ob) : Prop := ∃ (i at' : Nat), i + g = ms.length ∧ F 0 = some (.sl t.length (t.map byA)) ∧ F 3 = some (.sl ms.length (marksA ms)) ∧ F 5 = some (.v (.int .i64 at')) ∧ F 6 = some (.v (.int .i64 i)) ∧ at' ≤ t.length ∧ Cov t at' (ms.drop i)
set_option maxHeartbeats 1000000 in
set_option maxRecDepth 100000 in
theorem mcover_ap (t : List UInt8) (ht : t.length ≤ 1048576) : AP Tryd.prog Gm 4 [.sl t.length (t.map byA)] (fun x => x = .v (.bool true)) := by
  refine AP.go hmix F_mcover (by simp) ?_
  simp -implicitDefEqProofs [c_mcover]
  refine SC.frz (by simp) [] (by simp) (by simpa using awake_ap) (by simp) ?_
  rintro x rfl
  simp -implicitDefEqProofs
  refine SC.frz (by simp) [.sl t.length (t.map byA)] (by simp) (by simpa using marks_ap t (by omega)) (by simp) ?_
  rintro x (⟨ms, hR, rfl⟩ | ⟨a, hR, rfl⟩)
  · simp -implicitDefEqProofs [wrOb, splice]
    have hpos : 0 < ms.length := List.length_pos_iff.2 (scan_ne _ _ _ _ (Nat.lt_succ_self _) hR)
    have hml : ms.length ≤ t.length + 1 := scan_len _ _ _ _ (Nat.lt_succ_self _) hR
    refine LP.go (CovI t ms) ms.length ⟨0, 0, by simp, by simp, by simp, by simp, by simp, by simp, scan_cov t _ t 0 0 false ms (Nat.lt_succ_self _) rfl (Nat.zero_le _) (Nat.le_refl _) rfl (fun h => by cases h) hR⟩ ?_
    unfold c_mcover_L0
    rintro g F H ⟨i, at', hig, f0, f3, f5, f6, hat, HC⟩
    by_cases hil : (i : Int) < ms.length
    · have hil' : i < ms.length := by omega
      obtain ⟨m, hm⟩ : ∃ m, ms[i]? = some m := ⟨_, List.getElem?_eq_getElem hil'⟩
      have hdr : ms.drop i = m :: ms.drop (i + 1) := by
        obtain ⟨hi', rfl⟩ := List.getElem?_eq_some_iff.1 hm
        exact List.drop_eq_getElem_cons hi'
      rw [hdr] at HC
      obtain ⟨v1, v2, v3, v4, v5, v6, v7, v8, v9⟩ := HC
      have hag : ((marksA ms).drop (i * 4)).take 4 = [.v (.int .i64 m.kind), .v (.string ⟨m.text.toArray⟩), .v (.complex .f64 (Flo.W m.num.1) (Flo.W m.num.2)), .v (.int .i64 m.pos)] := marksA_at ms i m hm
      have hal : i * 4 + 4 ≤ (marksA ms).length := by rw [marksA_len]; omega
      have d1 : ¬ (m.pos : Int) < at' := by omega
      have d2 : ¬ (t.length : Int) < m.pos := by omega
      have hz : ({ data := m.text.toArray } : ByteArray).size = m.text.length := by simp [ByteArray.size]
      have w1 : IntKind.i64.wrap ((t.length : Int) - m.pos) = (t.length : Int) - m.pos := wrap64 _ (by omega)
      have w2 : IntKind.i64.wrap ((m.pos : Int) + m.text.length) = ((m.pos + m.text.length : Nat) : Int) := by rw [wrap64 _ (by omega)]; omega
      have w3 : IntKind.i64.wrap ((i : Int) + 1) = ((i + 1 : Nat) : Int) := by rw [wrap64 _ (by omega)]; omega
      have w4 : IntKind.i64.wrap ((ms.length : Int) - 1) = (ms.length : Int) - 1 := by rw [wrap64 _ (by omega)]
      have d3 : ¬ (t.length : Int) - m.pos < m.text.length := by omega
      have d4 : (m.pos : Int) ≤ ((m.pos + m.text.length : Nat) : Int) ∧ ((m.pos + m.text.length : Nat) : Int) ≤ t.length := by omega
      have d5 : (at' : Int) ≤ m.pos ∧ (m.pos : Int) ≤ t.length := by omega
      have hb : ((t.map byA).drop m.pos).take m.text.length = m.text.map byA := by rw [← List.map_drop, ← List.map_take, v3]
      obtain ⟨l, hl⟩ : ∃ l, l = (t.drop at').take (m.pos - at') := ⟨_, rfl⟩
      have hll : l.length = m.pos - at' := by rw [hl]; simp; omega
      have hlb : ((t.map byA).drop at').take (m.pos - at') = l.map byA := by rw [← List.map_drop, ← List.map_take, hl]
      rw [← hl] at v4
      simp -implicitDefEqProofs [hil, f0, f3, f5, f6, hag, hal, wrOb, splice, d1, d2, hz, w1, w2, d3, d4, d5, hb, hlb, -Int.natCast_add]
      refine DC.go [.sl l.length (l.map byA)] (.v (.bool true)) (by simp [hll]) (by simpa [fsA_of l false v4] using free_ap (G := Gm) l (by omega)) (by simp) (by simp [notOwn]) ?_
      have hkl : ((m.kind : Int) = 4) ↔ ((i : Int) = ms.length - 1) := by
        have : ms.drop (i + 1) = [] ↔ ms.length ≤ i + 1 := List.drop_eq_nil_iff
        rw [this] at v5; omega
      have hce : cEq (Flo.W 0) (Flo.W 0) 0 0 = true := by decide +kernel
      have hend : ∀ (F' : Fr) (H' : List Ob), F' 0 = some (.sl t.length (t.map byA)) → F' 3 = some (.sl ms.length (marksA ms)) → F' 5 = some (.v (.int .i64 ((m.pos + m.text.length : Nat) : Int))) → F' 6 = some (.v (.int .i64 ((i + 1 : Nat) : Int))) → ∃ k, k < g ∧ CovI t ms k F' H' :=
        fun F' H' e0 e3 e5 e6 => ⟨g - 1, by omega, i + 1, m.pos + m.text.length, by omega, e0, e3, e5, e6, v2, v9⟩
      have hdc : AP Tryd.prog Gm 11 [.v (.string ⟨m.text.toArray⟩)] (fun x => x = .v (.bool (decide (m.text ∈ resv)))) := reserved_ap m.text
      by_cases h4 : (m.kind : Int) = 4
      · have h5 : (i : Int) = ms.length - 1 := hkl.1 h4
        have h6 : m.text.isEmpty = true := by simpa using v6.2 (by omega)
        have h7 : ¬ m.text ∈ resv := by
          rw [v6.2 (by omega)]; decide
        have h8 := v8 (by omega)
        simp -implicitDefEqProofs [h4, h5, h6, hil, f0, f3, f5, f6, w1, w2, w3, w4, hz, hce, -Int.natCast_add]
        refine DC.go [.v (.string ⟨m.text.toArray⟩)] (.v (.bool (decide (m.text ∈ resv)))) (by simp) (by simpa using hdc) (by simp) (by simp) ?_ (a := .mk)
        simp -implicitDefEqProofs [h7, h8, hil, f0, f3, f5, f6, w1, w2, w3, w4, hz, hce, -Int.natCast_add]
        exact hend _ _ (by simp [f0]) (by simp [f3]) (by simp) (by simp)
      · have h5 : ¬ (i : Int) = ms.length - 1 := by rwa [hkl] at h4
        have h6 : m.text.isEmpty = false := by
          have : m.text ≠ [] := by rw [ne_eq, v6]; omega
          simpa using this
        simp -implicitDefEqProofs [h4, h5, h6, hil, f0, f3, f5, f6, w1, w2, w3, w4, hz, hce, -Int.natCast_add]
        refine DC.go [.v (.string ⟨m.text.toArray⟩)] (.v (.bool (decide (m.text ∈ resv)))) (by simp) (by simpa using hdc) (by simp) (by simp) ?_ (a := .mk)
        by_cases h1 : (m.kind : Int) = 1
        · have h7 : m.text ∈ resv := v7.1 (by omega)
          have h8 := v8 (by omega)
          simp -implicitDefEqProofs [h1, h7, h8, hil, f0, f3, f5, f6, w1, w2, w3, w4, hz, hce, -Int.natCast_add]
          exact hend _ _ (by simp [f0]) (by simp [f3]) (by simp) (by simp)
        have h7 : ¬ m.text ∈ resv := fun h => h1 (by rw [v7.2 h]; rfl)
        by_cases h2 : (m.kind : Int) = 2
        · simp -implicitDefEqProofs [h7, h2, hil, f0, f3, f5, f6, w1, w2, w3, w4, hz, hce, -Int.natCast_add]
          exact hend _ _ (by simp [f0]) (by simp [f3]) (by simp) (by simp)
        · have h8 := v8 (by omega)
          simp -implicitDefEqProofs [h1, h2, h7, h8, hil, f0, f3, f5, f6, w1, w2, w3, w4, hz, hce, -Int.natCast_add]
          exact hend _ _ (by simp [f0]) (by simp [f3]) (by simp) (by simp)
    · obtain rfl : i = ms.length := by omega
      have he : at' = t.length := by rw [List.drop_length] at HC; exact HC
      simp -implicitDefEqProofs [f0, f3, f5, f6, hpos, he]
  · have hlt := (scan_bad _ _ _ _ (Nat.lt_succ_self _) hR).2
    have hlt' : a < t.length := by omega
    simp -implicitDefEqProofs [wrOb, splice, hlt']
theorem marksCover_any (p : Option Addr) (c : Nat) (t : List UInt8) (hc : t.length ≤ c) (ht : t.length ≤ 1048576) (w : World) (hT : Txt w p t) (hI : Inv w) (hS : Spc w) :
    Calls Tryd.prog 4 #[.slice p t.length c] w fun e w' => e = .returned (.bool true) ∧ Below w.heap.size w w' := by
  refine (mcover_ap t ht w w (fun _ => False) #[.slice p t.length c] ⟨hI, hS⟩ (Below.refl _ _) (fun _ h => h.elim) ⟨rfl, fun j x hx => ?_⟩).mono ?_
  · match j, hx with
    | 0, rfl => exact ⟨_, rfl, rd_txt hc hT (fun _ h => h)⟩
  · rintro e w' ⟨u, x, rfl, hb, hr, rfl⟩
    cases hr
    exact ⟨rfl, hb⟩
end Go.Proofs.YtedgcllgifiajaaDoor
