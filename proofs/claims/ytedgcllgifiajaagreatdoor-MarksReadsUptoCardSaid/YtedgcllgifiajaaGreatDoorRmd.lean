/- The mark with which a text begins, as the reference reads it: a sign, or none. -/
import Derived.Test.YtedgcllgifiajaaGreatDoorRmc
namespace Go.Proofs.YtedgcllgifiajaaGreatDoor
open Go.RowKit Flo Mk
set_option maxHeartbeats 16000000 in
set_option maxRecDepth 100000 in
theorem refone_sign (b o n c a : Nat) (t : List UInt8) (hn : t.length = n) (hnc : n ≤ c) (hb : n ≤ 16777216) (ha : a < n) (w : World) (hT : ∀ j x, t[j]? = some x → w.cell? ⟨b, o + j, none⟩ = some (.int .u8 (x.toNat : Int))) (x : UInt8) (hx : t[a]? = some x) (hr : runB x = false) :
    Calls Tryz.prog 14 #[.slice (some ⟨b, o, none⟩) n c, .int .i64 (a : Int)] w fun e w' => OneR (t.drop a) a e ∧ Below w.heap.size w w' := by
  have hdr := drop_cons hx
  have hrl : ((t.drop a).takeWhile runB).length = 0 := by rw [hdr, List.takeWhile_cons, hr]; rfl
  obtain ⟨sl, hsl⟩ : ∃ sl, signL (t.drop a) = sl := ⟨_, rfl⟩
  have hle : sl ≤ 2 ∧ a + sl ≤ n := by
    have h1 := signL_two (t.drop a)
    have h2 := signL_le (t.drop a)
    rw [List.length_drop, hn] at h2
    omega
  have hOne : one (t.drop a) a = if sl = 0 then none else some ⟨3, (t.drop a).take sl, (0, 0), a⟩ := by
    unfold one
    rw [if_neg (by rw [hdr]; show ¬ some (runB x) = some true; rw [hr]; simp), hsl]
  obtain ⟨S3, hS3⟩ : ∃ S : ByteArray, S.data.toList = (t.drop a).take sl := ⟨⟨((t.drop a).take sl).toArray⟩, by simp⟩
  have hQ := fun W hW => refrun_any b o n c a t hn hb (Nat.le_of_lt ha) W hW
  rw [hrl] at hQ
  have hG := fun W hW => refsign_any b o n c a t hn hb ha W hW
  rw [hsl] at hG
  have rd : ∀ X, Below w.heap.size w X → ∀ j y, t[j]? = some y → X.cell? ⟨b, o + j, none⟩ = some (.int .u8 (y.toNat : Int)) := fun X hX j y hj => (hX.cell (World.block_lt_of_cell? w _ (hT j y hj))).trans (hT j y hj)
  have B0 := BoxO.start w ⟨#[]⟩ (a : Int)
  have hcv0 := fun o' => conv_txt (w.alloc o') b (o + a) 0 (c - a) ⟨#[]⟩ rfl (fun j y hy => by simp at hy)
  have hcv3 := fun o1 o2 => conv_txt ((w.alloc o1).alloc o2) b (o + a) sl (c - a) S3 (by rw [hS3, List.length_take, List.length_drop, hn]; omega) (fun j y hy => by
    rw [hS3, List.getElem?_take] at hy
    split at hy
    · rw [List.getElem?_drop] at hy
      have := rd _ (((Below.refl _ _).alloc (Nat.le_refl _) o1).alloc (by simp) o2) _ y hy
      rw [← Nat.add_assoc] at this; exact this
    · cases hy)
  have haz : (a : Int) < (n : Int) := by omega
  have HRD := Lib.hid rd
  have HQ := Lib.hid hQ
  have HG := Lib.hid hG
  have HO := Lib.hid hOne
  have HS3 := Lib.hid hS3
  have HB0 := Lib.hid B0
  have HL := Lib.hid (show ((t.drop a).take sl).length = sl by rw [List.length_take, List.length_drop, hn]; omega)
  clear hQ hG hOne hS3 rd hdr hrl hsl hT hx hr hn B0
  rcases (show sl = 0 ∨ sl = 1 ∨ sl = 2 by omega) with rfl | rfl | rfl
  all_goals
    go_enter Tryz.func14, Tryz.ntmps14
    go_wp2_with fail
    refine (HQ.out _ (HRD.out _ (below_alloc _ _))).mono ?_; rintro e w' ⟨rfl, rfl⟩
    go_wp2_with fail
    refine (HG.out _ (HRD.out _ HB0.out.below)).mono ?_; rintro e w' ⟨rfl, rfl⟩
    go_wp2_with fail
  · exact bodyPost_ret (v := .tuple #[markV 3 S3 0 0 a, .bool false]) (by simp [results, Tryz.results14, go_sem]) rfl ⟨Or.inr ⟨HO.out, _, _, _, _, _, rfl⟩, ((Below.refl _ _).alloc (Nat.le_refl _) _).alloc (by simp) _⟩
  · refine bodyPost_ret (v := .tuple #[markV 3 S3 0 0 a, .bool true]) (by simp [results, Tryz.results14, go_sem]) rfl ⟨Or.inl ⟨_, HO.out, ?_⟩, ((Below.refl _ _).alloc (Nat.le_refl _) _).alloc (by simp) _⟩
    show _ = Ending.returned (.tuple #[.agg #[_, .string ⟨((t.drop a).take 1).toArray⟩, .complex .f64 (W 0) (W 0), _], _])
    rw [← HS3.out, ← ba_list (rfl : S3.data.toList = S3.data.toList), zero00]
  · refine bodyPost_ret (v := .tuple #[markV 3 S3 0 0 a, .bool true]) (by simp [results, Tryz.results14, go_sem]) rfl ⟨Or.inl ⟨_, HO.out, ?_⟩, ((Below.refl _ _).alloc (Nat.le_refl _) _).alloc (by simp) _⟩
    show _ = Ending.returned (.tuple #[.agg #[_, .string ⟨((t.drop a).take 2).toArray⟩, .complex .f64 (W 0) (W 0), _], _])
    rw [← HS3.out, ← ba_list (rfl : S3.data.toList = S3.data.toList), zero00]
/-- the mark at a place, as the reference reads it -/
theorem refone_any (b o n c a : Nat) (t : List UInt8) (hn : t.length = n) (hnc : n ≤ c) (hb : n ≤ 16777216) (ha : a < n) (w : World) (hT : ∀ j x, t[j]? = some x → w.cell? ⟨b, o + j, none⟩ = some (.int .u8 (x.toNat : Int))) :
    Calls Tryz.prog 14 #[.slice (some ⟨b, o, none⟩) n c, .int .i64 (a : Int)] w fun e w' => OneR (t.drop a) a e ∧ Below w.heap.size w w' := by
  obtain ⟨x, hx⟩ : ∃ x, t[a]? = some x := ⟨_, List.getElem?_eq_getElem (by rw [hn]; exact ha)⟩
  cases hr : runB x with
  | true => exact refone_run b o n c a t hn hnc hb ha w hT x hx hr
  | false => exact refone_sign b o n c a t hn hnc hb ha w hT x hx hr
end Go.Proofs.YtedgcllgifiajaaGreatDoor
