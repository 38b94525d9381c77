/- Texts joined: Rma Rmb Rmw Rmc Rmd. -/
import Derived.Test.YtgddkgbidhhheaaGreatDoorKtbd
import Derived.Deep.LoopGhost
import Derived.Test.YtgddkgbidhhheaaGreatDoorKtap
import Derived.Lib.SlBytesConst
namespace Go.Proofs.YtgddkgbidhhheaaGreatDoor
open Go.RowKit Flo Mk
def letB (c:UInt8):Bool:=decide (65≤c.toNat∧c.toNat≤90) || decide (97≤c.toNat∧c.toNat≤122)
theorem letB_t {c:UInt8} (h:(65≤c.toNat∧c.toNat≤90)∨(97≤c.toNat∧c.toNat≤122)):letB c=true:=by
 unfold letB
 rcases h with h | h
 ·rw [decide_eq_true h]; rfl
 ·rw [decide_eq_true (p:=97≤c.toNat∧c.toNat≤122) h,Bool.or_true]
theorem letB_f {c:UInt8} (h:¬ (65≤c.toNat∧c.toNat≤90)∧¬ (97≤c.toNat∧c.toNat≤122)):letB c=false:=by
 unfold letB; rw [decide_eq_false h.1,decide_eq_false h.2]; rfl
theorem eqb (c d:UInt8):((c.toNat:Int) == (d.toNat:Int))=(c == d):=by
 rw [Bool.eq_iff_iff,beq_iff_eq,beq_iff_eq]
 constructor
 ·intro h; exact UInt8.toNat_inj.1 (by omega)
 ·intro h; rw [h]
set_option maxHeartbeats 4000000 in
theorem refdigit_any (c:UInt8) (w:World) :
  Calls Tryz.prog 71 #[.int .u8 (c.toNat:Int)] w fun e w'=>e=.returned (.bool (digB c))∧w=w':=by
 have hc:=c.toNat_lt
 have HD:Hid (digB c=(decide (48≤c.toNat) && decide (c.toNat≤57))):=rfl
 go_enter Tryz.func71,Tryz.ntmps71
 go_wp2_with fail
 all_goals go_ret
 all_goals refine ⟨ret2 (congrArg Value.bool ?_),rfl⟩
 ·rw [HD.out,decide_eq_true (p:=48≤c.toNat) (by omega),Bool.true_and]; exact decide_eq_decide.2 (by omega)
 ·rw [HD.out,decide_eq_false (by omega),Bool.false_and]
set_option maxHeartbeats 4000000 in
theorem letter_any (c : UInt8) (w : World) :
    Calls Tryz.prog 105 #[.int .u8 (c.toNat : Int)] w fun e w' => e = .returned (.bool (letB c)) ∧ w = w' := by
  have hc := c.toNat_lt
  rcases (show (c.toNat < 65) ∨ (65 ≤ c.toNat ∧ c.toNat ≤ 90) ∨ (90 < c.toNat ∧ c.toNat < 97) ∨ (97 ≤ c.toNat ∧ c.toNat ≤ 122) ∨ 122 < c.toNat by omega) with h | h | h | h | h
  all_goals
    go_enter Tryz.func105, Tryz.ntmps105
    go_wp2_with fail
    all_goals go_ret
    all_goals refine ⟨ret2 (congrArg Value.bool ?_), rfl⟩
    all_goals first
      | exact (letB_t (by omega)).symm
      | exact (letB_f (by omega)).symm
      | (have hL : letB c = true := letB_t (by omega)
         rw [hL]
         first | rfl | exact (decide_eq_true (by omega)) | exact (decide_eq_true (by omega)).symm | (rw [decide_eq_true (by omega)]; done) | (rw [Bool.or_eq_true_iff]; simp only [decide_eq_true_eq]; omega))
      | (have hL : letB c = false := letB_f (by omega)
         rw [hL]
         first | rfl | exact (decide_eq_false (by omega)) | exact (decide_eq_false (by omega)).symm | (rw [Bool.or_eq_false_iff]; simp only [decide_eq_false_iff_not]; omega))
set_option maxHeartbeats 4000000 in
theorem blank_any (c:UInt8) (w:World) :
  Calls Tryz.prog 46 #[.int .u8 (c.toNat:Int)] w fun e w'=>e=.returned (.bool (blankB c))∧w=w':=by
 have h1:((c.toNat:Int) == 9)=(c == 9):=eqb c 9
 have h2:((c.toNat:Int) == 10)=(c == 10):=eqb c 10
 have h3:((c.toNat:Int) == 13)=(c == 13):=eqb c 13
 have h4:((c.toNat:Int) == 32)=(c == 32):=eqb c 32
 have HD:Hid (blankB c=((c == 32) || (c == 9) || (c == 10) || (c == 13))):=rfl
 obtain ⟨k1,e1⟩:∃ k,(c == 9)=k:=⟨_,rfl⟩
 obtain ⟨k2,e2⟩:∃ k,(c == 10)=k:=⟨_,rfl⟩
 obtain ⟨k3,e3⟩:∃ k,(c == 13)=k:=⟨_,rfl⟩
 obtain ⟨k4,e4⟩:∃ k,(c == 32)=k:=⟨_,rfl⟩
 rw [e1] at h1 HD; rw [e2] at h2 HD; rw [e3] at h3 HD; rw [e4] at h4 HD
 clear e1 e2 e3 e4
 cases k1<;>cases k2<;>cases k3<;>cases k4
 all_goals
  go_enter Tryz.func46,Tryz.ntmps46
  go_wp2_with fail
  go_ret
  exact ⟨ret2 (congrArg Value.bool (by rw [HD.out]; rfl)),rfl⟩
end Go.Proofs.YtgddkgbidhhheaaGreatDoor
namespace Go.Proofs.YtgddkgbidhhheaaGreatDoor
open Go.RowKit Flo Mk
theorem runB_let (x:UInt8):runB x=(letB x || digB x || x == 95):=rfl
set_option maxHeartbeats 8000000 in
set_option maxRecDepth 100000 in
theorem refrun_any (b o n c a : Nat) (t : List UInt8) (hn : t.length = n) (hb : n ≤ 16777216) (ha : a ≤ n) (w : World) (hT : ∀ j x, t[j]? = some x → w.cell? ⟨b, o + j, none⟩ = some (.int .u8 (x.toNat : Int))) :
    Calls Tryz.prog 70 #[.slice (some ⟨b, o, none⟩) n c, .int .i64 (a : Int)] w fun e w' => e = .returned (.int .i64 (((t.drop a).takeWhile runB).length : Int)) ∧ w = w' := by
  have HT := Lib.hid hT
  have HN := Lib.hid hn
  clear hT hn
  go_enter Tryz.func70, Tryz.ntmps70
  go_wp2_with fail
  go_loopg [5] (n - a) (fun g s5 wx => ∃ k : Nat, a + k + g = n ∧ s5 = .int .i64 (k : Int) ∧ wx = w ∧ Hid ((t.drop a).takeWhile runB = (t.drop a).take k ++ (t.drop (a + k)).takeWhile runB))
  case atStart => exact ⟨0, by omega, rfl, rfl, Lib.hid (by simp)⟩
  case round =>
    obtain ⟨k, hk, rfl, rfl, HR⟩ := hrel
    cases gk with
    | zero =>
      obtain rfl : k = n - a := by omega
      have HE : Hid (((t.drop a).takeWhile runB).length = n - a) := Lib.hid (by
        rw [HR.out, List.drop_of_length_le (show t.length ≤ a + (n - a) by rw [HN.out]; omega)]
        simp only [List.takeWhile_nil, List.append_nil, List.length_take, List.length_drop, HN.out]; omega)
      have hz : ((a : Int) + ((n - a : Nat) : Int)) = (n : Int) := by omega
      go_wp2_with fail
      go_ret
      exact ⟨ret2 (congrArg (Value.int .i64) (by rw [HE.out])), rfl⟩
    | succ g =>
      have hlt : a + k < n := by omega
      obtain ⟨x, hx⟩ : ∃ x, t[a + k]? = some x := ⟨_, List.getElem?_eq_getElem (by rw [HN.out]; exact hlt)⟩
      have hcx := HT.out _ x hx
      have hltz : (a : Int) + (k : Int) < (n : Int) := by omega
      have hdr := drop_cons hx
      have h95 : ((x.toNat : Int) == 95) = (x == 95) := eqb x 95
      have HRB := Lib.hid (runB_let x)
      obtain ⟨k1, e1⟩ : ∃ k, letB x = k := ⟨_, rfl⟩
      obtain ⟨k2, e2⟩ : ∃ k, digB x = k := ⟨_, rfl⟩
      obtain ⟨k3, e3⟩ : ∃ k, (x == 95) = k := ⟨_, rfl⟩
      have HQ1 := Lib.hid (fun w => letter_any x w)
      have HQ2 := Lib.hid (fun w => refdigit_any x w)
      rw [e1] at HRB HQ1; rw [e2] at HRB HQ2; rw [e3] at HRB h95
      have HDR := Lib.hid hdr
      have HX := Lib.hid hx
      clear e1 e2 e3 hdr hx
      have HYES : Hid (runB x = true → (t.drop a).takeWhile runB = (t.drop a).take (k + 1) ++ (t.drop (a + (k + 1))).takeWhile runB) := Lib.hid (fun h => by
        rw [HR.out, HDR.out, List.takeWhile_cons, if_pos h, List.take_add_one, List.getElem?_drop, HX.out, List.append_assoc]; rfl)
      have HNO : Hid (runB x = false → ((t.drop a).takeWhile runB).length = k) := Lib.hid (fun h => by
        rw [HR.out, HDR.out, List.takeWhile_cons, h]
        simp only [Bool.false_eq_true, if_false, List.append_nil, List.length_take, List.length_drop, HN.out]; omega)
      cases k1 <;> cases k2 <;> cases k3
      all_goals
        go_wp2_with (first | (go_at_call 105; refine (HQ1.out _).mono ?_; rintro e w' ⟨rfl, rfl⟩) | (go_at_call 71; refine (HQ2.out _).mono ?_; rintro e w' ⟨rfl, rfl⟩))
      · go_ret
        exact ⟨ret2 (congrArg (Value.int .i64) (by rw [HNO.out (by rw [HRB.out]; rfl)])), rfl⟩
      all_goals
        go_roundg g
        case measure => omega
        case rel => exact ⟨k + 1, by omega, by go_num, rfl, Lib.hid (HYES.out (by rw [HRB.out]; rfl))⟩
theorem sign_cases (x:UInt8):x=40∨x=41∨x=44∨x=58∨x=59∨x=61∨x=43∨x=45∨x=42∨x=47∨x=60∨x=124∨(sign1 x=false∧((x.toNat:Int) == 40)=false∧((x.toNat:Int) == 41)=false∧((x.toNat:Int) == 44)=false∧((x.toNat:Int) == 58)=false∧((x.toNat:Int) == 59)=false∧((x.toNat:Int) == 61)=false∧((x.toNat:Int) == 43)=false∧((x.toNat:Int) == 45)=false∧((x.toNat:Int) == 42)=false∧((x.toNat:Int) == 47)=false∧((x.toNat:Int) == 60)=false∧((x.toNat:Int) == 124)=false):=by
 refine u8_all (p:=fun x=>x=40∨x=41∨x=44∨x=58∨x=59∨x=61∨x=43∨x=45∨x=42∨x=47∨x=60∨x=124∨(sign1 x=false∧((x.toNat:Int) == 40)=false∧((x.toNat:Int) == 41)=false∧((x.toNat:Int) == 44)=false∧((x.toNat:Int) == 58)=false∧((x.toNat:Int) == 59)=false∧((x.toNat:Int) == 61)=false∧((x.toNat:Int) == 43)=false∧((x.toNat:Int) == 45)=false∧((x.toNat:Int) == 42)=false∧((x.toNat:Int) == 47)=false∧((x.toNat:Int) == 60)=false∧((x.toNat:Int) == 124)=false)) ?_ x
 decide +kernel
theorem sign_val (x:UInt8) (r:List UInt8) (k62 k61:Bool) (h1:(r.head? == some 62)=k62) (h2:(r.head? == some 61)=k61):signL (x :: r)=if (x == 45 && k62) || (x == 61 && k61) then 2 else if sign1 x then 1 else 0:=by
 subst h1 h2; rfl
theorem sign_no (x:UInt8) (k62 k61:Bool) (hs:sign1 x=false):(if (x == 45 && k62) || (x == 61 && k61) then 2 else if sign1 x then 1 else 0:Nat)=0:=by
 rw [hs]
 have h1:(x == 45)=false:=by
  cases h:(x == 45) with
  | false=>rfl
  | true=>rw [beq_iff_eq.1 h] at hs; cases hs
 have h2:(x == 61)=false:=by
  cases h:(x == 61) with
  | false=>rfl
  | true=>rw [beq_iff_eq.1 h] at hs; cases hs
 rw [h1,h2]; rfl
set_option maxHeartbeats 16000000 in
set_option maxRecDepth 100000 in
theorem refsign_any (b o n c a : Nat) (t : List UInt8) (hn : t.length = n) (hb : n ≤ 16777216) (ha : a < n) (w : World) (hT : ∀ j x, t[j]? = some x → w.cell? ⟨b, o + j, none⟩ = some (.int .u8 (x.toNat : Int))) :
    Calls Tryz.prog 75 #[.slice (some ⟨b, o, none⟩) n c, .int .i64 (a : Int)] w fun e w' => e = .returned (.int .i64 (signL (t.drop a) : Int)) ∧ w = w' := by
  obtain ⟨x, hx⟩ : ∃ x, t[a]? = some x := ⟨_, List.getElem?_eq_getElem (by rw [hn]; exact ha)⟩
  have hcx := hT _ x hx
  have haz : (a : Int) < (n : Int) := by omega
  by_cases h1 : a + 1 = n
  · have hz : ¬ ((a : Int) + 1 < (n : Int)) := by omega
    have HV : Hid (signL (t.drop a) = if (x == 45 && false) || (x == 61 && false) then 2 else if sign1 x then 1 else 0) := Lib.hid (by
      rw [drop_cons hx]
      have hd : t.drop (a + 1) = [] := List.drop_of_length_le (by omega)
      exact sign_val x _ _ _ (by rw [hd]; rfl) (by rw [hd]; rfl))
    clear hT hx h1 hn
    rcases sign_cases x with rfl | rfl | rfl | rfl | rfl | rfl | rfl | rfl | rfl | rfl | rfl | rfl | ⟨hs, e40, e41, e44, e58, e59, e61, e43, e45, e42, e47, e60, e124⟩
    rotate_right
    · rw [sign_no x false false hs] at HV
      clear hs
      go_enter Tryz.func75, Tryz.ntmps75
      go_wp2_with fail
      go_ret
      exact ⟨ret2 (congrArg (Value.int .i64) (by rw [HV.out]; rfl)), rfl⟩
    all_goals
      go_enter Tryz.func75, Tryz.ntmps75
      go_wp2_with fail
      go_ret
      exact ⟨ret2 (congrArg (Value.int .i64) (by rw [HV.out]; decide)), rfl⟩
  · have h2 : a + 1 < n := by omega
    have hz : (a : Int) + 1 < (n : Int) := by omega
    obtain ⟨y, hy⟩ : ∃ y, t[a + 1]? = some y := ⟨_, List.getElem?_eq_getElem (by rw [hn]; exact h2)⟩
    have hcy := hT _ y hy
    have e62 : ((y.toNat : Int) == 62) = (y == 62) := eqb y 62
    have e61' : ((y.toNat : Int) == 61) = (y == 61) := eqb y 61
    obtain ⟨k62, q62⟩ : ∃ k, (y == 62) = k := ⟨_, rfl⟩
    obtain ⟨k61, q61⟩ : ∃ k, (y == 61) = k := ⟨_, rfl⟩
    rw [q62] at e62; rw [q61] at e61'
    have HV : Hid (signL (t.drop a) = if (x == 45 && k62) || (x == 61 && k61) then 2 else if sign1 x then 1 else 0) := Lib.hid (by
      rw [drop_cons hx, drop_cons hy]
      exact sign_val x _ _ _ (by rw [← q62]; rfl) (by rw [← q61]; rfl))
    clear hT hx hy h1 h2 hn q62 q61
    cases k62 <;> cases k61
    all_goals
      rcases sign_cases x with rfl | rfl | rfl | rfl | rfl | rfl | rfl | rfl | rfl | rfl | rfl | rfl | ⟨hs, e40, e41, e44, e58, e59, e61, e43, e45, e42, e47, e60, e124⟩
      rotate_right
      · rw [sign_no x _ _ hs] at HV
        clear hs
        go_enter Tryz.func75, Tryz.ntmps75
        go_wp2_with fail
        go_ret
        exact ⟨ret2 (congrArg (Value.int .i64) (by rw [HV.out]; rfl)), rfl⟩
      all_goals
        go_enter Tryz.func75, Tryz.ntmps75
        go_wp2_with fail
        go_ret
        exact ⟨ret2 (congrArg (Value.int .i64) (by rw [HV.out]; decide)), rfl⟩
end Go.Proofs.YtgddkgbidhhheaaGreatDoor
namespace Go.Proofs.YtgddkgbidhhheaaGreatDoor
open Go.RowKit Flo Mk
theorem refwords_any (w:World) :
  Calls Tryz.prog 109 #[] w fun e w'=>e=.returned (.slice (some ⟨w.heap.size,0,none⟩) 19 19)∧w'=w.alloc (.cells (resvS.map Value.string).toArray 9):=by
 go_enter Tryz.func109,Tryz.ntmps109
 go_wp2_with fail
 go_ret
 exact ⟨rfl,rfl⟩
def rw' (j:Nat):ByteArray:=resvS.getD j ⟨#[]⟩
theorem resv_row (X:World) (j:Nat) (hj:j < 19):(X.alloc (.cells (resvS.map Value.string).toArray 9)).cell? ⟨X.heap.size,j,none⟩=some (.string (rw' j)):=by
 rw [World.cell?_alloc_at _ _ _ _ rfl]
 have:j < resvS.length:=hj
 simp [rw',List.getD,this]
theorem resv_mem (s:ByteArray):(s.data.toList ∈ resv)↔∃ j,j < 19∧rw' j=s:=by
 have h0:=contains_resv s
 rw [Bool.eq_iff_iff,Lib.containsS_iff,decide_eq_true_eq] at h0
 rw [← h0]
 show s ∈ resvS↔_
 constructor
 ·intro h
  obtain ⟨j,hj,rfl⟩:=List.mem_iff_getElem.1 h
  exact ⟨j,hj,by simp [rw',List.getD,hj]⟩
 ·rintro ⟨j,hj,rfl⟩
  have:j < resvS.length:=hj
  simp [rw',List.getD,this]
set_option maxHeartbeats 4000000 in
theorem refreserved_any (s : ByteArray) (w : World) :
    Calls Tryz.prog 74 #[.string s] w fun e w' => e = .returned (.bool (decide (s.data.toList ∈ resv))) ∧ Below w.heap.size w w' := by
  have HB := Lib.hid (below_alloc w (.cells (resvS.map Value.string).toArray 9))
  have HC := Lib.hid (resv_row w)
  have HR := Lib.hid (resv_mem s)
  obtain ⟨X, hX⟩ : ∃ X, w.alloc (.cells (resvS.map Value.string).toArray 9) = X := ⟨_, rfl⟩
  have HQ := Lib.hid (refwords_any w)
  rw [hX] at HB HC HQ
  obtain ⟨B, hB⟩ : ∃ B, w.heap.size = B := ⟨_, rfl⟩
  have HB' := Lib.hid (hB ▸ HB.out)
  rw [hB] at HC HQ ⊢
  clear hX hB HB
  go_enter Tryz.func74, Tryz.ntmps74
  go_wp2_with fail
  refine HQ.out.mono ?_; rintro e w' ⟨rfl, rfl⟩
  go_wp2_with fail
  go_loopg [4] 19 (fun g s4 wx => ∃ k : Nat, k + g = 19 ∧ s4 = .int .i64 (k : Int) ∧ wx = w' ∧ Hid (∀ j, j < k → rw' j ≠ s))
  case atStart => exact ⟨0, rfl, rfl, rfl, fun j hj => absurd hj (Nat.not_lt_zero j)⟩
  case round =>
    obtain ⟨k, hk, rfl, rfl, hne⟩ := hrel
    cases gk with
    | zero =>
      obtain rfl : k = 19 := by omega
      have HF : Hid (decide (s.data.toList ∈ resv) = false) := Lib.hid (decide_eq_false fun h => by
        obtain ⟨j, hj, e⟩ := HR.out.1 h
        exact hne.out j hj e)
      go_wp2_with fail
      go_ret
      exact ⟨ret2 (congrArg Value.bool HF.out.symm), HB'.out⟩
    | succ g =>
      have hkl : k < 19 := by omega
      have hkz : (k : Int) < 19 := by omega
      have hc := HC.out k hkl
      obtain ⟨x, hx⟩ : ∃ x, rw' k = x := ⟨_, rfl⟩
      rw [hx] at hc
      have HX := Lib.hid hx
      clear hx
      by_cases he : x = s
      · subst he
        have HF : Hid (decide (x.data.toList ∈ resv) = true) := Lib.hid (decide_eq_true (HR.out.2 ⟨k, hkl, HX.out⟩))
        go_wp2_with fail
        go_ret
        exact ⟨ret2 (congrArg Value.bool HF.out.symm), HB'.out⟩
      · have hb : (x.toList == s.toList) = false := beq_eq_false_iff_ne.2 fun h => he (by
          rw [Lib.toList_data, Lib.toList_data] at h
          apply ByteArray.ext; exact Array.toList_inj.1 h)
        have HNE : Hid (∀ j, j < k + 1 → rw' j ≠ s) := Lib.hid fun j hj => by
          rcases Nat.lt_or_eq_of_le (Nat.le_of_lt_succ hj) with h | rfl
          · exact hne.out j h
          · rw [HX.out]; exact he
        clear hne he
        go_wp2_with fail
        go_roundg g
        case measure => omega
        case rel => exact ⟨k + 1, by omega, by go_num, rfl, HNE⟩
end Go.Proofs.YtgddkgbidhhheaaGreatDoor
namespace Go.Proofs.YtgddkgbidhhheaaGreatDoor
open Go.RowKit Flo Mk
structure BoxO (w X:World) (m0 m1 m2 m3:Value):Prop where
 below:Below w.heap.size w X
 r0:X.cell? ⟨w.heap.size,0,none⟩=some (.int .i64 0)
 r1:X.cell? ⟨w.heap.size,1,none⟩=some (.string ⟨#[]⟩)
 r2:X.cell? ⟨w.heap.size,2,none⟩=some (.complex .f64 0 0)
 r3:X.cell? ⟨w.heap.size,3,none⟩=some (.int .i64 0)
 rf:∀ o,X.frozen? ⟨w.heap.size,o,none⟩=false
 m0:X.cell? ⟨w.heap.size + 1,0,none⟩=some m0
 m1:X.cell? ⟨w.heap.size + 1,1,none⟩=some m1
 m2:X.cell? ⟨w.heap.size + 1,2,none⟩=some m2
 m3:X.cell? ⟨w.heap.size + 1,3,none⟩=some m3
 mf:∀ o,X.frozen? ⟨w.heap.size + 1,o,none⟩=false
 size:w.heap.size + 2≤X.heap.size
theorem BoxO.on {w X Y:World} {m0 m1 m2 m3:Value} (h:BoxO w X m0 m1 m2 m3) (hb:Below X.heap.size X Y):BoxO w Y m0 m1 m2 m3:=by
 have hs:=h.size
 have c0:∀ k,Y.cell? ⟨w.heap.size,k,none⟩=X.cell? ⟨w.heap.size,k,none⟩:=fun k=>hb.cell (p:=⟨w.heap.size,k,none⟩) (by show w.heap.size < _; omega)
 have c1:∀ k,Y.cell? ⟨w.heap.size + 1,k,none⟩=X.cell? ⟨w.heap.size + 1,k,none⟩:=fun k=>hb.cell (p:=⟨w.heap.size + 1,k,none⟩) (by show w.heap.size + 1 < _; omega)
 exact ⟨h.below.trans (hb.mono h.below.size),(c0 0).trans h.r0,(c0 1).trans h.r1,(c0 2).trans h.r2,(c0 3).trans h.r3,
  fun o=>(hb.frozen (p:=⟨w.heap.size,o,none⟩) (by show w.heap.size < _; omega)).trans (h.rf o),
  (c1 0).trans h.m0,(c1 1).trans h.m1,(c1 2).trans h.m2,(c1 3).trans h.m3,
  fun o=>(hb.frozen (p:=⟨w.heap.size + 1,o,none⟩) (by show w.heap.size + 1 < _; omega)).trans (h.mf o),by have:=hb.size; omega⟩
theorem BoxO.start (w:World) (S:ByteArray) (a:Int):BoxO w ((w.alloc (.cells #[.int .i64 0,.string ⟨#[]⟩,.complex .f64 0 0,.int .i64 0] 40)).alloc (.cells #[.int .i64 0,.string S,.complex .f64 0 0,.int .i64 a] 40)) (.int .i64 0) (.string S) (.complex .f64 0 0) (.int .i64 a):=by
 refine ⟨((Below.refl _ _).alloc (Nat.le_refl _) _).alloc (by simp) _,?_,?_,?_,?_,?_,?_,?_,?_,?_,?_,by simp⟩
 all_goals first | (intro o; simp [go_sem]; done) | (simp [go_sem]; done)
theorem BoxO.set {w X:World} {m0 m1 m2 m3:Value} (h:BoxO w X m0 m1 m2 m3) (k:Nat) (v:Value) (hk:k < 4) :
  BoxO w (X.setCell ⟨w.heap.size + 1,k,none⟩ v) (if k=0 then v else m0) (if k=1 then v else m1) (if k=2 then v else m2) (if k=3 then v else m3):=by
 obtain ⟨hb,r0,r1,r2,r3,rf,k0,k1,k2,k3,mf,size⟩:=h
 refine ⟨hb.setCell (p:=⟨w.heap.size + 1,k,none⟩) (Nat.le_succ _) _,?_,?_,?_,?_,?_,?_,?_,?_,?_,?_,by simpa [World.setCell] using size⟩
 ·simp [go_sem,r0]
 ·simp [go_sem,r1]
 ·simp [go_sem,r2]
 ·simp [go_sem,r3]
 ·intro o; simp [go_sem,rf]
 ·rcases (show k=0∨k=1∨k=2∨k=3 by omega) with rfl | rfl | rfl | rfl<;>simp [go_sem,k0]
 ·rcases (show k=0∨k=1∨k=2∨k=3 by omega) with rfl | rfl | rfl | rfl<;>simp [go_sem,k1]
 ·rcases (show k=0∨k=1∨k=2∨k=3 by omega) with rfl | rfl | rfl | rfl<;>simp [go_sem,k2]
 ·rcases (show k=0∨k=1∨k=2∨k=3 by omega) with rfl | rfl | rfl | rfl<;>simp [go_sem,k3]
 ·intro o; simp [go_sem,mf]
def OneR (l:List UInt8) (a:Nat) (e:Ending):Prop:=
 (∃ m,one l a=some m∧e=.returned (.tuple #[aggM m,.bool true])) ∨
 (one l a=none∧∃ k s x y at',e=.returned (.tuple #[markV k s x y at',.bool false]))
set_option maxHeartbeats 16000000 in
set_option maxRecDepth 100000 in
theorem refone_run (b o n c a : Nat) (t : List UInt8) (hn : t.length = n) (hnc : n ≤ c) (hb : n ≤ 16777216) (ha : a < n) (w : World) (hT : ∀ j x, t[j]? = some x → w.cell? ⟨b, o + j, none⟩ = some (.int .u8 (x.toNat : Int))) (x : UInt8) (hx : t[a]? = some x) (hr : runB x = true) :
    Calls Tryz.prog 47 #[.slice (some ⟨b, o, none⟩) n c, .int .i64 (a : Int)] w fun e w' => OneR (t.drop a) a e ∧ Below w.heap.size w w' := by
  obtain ⟨r, hrl⟩ : ∃ r, ((t.drop a).takeWhile runB).length = r := ⟨_, rfl⟩
  have hdr := drop_cons hx
  have hr0 : 0 < r := by rw [← hrl, hdr, List.takeWhile_cons, if_pos hr]; simp
  have hrn : a + r ≤ n := by
    have h := tw_len runB (t.drop a)
    rw [hrl, List.length_drop, hn] at h; omega
  obtain ⟨S, hSd⟩ : ∃ S : ByteArray, S.data.toList = (t.drop a).takeWhile runB := ⟨⟨((t.drop a).takeWhile runB).toArray⟩, by simp⟩
  have hST : S.data.toList = (t.drop a).take r := by rw [hSd, ← hrl, tw_take]
  have hOne : one (t.drop a) a = wordM S.data.toList a := by
    unfold one
    rw [if_pos (by rw [hdr]; show some (runB x) = _; rw [hr]), hSd]
  have hhd : S.data.toList.head? = some x := by rw [hSd, hdr, List.takeWhile_cons, if_pos hr]; rfl
  have hQ := fun W hW => refrun_any b o n c a t hn hb (Nat.le_of_lt ha) W hW
  rw [hrl] at hQ
  have rd0 : ∀ o', ∀ j y, t[j]? = some y → (w.alloc o').cell? ⟨b, o + j, none⟩ = some (.int .u8 (y.toNat : Int)) := fun o' j y hj => Lib.cell?_alloc_marked o' (hT j y hj)
  have hcv := fun o' => conv_txt (w.alloc o') b (o + a) r (c - a) S (by rw [hSd]; exact hrl) (fun j y hy => by
    rw [hST, List.getElem?_take] at hy
    split at hy
    · rw [List.getElem?_drop] at hy
      have := rd0 o' _ y hy
      rw [← Nat.add_assoc] at this; exact this
    · cases hy)
  have hcx := hT a x hx
  have hcx2 : ∀ o1 o2, ((w.alloc o1).alloc o2).cell? ⟨b, o + a, none⟩ = some (.int .u8 (x.toNat : Int)) := fun o1 o2 => Lib.cell?_alloc_marked o2 (Lib.cell?_alloc_marked o1 hcx)
  have haz : (a : Int) < (n : Int) := by omega
  have hrz : (0 : Int) < (r : Int) := by omega
  have hSl : S.size ≤ 140737488351232 := by rw [Lib.size_eq, hSd, hrl]; omega
  have HST := Lib.hid (BoxO.start w S (a : Int))
  have HQ := Lib.hid hQ
  have HRD := Lib.hid rd0
  have HO := Lib.hid hOne
  have HHD := Lib.hid hhd
  have HSL := Lib.hid hSl
  have HD := Lib.hid (fun w => refdigit_any x w)
  have h95 : ((x.toNat : Int) == 95) = (x == 95) := eqb x 95
  clear hQ rd0 hOne hhd hSl hSd hST hdr hrl hT hx hn
  obtain ⟨d, hd⟩ : ∃ d, digB x = d := ⟨_, rfl⟩
  rw [hd] at HD
  obtain ⟨u, hu⟩ : ∃ u, (x == 95) = u := ⟨_, rfl⟩
  rw [hu] at h95
  cases d
  · cases u
    · have hx95 : ¬ x = 95 := fun h => by rw [h] at hu; cases hu
      obtain ⟨q, hq⟩ : ∃ q, decide (S.data.toList ∈ resv) = q := ⟨_, rfl⟩
      have HRV := Lib.hid (fun w => refreserved_any S w)
      rw [hq] at HRV
      have hnd : ¬ (S.data.toList.head?.map digB) = some true := by
        rw [HHD.out]; show ¬ some (digB x) = some true; rw [hd]; simp
      have hw : wordM S.data.toList a = some ⟨if q then 1 else 0, S.data.toList, (0, 0), a⟩ := by
        unfold wordM
        rw [if_neg hnd]
        cases q with
        | true => rw [if_pos (of_decide_eq_true hq)]; rfl
        | false => rw [if_neg (of_decide_eq_false hq), if_neg (by rw [HHD.out]; exact fun e => hx95 (Option.some.inj e))]; rfl
      have HW := Lib.hid (HO.out.trans hw)
      clear hd hu hx95 hnd hw hq
      have HM : ∀ k : Nat, Hid (aggM ⟨k, S.data.toList, (0, 0), a⟩ = markV k S 0 0 a) := fun k => Lib.hid (by
        show Value.agg #[_, .string ⟨S.data.toList.toArray⟩, .complex .f64 (W 0) (W 0), _] = _
        rw [← ba_list (rfl : S.data.toList = S.data.toList), zero00])
      have HM0 := HM 0
      have HM1 := HM 1
      clear HM
      cases q
      all_goals
        go_enter Tryz.func47, Tryz.ntmps47
        go_wp2_with fail
        refine (HQ.out _ (HRD.out _)).mono ?_; rintro e w' ⟨rfl, rfl⟩
        go_wp2_with (go_at_call 71; refine (HD.out _).mono ?_; rintro e w' ⟨rfl, rfl⟩)
        refine (HRV.out _).mono ?_; rintro e w2 ⟨rfl, hb2⟩
        have BX := Lib.hid (HST.out.on hb2)
        obtain ⟨-, r0, r1, r2, r3, rf, k0, k1, k2, k3, mf, -⟩ := HST.out.on hb2
        clear hb2
        go_wp2_with fail
      · exact bodyPost_ret (v := .tuple #[markV 0 S 0 0 a, .bool true]) (by simp [results, Tryz.results47, go_sem, r0, r1, r2, r3]) rfl ⟨Or.inl ⟨_, HW.out, by rw [← HM0.out]; rfl⟩, by
          repeat (first | exact BX.out.below | refine Below.setCell ?_ (by first | exact Nat.le_refl _ | exact Nat.le_succ _) _)⟩
      · exact bodyPost_ret (v := .tuple #[markV 1 S 0 0 a, .bool true]) (by simp [results, Tryz.results47, go_sem, r0, r1, r2, r3]) rfl ⟨Or.inl ⟨_, HW.out, by rw [← HM1.out]; rfl⟩, by
          repeat (first | exact BX.out.below | refine Below.setCell ?_ (by first | exact Nat.le_refl _ | exact Nat.le_succ _) _)⟩
    · have HN : Hid (one (t.drop a) a = none) := Lib.hid (by
        rw [HO.out]
        unfold wordM
        rw [HHD.out]
        have hx95 : x = 95 := beq_iff_eq.1 hu
        rw [if_neg (by show ¬ some (digB x) = some true; rw [hd]; simp), if_neg, if_pos (by rw [hx95])]
        intro hm
        have h1 := (resv_head _ hm).1
        have hall : ∀ l ∈ resv, l.head? ≠ some 95 := by decide
        exact hall _ hm (by rw [HHD.out, hx95]))
      clear hd hu
      go_enter Tryz.func47, Tryz.ntmps47
      go_wp2_with fail
      refine (HQ.out _ (HRD.out _)).mono ?_; rintro e w' ⟨rfl, rfl⟩
      go_wp2_with (go_at_call 71; refine (HD.out _).mono ?_; rintro e w' ⟨rfl, rfl⟩)
      exact bodyPost_ret (v := .tuple #[markV 0 S 0 0 a, .bool false]) (by simp [results, Tryz.results47, go_sem]) rfl ⟨Or.inr ⟨HN.out, _, _, _, _, _, rfl⟩, by repeat (first | exact Below.refl _ _ | refine Below.setCell ?_ (by first | exact Nat.le_refl _ | exact Nat.le_succ _) _ | refine Below.drew ?_ | refine Go.below_drewN ?_ _ | refine Below.alloc ?_ (by simp <;> omega) _)⟩
  · obtain ⟨p, hp⟩ : ∃ p, refParse S.data.toList = p := ⟨_, rfl⟩
    have HP := Lib.hid (fun w => refParse_any S HSL.out w)
    rw [hp] at HP
    have hw : wordM S.data.toList a = p.map (fun p => ⟨2, S.data.toList, p, a⟩) := by
      unfold wordM
      rw [if_pos (by rw [HHD.out]; show some (digB x) = some true; rw [hd]), hp]
    have HW := Lib.hid (HO.out.trans hw)
    have HZ := Lib.hid refZ_any
    clear hd hu hw hp
    obtain ⟨X, Y, er, hv, hcase⟩ : ∃ (X Y er : Int), refA p = .tuple #[.agg #[.int .i64 X, .int .i64 Y], .int .i64 er] ∧ ((p = some (X, Y) ∧ er = 0) ∨ (p = none ∧ er = 10)) := by
      cases p with
      | none => exact ⟨0, 0, 10, rfl, Or.inr ⟨rfl, rfl⟩⟩
      | some q => exact ⟨q.1, q.2, 0, rfl, Or.inl ⟨rfl, rfl⟩⟩
    rw [hv] at HP
    have HC := Lib.hid hcase
    clear hv hcase
    go_enter Tryz.func47, Tryz.ntmps47
    go_wp2_with fail
    refine (HQ.out _ (HRD.out _)).mono ?_; rintro e w' ⟨rfl, rfl⟩
    go_wp2_with (go_at_call 71; refine (HD.out _).mono ?_; rintro e w' ⟨rfl, rfl⟩)
    refine (HP.out _).mono ?_; rintro e w2 ⟨rfl, hb2⟩
    have B0 := HST.out.on hb2
    have B1 := B0.on (below_alloc w2 (.cells #[.int .i64 X, .int .i64 Y] 127))
    have B2 : BoxO w ((w2.alloc (.cells #[.int .i64 X, .int .i64 Y] 127)).setCell ⟨w.heap.size + 1, 0, none⟩ (.int .i64 2)) (.int .i64 2) (.string S) (.complex .f64 0 0) (.int .i64 (a : Int)) := B1.set 0 (.int .i64 2) (by decide)
    have HB2 := Lib.hid B2
    have hn1 : ¬ (w2.heap.size = w.heap.size + 1) := by have := B0.size; omega
    have hn2 : ¬ (w.heap.size + 1 = w2.heap.size) := by have := B0.size; omega
    obtain ⟨-, r0, r1, r2, r3, rf, k0, k1, k2, k3, mf, hsz⟩ := B1
    clear hb2 B0 B2
    go_wp2_with fail
    refine (HZ.out X Y _).mono ?_; rintro e w3 ⟨rfl, hb3⟩
    have B3 := HB2.out.on hb3
    have HB3 := Lib.hid B3
    clear hb3 r0 r1 r2 r3 rf k0 k1 k2 k3 mf hsz hn1 hn2
    obtain ⟨-, r0, r1, r2, r3, rf, k0, k1, k2, k3, mf, hsz⟩ := B3
    obtain ⟨u1, hu1⟩ : ∃ u1, W X = u1 := ⟨_, rfl⟩
    obtain ⟨u2, hu2⟩ : ∃ u2, W Y = u2 := ⟨_, rfl⟩
    rw [hu1, hu2]
    have HU := Lib.hid (And.intro hu1 hu2)
    clear hu1 hu2
    rcases HC.out with ⟨rfl, rfl⟩ | ⟨rfl, rfl⟩
    · go_wp2_with fail
      refine bodyPost_ret (v := .tuple #[markV 2 S u1 u2 a, .bool true]) (by simp [results, Tryz.results47, go_sem, r0, r1, r2, r3]) rfl ⟨Or.inl ⟨_, HW.out, ?_⟩, by
          repeat (first | exact HB3.out.below | refine Below.setCell ?_ (by first | exact Nat.le_refl _ | exact Nat.le_succ _) _)⟩
      obtain ⟨hu1, hu2⟩ := HU.out
      show _ = Ending.returned (.tuple #[.agg #[_, .string ⟨S.data.toList.toArray⟩, .complex .f64 (W X) (W Y), _], _])
      rw [← ba_list (rfl : S.data.toList = S.data.toList), hu1, hu2]
    · go_wp2_with fail
      exact bodyPost_ret (v := .tuple #[markV 2 S u1 u2 a, .bool false]) (by simp [results, Tryz.results47, go_sem, r0, r1, r2, r3]) rfl ⟨Or.inr ⟨HW.out, _, _, _, _, _, rfl⟩, by
          repeat (first | exact HB3.out.below | refine Below.setCell ?_ (by first | exact Nat.le_refl _ | exact Nat.le_succ _) _)⟩
end Go.Proofs.YtgddkgbidhhheaaGreatDoor
namespace Go.Proofs.YtgddkgbidhhheaaGreatDoor
open Go.RowKit Flo Mk
set_option maxHeartbeats 16000000 in
set_option maxRecDepth 100000 in
theorem refone_sign (b o n c a : Nat) (t : List UInt8) (hn : t.length = n) (hnc : n ≤ c) (hb : n ≤ 16777216) (ha : a < n) (w : World) (hT : ∀ j x, t[j]? = some x → w.cell? ⟨b, o + j, none⟩ = some (.int .u8 (x.toNat : Int))) (x : UInt8) (hx : t[a]? = some x) (hr : runB x = false) :
    Calls Tryz.prog 47 #[.slice (some ⟨b, o, none⟩) n c, .int .i64 (a : Int)] w fun e w' => OneR (t.drop a) a e ∧ Below w.heap.size w w' := by
  have hdr := drop_cons hx
  have hrl : ((t.drop a).takeWhile runB).length = 0 := by rw [hdr, List.takeWhile_cons, hr]; rfl
  obtain ⟨sl, hsl⟩ : ∃ sl, signL (t.drop a) = sl := ⟨_, rfl⟩
  have hle : sl ≤ 2 ∧ a + sl ≤ n := by
    have h1 := signL_two (t.drop a)
    have h2 := signL_le (t.drop a)
    rw [List.length_drop, hn] at h2
    omega
  have hOne : one (t.drop a) a = if sl = 0 then none else some ⟨3, (t.drop a).take sl, (0, 0), a⟩ := by
    unfold one
    rw [if_neg (by rw [hdr]; show ¬ some (runB x) = some true; rw [hr]; simp), hsl]
  obtain ⟨S3, hS3⟩ : ∃ S : ByteArray, S.data.toList = (t.drop a).take sl := ⟨⟨((t.drop a).take sl).toArray⟩, by simp⟩
  have hQ := fun W hW => refrun_any b o n c a t hn hb (Nat.le_of_lt ha) W hW
  rw [hrl] at hQ
  have hG := fun W hW => refsign_any b o n c a t hn hb ha W hW
  rw [hsl] at hG
  have rd : ∀ X, Below w.heap.size w X → ∀ j y, t[j]? = some y → X.cell? ⟨b, o + j, none⟩ = some (.int .u8 (y.toNat : Int)) := fun X hX j y hj => (hX.cell (World.block_lt_of_cell? w _ (hT j y hj))).trans (hT j y hj)
  have B0 := BoxO.start w ⟨#[]⟩ (a : Int)
  have hcv0 := fun o' => conv_txt (w.alloc o') b (o + a) 0 (c - a) ⟨#[]⟩ rfl (fun j y hy => by simp at hy)
  have hcv3 := fun o1 o2 => conv_txt ((w.alloc o1).alloc o2) b (o + a) sl (c - a) S3 (by rw [hS3, List.length_take, List.length_drop, hn]; omega) (fun j y hy => by
    rw [hS3, List.getElem?_take] at hy
    split at hy
    · rw [List.getElem?_drop] at hy
      have := rd _ (((Below.refl _ _).alloc (Nat.le_refl _) o1).alloc (by simp) o2) _ y hy
      rw [← Nat.add_assoc] at this; exact this
    · cases hy)
  have haz : (a : Int) < (n : Int) := by omega
  have HRD := Lib.hid rd
  have HQ := Lib.hid hQ
  have HG := Lib.hid hG
  have HO := Lib.hid hOne
  have HS3 := Lib.hid hS3
  have HB0 := Lib.hid B0
  have HL := Lib.hid (show ((t.drop a).take sl).length = sl by rw [List.length_take, List.length_drop, hn]; omega)
  clear hQ hG hOne hS3 rd hdr hrl hsl hT hx hr hn B0
  rcases (show sl = 0 ∨ sl = 1 ∨ sl = 2 by omega) with rfl | rfl | rfl
  all_goals
    go_enter Tryz.func47, Tryz.ntmps47
    go_wp2_with fail
    refine (HQ.out _ (HRD.out _ (below_alloc _ _))).mono ?_; rintro e w' ⟨rfl, rfl⟩
    go_wp2_with fail
    refine (HG.out _ (HRD.out _ HB0.out.below)).mono ?_; rintro e w' ⟨rfl, rfl⟩
    go_wp2_with fail
  · exact bodyPost_ret (v := .tuple #[markV 3 S3 0 0 a, .bool false]) (by simp [results, Tryz.results47, go_sem]) rfl ⟨Or.inr ⟨HO.out, _, _, _, _, _, rfl⟩, ((Below.refl _ _).alloc (Nat.le_refl _) _).alloc (by simp) _⟩
  · refine bodyPost_ret (v := .tuple #[markV 3 S3 0 0 a, .bool true]) (by simp [results, Tryz.results47, go_sem]) rfl ⟨Or.inl ⟨_, HO.out, ?_⟩, ((Below.refl _ _).alloc (Nat.le_refl _) _).alloc (by simp) _⟩
    show _ = Ending.returned (.tuple #[.agg #[_, .string ⟨((t.drop a).take 1).toArray⟩, .complex .f64 (W 0) (W 0), _], _])
    rw [← HS3.out, ← ba_list (rfl : S3.data.toList = S3.data.toList), zero00]
  · refine bodyPost_ret (v := .tuple #[markV 3 S3 0 0 a, .bool true]) (by simp [results, Tryz.results47, go_sem]) rfl ⟨Or.inl ⟨_, HO.out, ?_⟩, ((Below.refl _ _).alloc (Nat.le_refl _) _).alloc (by simp) _⟩
    show _ = Ending.returned (.tuple #[.agg #[_, .string ⟨((t.drop a).take 2).toArray⟩, .complex .f64 (W 0) (W 0), _], _])
    rw [← HS3.out, ← ba_list (rfl : S3.data.toList = S3.data.toList), zero00]
theorem refone_any (b o n c a:Nat) (t:List UInt8) (hn:t.length=n) (hnc:n≤c) (hb:n≤16777216) (ha:a < n) (w:World) (hT:∀ j x,t[j]? = some x→w.cell? ⟨b,o + j,none⟩=some (.int .u8 (x.toNat:Int))) :
  Calls Tryz.prog 47 #[.slice (some ⟨b,o,none⟩) n c,.int .i64 (a:Int)] w fun e w'=>OneR (t.drop a) a e∧Below w.heap.size w w':=by
 obtain ⟨x,hx⟩:∃ x,t[a]? = some x:=⟨_,List.getElem?_eq_getElem (by rw [hn]; exact ha)⟩
 cases hr:runB x with
 | true=>exact refone_run b o n c a t hn hnc hb ha w hT x hx hr
 | false=>exact refone_sign b o n c a t hn hnc hb ha w hT x hx hr
end Go.Proofs.YtgddkgbidhhheaaGreatDoor
