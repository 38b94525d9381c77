/- Texts joined: Rparse. -/
import Derived.Test.YtgddkgbidhhheaaGreatDoorKtao
import Derived.Test.YtgddkgbidhhheaaGreatDoorKtac
import Derived.Test.YtgddkgbidhhheaaGreatDoorKtaf
namespace Go.Proofs.YtgddkgbidhhheaaGreatDoor
open Go.RowKit Flo
def refA:Option (Int × Int)→Value
 | some (x,y)=>.tuple #[.agg #[.int .i64 x,.int .i64 y],.int .i64 0]
 | none=>.tuple #[.agg #[.int .i64 0,.int .i64 0],.int .i64 10]
set_option maxHeartbeats 4000000 in
set_option maxRecDepth 4000 in
theorem refParse_no (s:ByteArray) (hs:s.size≤140737488351232) (hk:(wholeL s.data.toList).2=0) (w:World) :
  Calls Tryz.prog 72 #[.string s] w fun e w'=>e=.returned (refA (refParse s.data.toList))∧Below w.heap.size w w':=by
 have HF:=Lib.hid (show refParse s.data.toList=none by unfold refParse; rw [if_pos hk])
 obtain ⟨x,hx⟩:∃ x,(wholeL s.data.toList).1=x:=⟨_,rfl⟩
 have qw:=fun w=>whole_any s hs w
 rw [hk,hx] at qw
 have QW:=Lib.hid qw
 clear hk hx qw
 go_enter Tryz.func72,Tryz.ntmps72
 go_wp2_with fail
 refine (QW.out _).mono ?_; rintro e w1 ⟨rfl,hb1⟩
 have K1:Keep w [(w.heap.size,0,.int .i64 0),(w.heap.size,1,.int .i64 0)] w1:=Keep.below hb1 (Keep.alloc2 (k:=w.heap.size) _ _ 127 (by simp) (Keep.start w))
 have F1:∀ o,w1.frozen? ⟨w.heap.size,o,none⟩=false:=fun o=>(hb1.frozen (p:=⟨w.heap.size,o,none⟩) (by simp<;>omega)).trans (by simp [go_sem])
 clear hb1
 obtain ⟨⟨k0,z0,k1,z1,_⟩,hB⟩:=id K1
 clear hB
 go_wp2_with fail
 exact bodyPost_ret (v:=.tuple #[.agg #[.int .i64 0,.int .i64 0],.int .i64 10]) (by simp [results,Tryz.results72,go_sem,k0,k1]) rfl ⟨ret2 (by rw [HF.out]; rfl),((And.right K1).setCell (p:=⟨w.heap.size,0,none⟩) (Nat.le_refl _) _).setCell (p:=⟨w.heap.size,1,none⟩) (Nat.le_refl _) _⟩
set_option maxHeartbeats 4000000 in
set_option maxRecDepth 4000 in
theorem rp_An (s:ByteArray) (hs:s.size≤140737488351232) (x:Int) (k:Nat) (hk:wholeL s.data.toList=(x,k + 1)) (hkl:k + 1≤s.size) (hex:s.extract (k + 1) s.size=⟨#[105]⟩) (ho:okR 0 x=false) (hF:refParse s.data.toList=none) (w:World) :
  Calls Tryz.prog 72 #[.string s] w fun e w'=>e=.returned (refA (refParse s.data.toList))∧Below w.heap.size w w':=by
 have HF:=Lib.hid hF
 have qw:=fun w=>whole_any s hs w
 rw [hk] at qw
 have QW:=Lib.hid qw
 have qi:=fun w=>in_any (0) (x) w
 rw [bnd_neg ho] at qi
 have QI:=Lib.hid qi
 clear hF hk qw qi ho
 go_enter Tryz.func72,Tryz.ntmps72
 go_wp2_with fail
 refine (QW.out _).mono ?_; rintro e w1 ⟨rfl,hb1⟩
 have K1:Keep w [(w.heap.size,0,.int .i64 0),(w.heap.size,1,.int .i64 0)] w1:=Keep.below hb1 (Keep.alloc2 (k:=w.heap.size) _ _ 127 (by simp) (Keep.start w))
 have F1:∀ o,w1.frozen? ⟨w.heap.size,o,none⟩=false:=fun o=>(hb1.frozen (p:=⟨w.heap.size,o,none⟩) (by simp<;>omega)).trans (by simp [go_sem])
 clear hb1
 obtain ⟨⟨k0,z0,k1,z1,_⟩,hB⟩:=id K1
 clear hB
 go_wp2_with fail
 refine (QI.out _).mono ?_; rintro e w2 ⟨rfl,hb2⟩
 have K2:Keep w [(w1.heap.size,0,.int .i64 (0)),(w1.heap.size,1,.int .i64 (x)),(w.heap.size,0,.int .i64 0),(w.heap.size,1,.int .i64 0)] w2:=Keep.below hb2 (Keep.alloc2 (k:=w1.heap.size) _ _ 127 (by simp) K1)
 have F2:∀ o,w2.frozen? ⟨w.heap.size,o,none⟩=false:=fun o=>(hb2.frozen (p:=⟨w.heap.size,o,none⟩) (by simp<;>omega)).trans (by simp [go_sem,F1,z0])
 clear hb2 F1
 clear k0 z0 k1 z1
 obtain ⟨⟨k0,z0,k1,z1,k2,z2,k3,z3,_⟩,hB⟩:=id K2
 clear hB
 go_wp2_with fail
 exact bodyPost_ret (v:=.tuple #[.agg #[.int .i64 0,.int .i64 0],.int .i64 10]) (by simp [results,Tryz.results72,go_sem,k2,z2,k3]) rfl ⟨ret2 (by rw [HF.out]; rfl),(((And.right K2).setCell (p:=⟨w.heap.size,0,none⟩) (Nat.le_refl _) _).setCell (p:=⟨w.heap.size,1,none⟩) (Nat.le_refl _) _).alloc (by simp<;>omega) _⟩
set_option maxHeartbeats 4000000 in
set_option maxRecDepth 4000 in
theorem rp_Ad (s:ByteArray) (hs:s.size≤140737488351232) (x:Int) (k:Nat) (hk:wholeL s.data.toList=(x,k + 1)) (hkl:k + 1≤s.size) (hex:s.extract (k + 1) s.size=⟨#[105]⟩) (ho:okR 0 x=true) (ht:textL 0 x≠s.data.toList) (hF:refParse s.data.toList=none) (w:World) :
  Calls Tryz.prog 72 #[.string s] w fun e w'=>e=.returned (refA (refParse s.data.toList))∧Below w.heap.size w w':=by
 have HF:=Lib.hid hF
 have qw:=fun w=>whole_any s hs w
 rw [hk] at qw
 have QW:=Lib.hid qw
 have qi:=fun w=>in_any (0) (x) w
 rw [bnd_pos ho] at qi
 have qt:=fun w=>refText_any ho w
 have hq:(textL 0 x == s.toList)=false:=by rw [Lib.toList_data]; exact beq_eq_false_iff_ne.2 ht
 have QT:=Lib.hid qt
 have QI:=Lib.hid qi
 clear hF hk qw qi ho ht qt
 go_enter Tryz.func72,Tryz.ntmps72
 go_wp2_with fail
 refine (QW.out _).mono ?_; rintro e w1 ⟨rfl,hb1⟩
 have K1:Keep w [(w.heap.size,0,.int .i64 0),(w.heap.size,1,.int .i64 0)] w1:=Keep.below hb1 (Keep.alloc2 (k:=w.heap.size) _ _ 127 (by simp) (Keep.start w))
 have F1:∀ o,w1.frozen? ⟨w.heap.size,o,none⟩=false:=fun o=>(hb1.frozen (p:=⟨w.heap.size,o,none⟩) (by simp<;>omega)).trans (by simp [go_sem])
 clear hb1
 obtain ⟨⟨k0,z0,k1,z1,_⟩,hB⟩:=id K1
 clear hB
 go_wp2_with fail
 refine (QI.out _).mono ?_; rintro e w2 ⟨rfl,hb2⟩
 have K2:Keep w [(w1.heap.size,0,.int .i64 (0)),(w1.heap.size,1,.int .i64 (x)),(w.heap.size,0,.int .i64 0),(w.heap.size,1,.int .i64 0)] w2:=Keep.below hb2 (Keep.alloc2 (k:=w1.heap.size) _ _ 127 (by simp) K1)
 have F2:∀ o,w2.frozen? ⟨w.heap.size,o,none⟩=false:=fun o=>(hb2.frozen (p:=⟨w.heap.size,o,none⟩) (by simp<;>omega)).trans (by simp [go_sem,F1,z0])
 clear hb2 F1
 clear k0 z0 k1 z1
 obtain ⟨⟨k0,z0,k1,z1,k2,z2,k3,z3,_⟩,hB⟩:=id K2
 clear hB
 go_wp2_with fail
 refine (QT.out _).mono ?_; rintro e w3 ⟨rfl,hb3⟩
 have K3:Keep w [(w1.heap.size,0,.int .i64 (0)),(w1.heap.size,1,.int .i64 (x)),(w.heap.size,0,.int .i64 0),(w.heap.size,1,.int .i64 0)] w3:=Keep.below hb3 (Keep.alloc _ K2)
 have F3:∀ o,w3.frozen? ⟨w.heap.size,o,none⟩=false:=fun o=>(hb3.frozen (p:=⟨w.heap.size,o,none⟩) (by simp<;>omega)).trans (by simp [go_sem,F2,z2])
 clear hb3 F2
 clear k0 z0 k1 z1 k2 z2 k3 z3
 obtain ⟨⟨k0,z0,k1,z1,k2,z2,k3,z3,_⟩,hB⟩:=id K3
 clear hB
 go_wp2_with fail
 exact bodyPost_ret (v:=.tuple #[.agg #[.int .i64 0,.int .i64 0],.int .i64 10]) (by simp [results,Tryz.results72,go_sem,k2,k3]) rfl ⟨ret2 (by rw [HF.out]; rfl),((And.right K3).setCell (p:=⟨w.heap.size,0,none⟩) (Nat.le_refl _) _).setCell (p:=⟨w.heap.size,1,none⟩) (Nat.le_refl _) _⟩
set_option maxHeartbeats 4000000 in
set_option maxRecDepth 4000 in
theorem rp_As (s:ByteArray) (hs:s.size≤140737488351232) (x:Int) (k:Nat) (hk:wholeL s.data.toList=(x,k + 1)) (hkl:k + 1≤s.size) (hex:s.extract (k + 1) s.size=⟨#[105]⟩) (ho:okR 0 x=true) (ht:textL 0 x=s.data.toList) (hF:refParse s.data.toList=some (0,x)) (w:World) :
  Calls Tryz.prog 72 #[.string s] w fun e w'=>e=.returned (refA (refParse s.data.toList))∧Below w.heap.size w w':=by
 have HF:=Lib.hid hF
 have qw:=fun w=>whole_any s hs w
 rw [hk] at qw
 have QW:=Lib.hid qw
 have qi:=fun w=>in_any (0) (x) w
 rw [bnd_pos ho] at qi
 have qt:=fun w=>refText_any ho w
 rw [same_text ht] at qt
 have hq:(s.toList == s.toList)=true:=(Lib.bytes_beq_iff _ _).2 rfl
 have QT:=Lib.hid qt
 have QI:=Lib.hid qi
 clear hF hk qw qi ho ht qt
 go_enter Tryz.func72,Tryz.ntmps72
 go_wp2_with fail
 refine (QW.out _).mono ?_; rintro e w1 ⟨rfl,hb1⟩
 have K1:Keep w [(w.heap.size,0,.int .i64 0),(w.heap.size,1,.int .i64 0)] w1:=Keep.below hb1 (Keep.alloc2 (k:=w.heap.size) _ _ 127 (by simp) (Keep.start w))
 have F1:∀ o,w1.frozen? ⟨w.heap.size,o,none⟩=false:=fun o=>(hb1.frozen (p:=⟨w.heap.size,o,none⟩) (by simp<;>omega)).trans (by simp [go_sem])
 clear hb1
 obtain ⟨⟨k0,z0,k1,z1,_⟩,hB⟩:=id K1
 clear hB
 go_wp2_with fail
 refine (QI.out _).mono ?_; rintro e w2 ⟨rfl,hb2⟩
 have K2:Keep w [(w1.heap.size,0,.int .i64 (0)),(w1.heap.size,1,.int .i64 (x)),(w.heap.size,0,.int .i64 0),(w.heap.size,1,.int .i64 0)] w2:=Keep.below hb2 (Keep.alloc2 (k:=w1.heap.size) _ _ 127 (by simp) K1)
 have F2:∀ o,w2.frozen? ⟨w.heap.size,o,none⟩=false:=fun o=>(hb2.frozen (p:=⟨w.heap.size,o,none⟩) (by simp<;>omega)).trans (by simp [go_sem,F1,z0])
 clear hb2 F1
 clear k0 z0 k1 z1
 obtain ⟨⟨k0,z0,k1,z1,k2,z2,k3,z3,_⟩,hB⟩:=id K2
 clear hB
 go_wp2_with fail
 refine (QT.out _).mono ?_; rintro e w3 ⟨rfl,hb3⟩
 have K3:Keep w [(w1.heap.size,0,.int .i64 (0)),(w1.heap.size,1,.int .i64 (x)),(w.heap.size,0,.int .i64 0),(w.heap.size,1,.int .i64 0)] w3:=Keep.below hb3 (Keep.alloc _ K2)
 have F3:∀ o,w3.frozen? ⟨w.heap.size,o,none⟩=false:=fun o=>(hb3.frozen (p:=⟨w.heap.size,o,none⟩) (by simp<;>omega)).trans (by simp [go_sem,F2,z2])
 clear hb3 F2
 clear k0 z0 k1 z1 k2 z2 k3 z3
 obtain ⟨⟨k0,z0,k1,z1,k2,z2,k3,z3,_⟩,hB⟩:=id K3
 clear hB
 go_wp2_with fail
 exact bodyPost_ret (v:=.tuple #[.agg #[.int .i64 (0),.int .i64 (x)],.int .i64 0]) (by simp [results,Tryz.results72,go_sem,k2,k3]) rfl ⟨ret2 (by rw [HF.out]; rfl),((And.right K3).setCell (p:=⟨w.heap.size,0,none⟩) (Nat.le_refl _) _).setCell (p:=⟨w.heap.size,1,none⟩) (Nat.le_refl _) _⟩
set_option maxHeartbeats 4000000 in
set_option maxRecDepth 4000 in
theorem rp_Bn (s:ByteArray) (hs:s.size≤140737488351232) (x:Int) (k:Nat) (hk:wholeL s.data.toList=(x,k + 1)) (hkl:k + 1≤s.size) (hex:s.extract (k + 1) s.size=⟨#[]⟩) (ho:okR x 0=false) (hF:refParse s.data.toList=none) (w:World) :
  Calls Tryz.prog 72 #[.string s] w fun e w'=>e=.returned (refA (refParse s.data.toList))∧Below w.heap.size w w':=by
 have HF:=Lib.hid hF
 have qw:=fun w=>whole_any s hs w
 rw [hk] at qw
 have QW:=Lib.hid qw
 have qi:=fun w=>in_any (x) (0) w
 rw [bnd_neg ho] at qi
 have QI:=Lib.hid qi
 clear hF hk qw qi ho
 go_enter Tryz.func72,Tryz.ntmps72
 go_wp2_with fail
 refine (QW.out _).mono ?_; rintro e w1 ⟨rfl,hb1⟩
 have K1:Keep w [(w.heap.size,0,.int .i64 0),(w.heap.size,1,.int .i64 0)] w1:=Keep.below hb1 (Keep.alloc2 (k:=w.heap.size) _ _ 127 (by simp) (Keep.start w))
 have F1:∀ o,w1.frozen? ⟨w.heap.size,o,none⟩=false:=fun o=>(hb1.frozen (p:=⟨w.heap.size,o,none⟩) (by simp<;>omega)).trans (by simp [go_sem])
 clear hb1
 obtain ⟨⟨k0,z0,k1,z1,_⟩,hB⟩:=id K1
 clear hB
 go_wp2_with fail
 refine (QI.out _).mono ?_; rintro e w2 ⟨rfl,hb2⟩
 have K2:Keep w [(w1.heap.size,0,.int .i64 (x)),(w1.heap.size,1,.int .i64 (0)),(w.heap.size,0,.int .i64 0),(w.heap.size,1,.int .i64 0)] w2:=Keep.below hb2 (Keep.alloc2 (k:=w1.heap.size) _ _ 127 (by simp) K1)
 have F2:∀ o,w2.frozen? ⟨w.heap.size,o,none⟩=false:=fun o=>(hb2.frozen (p:=⟨w.heap.size,o,none⟩) (by simp<;>omega)).trans (by simp [go_sem,F1,z0])
 clear hb2 F1
 clear k0 z0 k1 z1
 obtain ⟨⟨k0,z0,k1,z1,k2,z2,k3,z3,_⟩,hB⟩:=id K2
 clear hB
 go_wp2_with fail
 exact bodyPost_ret (v:=.tuple #[.agg #[.int .i64 0,.int .i64 0],.int .i64 10]) (by simp [results,Tryz.results72,go_sem,k2,z2,k3]) rfl ⟨ret2 (by rw [HF.out]; rfl),(((And.right K2).setCell (p:=⟨w.heap.size,0,none⟩) (Nat.le_refl _) _).setCell (p:=⟨w.heap.size,1,none⟩) (Nat.le_refl _) _).alloc (by simp<;>omega) _⟩
set_option maxHeartbeats 4000000 in
set_option maxRecDepth 4000 in
theorem rp_Bd (s:ByteArray) (hs:s.size≤140737488351232) (x:Int) (k:Nat) (hk:wholeL s.data.toList=(x,k + 1)) (hkl:k + 1≤s.size) (hex:s.extract (k + 1) s.size=⟨#[]⟩) (ho:okR x 0=true) (ht:textL x 0≠s.data.toList) (hF:refParse s.data.toList=none) (w:World) :
  Calls Tryz.prog 72 #[.string s] w fun e w'=>e=.returned (refA (refParse s.data.toList))∧Below w.heap.size w w':=by
 have HF:=Lib.hid hF
 have qw:=fun w=>whole_any s hs w
 rw [hk] at qw
 have QW:=Lib.hid qw
 have qi:=fun w=>in_any (x) (0) w
 rw [bnd_pos ho] at qi
 have qt:=fun w=>refText_any ho w
 have hq:(textL x 0 == s.toList)=false:=by rw [Lib.toList_data]; exact beq_eq_false_iff_ne.2 ht
 have QT:=Lib.hid qt
 have QI:=Lib.hid qi
 clear hF hk qw qi ho ht qt
 go_enter Tryz.func72,Tryz.ntmps72
 go_wp2_with fail
 refine (QW.out _).mono ?_; rintro e w1 ⟨rfl,hb1⟩
 have K1:Keep w [(w.heap.size,0,.int .i64 0),(w.heap.size,1,.int .i64 0)] w1:=Keep.below hb1 (Keep.alloc2 (k:=w.heap.size) _ _ 127 (by simp) (Keep.start w))
 have F1:∀ o,w1.frozen? ⟨w.heap.size,o,none⟩=false:=fun o=>(hb1.frozen (p:=⟨w.heap.size,o,none⟩) (by simp<;>omega)).trans (by simp [go_sem])
 clear hb1
 obtain ⟨⟨k0,z0,k1,z1,_⟩,hB⟩:=id K1
 clear hB
 go_wp2_with fail
 refine (QI.out _).mono ?_; rintro e w2 ⟨rfl,hb2⟩
 have K2:Keep w [(w1.heap.size,0,.int .i64 (x)),(w1.heap.size,1,.int .i64 (0)),(w.heap.size,0,.int .i64 0),(w.heap.size,1,.int .i64 0)] w2:=Keep.below hb2 (Keep.alloc2 (k:=w1.heap.size) _ _ 127 (by simp) K1)
 have F2:∀ o,w2.frozen? ⟨w.heap.size,o,none⟩=false:=fun o=>(hb2.frozen (p:=⟨w.heap.size,o,none⟩) (by simp<;>omega)).trans (by simp [go_sem,F1,z0])
 clear hb2 F1
 clear k0 z0 k1 z1
 obtain ⟨⟨k0,z0,k1,z1,k2,z2,k3,z3,_⟩,hB⟩:=id K2
 clear hB
 go_wp2_with fail
 refine (QT.out _).mono ?_; rintro e w3 ⟨rfl,hb3⟩
 have K3:Keep w [(w1.heap.size,0,.int .i64 (x)),(w1.heap.size,1,.int .i64 (0)),(w.heap.size,0,.int .i64 0),(w.heap.size,1,.int .i64 0)] w3:=Keep.below hb3 (Keep.alloc _ K2)
 have F3:∀ o,w3.frozen? ⟨w.heap.size,o,none⟩=false:=fun o=>(hb3.frozen (p:=⟨w.heap.size,o,none⟩) (by simp<;>omega)).trans (by simp [go_sem,F2,z2])
 clear hb3 F2
 clear k0 z0 k1 z1 k2 z2 k3 z3
 obtain ⟨⟨k0,z0,k1,z1,k2,z2,k3,z3,_⟩,hB⟩:=id K3
 clear hB
 go_wp2_with fail
 exact bodyPost_ret (v:=.tuple #[.agg #[.int .i64 0,.int .i64 0],.int .i64 10]) (by simp [results,Tryz.results72,go_sem,k2,k3]) rfl ⟨ret2 (by rw [HF.out]; rfl),((And.right K3).setCell (p:=⟨w.heap.size,0,none⟩) (Nat.le_refl _) _).setCell (p:=⟨w.heap.size,1,none⟩) (Nat.le_refl _) _⟩
set_option maxHeartbeats 4000000 in
set_option maxRecDepth 4000 in
theorem rp_Bs (s:ByteArray) (hs:s.size≤140737488351232) (x:Int) (k:Nat) (hk:wholeL s.data.toList=(x,k + 1)) (hkl:k + 1≤s.size) (hex:s.extract (k + 1) s.size=⟨#[]⟩) (ho:okR x 0=true) (ht:textL x 0=s.data.toList) (hF:refParse s.data.toList=some (x,0)) (w:World) :
  Calls Tryz.prog 72 #[.string s] w fun e w'=>e=.returned (refA (refParse s.data.toList))∧Below w.heap.size w w':=by
 have HF:=Lib.hid hF
 have qw:=fun w=>whole_any s hs w
 rw [hk] at qw
 have QW:=Lib.hid qw
 have qi:=fun w=>in_any (x) (0) w
 rw [bnd_pos ho] at qi
 have qt:=fun w=>refText_any ho w
 rw [same_text ht] at qt
 have hq:(s.toList == s.toList)=true:=(Lib.bytes_beq_iff _ _).2 rfl
 have QT:=Lib.hid qt
 have QI:=Lib.hid qi
 clear hF hk qw qi ho ht qt
 go_enter Tryz.func72,Tryz.ntmps72
 go_wp2_with fail
 refine (QW.out _).mono ?_; rintro e w1 ⟨rfl,hb1⟩
 have K1:Keep w [(w.heap.size,0,.int .i64 0),(w.heap.size,1,.int .i64 0)] w1:=Keep.below hb1 (Keep.alloc2 (k:=w.heap.size) _ _ 127 (by simp) (Keep.start w))
 have F1:∀ o,w1.frozen? ⟨w.heap.size,o,none⟩=false:=fun o=>(hb1.frozen (p:=⟨w.heap.size,o,none⟩) (by simp<;>omega)).trans (by simp [go_sem])
 clear hb1
 obtain ⟨⟨k0,z0,k1,z1,_⟩,hB⟩:=id K1
 clear hB
 go_wp2_with fail
 refine (QI.out _).mono ?_; rintro e w2 ⟨rfl,hb2⟩
 have K2:Keep w [(w1.heap.size,0,.int .i64 (x)),(w1.heap.size,1,.int .i64 (0)),(w.heap.size,0,.int .i64 0),(w.heap.size,1,.int .i64 0)] w2:=Keep.below hb2 (Keep.alloc2 (k:=w1.heap.size) _ _ 127 (by simp) K1)
 have F2:∀ o,w2.frozen? ⟨w.heap.size,o,none⟩=false:=fun o=>(hb2.frozen (p:=⟨w.heap.size,o,none⟩) (by simp<;>omega)).trans (by simp [go_sem,F1,z0])
 clear hb2 F1
 clear k0 z0 k1 z1
 obtain ⟨⟨k0,z0,k1,z1,k2,z2,k3,z3,_⟩,hB⟩:=id K2
 clear hB
 go_wp2_with fail
 refine (QT.out _).mono ?_; rintro e w3 ⟨rfl,hb3⟩
 have K3:Keep w [(w1.heap.size,0,.int .i64 (x)),(w1.heap.size,1,.int .i64 (0)),(w.heap.size,0,.int .i64 0),(w.heap.size,1,.int .i64 0)] w3:=Keep.below hb3 (Keep.alloc _ K2)
 have F3:∀ o,w3.frozen? ⟨w.heap.size,o,none⟩=false:=fun o=>(hb3.frozen (p:=⟨w.heap.size,o,none⟩) (by simp<;>omega)).trans (by simp [go_sem,F2,z2])
 clear hb3 F2
 clear k0 z0 k1 z1 k2 z2 k3 z3
 obtain ⟨⟨k0,z0,k1,z1,k2,z2,k3,z3,_⟩,hB⟩:=id K3
 clear hB
 go_wp2_with fail
 exact bodyPost_ret (v:=.tuple #[.agg #[.int .i64 (x),.int .i64 (0)],.int .i64 0]) (by simp [results,Tryz.results72,go_sem,k2,k3]) rfl ⟨ret2 (by rw [HF.out]; rfl),((And.right K3).setCell (p:=⟨w.heap.size,0,none⟩) (Nat.le_refl _) _).setCell (p:=⟨w.heap.size,1,none⟩) (Nat.le_refl _) _⟩
set_option maxHeartbeats 4000000 in
set_option maxRecDepth 4000 in
theorem rp_Cn (s:ByteArray) (hs:s.size≤140737488351232) (x:Int) (k:Nat) (hk:wholeL s.data.toList=(x,k + 1)) (hkl:k + 1≤s.size) (RB TB:ByteArray) (hex:s.extract (k + 1) s.size=RB) (hpos:0 < RB.size) (h0:RB[0]'hpos=43) (hrs:RB.size≤140737488351232) (hni:(RB.toList == [105])=false) (hem:RB.toList.isEmpty=false) (hTB:RB.extract 1 RB.size=TB) (y:Int) (m:Nat) (hy:wholeL TB.data.toList=(y,m)) (hts:TB.size≤140737488351232) (ho:okR x y=false) (hF:refParse s.data.toList=none) (w:World) :
  Calls Tryz.prog 72 #[.string s] w fun e w'=>e=.returned (refA (refParse s.data.toList))∧Below w.heap.size w w':=by
 have HF:=Lib.hid hF
 have qw:=fun w=>whole_any s hs w
 rw [hk] at qw
 have QW:=Lib.hid qw
 have qi:=fun w=>in_any (x) (y) w
 rw [bnd_neg ho] at qi
 have QI:=Lib.hid qi
 have qy:=fun w=>whole_any TB hts w
 rw [hy] at qy
 have QY:=Lib.hid qy
 clear hF hk qw qi ho qy hy
 go_enter Tryz.func72,Tryz.ntmps72
 go_wp2_with fail
 refine (QW.out _).mono ?_; rintro e w1 ⟨rfl,hb1⟩
 have K1:Keep w [(w.heap.size,0,.int .i64 0),(w.heap.size,1,.int .i64 0)] w1:=Keep.below hb1 (Keep.alloc2 (k:=w.heap.size) _ _ 127 (by simp) (Keep.start w))
 have F1:∀ o,w1.frozen? ⟨w.heap.size,o,none⟩=false:=fun o=>(hb1.frozen (p:=⟨w.heap.size,o,none⟩) (by simp<;>omega)).trans (by simp [go_sem])
 clear hb1
 obtain ⟨⟨k0,z0,k1,z1,_⟩,hB⟩:=id K1
 clear hB
 go_wp2_with fail
 have hlt1:w.heap.size < w1.heap.size:=z0
 refine (QY.out _).mono ?_; rintro e w2 ⟨rfl,hb2⟩
 have K2:Keep w [(w1.heap.size,0,.int .i64 x),(w1.heap.size,1,.int .i64 0),(w.heap.size,0,.int .i64 0),(w.heap.size,1,.int .i64 0)] w2:=Keep.below hb2 (Keep.alloc2 (k:=w1.heap.size) _ _ 127 (by simp) K1)
 have F2:∀ o,w2.frozen? ⟨w.heap.size,o,none⟩=false:=fun o=>(hb2.frozen (p:=⟨w.heap.size,o,none⟩) (by simp<;>omega)).trans (by simp [go_sem,hlt1,F1])
 have G2:∀ o,w2.frozen? ⟨w1.heap.size,o,none⟩=false:=fun o=>(hb2.frozen (p:=⟨w1.heap.size,o,none⟩) (by simp)).trans (by simp [go_sem])
 clear hb2 F1
 clear k0 z0 k1 z1
 obtain ⟨⟨k0,z0,k1,z1,k2,z2,k3,z3,_⟩,hB⟩:=id K2
 clear hB
 have hnb:w.heap.size≠w1.heap.size:=Nat.ne_of_lt hlt1
 go_wp2_with fail
 have L:Keep w [(w1.heap.size,0,.int .i64 x),(w1.heap.size,1,.int .i64 y),(w.heap.size,0,.int .i64 0),(w.heap.size,1,.int .i64 0)] (w2.setCell ⟨w1.heap.size,1,none⟩ (.int .i64 y)):=⟨⟨by simp [go_sem,k0],by simpa using z0,by simp [go_sem,k1],by simpa using z1,by simp [go_sem,k2],by simpa using z2,by simp [go_sem,k3],by simpa using z3,trivial⟩,(And.right K2).setCell (Nat.le_of_lt hlt1) _⟩
 refine (QI.out _).mono ?_; rintro e w3 ⟨rfl,hb3⟩
 have K3:Keep w [(w1.heap.size,0,.int .i64 x),(w1.heap.size,1,.int .i64 y),(w.heap.size,0,.int .i64 0),(w.heap.size,1,.int .i64 0)] w3:=Keep.below hb3 L
 have F3:∀ o,w3.frozen? ⟨w.heap.size,o,none⟩=false:=fun o=>(hb3.frozen (p:=⟨w.heap.size,o,none⟩) (by simp<;>omega)).trans (by simp [go_sem,F2])
 clear hb3 F2
 clear k0 z0 k1 z1 k2 z2 k3 z3
 obtain ⟨⟨k0,z0,k1,z1,k2,z2,k3,z3,_⟩,hB⟩:=id K3
 clear hB
 go_wp2_with fail
 exact bodyPost_ret (v:=.tuple #[.agg #[.int .i64 0,.int .i64 0],.int .i64 10]) (by simp [results,Tryz.results72,go_sem,k2,z2,k3]) rfl ⟨ret2 (by rw [HF.out]; rfl),(((And.right K3).setCell (p:=⟨w.heap.size,0,none⟩) (Nat.le_refl _) _).setCell (p:=⟨w.heap.size,1,none⟩) (Nat.le_refl _) _).alloc (by simp<;>omega) _⟩
set_option maxHeartbeats 4000000 in
set_option maxRecDepth 4000 in
theorem rp_Cd (s:ByteArray) (hs:s.size≤140737488351232) (x:Int) (k:Nat) (hk:wholeL s.data.toList=(x,k + 1)) (hkl:k + 1≤s.size) (RB TB:ByteArray) (hex:s.extract (k + 1) s.size=RB) (hpos:0 < RB.size) (h0:RB[0]'hpos=43) (hrs:RB.size≤140737488351232) (hni:(RB.toList == [105])=false) (hem:RB.toList.isEmpty=false) (hTB:RB.extract 1 RB.size=TB) (y:Int) (m:Nat) (hy:wholeL TB.data.toList=(y,m)) (hts:TB.size≤140737488351232) (ho:okR x y=true) (ht:textL x y≠s.data.toList) (hF:refParse s.data.toList=none) (w:World) :
  Calls Tryz.prog 72 #[.string s] w fun e w'=>e=.returned (refA (refParse s.data.toList))∧Below w.heap.size w w':=by
 have HF:=Lib.hid hF
 have qw:=fun w=>whole_any s hs w
 rw [hk] at qw
 have QW:=Lib.hid qw
 have qi:=fun w=>in_any (x) (y) w
 rw [bnd_pos ho] at qi
 have qt:=fun w=>refText_any ho w
 have hq:(textL x y == s.toList)=false:=by rw [Lib.toList_data]; exact beq_eq_false_iff_ne.2 ht
 have QT:=Lib.hid qt
 have QI:=Lib.hid qi
 have qy:=fun w=>whole_any TB hts w
 rw [hy] at qy
 have QY:=Lib.hid qy
 clear hF hk qw qi ho ht qt qy hy
 go_enter Tryz.func72,Tryz.ntmps72
 go_wp2_with fail
 refine (QW.out _).mono ?_; rintro e w1 ⟨rfl,hb1⟩
 have K1:Keep w [(w.heap.size,0,.int .i64 0),(w.heap.size,1,.int .i64 0)] w1:=Keep.below hb1 (Keep.alloc2 (k:=w.heap.size) _ _ 127 (by simp) (Keep.start w))
 have F1:∀ o,w1.frozen? ⟨w.heap.size,o,none⟩=false:=fun o=>(hb1.frozen (p:=⟨w.heap.size,o,none⟩) (by simp<;>omega)).trans (by simp [go_sem])
 clear hb1
 obtain ⟨⟨k0,z0,k1,z1,_⟩,hB⟩:=id K1
 clear hB
 go_wp2_with fail
 have hlt1:w.heap.size < w1.heap.size:=z0
 refine (QY.out _).mono ?_; rintro e w2 ⟨rfl,hb2⟩
 have K2:Keep w [(w1.heap.size,0,.int .i64 x),(w1.heap.size,1,.int .i64 0),(w.heap.size,0,.int .i64 0),(w.heap.size,1,.int .i64 0)] w2:=Keep.below hb2 (Keep.alloc2 (k:=w1.heap.size) _ _ 127 (by simp) K1)
 have F2:∀ o,w2.frozen? ⟨w.heap.size,o,none⟩=false:=fun o=>(hb2.frozen (p:=⟨w.heap.size,o,none⟩) (by simp<;>omega)).trans (by simp [go_sem,hlt1,F1])
 have G2:∀ o,w2.frozen? ⟨w1.heap.size,o,none⟩=false:=fun o=>(hb2.frozen (p:=⟨w1.heap.size,o,none⟩) (by simp)).trans (by simp [go_sem])
 clear hb2 F1
 clear k0 z0 k1 z1
 obtain ⟨⟨k0,z0,k1,z1,k2,z2,k3,z3,_⟩,hB⟩:=id K2
 clear hB
 have hnb:w.heap.size≠w1.heap.size:=Nat.ne_of_lt hlt1
 go_wp2_with fail
 have L:Keep w [(w1.heap.size,0,.int .i64 x),(w1.heap.size,1,.int .i64 y),(w.heap.size,0,.int .i64 0),(w.heap.size,1,.int .i64 0)] (w2.setCell ⟨w1.heap.size,1,none⟩ (.int .i64 y)):=⟨⟨by simp [go_sem,k0],by simpa using z0,by simp [go_sem,k1],by simpa using z1,by simp [go_sem,k2],by simpa using z2,by simp [go_sem,k3],by simpa using z3,trivial⟩,(And.right K2).setCell (Nat.le_of_lt hlt1) _⟩
 refine (QI.out _).mono ?_; rintro e w3 ⟨rfl,hb3⟩
 have K3:Keep w [(w1.heap.size,0,.int .i64 x),(w1.heap.size,1,.int .i64 y),(w.heap.size,0,.int .i64 0),(w.heap.size,1,.int .i64 0)] w3:=Keep.below hb3 L
 have F3:∀ o,w3.frozen? ⟨w.heap.size,o,none⟩=false:=fun o=>(hb3.frozen (p:=⟨w.heap.size,o,none⟩) (by simp<;>omega)).trans (by simp [go_sem,F2])
 clear hb3 F2
 clear k0 z0 k1 z1 k2 z2 k3 z3
 obtain ⟨⟨k0,z0,k1,z1,k2,z2,k3,z3,_⟩,hB⟩:=id K3
 clear hB
 go_wp2_with fail
 refine (QT.out _).mono ?_; rintro e w4 ⟨rfl,hb4⟩
 have K4:Keep w [(w1.heap.size,0,.int .i64 x),(w1.heap.size,1,.int .i64 y),(w.heap.size,0,.int .i64 0),(w.heap.size,1,.int .i64 0)] w4:=Keep.below hb4 (Keep.alloc _ K3)
 have F4:∀ o,w4.frozen? ⟨w.heap.size,o,none⟩=false:=fun o=>(hb4.frozen (p:=⟨w.heap.size,o,none⟩) (by simp<;>omega)).trans (by simp [go_sem,F3,z2])
 clear hb4 F3
 clear k0 z0 k1 z1 k2 z2 k3 z3
 obtain ⟨⟨k0,z0,k1,z1,k2,z2,k3,z3,_⟩,hB⟩:=id K4
 clear hB
 go_wp2_with fail
 exact bodyPost_ret (v:=.tuple #[.agg #[.int .i64 0,.int .i64 0],.int .i64 10]) (by simp [results,Tryz.results72,go_sem,k2,k3]) rfl ⟨ret2 (by rw [HF.out]; rfl),((And.right K4).setCell (p:=⟨w.heap.size,0,none⟩) (Nat.le_refl _) _).setCell (p:=⟨w.heap.size,1,none⟩) (Nat.le_refl _) _⟩
set_option maxHeartbeats 4000000 in
set_option maxRecDepth 4000 in
theorem rp_Cs (s:ByteArray) (hs:s.size≤140737488351232) (x:Int) (k:Nat) (hk:wholeL s.data.toList=(x,k + 1)) (hkl:k + 1≤s.size) (RB TB:ByteArray) (hex:s.extract (k + 1) s.size=RB) (hpos:0 < RB.size) (h0:RB[0]'hpos=43) (hrs:RB.size≤140737488351232) (hni:(RB.toList == [105])=false) (hem:RB.toList.isEmpty=false) (hTB:RB.extract 1 RB.size=TB) (y:Int) (m:Nat) (hy:wholeL TB.data.toList=(y,m)) (hts:TB.size≤140737488351232) (ho:okR x y=true) (ht:textL x y=s.data.toList) (hF:refParse s.data.toList=some (x,y)) (w:World) :
  Calls Tryz.prog 72 #[.string s] w fun e w'=>e=.returned (refA (refParse s.data.toList))∧Below w.heap.size w w':=by
 have HF:=Lib.hid hF
 have qw:=fun w=>whole_any s hs w
 rw [hk] at qw
 have QW:=Lib.hid qw
 have qi:=fun w=>in_any (x) (y) w
 rw [bnd_pos ho] at qi
 have qt:=fun w=>refText_any ho w
 rw [same_text ht] at qt
 have hq:(s.toList == s.toList)=true:=(Lib.bytes_beq_iff _ _).2 rfl
 have QT:=Lib.hid qt
 have QI:=Lib.hid qi
 have qy:=fun w=>whole_any TB hts w
 rw [hy] at qy
 have QY:=Lib.hid qy
 clear hF hk qw qi ho ht qt qy hy
 go_enter Tryz.func72,Tryz.ntmps72
 go_wp2_with fail
 refine (QW.out _).mono ?_; rintro e w1 ⟨rfl,hb1⟩
 have K1:Keep w [(w.heap.size,0,.int .i64 0),(w.heap.size,1,.int .i64 0)] w1:=Keep.below hb1 (Keep.alloc2 (k:=w.heap.size) _ _ 127 (by simp) (Keep.start w))
 have F1:∀ o,w1.frozen? ⟨w.heap.size,o,none⟩=false:=fun o=>(hb1.frozen (p:=⟨w.heap.size,o,none⟩) (by simp<;>omega)).trans (by simp [go_sem])
 clear hb1
 obtain ⟨⟨k0,z0,k1,z1,_⟩,hB⟩:=id K1
 clear hB
 go_wp2_with fail
 have hlt1:w.heap.size < w1.heap.size:=z0
 refine (QY.out _).mono ?_; rintro e w2 ⟨rfl,hb2⟩
 have K2:Keep w [(w1.heap.size,0,.int .i64 x),(w1.heap.size,1,.int .i64 0),(w.heap.size,0,.int .i64 0),(w.heap.size,1,.int .i64 0)] w2:=Keep.below hb2 (Keep.alloc2 (k:=w1.heap.size) _ _ 127 (by simp) K1)
 have F2:∀ o,w2.frozen? ⟨w.heap.size,o,none⟩=false:=fun o=>(hb2.frozen (p:=⟨w.heap.size,o,none⟩) (by simp<;>omega)).trans (by simp [go_sem,hlt1,F1])
 have G2:∀ o,w2.frozen? ⟨w1.heap.size,o,none⟩=false:=fun o=>(hb2.frozen (p:=⟨w1.heap.size,o,none⟩) (by simp)).trans (by simp [go_sem])
 clear hb2 F1
 clear k0 z0 k1 z1
 obtain ⟨⟨k0,z0,k1,z1,k2,z2,k3,z3,_⟩,hB⟩:=id K2
 clear hB
 have hnb:w.heap.size≠w1.heap.size:=Nat.ne_of_lt hlt1
 go_wp2_with fail
 have L:Keep w [(w1.heap.size,0,.int .i64 x),(w1.heap.size,1,.int .i64 y),(w.heap.size,0,.int .i64 0),(w.heap.size,1,.int .i64 0)] (w2.setCell ⟨w1.heap.size,1,none⟩ (.int .i64 y)):=⟨⟨by simp [go_sem,k0],by simpa using z0,by simp [go_sem,k1],by simpa using z1,by simp [go_sem,k2],by simpa using z2,by simp [go_sem,k3],by simpa using z3,trivial⟩,(And.right K2).setCell (Nat.le_of_lt hlt1) _⟩
 refine (QI.out _).mono ?_; rintro e w3 ⟨rfl,hb3⟩
 have K3:Keep w [(w1.heap.size,0,.int .i64 x),(w1.heap.size,1,.int .i64 y),(w.heap.size,0,.int .i64 0),(w.heap.size,1,.int .i64 0)] w3:=Keep.below hb3 L
 have F3:∀ o,w3.frozen? ⟨w.heap.size,o,none⟩=false:=fun o=>(hb3.frozen (p:=⟨w.heap.size,o,none⟩) (by simp<;>omega)).trans (by simp [go_sem,F2])
 clear hb3 F2
 clear k0 z0 k1 z1 k2 z2 k3 z3
 obtain ⟨⟨k0,z0,k1,z1,k2,z2,k3,z3,_⟩,hB⟩:=id K3
 clear hB
 go_wp2_with fail
 refine (QT.out _).mono ?_; rintro e w4 ⟨rfl,hb4⟩
 have K4:Keep w [(w1.heap.size,0,.int .i64 x),(w1.heap.size,1,.int .i64 y),(w.heap.size,0,.int .i64 0),(w.heap.size,1,.int .i64 0)] w4:=Keep.below hb4 (Keep.alloc _ K3)
 have F4:∀ o,w4.frozen? ⟨w.heap.size,o,none⟩=false:=fun o=>(hb4.frozen (p:=⟨w.heap.size,o,none⟩) (by simp<;>omega)).trans (by simp [go_sem,F3,z2])
 clear hb4 F3
 clear k0 z0 k1 z1 k2 z2 k3 z3
 obtain ⟨⟨k0,z0,k1,z1,k2,z2,k3,z3,_⟩,hB⟩:=id K4
 clear hB
 go_wp2_with fail
 exact bodyPost_ret (v:=.tuple #[.agg #[.int .i64 (x),.int .i64 (y)],.int .i64 0]) (by simp [results,Tryz.results72,go_sem,k2,k3]) rfl ⟨ret2 (by rw [HF.out]; rfl),((And.right K4).setCell (p:=⟨w.heap.size,0,none⟩) (Nat.le_refl _) _).setCell (p:=⟨w.heap.size,1,none⟩) (Nat.le_refl _) _⟩
set_option maxHeartbeats 4000000 in
set_option maxRecDepth 4000 in
theorem rp_Dn (s:ByteArray) (hs:s.size≤140737488351232) (x:Int) (k:Nat) (hk:wholeL s.data.toList=(x,k + 1)) (hkl:k + 1≤s.size) (RB:ByteArray) (hex:s.extract (k + 1) s.size=RB) (hpos:0 < RB.size) (b:UInt8) (h0:RB[0]'hpos=b) (hb:((b.toNat:Int) == 43)=false) (hrs:RB.size≤140737488351232) (hni:(RB.toList == [105])=false) (hem:RB.toList.isEmpty=false) (y:Int) (m:Nat) (hy:wholeL RB.data.toList=(y,m)) (ho:okR x y=false) (hF:refParse s.data.toList=none) (w:World) :
  Calls Tryz.prog 72 #[.string s] w fun e w'=>e=.returned (refA (refParse s.data.toList))∧Below w.heap.size w w':=by
 have HF:=Lib.hid hF
 have qw:=fun w=>whole_any s hs w
 rw [hk] at qw
 have QW:=Lib.hid qw
 have qi:=fun w=>in_any (x) (y) w
 rw [bnd_neg ho] at qi
 have QI:=Lib.hid qi
 have qy:=fun w=>whole_any RB hrs w
 rw [hy] at qy
 have QY:=Lib.hid qy
 clear hF hk qw qi ho qy hy
 go_enter Tryz.func72,Tryz.ntmps72
 go_wp2_with fail
 refine (QW.out _).mono ?_; rintro e w1 ⟨rfl,hb1⟩
 have K1:Keep w [(w.heap.size,0,.int .i64 0),(w.heap.size,1,.int .i64 0)] w1:=Keep.below hb1 (Keep.alloc2 (k:=w.heap.size) _ _ 127 (by simp) (Keep.start w))
 have F1:∀ o,w1.frozen? ⟨w.heap.size,o,none⟩=false:=fun o=>(hb1.frozen (p:=⟨w.heap.size,o,none⟩) (by simp<;>omega)).trans (by simp [go_sem])
 clear hb1
 obtain ⟨⟨k0,z0,k1,z1,_⟩,hB⟩:=id K1
 clear hB
 go_wp2_with fail
 have hlt1:w.heap.size < w1.heap.size:=z0
 refine (QY.out _).mono ?_; rintro e w2 ⟨rfl,hb2⟩
 have K2:Keep w [(w1.heap.size,0,.int .i64 x),(w1.heap.size,1,.int .i64 0),(w.heap.size,0,.int .i64 0),(w.heap.size,1,.int .i64 0)] w2:=Keep.below hb2 (Keep.alloc2 (k:=w1.heap.size) _ _ 127 (by simp) K1)
 have F2:∀ o,w2.frozen? ⟨w.heap.size,o,none⟩=false:=fun o=>(hb2.frozen (p:=⟨w.heap.size,o,none⟩) (by simp<;>omega)).trans (by simp [go_sem,hlt1,F1])
 have G2:∀ o,w2.frozen? ⟨w1.heap.size,o,none⟩=false:=fun o=>(hb2.frozen (p:=⟨w1.heap.size,o,none⟩) (by simp)).trans (by simp [go_sem])
 clear hb2 F1
 clear k0 z0 k1 z1
 obtain ⟨⟨k0,z0,k1,z1,k2,z2,k3,z3,_⟩,hB⟩:=id K2
 clear hB
 have hnb:w.heap.size≠w1.heap.size:=Nat.ne_of_lt hlt1
 go_wp2_with fail
 have L:Keep w [(w1.heap.size,0,.int .i64 x),(w1.heap.size,1,.int .i64 y),(w.heap.size,0,.int .i64 0),(w.heap.size,1,.int .i64 0)] (w2.setCell ⟨w1.heap.size,1,none⟩ (.int .i64 y)):=⟨⟨by simp [go_sem,k0],by simpa using z0,by simp [go_sem,k1],by simpa using z1,by simp [go_sem,k2],by simpa using z2,by simp [go_sem,k3],by simpa using z3,trivial⟩,(And.right K2).setCell (Nat.le_of_lt hlt1) _⟩
 refine (QI.out _).mono ?_; rintro e w3 ⟨rfl,hb3⟩
 have K3:Keep w [(w1.heap.size,0,.int .i64 x),(w1.heap.size,1,.int .i64 y),(w.heap.size,0,.int .i64 0),(w.heap.size,1,.int .i64 0)] w3:=Keep.below hb3 L
 have F3:∀ o,w3.frozen? ⟨w.heap.size,o,none⟩=false:=fun o=>(hb3.frozen (p:=⟨w.heap.size,o,none⟩) (by simp<;>omega)).trans (by simp [go_sem,F2])
 clear hb3 F2
 clear k0 z0 k1 z1 k2 z2 k3 z3
 obtain ⟨⟨k0,z0,k1,z1,k2,z2,k3,z3,_⟩,hB⟩:=id K3
 clear hB
 go_wp2_with fail
 exact bodyPost_ret (v:=.tuple #[.agg #[.int .i64 0,.int .i64 0],.int .i64 10]) (by simp [results,Tryz.results72,go_sem,k2,z2,k3]) rfl ⟨ret2 (by rw [HF.out]; rfl),(((And.right K3).setCell (p:=⟨w.heap.size,0,none⟩) (Nat.le_refl _) _).setCell (p:=⟨w.heap.size,1,none⟩) (Nat.le_refl _) _).alloc (by simp<;>omega) _⟩
set_option maxHeartbeats 4000000 in
set_option maxRecDepth 4000 in
theorem rp_Dd (s:ByteArray) (hs:s.size≤140737488351232) (x:Int) (k:Nat) (hk:wholeL s.data.toList=(x,k + 1)) (hkl:k + 1≤s.size) (RB:ByteArray) (hex:s.extract (k + 1) s.size=RB) (hpos:0 < RB.size) (b:UInt8) (h0:RB[0]'hpos=b) (hb:((b.toNat:Int) == 43)=false) (hrs:RB.size≤140737488351232) (hni:(RB.toList == [105])=false) (hem:RB.toList.isEmpty=false) (y:Int) (m:Nat) (hy:wholeL RB.data.toList=(y,m)) (ho:okR x y=true) (ht:textL x y≠s.data.toList) (hF:refParse s.data.toList=none) (w:World) :
  Calls Tryz.prog 72 #[.string s] w fun e w'=>e=.returned (refA (refParse s.data.toList))∧Below w.heap.size w w':=by
 have HF:=Lib.hid hF
 have qw:=fun w=>whole_any s hs w
 rw [hk] at qw
 have QW:=Lib.hid qw
 have qi:=fun w=>in_any (x) (y) w
 rw [bnd_pos ho] at qi
 have qt:=fun w=>refText_any ho w
 have hq:(textL x y == s.toList)=false:=by rw [Lib.toList_data]; exact beq_eq_false_iff_ne.2 ht
 have QT:=Lib.hid qt
 have QI:=Lib.hid qi
 have qy:=fun w=>whole_any RB hrs w
 rw [hy] at qy
 have QY:=Lib.hid qy
 clear hF hk qw qi ho ht qt qy hy
 go_enter Tryz.func72,Tryz.ntmps72
 go_wp2_with fail
 refine (QW.out _).mono ?_; rintro e w1 ⟨rfl,hb1⟩
 have K1:Keep w [(w.heap.size,0,.int .i64 0),(w.heap.size,1,.int .i64 0)] w1:=Keep.below hb1 (Keep.alloc2 (k:=w.heap.size) _ _ 127 (by simp) (Keep.start w))
 have F1:∀ o,w1.frozen? ⟨w.heap.size,o,none⟩=false:=fun o=>(hb1.frozen (p:=⟨w.heap.size,o,none⟩) (by simp<;>omega)).trans (by simp [go_sem])
 clear hb1
 obtain ⟨⟨k0,z0,k1,z1,_⟩,hB⟩:=id K1
 clear hB
 go_wp2_with fail
 have hlt1:w.heap.size < w1.heap.size:=z0
 refine (QY.out _).mono ?_; rintro e w2 ⟨rfl,hb2⟩
 have K2:Keep w [(w1.heap.size,0,.int .i64 x),(w1.heap.size,1,.int .i64 0),(w.heap.size,0,.int .i64 0),(w.heap.size,1,.int .i64 0)] w2:=Keep.below hb2 (Keep.alloc2 (k:=w1.heap.size) _ _ 127 (by simp) K1)
 have F2:∀ o,w2.frozen? ⟨w.heap.size,o,none⟩=false:=fun o=>(hb2.frozen (p:=⟨w.heap.size,o,none⟩) (by simp<;>omega)).trans (by simp [go_sem,hlt1,F1])
 have G2:∀ o,w2.frozen? ⟨w1.heap.size,o,none⟩=false:=fun o=>(hb2.frozen (p:=⟨w1.heap.size,o,none⟩) (by simp)).trans (by simp [go_sem])
 clear hb2 F1
 clear k0 z0 k1 z1
 obtain ⟨⟨k0,z0,k1,z1,k2,z2,k3,z3,_⟩,hB⟩:=id K2
 clear hB
 have hnb:w.heap.size≠w1.heap.size:=Nat.ne_of_lt hlt1
 go_wp2_with fail
 have L:Keep w [(w1.heap.size,0,.int .i64 x),(w1.heap.size,1,.int .i64 y),(w.heap.size,0,.int .i64 0),(w.heap.size,1,.int .i64 0)] (w2.setCell ⟨w1.heap.size,1,none⟩ (.int .i64 y)):=⟨⟨by simp [go_sem,k0],by simpa using z0,by simp [go_sem,k1],by simpa using z1,by simp [go_sem,k2],by simpa using z2,by simp [go_sem,k3],by simpa using z3,trivial⟩,(And.right K2).setCell (Nat.le_of_lt hlt1) _⟩
 refine (QI.out _).mono ?_; rintro e w3 ⟨rfl,hb3⟩
 have K3:Keep w [(w1.heap.size,0,.int .i64 x),(w1.heap.size,1,.int .i64 y),(w.heap.size,0,.int .i64 0),(w.heap.size,1,.int .i64 0)] w3:=Keep.below hb3 L
 have F3:∀ o,w3.frozen? ⟨w.heap.size,o,none⟩=false:=fun o=>(hb3.frozen (p:=⟨w.heap.size,o,none⟩) (by simp<;>omega)).trans (by simp [go_sem,F2])
 clear hb3 F2
 clear k0 z0 k1 z1 k2 z2 k3 z3
 obtain ⟨⟨k0,z0,k1,z1,k2,z2,k3,z3,_⟩,hB⟩:=id K3
 clear hB
 go_wp2_with fail
 refine (QT.out _).mono ?_; rintro e w4 ⟨rfl,hb4⟩
 have K4:Keep w [(w1.heap.size,0,.int .i64 x),(w1.heap.size,1,.int .i64 y),(w.heap.size,0,.int .i64 0),(w.heap.size,1,.int .i64 0)] w4:=Keep.below hb4 (Keep.alloc _ K3)
 have F4:∀ o,w4.frozen? ⟨w.heap.size,o,none⟩=false:=fun o=>(hb4.frozen (p:=⟨w.heap.size,o,none⟩) (by simp<;>omega)).trans (by simp [go_sem,F3,z2])
 clear hb4 F3
 clear k0 z0 k1 z1 k2 z2 k3 z3
 obtain ⟨⟨k0,z0,k1,z1,k2,z2,k3,z3,_⟩,hB⟩:=id K4
 clear hB
 go_wp2_with fail
 exact bodyPost_ret (v:=.tuple #[.agg #[.int .i64 0,.int .i64 0],.int .i64 10]) (by simp [results,Tryz.results72,go_sem,k2,k3]) rfl ⟨ret2 (by rw [HF.out]; rfl),((And.right K4).setCell (p:=⟨w.heap.size,0,none⟩) (Nat.le_refl _) _).setCell (p:=⟨w.heap.size,1,none⟩) (Nat.le_refl _) _⟩
set_option maxHeartbeats 4000000 in
set_option maxRecDepth 4000 in
theorem rp_Ds (s:ByteArray) (hs:s.size≤140737488351232) (x:Int) (k:Nat) (hk:wholeL s.data.toList=(x,k + 1)) (hkl:k + 1≤s.size) (RB:ByteArray) (hex:s.extract (k + 1) s.size=RB) (hpos:0 < RB.size) (b:UInt8) (h0:RB[0]'hpos=b) (hb:((b.toNat:Int) == 43)=false) (hrs:RB.size≤140737488351232) (hni:(RB.toList == [105])=false) (hem:RB.toList.isEmpty=false) (y:Int) (m:Nat) (hy:wholeL RB.data.toList=(y,m)) (ho:okR x y=true) (ht:textL x y=s.data.toList) (hF:refParse s.data.toList=some (x,y)) (w:World) :
  Calls Tryz.prog 72 #[.string s] w fun e w'=>e=.returned (refA (refParse s.data.toList))∧Below w.heap.size w w':=by
 have HF:=Lib.hid hF
 have qw:=fun w=>whole_any s hs w
 rw [hk] at qw
 have QW:=Lib.hid qw
 have qi:=fun w=>in_any (x) (y) w
 rw [bnd_pos ho] at qi
 have qt:=fun w=>refText_any ho w
 rw [same_text ht] at qt
 have hq:(s.toList == s.toList)=true:=(Lib.bytes_beq_iff _ _).2 rfl
 have QT:=Lib.hid qt
 have QI:=Lib.hid qi
 have qy:=fun w=>whole_any RB hrs w
 rw [hy] at qy
 have QY:=Lib.hid qy
 clear hF hk qw qi ho ht qt qy hy
 go_enter Tryz.func72,Tryz.ntmps72
 go_wp2_with fail
 refine (QW.out _).mono ?_; rintro e w1 ⟨rfl,hb1⟩
 have K1:Keep w [(w.heap.size,0,.int .i64 0),(w.heap.size,1,.int .i64 0)] w1:=Keep.below hb1 (Keep.alloc2 (k:=w.heap.size) _ _ 127 (by simp) (Keep.start w))
 have F1:∀ o,w1.frozen? ⟨w.heap.size,o,none⟩=false:=fun o=>(hb1.frozen (p:=⟨w.heap.size,o,none⟩) (by simp<;>omega)).trans (by simp [go_sem])
 clear hb1
 obtain ⟨⟨k0,z0,k1,z1,_⟩,hB⟩:=id K1
 clear hB
 go_wp2_with fail
 have hlt1:w.heap.size < w1.heap.size:=z0
 refine (QY.out _).mono ?_; rintro e w2 ⟨rfl,hb2⟩
 have K2:Keep w [(w1.heap.size,0,.int .i64 x),(w1.heap.size,1,.int .i64 0),(w.heap.size,0,.int .i64 0),(w.heap.size,1,.int .i64 0)] w2:=Keep.below hb2 (Keep.alloc2 (k:=w1.heap.size) _ _ 127 (by simp) K1)
 have F2:∀ o,w2.frozen? ⟨w.heap.size,o,none⟩=false:=fun o=>(hb2.frozen (p:=⟨w.heap.size,o,none⟩) (by simp<;>omega)).trans (by simp [go_sem,hlt1,F1])
 have G2:∀ o,w2.frozen? ⟨w1.heap.size,o,none⟩=false:=fun o=>(hb2.frozen (p:=⟨w1.heap.size,o,none⟩) (by simp)).trans (by simp [go_sem])
 clear hb2 F1
 clear k0 z0 k1 z1
 obtain ⟨⟨k0,z0,k1,z1,k2,z2,k3,z3,_⟩,hB⟩:=id K2
 clear hB
 have hnb:w.heap.size≠w1.heap.size:=Nat.ne_of_lt hlt1
 go_wp2_with fail
 have L:Keep w [(w1.heap.size,0,.int .i64 x),(w1.heap.size,1,.int .i64 y),(w.heap.size,0,.int .i64 0),(w.heap.size,1,.int .i64 0)] (w2.setCell ⟨w1.heap.size,1,none⟩ (.int .i64 y)):=⟨⟨by simp [go_sem,k0],by simpa using z0,by simp [go_sem,k1],by simpa using z1,by simp [go_sem,k2],by simpa using z2,by simp [go_sem,k3],by simpa using z3,trivial⟩,(And.right K2).setCell (Nat.le_of_lt hlt1) _⟩
 refine (QI.out _).mono ?_; rintro e w3 ⟨rfl,hb3⟩
 have K3:Keep w [(w1.heap.size,0,.int .i64 x),(w1.heap.size,1,.int .i64 y),(w.heap.size,0,.int .i64 0),(w.heap.size,1,.int .i64 0)] w3:=Keep.below hb3 L
 have F3:∀ o,w3.frozen? ⟨w.heap.size,o,none⟩=false:=fun o=>(hb3.frozen (p:=⟨w.heap.size,o,none⟩) (by simp<;>omega)).trans (by simp [go_sem,F2])
 clear hb3 F2
 clear k0 z0 k1 z1 k2 z2 k3 z3
 obtain ⟨⟨k0,z0,k1,z1,k2,z2,k3,z3,_⟩,hB⟩:=id K3
 clear hB
 go_wp2_with fail
 refine (QT.out _).mono ?_; rintro e w4 ⟨rfl,hb4⟩
 have K4:Keep w [(w1.heap.size,0,.int .i64 x),(w1.heap.size,1,.int .i64 y),(w.heap.size,0,.int .i64 0),(w.heap.size,1,.int .i64 0)] w4:=Keep.below hb4 (Keep.alloc _ K3)
 have F4:∀ o,w4.frozen? ⟨w.heap.size,o,none⟩=false:=fun o=>(hb4.frozen (p:=⟨w.heap.size,o,none⟩) (by simp<;>omega)).trans (by simp [go_sem,F3,z2])
 clear hb4 F3
 clear k0 z0 k1 z1 k2 z2 k3 z3
 obtain ⟨⟨k0,z0,k1,z1,k2,z2,k3,z3,_⟩,hB⟩:=id K4
 clear hB
 go_wp2_with fail
 exact bodyPost_ret (v:=.tuple #[.agg #[.int .i64 (x),.int .i64 (y)],.int .i64 0]) (by simp [results,Tryz.results72,go_sem,k2,k3]) rfl ⟨ret2 (by rw [HF.out]; rfl),((And.right K4).setCell (p:=⟨w.heap.size,0,none⟩) (Nat.le_refl _) _).setCell (p:=⟨w.heap.size,1,none⟩) (Nat.le_refl _) _⟩
namespace Flo
theorem whole_le (l:List UInt8):(wholeL l).2≤l.length:=by
 unfold wholeL
 split
 ·exact Nat.zero_le _
 ·rename_i h
  have h1:=tw_len digB (l.drop (offD l))
  have h2:0 < (runD l).length:=List.length_pos_iff.2 h
  show offD l + (runD l).length≤l.length
  unfold runD at h2 ⊢
  rw [List.length_drop] at h1
  omega
theorem rp_out {l:List UInt8} {x y:Int} (h0:(wholeL l).2≠0) (hh:refHalves l=(x,y)) :
  (okR x y=false→refParse l=none)∧(textL x y≠l→refParse l=none)∧(okR x y=true→textL x y=l→refParse l=some (x,y)):=by
 unfold refParse
 rw [if_neg h0,hh]
 exact ⟨fun h=>if_neg (fun h'=>by rw [h] at h'; cases h'.1),fun h=>if_neg (fun h'=>h h'.2),fun h1 h2=>if_pos ⟨h1,h2⟩⟩
end Flo
theorem ba_ext {a:ByteArray} {l:List UInt8} (h:a.data.toList=l):a=⟨l.toArray⟩:=by
 apply ByteArray.ext; apply Array.toList_inj.1; simpa using h
theorem refParse_any (s : ByteArray) (hs : s.size ≤ 140737488351232) (w : World) :
    Calls Tryz.prog 72 #[.string s] w fun e w' => e = .returned (refA (refParse s.data.toList)) ∧ Below w.heap.size w w' := by
  obtain ⟨x, k, hk⟩ : ∃ x k, wholeL s.data.toList = (x, k) := ⟨_, _, rfl⟩
  cases k with
  | zero => exact refParse_no s hs (by rw [hk]) w
  | succ k =>
    have hkl : k + 1 ≤ s.size := by have := whole_le s.data.toList; rw [hk, ← Lib.size_eq] at this; exact this
    have h0 : (wholeL s.data.toList).2 ≠ 0 := by rw [hk]; exact Nat.succ_ne_zero _
    have hext : (s.extract (k + 1) s.size).data.toList = s.data.toList.drop (k + 1) := by
      rw [Lib.extract_eq]
      show ((s.data.toList.drop (k + 1)).take (s.size - (k + 1))) = _
      exact List.take_of_length_le (by rw [List.length_drop, ← Lib.size_eq]; exact Nat.le_refl _)
    obtain ⟨r, hr⟩ : ∃ r, s.data.toList.drop (k + 1) = r := ⟨_, rfl⟩
    have hrl : r.length ≤ 140737488351232 := by rw [← hr, List.length_drop, ← Lib.size_eq]; omega
    rw [hr] at hext
    have hd : s.data.toList.drop (wholeL s.data.toList).2 = r := by rw [hk]; exact hr
    by_cases h1 : r = [105]
    · have hh : refHalves s.data.toList = (0, x) := by unfold refHalves; rw [hd, if_pos h1, hk]
      obtain ⟨o1, o2, o3⟩ := rp_out h0 hh
      have hex : s.extract (k + 1) s.size = ⟨#[105]⟩ := by rw [ba_ext hext, h1]
      cases ho : okR 0 x
      · exact rp_An s hs x k hk hkl hex ho (o1 ho) w
      · by_cases ht : textL 0 x = s.data.toList
        · exact rp_As s hs x k hk hkl hex ho ht (o3 ho ht) w
        · exact rp_Ad s hs x k hk hkl hex ho ht (o2 ht) w
    by_cases h2 : r = []
    · have hh : refHalves s.data.toList = (x, 0) := by unfold refHalves; rw [hd, if_neg h1, if_pos h2, hk]
      obtain ⟨o1, o2, o3⟩ := rp_out h0 hh
      have hex : s.extract (k + 1) s.size = ⟨#[]⟩ := by rw [ba_ext hext, h2]
      cases ho : okR x 0
      · exact rp_Bn s hs x k hk hkl hex ho (o1 ho) w
      · by_cases ht : textL x 0 = s.data.toList
        · exact rp_Bs s hs x k hk hkl hex ho ht (o3 ho ht) w
        · exact rp_Bd s hs x k hk hkl hex ho ht (o2 ht) w
    obtain ⟨RB, hRB⟩ : ∃ RB, s.extract (k + 1) s.size = RB := ⟨_, rfl⟩
    rw [hRB] at hext
    obtain ⟨c, t, rfl⟩ : ∃ c t, r = c :: t := by
      cases r with
      | nil => exact absurd rfl h2
      | cons c t => exact ⟨c, t, rfl⟩
    have hsz : RB.size = t.length + 1 := by rw [Lib.size_eq, hext]; rfl
    have hc : RB[0]'(by omega) = c := by
      have := dat_get RB 0 (by omega)
      rw [hext] at this; exact (Option.some.inj this).symm
    have hni : (RB.toList == [105]) = false := by rw [Lib.toList_data, hext]; exact beq_eq_false_iff_ne.2 h1
    have hem : RB.toList.isEmpty = false := by rw [Lib.toList_data, hext]; rfl
    have hrs : RB.size ≤ 140737488351232 := by rw [List.length_cons] at hrl; omega
    by_cases h43 : c = 43
    · subst h43
      obtain ⟨TB, hTB⟩ : ∃ TB, RB.extract 1 RB.size = TB := ⟨_, rfl⟩
      have htl : TB.data.toList = t := by
        rw [← hTB, Lib.extract_eq, hext]
        show ((List.drop 1 (43 :: t)).take (RB.size - 1)) = t
        rw [hsz]; simp
      obtain ⟨y, m, hy⟩ : ∃ y m, wholeL t = (y, m) := ⟨_, _, rfl⟩
      have hh : refHalves s.data.toList = (x, y) := by
        unfold refHalves; rw [hd, if_neg h1, if_neg h2, hk]
        show (x, (wholeL (if (43 :: t).head? = some 43 then t else 43 :: t)).1) = _
        rw [if_pos List.head?_cons, hy]
      have hy' : wholeL TB.data.toList = (y, m) := by rw [htl]; exact hy
      have hts : TB.size ≤ 140737488351232 := by rw [Lib.size_eq, htl]; rw [List.length_cons] at hrl; omega
      obtain ⟨o1, o2, o3⟩ := rp_out h0 hh
      cases ho : okR x y
      · exact rp_Cn s hs x k hk hkl RB TB hRB (by omega) hc hrs hni hem hTB y m hy' hts ho (o1 ho) w
      · by_cases ht : textL x y = s.data.toList
        · exact rp_Cs s hs x k hk hkl RB TB hRB (by omega) hc hrs hni hem hTB y m hy' hts ho ht (o3 ho ht) w
        · exact rp_Cd s hs x k hk hkl RB TB hRB (by omega) hc hrs hni hem hTB y m hy' hts ho ht (o2 ht) w
    · obtain ⟨y, m, hy⟩ : ∃ y m, wholeL (c :: t) = (y, m) := ⟨_, _, rfl⟩
      have hh : refHalves s.data.toList = (x, y) := by
        unfold refHalves; rw [hd, if_neg h1, if_neg h2, hk]
        show (x, (wholeL (if (c :: t).head? = some 43 then t else c :: t)).1) = _
        rw [if_neg (show ¬ (c :: t).head? = some 43 from fun h => h43 (Option.some.inj h)), hy]
      have hb : ((c.toNat : Int) == 43) = false := beq_eq_false_iff_ne.2 (fun h => h43 (by apply UInt8.toNat_inj.1; show c.toNat = 43; omega))
      have hy' : wholeL RB.data.toList = (y, m) := by rw [hext]; exact hy
      obtain ⟨o1, o2, o3⟩ := rp_out h0 hh
      cases ho : okR x y
      · exact rp_Dn s hs x k hk hkl RB hRB (by omega) c hc hb hrs hni hem y m hy' ho (o1 ho) w
      · by_cases ht : textL x y = s.data.toList
        · exact rp_Ds s hs x k hk hkl RB hRB (by omega) c hc hb hrs hni hem y m hy' ho ht (o3 ho ht) w
        · exact rp_Dd s hs x k hk hkl RB hRB (by omega) c hc hb hrs hni hem y m hy' ho ht (o2 ht) w
end Go.Proofs.YtgddkgbidhhheaaGreatDoor
