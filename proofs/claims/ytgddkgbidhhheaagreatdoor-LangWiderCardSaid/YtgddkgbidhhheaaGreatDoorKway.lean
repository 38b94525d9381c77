/- Texts joined: CdM Prn. -/
import Derived.Test.YtgddkgbidhhheaaGreatDoorKwam
import Derived.Test.YtgddkgbidhhheaaGreatDoorProg
import Derived.KernelRfl
import Derived.Test.YtgddkgbidhhheaaGreatDoorKwau
set_option linter.unusedVariables false
namespace Go.Proofs.YtgddkgbidhhheaaGreatDoor
open Ab
def c_mawake:ACode:=(.seq (.region [⟨none,(some 0),(.mov 0 (.k (.v (.bool false))))⟩]) (.seq (.region [⟨none,(some 6),(.bld 6 [(.v (.int .i64 0)),(.v (.int .i64 0)),(.v (.int .i64 0)),(.v (.int .i64 0))] [(0,1),(1,1),(2,1),(3,1)] [(0,(.k (.v (.int .i64 99)))),(1,(.k (.v (.int .i64 99)))),(2,(.k (.v (.int .i64 99)))),(3,(.k (.v (.int .i64 99))))])⟩,⟨none,(some 1),(.var 1 [(.v (.int .i64 0)),(.v (.int .i64 0)),(.v (.int .i64 0)),(.v (.int .i64 0))])⟩,⟨none,none,(.st 4 (.t 1) (.t 6))⟩]) (.seq (.region [⟨none,(some 8),(.bsl 8 5 1 13 [(.v (.int .u8 0)),(.v (.int .u8 0)),(.v (.int .u8 0)),(.v (.int .u8 0)),(.v (.int .u8 0)),(.v (.int .u8 0)),(.v (.int .u8 0)),(.v (.int .u8 0)),(.v (.int .u8 0)),(.v (.int .u8 0)),(.v (.int .u8 0)),(.v (.int .u8 0)),(.v (.int .u8 0))] [(0,(.k (.v (.int .u8 102)))),(1,(.k (.v (.int .u8 40)))),(2,(.k (.v (.int .u8 120)))),(3,(.k (.v (.int .u8 32)))),(4,(.k (.v (.int .u8 78)))),(5,(.k (.v (.int .u8 41)))),(6,(.k (.v (.int .u8 58)))),(7,(.k (.v (.int .u8 78)))),(8,(.k (.v (.int .u8 61)))),(9,(.k (.v (.int .u8 120)))),(10,(.k (.v (.int .u8 43)))),(11,(.k (.v (.int .u8 49)))),(12,(.k (.v (.int .u8 59))))])⟩,⟨none,(some 9),(.cvm 9 5 false (.t 8))⟩,⟨none,(some 10),(.ld 10 true 4 (.t 1))⟩,⟨none,(some 11),(.call (some 11) 20 [(.t 9),(.t 10)])⟩,⟨none,(some 7),(.mov 7 (.t 11))⟩,⟨none,(some 12),(.ext 12 0 (.t 7))⟩,⟨none,(some 13),(.ext 13 1 (.t 7))⟩,⟨none,(some 2),(.var 2 [(.v (.slice none 0 0))])⟩,⟨none,(some 3),(.var 3 [(.v (.int .i64 0)),(.v (.int .i64 0))])⟩,⟨none,none,(.st 1 (.t 2) (.t 12))⟩,⟨none,none,(.st 2 (.t 3) (.t 13))⟩]) (.seq (.region [⟨none,(some 15),(.bsl 15 5 1 9 [(.v (.int .u8 0)),(.v (.int .u8 0)),(.v (.int .u8 0)),(.v (.int .u8 0)),(.v (.int .u8 0)),(.v (.int .u8 0)),(.v (.int .u8 0)),(.v (.int .u8 0)),(.v (.int .u8 0))] [(0,(.k (.v (.int .u8 102)))),(1,(.k (.v (.int .u8 40)))),(2,(.k (.v (.int .u8 120)))),(3,(.k (.v (.int .u8 41)))),(4,(.k (.v (.int .u8 58)))),(5,(.k (.v (.int .u8 78)))),(6,(.k (.v (.int .u8 61)))),(7,(.k (.v (.int .u8 120)))),(8,(.k (.v (.int .u8 59))))])⟩,⟨none,(some 16),(.cvm 16 5 false (.t 15))⟩,⟨none,(some 17),(.ld 17 true 4 (.t 1))⟩,⟨none,(some 18),(.call (some 18) 20 [(.t 16),(.t 17)])⟩,⟨none,(some 14),(.mov 14 (.t 18))⟩,⟨none,(some 19),(.ext 19 0 (.t 14))⟩,⟨none,(some 20),(.ext 20 1 (.t 14))⟩,⟨none,(some 4),(.var 4 [(.v (.slice none 0 0))])⟩,⟨none,(some 5),(.var 5 [(.v (.int .i64 0)),(.v (.int .i64 0))])⟩,⟨none,none,(.st 1 (.t 4) (.t 19))⟩,⟨none,none,(.st 2 (.t 5) (.t 20))⟩]) (.seq (.seq (.region [⟨none,(some 21),(.ld 21 true 2 (.t 3))⟩,⟨none,(some 22),(.bld 22 [(.v (.int .i64 0)),(.v (.int .i64 0))] [(0,1),(1,1)] [])⟩,⟨none,(some 23),(.eqs 23 true [(0,(.int .i64)),(1,(.int .i64))] (.t 21) (.t 22))⟩,⟨none,(some 24),(.mov 24 (.t 23))⟩,⟨(some (24,false)),(some 25),(.fad 25 0 (.t 2))⟩,⟨(some (24,false)),(some 26),(.ld 26 false 1 (.t 25))⟩,⟨(some (24,false)),(some 27),(.len 27 false (.t 26))⟩,⟨(some (24,false)),(some 28),(.bin 28 .neq (.t 27) (.k (.v (.int .i64 1))))⟩,⟨none,(some 29),(.pick 29 (.t 24) (.k (.v (.bool true))) (.t 28))⟩,⟨none,(some 30),(.mov 30 (.t 29))⟩,⟨(some (30,false)),(some 31),(.fad 31 0 (.t 2))⟩,⟨(some (30,false)),(some 32),(.ld 32 false 1 (.t 31))⟩,⟨(some (30,false)),(some 33),(.ixa 33 11 (.t 32) (.k (.v (.int .i64 0))))⟩,⟨(some (30,false)),(some 34),(.fad 34 1 (.t 33))⟩,⟨(some (30,false)),(some 35),(.ld 35 false 1 (.t 34))⟩,⟨(some (30,false)),(some 36),(.len 36 false (.t 35))⟩,⟨(some (30,false)),(some 37),(.bin 37 .neq (.t 36) (.k (.v (.int .i64 1))))⟩,⟨none,(some 38),(.pick 38 (.t 30) (.k (.v (.bool true))) (.t 37))⟩,⟨none,(some 39),(.mov 39 (.t 38))⟩,⟨(some (39,false)),(some 40),(.fad 40 0 (.t 2))⟩,⟨(some (39,false)),(some 41),(.ld 41 false 1 (.t 40))⟩,⟨(some (39,false)),(some 42),(.ixa 42 11 (.t 41) (.k (.v (.int .i64 0))))⟩,⟨(some (39,false)),(some 43),(.fad 43 3 (.t 42))⟩,⟨(some (39,false)),(some 44),(.fad 44 0 (.t 43))⟩,⟨(some (39,false)),(some 45),(.ld 45 false 1 (.t 44))⟩,⟨(some (39,false)),(some 46),(.bin 46 .neq (.t 45) (.k (.v (.int .i64 8))))⟩,⟨none,(some 47),(.pick 47 (.t 39) (.k (.v (.bool true))) (.t 46))⟩,⟨none,(some 48),(.mov 48 (.t 47))⟩,⟨(some (48,false)),(some 49),(.fad 49 0 (.t 2))⟩,⟨(some (48,false)),(some 50),(.ld 50 false 1 (.t 49))⟩,⟨(some (48,false)),(some 51),(.ixa 51 11 (.t 50) (.k (.v (.int .i64 0))))⟩,⟨(some (48,false)),(some 52),(.fad 52 3 (.t 51))⟩,⟨(some (48,false)),(some 53),(.fad 53 6 (.t 52))⟩,⟨(some (48,false)),(some 54),(.ld 54 false 1 (.t 53))⟩,⟨(some (48,false)),(some 55),(.bin 55 .neq (.t 54) (.k (.v (.int .i64 10))))⟩,⟨none,(some 56),(.pick 56 (.t 48) (.k (.v (.bool true))) (.t 55))⟩,⟨none,(some 57),(.mov 57 (.t 56))⟩,⟨(some (57,false)),(some 58),(.fad 58 0 (.t 2))⟩,⟨(some (57,false)),(some 59),(.ld 59 false 1 (.t 58))⟩,⟨(some (57,false)),(some 60),(.ixa 60 11 (.t 59) (.k (.v (.int .i64 0))))⟩,⟨(some (57,false)),(some 61),(.fad 61 3 (.t 60))⟩,⟨(some (57,false)),(some 62),(.fad 62 5 (.t 61))⟩,⟨(some (57,false)),(some 63),(.ld 63 false 1 (.t 62))⟩,⟨(some (57,false)),(some 64),(.len 64 false (.t 63))⟩,⟨(some (57,false)),(some 65),(.bin 65 .neq (.t 64) (.k (.v (.int .i64 2))))⟩,⟨none,(some 66),(.pick 66 (.t 57) (.k (.v (.bool true))) (.t 65))⟩]) (.cond (.t 66) (.seq (.region [⟨none,(some 0),(.mov 0 (.k (.v (.bool false))))⟩]) .ret) .skip)) (.seq (.region [⟨none,(some 67),(.fad 67 0 (.t 2))⟩,⟨none,(some 68),(.ld 68 false 1 (.t 67))⟩,⟨none,(some 69),(.ixa 69 11 (.t 68) (.k (.v (.int .i64 0))))⟩,⟨none,(some 70),(.fad 70 3 (.t 69))⟩,⟨none,(some 71),(.fad 71 5 (.t 70))⟩,⟨none,(some 72),(.ld 72 false 1 (.t 71))⟩,⟨none,(some 73),(.ixa 73 7 (.t 72) (.k (.v (.int .i64 1))))⟩,⟨none,(some 74),(.fad 74 4 (.t 73))⟩,⟨none,(some 75),(.ld 75 false 1 (.t 74))⟩,⟨none,(some 76),(.eqc 76 false (.t 75) (.k (.v (.complex .f64 4607182418800017408 0))))⟩,⟨none,(some 77),(.mov 77 (.t 76))⟩,⟨(some (77,true)),(some 78),(.ld 78 true 2 (.t 5))⟩,⟨(some (77,true)),(some 79),(.bld 79 [(.v (.int .i64 0)),(.v (.int .i64 0))] [(0,1),(1,1)] [(0,(.k (.v (.int .i64 21)))),(1,(.k (.v (.int .i64 3))))])⟩,⟨(some (77,true)),(some 80),(.eqs 80 false [(0,(.int .i64)),(1,(.int .i64))] (.t 78) (.t 79))⟩,⟨none,(some 81),(.pick 81 (.t 77) (.t 80) (.k (.v (.bool false))))⟩,⟨none,(some 0),(.mov 0 (.t 81))⟩]) .ret))))))
set_option maxRecDepth 100000 in
theorem F_mawake:Fun Tryz.prog 17 82 c_mawake [(.tmp 0)]:=Fun.of (m:=true) (by as_aux_lemma=>kernel_rfl)
def c_mwider_L0:ACode:=(.seq (.seq (.region [⟨none,(some 64),(.mov 64 (.t 13))⟩,⟨none,(some 65),(.fad 65 0 (.t 7))⟩,⟨none,(some 66),(.ld 66 false 1 (.t 65))⟩,⟨none,(some 67),(.len 67 false (.t 66))⟩,⟨none,(some 68),(.bin 68 .lss (.t 64) (.t 67))⟩]) (.cond (.t 68) .skip (.exit 0))) (.seq (.block 1 (.seq (.draw [⟨none,(some 71),(.fad 71 2 (.t 12))⟩,⟨none,(some 72),(.ld 72 false 1 (.t 71))⟩,⟨none,(some 73),(.fad 73 0 (.t 7))⟩,⟨none,(some 74),(.ld 74 false 1 (.t 73))⟩,⟨none,(some 75),(.mov 75 (.t 13))⟩,⟨none,(some 76),(.ixa 76 11 (.t 74) (.t 75))⟩,⟨none,(some 77),(.fad 77 1 (.t 76))⟩,⟨none,(some 78),(.ld 78 false 1 (.t 77))⟩,⟨none,(some 79),(.len 79 false (.t 78))⟩,⟨none,(some 80),(.mm 80 true [(.t 72),(.t 79)])⟩,⟨none,(some 81),(.fad 81 2 (.t 12))⟩,⟨none,none,(.st 1 (.t 81) (.t 80))⟩]) (.drawc [⟨none,(some 82),(.fad 82 3 (.t 12))⟩,⟨none,(some 83),(.ldd 83 false 1 (.t 82) [])⟩,⟨none,(some 84),(.fad 84 0 (.t 7))⟩,⟨none,(some 85),(.ld 85 false 1 (.t 84))⟩,⟨none,(some 86),(.mov 86 (.t 13))⟩,⟨none,(some 87),(.ixa 87 11 (.t 85) (.t 86))⟩,⟨none,(some 88),(.fad 88 3 (.t 87))⟩,⟨none,(some 89),(.ld 89 true 7 (.t 88))⟩] [] (some 90) 22 [(.t 89)] [⟨none,(some 91),(.mm 91 true [(.t 83),(.t 90)])⟩,⟨none,(some 92),(.fad 92 3 (.t 12))⟩,⟨none,none,(.st 1 (.t 92) (.t 91))⟩]))) (.region [⟨none,(some 69),(.mov 69 (.t 13))⟩,⟨none,(some 70),(.bin 70 .add (.t 69) (.k (.v (.int .i64 1))))⟩,⟨none,(some 13),(.mov 13 (.t 70))⟩])))
def c_mwider:ACode:=(.seq (.region [⟨none,(some 4),(.box 4 (.t 1))⟩,⟨none,(some 5),(.box 5 (.t 2))⟩,⟨none,(some 6),(.mov 6 (.k (.v (.bool false))))⟩]) (.seq (.seq (.region [⟨none,(some 16),(.call (some 16) 17 [])⟩,⟨none,(some 17),(.un 17 .not (.t 16))⟩]) (.cond (.t 17) (.seq (.region [⟨none,(some 6),(.mov 6 (.k (.v (.bool false))))⟩]) .ret) .skip)) (.seq (.region [⟨none,(some 19),(.mov 19 (.t 0))⟩,⟨none,(some 20),(.ld 20 true 4 (.t 4))⟩,⟨none,(some 21),(.call (some 21) 20 [(.t 19),(.t 20)])⟩,⟨none,(some 18),(.mov 18 (.t 21))⟩,⟨none,(some 22),(.ext 22 0 (.t 18))⟩,⟨none,(some 23),(.ext 23 1 (.t 18))⟩,⟨none,(some 7),(.var 7 [(.v (.slice none 0 0))])⟩,⟨none,(some 8),(.var 8 [(.v (.int .i64 0)),(.v (.int .i64 0))])⟩,⟨none,none,(.st 1 (.t 7) (.t 22))⟩,⟨none,none,(.st 2 (.t 8) (.t 23))⟩]) (.seq (.seq (.region [⟨none,(some 24),(.fad 24 0 (.t 8))⟩,⟨none,(some 25),(.ld 25 false 1 (.t 24))⟩,⟨none,(some 26),(.bin 26 .neq (.t 25) (.k (.v (.int .i64 0))))⟩]) (.cond (.t 26) (.seq (.region [⟨none,(some 27),(.fad 27 0 (.t 7))⟩,⟨none,(some 28),(.ld 28 false 1 (.t 27))⟩,⟨none,(some 29),(.len 29 false (.t 28))⟩,⟨none,(some 30),(.bin 30 .eql (.t 29) (.k (.v (.int .i64 0))))⟩,⟨none,(some 6),(.mov 6 (.t 30))⟩]) .ret) .skip)) (.seq (.region [⟨none,(some 31),(.fad 31 0 (.t 4))⟩,⟨none,(some 32),(.ld 32 false 1 (.t 31))⟩,⟨none,(some 33),(.fad 33 0 (.t 5))⟩,⟨none,(some 34),(.ld 34 false 1 (.t 33))⟩,⟨none,(some 35),(.mm 35 true [(.t 32),(.t 34)])⟩,⟨none,(some 36),(.fad 36 1 (.t 4))⟩,⟨none,(some 37),(.ld 37 false 1 (.t 36))⟩,⟨none,(some 38),(.fad 38 1 (.t 5))⟩,⟨none,(some 39),(.ld 39 false 1 (.t 38))⟩,⟨none,(some 40),(.mm 40 true [(.t 37),(.t 39)])⟩,⟨none,(some 41),(.fad 41 2 (.t 4))⟩,⟨none,(some 42),(.ld 42 false 1 (.t 41))⟩,⟨none,(some 43),(.fad 43 2 (.t 5))⟩,⟨none,(some 44),(.ld 44 false 1 (.t 43))⟩,⟨none,(some 45),(.mm 45 true [(.t 42),(.t 44)])⟩,⟨none,(some 46),(.fad 46 3 (.t 4))⟩,⟨none,(some 47),(.ld 47 false 1 (.t 46))⟩,⟨none,(some 48),(.fad 48 3 (.t 5))⟩,⟨none,(some 49),(.ld 49 false 1 (.t 48))⟩,⟨none,(some 50),(.mm 50 true [(.t 47),(.t 49)])⟩,⟨none,(some 51),(.bld 51 [(.v (.int .i64 0)),(.v (.int .i64 0)),(.v (.int .i64 0)),(.v (.int .i64 0))] [(0,1),(1,1),(2,1),(3,1)] [(0,(.t 35)),(1,(.t 40)),(2,(.t 45)),(3,(.t 50))])⟩,⟨none,(some 9),(.var 9 [(.v (.int .i64 0)),(.v (.int .i64 0)),(.v (.int .i64 0)),(.v (.int .i64 0))])⟩,⟨none,none,(.st 4 (.t 9) (.t 51))⟩]) (.seq (.region [⟨none,(some 53),(.mov 53 (.t 0))⟩,⟨none,(some 54),(.ld 54 true 4 (.t 9))⟩,⟨none,(some 55),(.call (some 55) 20 [(.t 53),(.t 54)])⟩,⟨none,(some 52),(.mov 52 (.t 55))⟩,⟨none,(some 56),(.ext 56 0 (.t 52))⟩,⟨none,(some 57),(.ext 57 1 (.t 52))⟩,⟨none,(some 10),(.var 10 [(.v (.slice none 0 0))])⟩,⟨none,(some 11),(.var 11 [(.v (.int .i64 0)),(.v (.int .i64 0))])⟩,⟨none,none,(.st 1 (.t 10) (.t 56))⟩,⟨none,none,(.st 2 (.t 11) (.t 57))⟩]) (.seq (.region [⟨none,(some 58),(.mov 58 (.t 0))⟩,⟨none,(some 59),(.len 59 false (.t 58))⟩,⟨none,(some 60),(.fad 60 0 (.t 7))⟩,⟨none,(some 61),(.ld 61 false 1 (.t 60))⟩,⟨none,(some 62),(.len 62 false (.t 61))⟩,⟨none,(some 63),(.bld 63 [(.v (.int .i64 0)),(.v (.int .i64 0)),(.v (.int .i64 0)),(.v (.int .i64 0))] [(0,1),(1,1),(2,1),(3,1)] [(0,(.t 59)),(1,(.t 62))])⟩,⟨none,(some 12),(.var 12 [(.v (.int .i64 0)),(.v (.int .i64 0)),(.v (.int .i64 0)),(.v (.int .i64 0))])⟩,⟨none,none,(.st 4 (.t 12) (.t 63))⟩]) (.seq (.seq (.region [⟨none,(some 13),(.mov 13 (.k (.v (.int .i64 0))))⟩]) (.block 0 (.loop c_mwider_L0))) (.seq (.region [⟨none,(some 94),(.mov 94 (.t 0))⟩,⟨none,(some 95),(.ld 95 true 4 (.t 12))⟩,⟨none,(some 96),(.call (some 96) 20 [(.t 94),(.t 95)])⟩,⟨none,(some 93),(.mov 93 (.t 96))⟩,⟨none,(some 97),(.ext 97 0 (.t 93))⟩,⟨none,(some 98),(.ext 98 1 (.t 93))⟩,⟨none,(some 14),(.var 14 [(.v (.slice none 0 0))])⟩,⟨none,(some 15),(.var 15 [(.v (.int .i64 0)),(.v (.int .i64 0))])⟩,⟨none,none,(.st 1 (.t 14) (.t 97))⟩,⟨none,none,(.st 2 (.t 15) (.t 98))⟩]) (.seq (.seq (.region [⟨none,(some 99),(.fad 99 0 (.t 11))⟩,⟨none,(some 100),(.ld 100 false 1 (.t 99))⟩,⟨none,(some 101),(.bin 101 .neq (.t 100) (.k (.v (.int .i64 0))))⟩,⟨none,(some 102),(.mov 102 (.t 101))⟩,⟨(some (102,false)),(some 103),(.fad 103 0 (.t 15))⟩,⟨(some (102,false)),(some 104),(.ld 104 false 1 (.t 103))⟩,⟨(some (102,false)),(some 105),(.bin 105 .neq (.t 104) (.k (.v (.int .i64 0))))⟩,⟨none,(some 106),(.pick 106 (.t 102) (.k (.v (.bool true))) (.t 105))⟩,⟨none,(some 107),(.mov 107 (.t 106))⟩,⟨(some (107,false)),(some 108),(.ld 108 true 1 (.t 7))⟩,⟨(some (107,false)),(some 109),(.ld 109 true 1 (.t 10))⟩,⟨(some (107,false)),(some 110),(.call (some 110) 23 [(.t 108),(.t 109),(.k (.v (.bool true)))])⟩,⟨(some (107,false)),(some 111),(.un 111 .not (.t 110))⟩,⟨none,(some 112),(.pick 112 (.t 107) (.k (.v (.bool true))) (.t 111))⟩,⟨none,(some 113),(.mov 113 (.t 112))⟩,⟨(some (113,false)),(some 114),(.ld 114 true 1 (.t 7))⟩,⟨(some (113,false)),(some 115),(.ld 115 true 1 (.t 14))⟩,⟨(some (113,false)),(some 116),(.call (some 116) 23 [(.t 114),(.t 115),(.k (.v (.bool true)))])⟩,⟨(some (113,false)),(some 117),(.un 117 .not (.t 116))⟩,⟨none,(some 118),(.pick 118 (.t 113) (.k (.v (.bool true))) (.t 117))⟩]) (.cond (.t 118) (.seq (.region [⟨none,(some 6),(.mov 6 (.k (.v (.bool false))))⟩]) .ret) .skip)) (.seq (.region [⟨none,(some 119),(.fad 119 1 (.t 12))⟩,⟨none,(some 120),(.ld 120 false 1 (.t 119))⟩,⟨none,(some 121),(.bin 121 .sub (.t 120) (.k (.v (.int .i64 1))))⟩,⟨none,(some 122),(.fad 122 1 (.t 12))⟩,⟨none,none,(.st 1 (.t 122) (.t 121))⟩]) (.seq (.region [⟨none,(some 124),(.mov 124 (.t 0))⟩,⟨none,(some 125),(.ld 125 true 4 (.t 12))⟩,⟨none,(some 126),(.call (some 126) 20 [(.t 124),(.t 125)])⟩,⟨none,(some 123),(.mov 123 (.t 126))⟩,⟨none,(some 127),(.ext 127 0 (.t 123))⟩,⟨none,(some 128),(.ext 128 1 (.t 123))⟩,⟨none,none,(.st 2 (.t 11) (.t 128))⟩]) (.seq (.region [⟨none,(some 129),(.fad 129 1 (.t 12))⟩,⟨none,(some 130),(.ld 130 false 1 (.t 129))⟩,⟨none,(some 131),(.bin 131 .add (.t 130) (.k (.v (.int .i64 1))))⟩,⟨none,(some 132),(.fad 132 1 (.t 12))⟩,⟨none,none,(.st 1 (.t 132) (.t 131))⟩]) (.seq (.region [⟨none,(some 133),(.fad 133 0 (.t 12))⟩,⟨none,(some 134),(.ld 134 false 1 (.t 133))⟩,⟨none,(some 135),(.bin 135 .sub (.t 134) (.k (.v (.int .i64 1))))⟩,⟨none,(some 136),(.fad 136 0 (.t 12))⟩,⟨none,none,(.st 1 (.t 136) (.t 135))⟩]) (.seq (.region [⟨none,(some 138),(.mov 138 (.t 0))⟩,⟨none,(some 139),(.ld 139 true 4 (.t 12))⟩,⟨none,(some 140),(.call (some 140) 20 [(.t 138),(.t 139)])⟩,⟨none,(some 137),(.mov 137 (.t 140))⟩,⟨none,(some 141),(.ext 141 0 (.t 137))⟩,⟨none,(some 142),(.ext 142 1 (.t 137))⟩,⟨none,none,(.st 2 (.t 15) (.t 142))⟩]) (.seq (.region [⟨none,(some 143),(.fad 143 0 (.t 12))⟩,⟨none,(some 144),(.ld 144 false 1 (.t 143))⟩,⟨none,(some 145),(.bin 145 .add (.t 144) (.k (.v (.int .i64 1))))⟩,⟨none,(some 146),(.fad 146 0 (.t 12))⟩,⟨none,none,(.st 1 (.t 146) (.t 145))⟩]) (.seq (.seq (.region [⟨none,(some 147),(.fad 147 0 (.t 11))⟩,⟨none,(some 148),(.ld 148 false 1 (.t 147))⟩,⟨none,(some 149),(.bin 149 .neq (.t 148) (.k (.v (.int .i64 22))))⟩,⟨none,(some 150),(.mov 150 (.t 149))⟩,⟨(some (150,false)),(some 151),(.fad 151 0 (.t 15))⟩,⟨(some (150,false)),(some 152),(.ld 152 false 1 (.t 151))⟩,⟨(some (150,false)),(some 153),(.bin 153 .neq (.t 152) (.k (.v (.int .i64 22))))⟩,⟨none,(some 154),(.pick 154 (.t 150) (.k (.v (.bool true))) (.t 153))⟩]) (.cond (.t 154) (.seq (.region [⟨none,(some 6),(.mov 6 (.k (.v (.bool false))))⟩]) .ret) .skip)) (.seq (.seq (.region [⟨none,(some 155),(.fad 155 2 (.t 12))⟩,⟨none,(some 156),(.ld 156 false 1 (.t 155))⟩,⟨none,(some 157),(.bin 157 .gtr (.t 156) (.k (.v (.int .i64 0))))⟩]) (.cond (.t 157) (.seq (.region [⟨none,(some 158),(.fad 158 2 (.t 12))⟩,⟨none,(some 159),(.ld 159 false 1 (.t 158))⟩,⟨none,(some 160),(.bin 160 .sub (.t 159) (.k (.v (.int .i64 1))))⟩,⟨none,(some 161),(.fad 161 2 (.t 12))⟩,⟨none,none,(.st 1 (.t 161) (.t 160))⟩]) (.seq (.region [⟨none,(some 163),(.mov 163 (.t 0))⟩,⟨none,(some 164),(.ld 164 true 4 (.t 12))⟩,⟨none,(some 165),(.call (some 165) 20 [(.t 163),(.t 164)])⟩,⟨none,(some 162),(.mov 162 (.t 165))⟩,⟨none,(some 166),(.ext 166 0 (.t 162))⟩,⟨none,(some 167),(.ext 167 1 (.t 162))⟩,⟨none,none,(.st 2 (.t 11) (.t 167))⟩]) (.region [⟨none,(some 168),(.fad 168 2 (.t 12))⟩,⟨none,(some 169),(.ld 169 false 1 (.t 168))⟩,⟨none,(some 170),(.bin 170 .add (.t 169) (.k (.v (.int .i64 1))))⟩,⟨none,(some 171),(.fad 171 2 (.t 12))⟩,⟨none,none,(.st 1 (.t 171) (.t 170))⟩]))) .skip)) (.seq (.seq (.region [⟨none,(some 172),(.fad 172 3 (.t 12))⟩,⟨none,(some 173),(.ld 173 false 1 (.t 172))⟩,⟨none,(some 174),(.bin 174 .gtr (.t 173) (.k (.v (.int .i64 0))))⟩]) (.cond (.t 174) (.seq (.region [⟨none,(some 175),(.fad 175 3 (.t 12))⟩,⟨none,(some 176),(.ld 176 false 1 (.t 175))⟩,⟨none,(some 177),(.bin 177 .sub (.t 176) (.k (.v (.int .i64 1))))⟩,⟨none,(some 178),(.fad 178 3 (.t 12))⟩,⟨none,none,(.st 1 (.t 178) (.t 177))⟩]) (.seq (.region [⟨none,(some 180),(.mov 180 (.t 0))⟩,⟨none,(some 181),(.ld 181 true 4 (.t 12))⟩,⟨none,(some 182),(.call (some 182) 20 [(.t 180),(.t 181)])⟩,⟨none,(some 179),(.mov 179 (.t 182))⟩,⟨none,(some 183),(.ext 183 0 (.t 179))⟩,⟨none,(some 184),(.ext 184 1 (.t 179))⟩,⟨none,none,(.st 2 (.t 15) (.t 184))⟩]) (.seq (.region [⟨none,(some 185),(.fad 185 0 (.t 11))⟩,⟨none,(some 186),(.ld 186 false 1 (.t 185))⟩,⟨none,(some 187),(.bin 187 .eql (.t 186) (.k (.v (.int .i64 22))))⟩,⟨none,(some 188),(.mov 188 (.t 187))⟩,⟨(some (188,true)),(some 189),(.fad 189 0 (.t 15))⟩,⟨(some (188,true)),(some 190),(.ld 190 false 1 (.t 189))⟩,⟨(some (188,true)),(some 191),(.bin 191 .eql (.t 190) (.k (.v (.int .i64 23))))⟩,⟨none,(some 192),(.pick 192 (.t 188) (.t 191) (.k (.v (.bool false))))⟩,⟨none,(some 6),(.mov 6 (.t 192))⟩]) .ret))) .skip)) (.seq (.region [⟨none,(some 193),(.fad 193 0 (.t 11))⟩,⟨none,(some 194),(.ld 194 false 1 (.t 193))⟩,⟨none,(some 195),(.bin 195 .eql (.t 194) (.k (.v (.int .i64 22))))⟩,⟨none,(some 6),(.mov 6 (.t 195))⟩]) .ret))))))))))))))))))))
set_option maxRecDepth 100000 in
theorem F_mwider:Fun Tryz.prog 6 196 c_mwider [(.tmp 6)]:=Fun.of (m:=true) (by as_aux_lemma=>kernel_rfl)
def c_mnest_L0:ACode:=(.seq (.seq (.region [⟨none,(some 5),(.mov 5 (.t 4))⟩,⟨none,(some 6),(.fad 6 5 (.t 1))⟩,⟨none,(some 7),(.ld 7 false 1 (.t 6))⟩,⟨none,(some 8),(.len 8 false (.t 7))⟩,⟨none,(some 9),(.bin 9 .lss (.t 5) (.t 8))⟩]) (.cond (.t 9) .skip (.exit 0))) (.seq (.block 1 (.region [⟨none,(some 12),(.mov 12 (.t 3))⟩,⟨none,(some 13),(.fad 13 5 (.t 1))⟩,⟨none,(some 14),(.ld 14 false 1 (.t 13))⟩,⟨none,(some 15),(.mov 15 (.t 4))⟩,⟨none,(some 16),(.ixa 16 7 (.t 14) (.t 15))⟩,⟨none,(some 17),(.ld 17 true 7 (.t 16))⟩,⟨none,(some 18),(.call (some 18) 22 [(.t 17)])⟩,⟨none,(some 19),(.mm 19 true [(.t 12),(.t 18)])⟩,⟨none,(some 3),(.mov 3 (.t 19))⟩])) (.region [⟨none,(some 10),(.mov 10 (.t 4))⟩,⟨none,(some 11),(.bin 11 .add (.t 10) (.k (.v (.int .i64 1))))⟩,⟨none,(some 4),(.mov 4 (.t 11))⟩])))
def c_mnest:ACode:=(.seq (.region [⟨none,(some 1),(.box 1 (.t 0))⟩,⟨none,(some 2),(.mov 2 (.k (.v (.int .i64 0))))⟩]) (.seq (.region [⟨none,(some 3),(.mov 3 (.k (.v (.int .i64 0))))⟩]) (.seq (.seq (.region [⟨none,(some 4),(.mov 4 (.k (.v (.int .i64 0))))⟩]) (.block 0 (.loop c_mnest_L0))) (.seq (.seq (.region [⟨none,(some 20),(.fad 20 0 (.t 1))⟩,⟨none,(some 21),(.ld 21 false 1 (.t 20))⟩,⟨none,(some 22),(.bin 22 .eql (.t 21) (.k (.v (.int .i64 21))))⟩,⟨none,(some 23),(.mov 23 (.t 22))⟩,⟨(some (23,false)),(some 24),(.fad 24 0 (.t 1))⟩,⟨(some (23,false)),(some 25),(.ld 25 false 1 (.t 24))⟩,⟨(some (23,false)),(some 26),(.bin 26 .eql (.t 25) (.k (.v (.int .i64 22))))⟩,⟨none,(some 27),(.pick 27 (.t 23) (.k (.v (.bool true))) (.t 26))⟩,⟨none,(some 28),(.mov 28 (.t 27))⟩,⟨(some (28,false)),(some 29),(.fad 29 0 (.t 1))⟩,⟨(some (28,false)),(some 30),(.ld 30 false 1 (.t 29))⟩,⟨(some (28,false)),(some 31),(.bin 31 .eql (.t 30) (.k (.v (.int .i64 20))))⟩,⟨none,(some 32),(.pick 32 (.t 28) (.k (.v (.bool true))) (.t 31))⟩]) (.cond (.t 32) (.region [⟨none,(some 33),(.mov 33 (.t 3))⟩,⟨none,(some 34),(.bin 34 .add (.t 33) (.k (.v (.int .i64 1))))⟩,⟨none,(some 3),(.mov 3 (.t 34))⟩]) .skip)) (.seq (.region [⟨none,(some 35),(.mov 35 (.t 3))⟩,⟨none,(some 2),(.mov 2 (.t 35))⟩]) .ret)))))
set_option maxRecDepth 100000 in
theorem F_mnest:Fun Tryz.prog 22 36 c_mnest [(.tmp 2)]:=Fun.of (m:=true) (by as_aux_lemma=>kernel_rfl)
end Go.Proofs.YtgddkgbidhhheaaGreatDoor
set_option linter.unusedVariables false
set_option linter.unusedSimpArgs false
set_option maxRecDepth 100000
namespace Go.Proofs.YtgddkgbidhhheaaGreatDoor
open Go.RowKit Flo Ab Mk Pg
mutual
def sameX (pl:Bool):Ex→Ex→Bool
 | .mk o n t ty num us p,.mk o' n' t' ty' num' vs p'=>decide (o=o') && (n == n') && (t == t') && decide (ty=ty') && cEq (W num.1) (W num.2) (W num'.1) (W num'.2) && decide (us.length=vs.length) && (!pl || decide (p=p')) && sameXs pl us vs
def sameXs (pl:Bool):List Ex→List Ex→Bool
 | e :: r,e' :: r'=>sameX pl e e' && sameXs pl r r'
 | _,_=>true
end
mutual
def cntX:Ex→Nat
 | .mk _ _ _ _ _ us _=>1 + cntXs us
def cntXs:List Ex→Nat
 | []=>0
 | e :: r=>cntX e + cntXs r
end
theorem cntX_pos (e:Ex):1≤cntX e:=by obtain ⟨o,n,t,ty,num,us,p⟩:=e; rw [cntX]; omega
theorem cntXs_len:∀ us:List Ex,us.length≤cntXs us
 | []=>Nat.zero_le _
 | e :: r=>by have:=cntXs_len r; have:=cntX_pos e; rw [cntXs,List.length_cons]; omega
theorem cntXs_mem:∀ {us:List Ex} {e:Ex},e ∈ us→cntX e≤cntXs us
 | u :: r,e,h=>by
  rw [cntXs]
  rcases List.mem_cons.1 h with rfl | h
  ·omega
  ·have:=cntXs_mem h; omega
theorem cells_deep (e:Ex):e.cells.all deep1=true:=by obtain ⟨o,n,t,ty,num,us,p⟩:=e; rfl
theorem exsA_at:∀ {us:List Ex} {k:Nat} {e:Ex},us[k]? = some e→((exsA us).drop (k * 7)).take 7=e.cells
 | [],k,v,h=>by simp at h
 | u :: vs,0,v,h=>by cases h; rw [exsA,Nat.zero_mul,List.drop_zero,List.take_left' (cells_len _)]
 | u :: vs,k + 1,v,h=>by
  have:=exsA_at (us:=vs) (k:=k) (e:=v) (by simpa using h)
  rw [exsA,show (k + 1) * 7=u.cells.length + k * 7 by rw [cells_len]; omega,← List.drop_drop,List.drop_left]
  exact this
theorem sameXs_drop (pl:Bool) {us vs:List Ex} {k:Nat} {e e':Ex} (h:us[k]? = some e) (h':vs[k]? = some e'):sameXs pl (us.drop k) (vs.drop k)=(sameX pl e e' && sameXs pl (us.drop (k + 1)) (vs.drop (k + 1))):=by
 obtain ⟨h1,rfl⟩:=List.getElem?_eq_some_iff.1 h
 obtain ⟨h2,rfl⟩:=List.getElem?_eq_some_iff.1 h'
 rw [List.drop_eq_getElem_cons h1,List.drop_eq_getElem_cons h2,sameXs]
section
variable {G:World→Prop}
def SxI (pl:Bool) (us vs:List Ex) (ca cb:List AV) (g:Nat) (F:Fr) (H:List Ob):Prop:=
 ∃ k:Nat,k + g=us.length∧F 2=some (bv pl)∧F 3=some (.ptr 0 0)∧F 4=some (.ptr 1 0)∧F 7=some (iv k)∧H[0]? = some (.var ca)∧H[1]? = some (.var cb)∧sameXs pl us vs=sameXs pl (us.drop k) (vs.drop k)
theorem psamee_ap (pl:Bool):∀ (a b:Ex),cntX a≤1000000→AP Tryz.prog G 24 [exA a,exA b,bv pl] (fun x=>x=bv (sameX pl a b))
 | .mk o n t ty num us p,.mk o' n' t' ty' num' vs p',hcnt=>by
  rw [cntX] at hcnt
  have hul:=cntXs_len us
  refine AP.go hmix F_psamee (by simp) ?_
  have hsx:sameX pl (.mk o n t ty num us p) (.mk o' n' t' ty' num' vs p')=(decide (o=o') && (n == n') && (t == t') && decide (ty=ty') && cEq (W num.1) (W num.2) (W num'.1) (W num'.2) && decide (us.length=vs.length) && (!pl || decide (p=p')) && sameXs pl us vs):=by rw [sameX]
  obtain ⟨R,hR⟩:∃ R,sameX pl (.mk o n t ty num us p) (.mk o' n' t' ty' num' vs p')=R:=⟨_,rfl⟩
  rw [hR] at hsx ⊢
  rcases Classical.em (¬ (o=o')) with h1 | h1
  ·simp -implicitDefEqProofs [c_psamee,exA,Ex.cells,h1,hsx]
  have h1:=Decidable.not_not.1 h1
  subst h1
  rcases Classical.em (¬ (n=n')) with h2 | h2
  ·have h2':(n == n')=false:=beq_eq_false_iff_ne.2 h2
   simp -implicitDefEqProofs [c_psamee,exA,Ex.cells,h2,h2',hsx]
  have h2:=Decidable.not_not.1 h2
  subst h2
  rcases Classical.em (¬ (t=t')) with h3 | h3
  ·have h2':(t == t')=false:=beq_eq_false_iff_ne.2 h3
   simp -implicitDefEqProofs [c_psamee,exA,Ex.cells,h3,h2',hsx]
  have h3:=Decidable.not_not.1 h3
  subst h3
  rcases Classical.em (¬ (ty=ty')) with h4 | h4
  ·simp -implicitDefEqProofs [c_psamee,exA,Ex.cells,h4,hsx]
  have h4:=Decidable.not_not.1 h4
  subst h4
  cases h5:cEq (W num.1) (W num.2) (W num'.1) (W num'.2)
  ·simp -implicitDefEqProofs [c_psamee,exA,Ex.cells,h5,hsx]
  rcases Classical.em (¬ (us.length=vs.length)) with h6 | h6
  ·have h6':¬ (us.length:Int)=vs.length:=by omega
   simp -implicitDefEqProofs [c_psamee,exA,Ex.cells,h5,h6,h6',hsx]
  have h6:=Decidable.not_not.1 h6
  have h6':(us.length:Int)=vs.length:=by omega
  by_cases h7:pl=true∧p≠p'
  ·obtain ⟨rfl,h7⟩:=h7
   simp -implicitDefEqProofs [c_psamee,exA,Ex.cells,h5,eq_true h6,eq_true h6',h7,hsx]
  have ih:∀ e ∈ us,∀ b,AP Tryz.prog G 24 [exA e,exA b,bv pl] (fun x=>x=bv (sameX pl e b)):=fun e he b=>psamee_ap pl e b (by have:=cntXs_mem he; omega)
  have hR2:(pl=false∨p=p')→R=sameXs pl us vs:=by
   intro hp
   have h8:(!pl || decide (p=p'))=true:=by
    rcases hp with rfl | rfl
    ·rfl
    ·simp
   rw [hsx,h5,h8,decide_eq_true h6]
   simp
  have hcase:pl=false∨(pl=true∧p=p'):=by
   cases pl
   ·exact .inl rfl
   ·refine .inr ⟨rfl,?_⟩
    rcases Classical.em (p=p') with h | h
    ·exact h
    ·exact absurd ⟨rfl,h⟩ h7
  rcases hcase with rfl | ⟨rfl,rfl⟩
  ·have hRR:=hR2 (.inl rfl)
   simp -implicitDefEqProofs [c_psamee,exA,Ex.cells,h5,eq_true h6,eq_true h6']
   refine LP.go (SxI false us vs [iv o,sv n,sv t,iv ty,cv (W num.1) (W num.2),.sl us.length (exsA us),iv p] [iv o,sv n,sv t,iv ty,cv (W num'.1) (W num'.2),.sl vs.length (exsA vs),iv p']) us.length ⟨0,by omega,by simp,by simp,by simp,by simp,by simp,by simp,rfl⟩ ?_
   unfold c_psamee_L0
   rintro g F H ⟨k,hk,f2,f3,f4,f7,hH0,hH1,he⟩
   by_cases hkl:(k:Int) < us.length
   ·have hkl':k < us.length:=by omega
    obtain ⟨e,hu⟩:∃ e,us[k]? = some e:=⟨_,List.getElem?_eq_getElem hkl'⟩
    obtain ⟨e',hv⟩:∃ e,vs[k]? = some e:=⟨_,List.getElem?_eq_getElem (by omega)⟩
    have hcu:=exsA_at hu
    have hcv:=exsA_at hv
    have hw:IntKind.i64.wrap ((k:Int) + 1)=((k + 1:Nat):Int):=by rw [wrap64 _ (by omega)]; omega
    rw [sameXs_drop _ hu hv] at he
    have hih:=ih e (List.mem_of_getElem? hu) e'
    simp -implicitDefEqProofs [f2,f3,f4,f7,hH0,hH1,hkl,hcu,hcv]
    have hz1:k * 7 + 7≤(exsA us).length:=by rw [exsA_len]; omega
    have hz2:k * 7 + 7≤(exsA vs).length:=by rw [exsA_len]; omega
    have hkv:k < vs.length:=by omega
    refine ⟨hz1,hkv,hz2,?_⟩
    refine DC.go [.agg e.cells,.agg e'.cells,bv false] (bv (sameX false e e')) (by simp) (by simpa [exA] using hih) (by simp [cells_deep]) (by simp) ?_ (a:=.mk)
    cases hs:sameX false e e'
    ·have he2:sameXs false us vs=false:=by rw [he,hs]; rfl
     simp -implicitDefEqProofs [hRR,he2]
    ·rw [hs,Bool.true_and] at he
     simp -implicitDefEqProofs [f7,hw,-Int.natCast_add]
     exact ⟨g - 1,by omega,k + 1,by omega,by simp [f2],by simp [f3],by simp [f4],by simp,hH0,hH1,he⟩
   ·obtain rfl:k=us.length:=by omega
    rw [List.drop_length] at he
    have he2:sameXs false us vs=true:=by rw [he]; simp [sameXs]
    simp -implicitDefEqProofs [f2,f3,f4,f7,hH0,hH1,hkl,hRR,he2]
  ·have hRR:=hR2 (.inr rfl)
   simp -implicitDefEqProofs [c_psamee,exA,Ex.cells,h5,eq_true h6,eq_true h6']
   refine LP.go (SxI true us vs [iv o,sv n,sv t,iv ty,cv (W num.1) (W num.2),.sl us.length (exsA us),iv p] [iv o,sv n,sv t,iv ty,cv (W num'.1) (W num'.2),.sl vs.length (exsA vs),iv p]) us.length ⟨0,by omega,by simp,by simp,by simp,by simp,by simp,by simp,rfl⟩ ?_
   unfold c_psamee_L0
   rintro g F H ⟨k,hk,f2,f3,f4,f7,hH0,hH1,he⟩
   by_cases hkl:(k:Int) < us.length
   ·have hkl':k < us.length:=by omega
    obtain ⟨e,hu⟩:∃ e,us[k]? = some e:=⟨_,List.getElem?_eq_getElem hkl'⟩
    obtain ⟨e',hv⟩:∃ e,vs[k]? = some e:=⟨_,List.getElem?_eq_getElem (by omega)⟩
    have hcu:=exsA_at hu
    have hcv:=exsA_at hv
    have hw:IntKind.i64.wrap ((k:Int) + 1)=((k + 1:Nat):Int):=by rw [wrap64 _ (by omega)]; omega
    rw [sameXs_drop _ hu hv] at he
    have hih:=ih e (List.mem_of_getElem? hu) e'
    simp -implicitDefEqProofs [f2,f3,f4,f7,hH0,hH1,hkl,hcu,hcv]
    have hz1:k * 7 + 7≤(exsA us).length:=by rw [exsA_len]; omega
    have hz2:k * 7 + 7≤(exsA vs).length:=by rw [exsA_len]; omega
    have hkv:k < vs.length:=by omega
    refine ⟨hz1,hkv,hz2,?_⟩
    refine DC.go [.agg e.cells,.agg e'.cells,bv true] (bv (sameX true e e')) (by simp) (by simpa [exA] using hih) (by simp [cells_deep]) (by simp) ?_ (a:=.mk)
    cases hs:sameX true e e'
    ·have he2:sameXs true us vs=false:=by rw [he,hs]; rfl
     simp -implicitDefEqProofs [hRR,he2]
    ·rw [hs,Bool.true_and] at he
     simp -implicitDefEqProofs [f7,hw,-Int.natCast_add]
     exact ⟨g - 1,by omega,k + 1,by omega,by simp [f2],by simp [f3],by simp [f4],by simp,hH0,hH1,he⟩
   ·obtain rfl:k=us.length:=by omega
    rw [List.drop_length] at he
    have he2:sameXs true us vs=true:=by rw [he]; simp [sameXs]
    simp -implicitDefEqProofs [f2,f3,f4,f7,hH0,hH1,hkl,hRR,he2]
termination_by a=>SizeOf.sizeOf a
decreasing_by
 have:=List.sizeOf_lt_of_mem he
 simp only [Ex.mk.sizeOf_spec]
 omega
end
end Go.Proofs.YtgddkgbidhhheaaGreatDoor
