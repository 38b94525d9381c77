/- Texts joined: CdP Psq. -/
import Derived.Test.YtgddkgbidhhheaaDoorKpac
import Derived.Test.YtgddkgbidhhheaaDoorProg
import Derived.KernelRfl
import Derived.Test.YtgddkgbidhhheaaDoorKpaw
import Derived.Test.YtgddkgbidhhheaaDoorKpal
/- Functions' compiled code. (printed by gen/abscode.py) -/
set_option linter.unusedVariables false
namespace Go.Proofs.YtgddkgbidhhheaaDoor
open Ab
def c_qlevel : ACode := (.seq (.region [⟨none, (some 1), (.box 1 (.t 0))⟩, ⟨none, (some 2), (.mov 2 (.k (.v (.int .i64 0))))⟩]) (.seq (.seq (.region [⟨none, (some 3), (.fad 3 0 (.t 1))⟩, ⟨none, (some 4), (.ld 4 false 1 (.t 3))⟩]) (.block 0 (.seq (.seq (.region [⟨none, (some 6), (.bin 6 .eql (.t 4) (.k (.v (.int .i64 21))))⟩, ⟨none, (some 5), (.mov 5 (.t 6))⟩]) (.cond (.t 5) .skip (.seq (.region [⟨none, (some 7), (.bin 7 .eql (.t 4) (.k (.v (.int .i64 22))))⟩, ⟨none, (some 5), (.mov 5 (.t 7))⟩]) (.cond (.t 5) .skip (.seq (.region [⟨none, (some 8), (.bin 8 .eql (.t 4) (.k (.v (.int .i64 19))))⟩, ⟨none, (some 5), (.mov 5 (.t 8))⟩]) (.cond (.t 5) .skip (.region [⟨none, (some 9), (.bin 9 .eql (.t 4) (.k (.v (.int .i64 20))))⟩, ⟨none, (some 5), (.mov 5 (.t 9))⟩]))))))) (.cond (.t 5) (.seq (.region [⟨none, (some 2), (.mov 2 (.k (.v (.int .i64 0))))⟩]) .ret) (.seq (.region [⟨none, (some 11), (.bin 11 .eql (.t 4) (.k (.v (.int .i64 18))))⟩, ⟨none, (some 10), (.mov 10 (.t 11))⟩]) (.cond (.t 10) (.seq (.region [⟨none, (some 2), (.mov 2 (.k (.v (.int .i64 1))))⟩]) .ret) (.seq (.seq (.region [⟨none, (some 13), (.bin 13 .eql (.t 4) (.k (.v (.int .i64 12))))⟩, ⟨none, (some 12), (.mov 12 (.t 13))⟩]) (.cond (.t 12) .skip (.region [⟨none, (some 14), (.bin 14 .eql (.t 4) (.k (.v (.int .i64 13))))⟩, ⟨none, (some 12), (.mov 12 (.t 14))⟩]))) (.cond (.t 12) (.seq (.region [⟨none, (some 2), (.mov 2 (.k (.v (.int .i64 2))))⟩]) .ret) (.seq (.seq (.region [⟨none, (some 16), (.bin 16 .eql (.t 4) (.k (.v (.int .i64 8))))⟩, ⟨none, (some 15), (.mov 15 (.t 16))⟩]) (.cond (.t 15) .skip (.region [⟨none, (some 17), (.bin 17 .eql (.t 4) (.k (.v (.int .i64 9))))⟩, ⟨none, (some 15), (.mov 15 (.t 17))⟩]))) (.cond (.t 15) (.seq (.region [⟨none, (some 2), (.mov 2 (.k (.v (.int .i64 3))))⟩]) .ret) (.seq (.seq (.region [⟨none, (some 19), (.bin 19 .eql (.t 4) (.k (.v (.int .i64 10))))⟩, ⟨none, (some 18), (.mov 18 (.t 19))⟩]) (.cond (.t 18) .skip (.region [⟨none, (some 20), (.bin 20 .eql (.t 4) (.k (.v (.int .i64 11))))⟩, ⟨none, (some 18), (.mov 18 (.t 20))⟩]))) (.cond (.t 18) (.seq (.region [⟨none, (some 2), (.mov 2 (.k (.v (.int .i64 4))))⟩]) .ret) .skip)))))))))))) (.seq (.region [⟨none, (some 2), (.mov 2 (.k (.v (.int .i64 5))))⟩]) .ret)))
set_option maxRecDepth 100000 in
theorem F_qlevel : Fun Tryd.prog 31 21 c_qlevel [(.tmp 2)] := Fun.of (m := false) (by as_aux_lemma => kernel_rfl)
def c_qletter : ACode := (.seq (.region [⟨none, (some 2), (.mov 2 (.k (.v (.string ⟨#[]⟩))))⟩]) (.seq (.seq (.region [⟨none, (some 3), (.mov 3 (.t 0))⟩]) (.block 0 (.seq (.region [⟨none, (some 5), (.bin 5 .eql (.t 3) (.k (.v (.int .i64 1))))⟩, ⟨none, (some 4), (.mov 4 (.t 5))⟩]) (.cond (.t 4) (.seq (.region [⟨none, (some 2), (.mov 2 (.k (.v (.string ⟨#[78]⟩))))⟩]) .ret) (.seq (.region [⟨none, (some 7), (.bin 7 .eql (.t 3) (.k (.v (.int .i64 2))))⟩, ⟨none, (some 6), (.mov 6 (.t 7))⟩]) (.cond (.t 6) (.seq (.region [⟨none, (some 2), (.mov 2 (.k (.v (.string ⟨#[66]⟩))))⟩]) .ret) (.seq (.region [⟨none, (some 9), (.bin 9 .eql (.t 3) (.k (.v (.int .i64 3))))⟩, ⟨none, (some 8), (.mov 8 (.t 9))⟩]) (.cond (.t 8) (.seq (.region [⟨none, (some 2), (.mov 2 (.k (.v (.string ⟨#[76]⟩))))⟩]) .ret) .skip)))))))) (.seq (.region [⟨none, (some 2), (.mov 2 (.k (.v (.string ⟨#[]⟩))))⟩]) .ret)))
set_option maxRecDepth 100000 in
theorem F_qletter : Fun Tryd.prog 21 10 c_qletter [(.tmp 2)] := Fun.of (m := false) (by as_aux_lemma => kernel_rfl)
def c_qpart : ACode := (.seq (.region [⟨none, (some 3), (.box 3 (.t 0))⟩, ⟨none, (some 6), (.mov 6 (.k (.v (.string ⟨#[]⟩))))⟩]) (.seq (.seq (.region [⟨none, (some 8), (.mov 8 (.t 1))⟩, ⟨none, (some 9), (.fad 9 5 (.t 3))⟩, ⟨none, (some 10), (.ld 10 false 1 (.t 9))⟩, ⟨none, (some 11), (.len 11 false (.t 10))⟩, ⟨none, (some 12), (.bin 12 .geq (.t 8) (.t 11))⟩]) (.cond (.t 12) (.seq (.region [⟨none, (some 6), (.mov 6 (.k (.v (.string ⟨#[]⟩))))⟩]) .ret) .skip)) (.seq (.region [⟨none, (some 13), (.fad 13 5 (.t 3))⟩, ⟨none, (some 14), (.ld 14 false 1 (.t 13))⟩, ⟨none, (some 15), (.mov 15 (.t 1))⟩, ⟨none, (some 16), (.ixa 16 7 (.t 14) (.t 15))⟩, ⟨none, (some 17), (.ld 17 true 7 (.t 16))⟩, ⟨none, (some 18), (.call (some 18) 9 [(.t 17)])⟩, ⟨none, (some 7), (.mov 7 (.t 18))⟩]) (.seq (.seq (.region [⟨none, (some 19), (.fad 19 5 (.t 3))⟩, ⟨none, (some 20), (.ld 20 false 1 (.t 19))⟩, ⟨none, (some 21), (.mov 21 (.t 1))⟩, ⟨none, (some 22), (.ixa 22 7 (.t 20) (.t 21))⟩, ⟨none, (some 23), (.ld 23 true 7 (.t 22))⟩, ⟨none, (some 24), (.call (some 24) 31 [(.t 23)])⟩, ⟨none, (some 25), (.mov 25 (.t 2))⟩, ⟨none, (some 26), (.bin 26 .lss (.t 24) (.t 25))⟩]) (.cond (.t 26) (.seq (.region [⟨none, (some 27), (.mov 27 (.t 7))⟩, ⟨none, (some 28), (.cat 28 (.k (.v (.string ⟨#[40]⟩))) (.t 27))⟩, ⟨none, (some 29), (.cat 29 (.t 28) (.k (.v (.string ⟨#[41]⟩))))⟩, ⟨none, (some 6), (.mov 6 (.t 29))⟩]) .ret) .skip)) (.seq (.region [⟨none, (some 30), (.mov 30 (.t 7))⟩, ⟨none, (some 6), (.mov 6 (.t 30))⟩]) .ret)))))
set_option maxRecDepth 100000 in
theorem F_qpart : Fun Tryd.prog 18 31 c_qpart [(.tmp 6)] := Fun.of (m := false) (by as_aux_lemma => kernel_rfl)
def c_qsign : ACode := (.seq (.region [⟨none, (some 2), (.mov 2 (.k (.v (.string ⟨#[]⟩))))⟩, ⟨none, (some 3), (.mov 3 (.k (.v (.int .i64 0))))⟩, ⟨none, (some 4), (.mov 4 (.k (.v (.int .i64 0))))⟩]) (.seq (.seq (.region [⟨none, (some 5), (.mov 5 (.t 0))⟩]) (.block 0 (.seq (.region [⟨none, (some 7), (.bin 7 .eql (.t 5) (.k (.v (.int .i64 18))))⟩, ⟨none, (some 6), (.mov 6 (.t 7))⟩]) (.cond (.t 6) (.seq (.region [⟨none, (some 2), (.mov 2 (.k (.v (.string ⟨#[32, 58, 32]⟩))))⟩, ⟨none, (some 3), (.mov 3 (.k (.v (.int .i64 2))))⟩, ⟨none, (some 4), (.mov 4 (.k (.v (.int .i64 1))))⟩]) .ret) (.seq (.region [⟨none, (some 9), (.bin 9 .eql (.t 5) (.k (.v (.int .i64 12))))⟩, ⟨none, (some 8), (.mov 8 (.t 9))⟩]) (.cond (.t 8) (.seq (.region [⟨none, (some 2), (.mov 2 (.k (.v (.string ⟨#[32, 61, 61, 32]⟩))))⟩, ⟨none, (some 3), (.mov 3 (.k (.v (.int .i64 3))))⟩, ⟨none, (some 4), (.mov 4 (.k (.v (.int .i64 3))))⟩]) .ret) (.seq (.region [⟨none, (some 11), (.bin 11 .eql (.t 5) (.k (.v (.int .i64 13))))⟩, ⟨none, (some 10), (.mov 10 (.t 11))⟩]) (.cond (.t 10) (.seq (.region [⟨none, (some 2), (.mov 2 (.k (.v (.string ⟨#[32, 60, 32]⟩))))⟩, ⟨none, (some 3), (.mov 3 (.k (.v (.int .i64 3))))⟩, ⟨none, (some 4), (.mov 4 (.k (.v (.int .i64 3))))⟩]) .ret) (.seq (.region [⟨none, (some 13), (.bin 13 .eql (.t 5) (.k (.v (.int .i64 8))))⟩, ⟨none, (some 12), (.mov 12 (.t 13))⟩]) (.cond (.t 12) (.seq (.region [⟨none, (some 2), (.mov 2 (.k (.v (.string ⟨#[32, 43, 32]⟩))))⟩, ⟨none, (some 3), (.mov 3 (.k (.v (.int .i64 3))))⟩, ⟨none, (some 4), (.mov 4 (.k (.v (.int .i64 4))))⟩]) .ret) (.seq (.region [⟨none, (some 15), (.bin 15 .eql (.t 5) (.k (.v (.int .i64 9))))⟩, ⟨none, (some 14), (.mov 14 (.t 15))⟩]) (.cond (.t 14) (.seq (.region [⟨none, (some 2), (.mov 2 (.k (.v (.string ⟨#[32, 45, 32]⟩))))⟩, ⟨none, (some 3), (.mov 3 (.k (.v (.int .i64 3))))⟩, ⟨none, (some 4), (.mov 4 (.k (.v (.int .i64 4))))⟩]) .ret) (.seq (.region [⟨none, (some 17), (.bin 17 .eql (.t 5) (.k (.v (.int .i64 10))))⟩, ⟨none, (some 16), (.mov 16 (.t 17))⟩]) (.cond (.t 16) (.seq (.region [⟨none, (some 2), (.mov 2 (.k (.v (.string ⟨#[32, 42, 32]⟩))))⟩, ⟨none, (some 3), (.mov 3 (.k (.v (.int .i64 4))))⟩, ⟨none, (some 4), (.mov 4 (.k (.v (.int .i64 5))))⟩]) .ret) (.seq (.region [⟨none, (some 19), (.bin 19 .eql (.t 5) (.k (.v (.int .i64 11))))⟩, ⟨none, (some 18), (.mov 18 (.t 19))⟩]) (.cond (.t 18) (.seq (.region [⟨none, (some 2), (.mov 2 (.k (.v (.string ⟨#[32, 47, 32]⟩))))⟩, ⟨none, (some 3), (.mov 3 (.k (.v (.int .i64 4))))⟩, ⟨none, (some 4), (.mov 4 (.k (.v (.int .i64 5))))⟩]) .ret) .skip)))))))))))))))) (.seq (.region [⟨none, (some 2), (.mov 2 (.k (.v (.string ⟨#[]⟩))))⟩, ⟨none, (some 3), (.mov 3 (.k (.v (.int .i64 0))))⟩, ⟨none, (some 4), (.mov 4 (.k (.v (.int .i64 0))))⟩]) .ret)))
set_option maxRecDepth 100000 in
theorem F_qsign : Fun Tryd.prog 17 20 c_qsign [(.tmp 2), (.tmp 3), (.tmp 4)] := Fun.of (m := false) (by as_aux_lemma => kernel_rfl)
def c_qlist_L0 : ACode := (.seq (.seq (.region [⟨none, (some 5), (.mov 5 (.t 4))⟩, ⟨none, (some 6), (.fad 6 5 (.t 1))⟩, ⟨none, (some 7), (.ld 7 false 1 (.t 6))⟩, ⟨none, (some 8), (.len 8 false (.t 7))⟩, ⟨none, (some 9), (.bin 9 .lss (.t 5) (.t 8))⟩]) (.cond (.t 9) .skip (.exit 0))) (.seq (.block 1 (.seq (.seq (.region [⟨none, (some 12), (.mov 12 (.t 4))⟩, ⟨none, (some 13), (.bin 13 .gtr (.t 12) (.k (.v (.int .i64 0))))⟩]) (.cond (.t 13) (.region [⟨none, (some 14), (.mov 14 (.t 3))⟩, ⟨none, (some 15), (.cat 15 (.t 14) (.k (.v (.string ⟨#[44, 32]⟩))))⟩, ⟨none, (some 3), (.mov 3 (.t 15))⟩]) .skip)) (.region [⟨none, (some 16), (.mov 16 (.t 3))⟩, ⟨none, (some 17), (.ld 17 true 7 (.t 1))⟩, ⟨none, (some 18), (.mov 18 (.t 4))⟩, ⟨none, (some 19), (.call (some 19) 18 [(.t 17), (.t 18), (.k (.v (.int .i64 0)))])⟩, ⟨none, (some 20), (.cat 20 (.t 16) (.t 19))⟩, ⟨none, (some 3), (.mov 3 (.t 20))⟩]))) (.region [⟨none, (some 10), (.mov 10 (.t 4))⟩, ⟨none, (some 11), (.bin 11 .add (.t 10) (.k (.v (.int .i64 1))))⟩, ⟨none, (some 4), (.mov 4 (.t 11))⟩])))
def c_qlist : ACode := (.seq (.region [⟨none, (some 1), (.box 1 (.t 0))⟩, ⟨none, (some 2), (.mov 2 (.k (.v (.string ⟨#[]⟩))))⟩]) (.seq (.region [⟨none, (some 3), (.mov 3 (.k (.v (.string ⟨#[40]⟩))))⟩]) (.seq (.seq (.region [⟨none, (some 4), (.mov 4 (.k (.v (.int .i64 0))))⟩]) (.block 0 (.loop c_qlist_L0))) (.seq (.region [⟨none, (some 21), (.mov 21 (.t 3))⟩, ⟨none, (some 22), (.cat 22 (.t 21) (.k (.v (.string ⟨#[41]⟩))))⟩, ⟨none, (some 2), (.mov 2 (.t 22))⟩]) .ret))))
set_option maxRecDepth 100000 in
theorem F_qlist : Fun Tryd.prog 22 23 c_qlist [(.tmp 2)] := Fun.of (m := false) (by as_aux_lemma => kernel_rfl)
def c_qexpr : ACode := (.seq (.region [⟨none, (some 1), (.box 1 (.t 0))⟩, ⟨none, (some 2), (.mov 2 (.k (.v (.string ⟨#[]⟩))))⟩]) (.seq (.seq (.region [⟨none, (some 9), (.fad 9 0 (.t 1))⟩, ⟨none, (some 10), (.ld 10 false 1 (.t 9))⟩, ⟨none, (some 11), (.call (some 11) 17 [(.t 10)])⟩, ⟨none, (some 8), (.mov 8 (.t 11))⟩, ⟨none, (some 12), (.ext 12 0 (.t 8))⟩, ⟨none, (some 13), (.ext 13 1 (.t 8))⟩, ⟨none, (some 14), (.ext 14 2 (.t 8))⟩, ⟨none, (some 3), (.mov 3 (.t 12))⟩, ⟨none, (some 4), (.mov 4 (.t 13))⟩, ⟨none, (some 5), (.mov 5 (.t 14))⟩]) (.seq (.region [⟨none, (some 15), (.mov 15 (.t 3))⟩, ⟨none, (some 16), (.bin 16 .neq (.t 15) (.k (.v (.string ⟨#[]⟩))))⟩]) (.cond (.t 16) (.seq (.draw [⟨none, (some 17), (.ld 17 true 7 (.t 1))⟩, ⟨none, (some 18), (.mov 18 (.t 4))⟩, ⟨none, (some 19), (.call (some 19) 18 [(.t 17), (.k (.v (.int .i64 0))), (.t 18)])⟩, ⟨none, (some 20), (.mov 20 (.t 3))⟩, ⟨none, (some 21), (.cat 21 (.t 19) (.t 20))⟩, ⟨none, (some 22), (.ld 22 true 7 (.t 1))⟩, ⟨none, (some 23), (.mov 23 (.t 5))⟩, ⟨none, (some 24), (.call (some 24) 18 [(.t 22), (.k (.v (.int .i64 1))), (.t 23)])⟩, ⟨none, (some 25), (.cat 25 (.t 21) (.t 24))⟩, ⟨none, (some 2), (.mov 2 (.t 25))⟩]) .ret) .skip))) (.seq (.seq (.region [⟨none, (some 26), (.fad 26 0 (.t 1))⟩, ⟨none, (some 27), (.ld 27 false 1 (.t 26))⟩]) (.block 0 (.seq (.region [⟨none, (some 29), (.bin 29 .eql (.t 27) (.k (.v (.int .i64 1))))⟩, ⟨none, (some 28), (.mov 28 (.t 29))⟩]) (.cond (.t 28) (.seq (.region [⟨none, (some 31), (.fad 31 4 (.t 1))⟩, ⟨none, (some 32), (.ld 32 false 1 (.t 31))⟩, ⟨none, (some 33), (.call (some 33) 19 [(.t 32)])⟩, ⟨none, (some 30), (.mov 30 (.t 33))⟩, ⟨none, (some 34), (.ext 34 0 (.t 30))⟩, ⟨none, (some 35), (.ext 35 1 (.t 30))⟩, ⟨none, (some 6), (.var 6 [(.v (.int .i64 0)), (.v (.int .i64 0))])⟩, ⟨none, none, (.st 2 (.t 6) (.t 34))⟩, ⟨none, (some 7), (.mov 7 (.t 35))⟩]) (.seq (.region [⟨none, (some 36), (.ld 36 true 2 (.t 6))⟩, ⟨none, (some 37), (.call (some 37) 20 [(.t 36)])⟩, ⟨none, (some 2), (.mov 2 (.t 37))⟩]) .ret)) (.seq (.region [⟨none, (some 39), (.bin 39 .eql (.t 27) (.k (.v (.int .i64 2))))⟩, ⟨none, (some 38), (.mov 38 (.t 39))⟩]) (.cond (.t 38) (.seq (.region [⟨none, (some 2), (.mov 2 (.k (.v (.string ⟨#[116, 114, 117, 101]⟩))))⟩]) .ret) (.seq (.region [⟨none, (some 41), (.bin 41 .eql (.t 27) (.k (.v (.int .i64 3))))⟩, ⟨none, (some 40), (.mov 40 (.t 41))⟩]) (.cond (.t 40) (.seq (.region [⟨none, (some 2), (.mov 2 (.k (.v (.string ⟨#[102, 97, 108, 115, 101]⟩))))⟩]) .ret) (.seq (.region [⟨none, (some 43), (.bin 43 .eql (.t 27) (.k (.v (.int .i64 4))))⟩, ⟨none, (some 42), (.mov 42 (.t 43))⟩]) (.cond (.t 42) (.seq (.region [⟨none, (some 2), (.mov 2 (.k (.v (.string ⟨#[110, 105, 108]⟩))))⟩]) .ret) (.seq (.region [⟨none, (some 45), (.bin 45 .eql (.t 27) (.k (.v (.int .i64 5))))⟩, ⟨none, (some 44), (.mov 44 (.t 45))⟩]) (.cond (.t 44) (.seq (.region [⟨none, (some 46), (.fad 46 3 (.t 1))⟩, ⟨none, (some 47), (.ld 47 false 1 (.t 46))⟩, ⟨none, (some 48), (.call (some 48) 21 [(.t 47)])⟩, ⟨none, (some 49), (.cat 49 (.k (.v (.string ⟨#[102, 97, 105, 108, 32]⟩))) (.t 48))⟩, ⟨none, (some 2), (.mov 2 (.t 49))⟩]) .ret) (.seq (.region [⟨none, (some 51), (.bin 51 .eql (.t 27) (.k (.v (.int .i64 6))))⟩, ⟨none, (some 50), (.mov 50 (.t 51))⟩]) (.cond (.t 50) (.seq (.region [⟨none, (some 52), (.fad 52 1 (.t 1))⟩, ⟨none, (some 53), (.ld 53 false 1 (.t 52))⟩, ⟨none, (some 2), (.mov 2 (.t 53))⟩]) .ret) (.seq (.region [⟨none, (some 55), (.bin 55 .eql (.t 27) (.k (.v (.int .i64 7))))⟩, ⟨none, (some 54), (.mov 54 (.t 55))⟩]) (.cond (.t 54) (.seq (.draw [⟨none, (some 56), (.fad 56 1 (.t 1))⟩, ⟨none, (some 57), (.ld 57 false 1 (.t 56))⟩, ⟨none, (some 58), (.ld 58 true 7 (.t 1))⟩, ⟨none, (some 59), (.call (some 59) 22 [(.t 58)])⟩, ⟨none, (some 60), (.cat 60 (.t 57) (.t 59))⟩, ⟨none, (some 2), (.mov 2 (.t 60))⟩]) .ret) (.seq (.region [⟨none, (some 62), (.bin 62 .eql (.t 27) (.k (.v (.int .i64 14))))⟩, ⟨none, (some 61), (.mov 61 (.t 62))⟩]) (.cond (.t 61) (.seq (.region [⟨none, (some 63), (.ld 63 true 7 (.t 1))⟩, ⟨none, (some 64), (.call (some 64) 22 [(.t 63)])⟩, ⟨none, (some 65), (.cat 65 (.k (.v (.string ⟨#[110, 111, 116]⟩))) (.t 64))⟩, ⟨none, (some 2), (.mov 2 (.t 65))⟩]) .ret) (.seq (.region [⟨none, (some 67), (.bin 67 .eql (.t 27) (.k (.v (.int .i64 15))))⟩, ⟨none, (some 66), (.mov 66 (.t 67))⟩]) (.cond (.t 66) (.seq (.region [⟨none, (some 68), (.ld 68 true 7 (.t 1))⟩, ⟨none, (some 69), (.call (some 69) 22 [(.t 68)])⟩, ⟨none, (some 70), (.cat 70 (.k (.v (.string ⟨#[114, 101]⟩))) (.t 69))⟩, ⟨none, (some 2), (.mov 2 (.t 70))⟩]) .ret) (.seq (.region [⟨none, (some 72), (.bin 72 .eql (.t 27) (.k (.v (.int .i64 16))))⟩, ⟨none, (some 71), (.mov 71 (.t 72))⟩]) (.cond (.t 71) (.seq (.region [⟨none, (some 73), (.ld 73 true 7 (.t 1))⟩, ⟨none, (some 74), (.call (some 74) 22 [(.t 73)])⟩, ⟨none, (some 75), (.cat 75 (.k (.v (.string ⟨#[105, 109]⟩))) (.t 74))⟩, ⟨none, (some 2), (.mov 2 (.t 75))⟩]) .ret) (.seq (.region [⟨none, (some 77), (.bin 77 .eql (.t 27) (.k (.v (.int .i64 17))))⟩, ⟨none, (some 76), (.mov 76 (.t 77))⟩]) (.cond (.t 76) (.seq (.region [⟨none, (some 78), (.ld 78 true 7 (.t 1))⟩, ⟨none, (some 79), (.call (some 79) 22 [(.t 78)])⟩, ⟨none, (some 80), (.cat 80 (.k (.v (.string ⟨#[99, 111, 110, 106]⟩))) (.t 79))⟩, ⟨none, (some 2), (.mov 2 (.t 80))⟩]) .ret) (.seq (.region [⟨none, (some 82), (.bin 82 .eql (.t 27) (.k (.v (.int .i64 19))))⟩, ⟨none, (some 81), (.mov 81 (.t 82))⟩]) (.cond (.t 81) (.seq (.draw [⟨none, (some 83), (.ld 83 true 7 (.t 1))⟩, ⟨none, (some 84), (.call (some 84) 18 [(.t 83), (.k (.v (.int .i64 0))), (.k (.v (.int .i64 0)))])⟩, ⟨none, (some 85), (.cat 85 (.k (.v (.string ⟨#[105, 102, 32]⟩))) (.t 84))⟩, ⟨none, (some 86), (.cat 86 (.t 85) (.k (.v (.string ⟨#[32, 116, 104, 101, 110, 32]⟩))))⟩, ⟨none, (some 87), (.ld 87 true 7 (.t 1))⟩, ⟨none, (some 88), (.call (some 88) 18 [(.t 87), (.k (.v (.int .i64 1))), (.k (.v (.int .i64 0)))])⟩, ⟨none, (some 89), (.cat 89 (.t 86) (.t 88))⟩, ⟨none, (some 90), (.cat 90 (.t 89) (.k (.v (.string ⟨#[32, 101, 108, 115, 101, 32]⟩))))⟩, ⟨none, (some 91), (.ld 91 true 7 (.t 1))⟩, ⟨none, (some 92), (.call (some 92) 18 [(.t 91), (.k (.v (.int .i64 2))), (.k (.v (.int .i64 0)))])⟩, ⟨none, (some 93), (.cat 93 (.t 90) (.t 92))⟩, ⟨none, (some 2), (.mov 2 (.t 93))⟩]) .ret) (.seq (.region [⟨none, (some 95), (.bin 95 .eql (.t 27) (.k (.v (.int .i64 20))))⟩, ⟨none, (some 94), (.mov 94 (.t 95))⟩]) (.cond (.t 94) (.seq (.draw [⟨none, (some 96), (.ld 96 true 7 (.t 1))⟩, ⟨none, (some 97), (.call (some 97) 18 [(.t 96), (.k (.v (.int .i64 0))), (.k (.v (.int .i64 0)))])⟩, ⟨none, (some 98), (.cat 98 (.k (.v (.string ⟨#[99, 97, 115, 101, 32]⟩))) (.t 97))⟩, ⟨none, (some 99), (.cat 99 (.t 98) (.k (.v (.string ⟨#[32, 111, 102, 32, 110, 105, 108, 32, 45, 62, 32]⟩))))⟩, ⟨none, (some 100), (.ld 100 true 7 (.t 1))⟩, ⟨none, (some 101), (.call (some 101) 18 [(.t 100), (.k (.v (.int .i64 1))), (.k (.v (.int .i64 0)))])⟩, ⟨none, (some 102), (.cat 102 (.t 99) (.t 101))⟩, ⟨none, (some 103), (.cat 103 (.t 102) (.k (.v (.string ⟨#[32, 124, 32]⟩))))⟩, ⟨none, (some 104), (.fad 104 1 (.t 1))⟩, ⟨none, (some 105), (.ld 105 false 1 (.t 104))⟩, ⟨none, (some 106), (.cat 106 (.t 103) (.t 105))⟩, ⟨none, (some 107), (.cat 107 (.t 106) (.k (.v (.string ⟨#[58]⟩))))⟩, ⟨none, (some 108), (.fad 108 2 (.t 1))⟩, ⟨none, (some 109), (.ld 109 false 1 (.t 108))⟩, ⟨none, (some 110), (.cat 110 (.t 107) (.t 109))⟩, ⟨none, (some 111), (.cat 111 (.t 110) (.k (.v (.string ⟨#[32, 45, 62, 32]⟩))))⟩, ⟨none, (some 112), (.ld 112 true 7 (.t 1))⟩, ⟨none, (some 113), (.call (some 113) 18 [(.t 112), (.k (.v (.int .i64 2))), (.k (.v (.int .i64 0)))])⟩, ⟨none, (some 114), (.cat 114 (.t 111) (.t 113))⟩, ⟨none, (some 2), (.mov 2 (.t 114))⟩]) .ret) (.seq (.region [⟨none, (some 116), (.bin 116 .eql (.t 27) (.k (.v (.int .i64 21))))⟩, ⟨none, (some 115), (.mov 115 (.t 116))⟩]) (.cond (.t 115) (.seq (.draw [⟨none, (some 117), (.fad 117 1 (.t 1))⟩, ⟨none, (some 118), (.ld 118 false 1 (.t 117))⟩, ⟨none, (some 119), (.cat 119 (.k (.v (.string ⟨#[108, 101, 116, 32]⟩))) (.t 118))⟩, ⟨none, (some 120), (.cat 120 (.t 119) (.k (.v (.string ⟨#[32]⟩))))⟩, ⟨none, (some 121), (.fad 121 3 (.t 1))⟩, ⟨none, (some 122), (.ld 122 false 1 (.t 121))⟩, ⟨none, (some 123), (.call (some 123) 21 [(.t 122)])⟩, ⟨none, (some 124), (.cat 124 (.t 120) (.t 123))⟩, ⟨none, (some 125), (.cat 125 (.t 124) (.k (.v (.string ⟨#[32, 61, 32]⟩))))⟩, ⟨none, (some 126), (.ld 126 true 7 (.t 1))⟩, ⟨none, (some 127), (.call (some 127) 18 [(.t 126), (.k (.v (.int .i64 0))), (.k (.v (.int .i64 0)))])⟩, ⟨none, (some 128), (.cat 128 (.t 125) (.t 127))⟩, ⟨none, (some 129), (.cat 129 (.t 128) (.k (.v (.string ⟨#[32, 105, 110, 32]⟩))))⟩, ⟨none, (some 130), (.ld 130 true 7 (.t 1))⟩, ⟨none, (some 131), (.call (some 131) 18 [(.t 130), (.k (.v (.int .i64 1))), (.k (.v (.int .i64 0)))])⟩, ⟨none, (some 132), (.cat 132 (.t 129) (.t 131))⟩, ⟨none, (some 2), (.mov 2 (.t 132))⟩]) .ret) (.seq (.region [⟨none, (some 134), (.bin 134 .eql (.t 27) (.k (.v (.int .i64 22))))⟩, ⟨none, (some 133), (.mov 133 (.t 134))⟩]) (.cond (.t 133) (.seq (.draw [⟨none, (some 135), (.fad 135 1 (.t 1))⟩, ⟨none, (some 136), (.ld 136 false 1 (.t 135))⟩, ⟨none, (some 137), (.cat 137 (.k (.v (.string ⟨#[115, 116, 114, 105, 99, 116, 32]⟩))) (.t 136))⟩, ⟨none, (some 138), (.cat 138 (.t 137) (.k (.v (.string ⟨#[32]⟩))))⟩, ⟨none, (some 139), (.fad 139 3 (.t 1))⟩, ⟨none, (some 140), (.ld 140 false 1 (.t 139))⟩, ⟨none, (some 141), (.call (some 141) 21 [(.t 140)])⟩, ⟨none, (some 142), (.cat 142 (.t 138) (.t 141))⟩, ⟨none, (some 143), (.cat 143 (.t 142) (.k (.v (.string ⟨#[32, 61, 32]⟩))))⟩, ⟨none, (some 144), (.ld 144 true 7 (.t 1))⟩, ⟨none, (some 145), (.call (some 145) 18 [(.t 144), (.k (.v (.int .i64 0))), (.k (.v (.int .i64 0)))])⟩, ⟨none, (some 146), (.cat 146 (.t 143) (.t 145))⟩, ⟨none, (some 147), (.cat 147 (.t 146) (.k (.v (.string ⟨#[32, 105, 110, 32]⟩))))⟩, ⟨none, (some 148), (.ld 148 true 7 (.t 1))⟩, ⟨none, (some 149), (.call (some 149) 18 [(.t 148), (.k (.v (.int .i64 1))), (.k (.v (.int .i64 0)))])⟩, ⟨none, (some 150), (.cat 150 (.t 147) (.t 149))⟩, ⟨none, (some 2), (.mov 2 (.t 150))⟩]) .ret) .skip)))))))))))))))))))))))))))))))) (.seq (.region [⟨none, (some 2), (.mov 2 (.k (.v (.string ⟨#[]⟩))))⟩]) .ret))))
set_option maxRecDepth 100000 in
theorem F_qexpr : Fun Tryd.prog 9 151 c_qexpr [(.tmp 2)] := Fun.of (m := false) (by as_aux_lemma => kernel_rfl)
def c_qprog_L0 : ACode := (.seq (.seq (.region [⟨none, (some 24), (.mov 24 (.t 6))⟩, ⟨none, (some 25), (.fad 25 1 (.t 5))⟩, ⟨none, (some 26), (.ld 26 false 1 (.t 25))⟩, ⟨none, (some 27), (.len 27 false (.t 26))⟩, ⟨none, (some 28), (.bin 28 .lss (.t 24) (.t 27))⟩]) (.cond (.t 28) .skip (.exit 2))) (.seq (.block 3 (.seq (.seq (.region [⟨none, (some 31), (.mov 31 (.t 6))⟩, ⟨none, (some 32), (.bin 32 .gtr (.t 31) (.k (.v (.int .i64 0))))⟩]) (.cond (.t 32) (.region [⟨none, (some 33), (.mov 33 (.t 3))⟩, ⟨none, (some 34), (.cat 34 (.t 33) (.k (.v (.string ⟨#[44, 32]⟩))))⟩, ⟨none, (some 3), (.mov 3 (.t 34))⟩]) .skip)) (.draw [⟨none, (some 35), (.mov 35 (.t 3))⟩, ⟨none, (some 36), (.fad 36 1 (.t 5))⟩, ⟨none, (some 37), (.ld 37 false 1 (.t 36))⟩, ⟨none, (some 38), (.mov 38 (.t 6))⟩, ⟨none, (some 39), (.ixa 39 3 (.t 37) (.t 38))⟩, ⟨none, (some 40), (.fad 40 0 (.t 39))⟩, ⟨none, (some 41), (.ld 41 false 1 (.t 40))⟩, ⟨none, (some 42), (.cat 42 (.t 35) (.t 41))⟩, ⟨none, (some 43), (.cat 43 (.t 42) (.k (.v (.string ⟨#[32]⟩))))⟩, ⟨none, (some 44), (.fad 44 1 (.t 5))⟩, ⟨none, (some 45), (.ld 45 false 1 (.t 44))⟩, ⟨none, (some 46), (.mov 46 (.t 6))⟩, ⟨none, (some 47), (.ixa 47 3 (.t 45) (.t 46))⟩, ⟨none, (some 48), (.fad 48 1 (.t 47))⟩, ⟨none, (some 49), (.ld 49 false 1 (.t 48))⟩, ⟨none, (some 50), (.call (some 50) 21 [(.t 49)])⟩, ⟨none, (some 51), (.cat 51 (.t 43) (.t 50))⟩, ⟨none, (some 3), (.mov 3 (.t 51))⟩]))) (.region [⟨none, (some 29), (.mov 29 (.t 6))⟩, ⟨none, (some 30), (.bin 30 .add (.t 29) (.k (.v (.int .i64 1))))⟩, ⟨none, (some 6), (.mov 6 (.t 30))⟩])))
def c_qprog_L1 : ACode := (.seq (.seq (.region [⟨none, (some 7), (.mov 7 (.t 4))⟩, ⟨none, (some 8), (.fad 8 0 (.t 1))⟩, ⟨none, (some 9), (.ld 9 false 1 (.t 8))⟩, ⟨none, (some 10), (.len 10 false (.t 9))⟩, ⟨none, (some 11), (.bin 11 .lss (.t 7) (.t 10))⟩]) (.cond (.t 11) .skip (.exit 0))) (.seq (.block 1 (.seq (.region [⟨none, (some 14), (.fad 14 0 (.t 1))⟩, ⟨none, (some 15), (.ld 15 false 1 (.t 14))⟩, ⟨none, (some 16), (.mov 16 (.t 4))⟩, ⟨none, (some 17), (.ixa 17 11 (.t 15) (.t 16))⟩, ⟨none, (some 18), (.ld 18 true 11 (.t 17))⟩, ⟨none, (some 5), (.var 5 [(.v (.string ⟨#[]⟩)), (.v (.slice none 0 0)), (.v (.int .i64 0)), (.v (.int .i64 0)), (.v (.string ⟨#[]⟩)), (.v (.string ⟨#[]⟩)), (.v (.int .i64 0)), (.v (.complex .f64 0 0)), (.v (.slice none 0 0)), (.v (.int .i64 0)), (.v (.int .i64 0))])⟩, ⟨none, none, (.st 11 (.t 5) (.t 18))⟩]) (.seq (.region [⟨none, (some 19), (.mov 19 (.t 3))⟩, ⟨none, (some 20), (.fad 20 0 (.t 5))⟩, ⟨none, (some 21), (.ld 21 false 1 (.t 20))⟩, ⟨none, (some 22), (.cat 22 (.t 19) (.t 21))⟩, ⟨none, (some 23), (.cat 23 (.t 22) (.k (.v (.string ⟨#[40]⟩))))⟩, ⟨none, (some 3), (.mov 3 (.t 23))⟩]) (.seq (.seq (.region [⟨none, (some 6), (.mov 6 (.k (.v (.int .i64 0))))⟩]) (.block 2 (.loop c_qprog_L0))) (.draw [⟨none, (some 52), (.mov 52 (.t 3))⟩, ⟨none, (some 53), (.cat 53 (.t 52) (.k (.v (.string ⟨#[41, 58, 32]⟩))))⟩, ⟨none, (some 54), (.fad 54 2 (.t 5))⟩, ⟨none, (some 55), (.ld 55 false 1 (.t 54))⟩, ⟨none, (some 56), (.call (some 56) 21 [(.t 55)])⟩, ⟨none, (some 57), (.cat 57 (.t 53) (.t 56))⟩, ⟨none, (some 58), (.cat 58 (.t 57) (.k (.v (.string ⟨#[32, 61, 32]⟩))))⟩, ⟨none, (some 59), (.fad 59 3 (.t 5))⟩, ⟨none, (some 60), (.ld 60 true 7 (.t 59))⟩, ⟨none, (some 61), (.call (some 61) 9 [(.t 60)])⟩, ⟨none, (some 62), (.cat 62 (.t 58) (.t 61))⟩, ⟨none, (some 63), (.cat 63 (.t 62) (.k (.v (.string ⟨#[59, 10]⟩))))⟩, ⟨none, (some 3), (.mov 3 (.t 63))⟩]))))) (.region [⟨none, (some 12), (.mov 12 (.t 4))⟩, ⟨none, (some 13), (.bin 13 .add (.t 12) (.k (.v (.int .i64 1))))⟩, ⟨none, (some 4), (.mov 4 (.t 13))⟩])))
def c_qprog : ACode := (.seq (.region [⟨none, (some 1), (.box 1 (.t 0))⟩, ⟨none, (some 2), (.mov 2 (.k (.v (.string ⟨#[]⟩))))⟩]) (.seq (.region [⟨none, (some 3), (.mov 3 (.k (.v (.string ⟨#[]⟩))))⟩]) (.seq (.seq (.region [⟨none, (some 4), (.mov 4 (.k (.v (.int .i64 0))))⟩]) (.block 0 (.loop c_qprog_L1))) (.seq (.region [⟨none, (some 64), (.mov 64 (.t 3))⟩, ⟨none, (some 2), (.mov 2 (.t 64))⟩]) .ret))))
set_option maxRecDepth 100000 in
theorem F_qprog : Fun Tryd.prog 11 65 c_qprog [(.tmp 2)] := Fun.of (m := false) (by as_aux_lemma => kernel_rfl)
end Go.Proofs.YtgddkgbidhhheaaDoor
/- The reference of layer 5: levels, letters, signs. -/
set_option linter.unusedVariables false
set_option linter.unusedSimpArgs false
set_option maxRecDepth 100000
namespace Go.Proofs.YtgddkgbidhhheaaDoor
open Go.RowKit Flo Mk Pg Ab
section
variable {G : World → Prop}
theorem qletter_ap (t : Int) : AP Tryd.prog G 21 [iv t] (fun x => x = sv (letter t)) := by
  refine AP.go hmix F_qletter (by simp) ?_
  unfold letter
  by_cases h1 : t = 1
  · simp -implicitDefEqProofs [c_qletter, h1]
  by_cases h2 : t = 2
  · simp -implicitDefEqProofs [c_qletter, h2]
  by_cases h3 : t = 3
  · simp -implicitDefEqProofs [c_qletter, h3]
  simp -implicitDefEqProofs [c_qletter, h1, h2, h3]
theorem qlevel_ap (e : Ex) : AP Tryd.prog G 31 [exA e] (fun x => x = iv (levelN (opX e))) := by
  obtain ⟨op, nm, tl, ty, num, args, pos⟩ := e
  refine AP.go hmix F_qlevel (by simp) ?_
  unfold levelN opX
  by_cases h1 : op = 21
  · simp -implicitDefEqProofs [c_qlevel, exA, Ex.cells, h1]
  by_cases h2 : op = 22
  · simp -implicitDefEqProofs [c_qlevel, exA, Ex.cells, h2]
  by_cases h3 : op = 19
  · simp -implicitDefEqProofs [c_qlevel, exA, Ex.cells, h3]
  by_cases h4 : op = 20
  · simp -implicitDefEqProofs [c_qlevel, exA, Ex.cells, h4]
  by_cases h5 : op = 18
  · simp -implicitDefEqProofs [c_qlevel, exA, Ex.cells, h5]
  by_cases h6 : op = 12
  · simp -implicitDefEqProofs [c_qlevel, exA, Ex.cells, h6]
  by_cases h7 : op = 13
  · simp -implicitDefEqProofs [c_qlevel, exA, Ex.cells, h7]
  by_cases h8 : op = 8
  · simp -implicitDefEqProofs [c_qlevel, exA, Ex.cells, h8]
  by_cases h9 : op = 9
  · simp -implicitDefEqProofs [c_qlevel, exA, Ex.cells, h9]
  by_cases h10 : op = 10
  · simp -implicitDefEqProofs [c_qlevel, exA, Ex.cells, h10]
  by_cases h11 : op = 11
  · simp -implicitDefEqProofs [c_qlevel, exA, Ex.cells, h11]
  simp -implicitDefEqProofs [c_qlevel, exA, Ex.cells, h1, h2, h3, h4, h5, h6, h7, h8, h9, h10, h11]
theorem qsign_ap (op : Int) : AP Tryd.prog G 17 [iv op] (fun x => x = .tup [sv (signT op).1, iv (signT op).2.1, iv (signT op).2.2]) := by
  refine AP.go hmix F_qsign (by simp) ?_
  unfold signT
  by_cases h5 : op = 18
  · simp -implicitDefEqProofs [c_qsign, h5]
  by_cases h6 : op = 12
  · simp -implicitDefEqProofs [c_qsign, h6]
  by_cases h7 : op = 13
  · simp -implicitDefEqProofs [c_qsign, h7]
  by_cases h8 : op = 8
  · simp -implicitDefEqProofs [c_qsign, h8]
  by_cases h9 : op = 9
  · simp -implicitDefEqProofs [c_qsign, h9]
  by_cases h10 : op = 10
  · simp -implicitDefEqProofs [c_qsign, h10]
  by_cases h11 : op = 11
  · simp -implicitDefEqProofs [c_qsign, h11]
  simp -implicitDefEqProofs [c_qsign, h5, h6, h7, h8, h9, h10, h11]
/-- what Expr answers -/
def QrX (G : World → Prop) (e : Ex) : Prop := (exT e).length ≤ 1073741824 → AP Tryd.prog G 9 [exA e] (fun x => x = sv (exT e))
def partT (us : List Ex) (i : Nat) (n : Int) : List UInt8 := match us[i]? with | some u => brack (decide (levelN (opX u) < n)) (exT u) | none => []
theorem ba_cat (a b : List UInt8) : ByteArray.mk a.toArray ++ ByteArray.mk b.toArray = ByteArray.mk (a ++ b).toArray := by
  apply ByteArray.ext; simp
theorem part_len2 {us : List Ex} {i : Nat} {u : Ex} (h : us[i]? = some u) (n : Int) : (exT u).length ≤ (partT us i n).length := by
  unfold partT; rw [h]; simp only [brack]
  cases decide (levelN (opX u) < n) <;> simp <;> omega
theorem part0 {us : List Ex} {i : Nat} {u : Ex} (h : us[i]? = some u) : partT us i 0 = exT u := by
  unfold partT; rw [h]; exact exTw0 u
theorem nodeQ (op : Int) (nm tl : List UInt8) (ty : Int) (num : Int × Int) (us : List Ex) (pos : Int) : exT (.mk op nm tl ty num us pos) = nodeP op nm tl ty (textL num.1 num.2) (signT op) (partT us) ([40] ++ commas (us.map exT) ++ [41]) := by
  have h2 : (exTs us).map Prod.snd = us.map exT := by rw [exTs_map, List.map_map]; rfl
  rw [exT, nodeT_is, h2]
  refine congrArg (fun f => nodeP op nm tl ty (textL num.1 num.2) (signT op) f ([40] ++ commas (us.map exT) ++ [41])) ?_
  funext i n
  unfold partT
  rw [exTs_map, List.getElem?_map]
  cases us[i]? <;> rfl
theorem qpart_ap (op : Int) (nm tl : List UInt8) (ty : Int) (num : Int × Int) (us : List Ex) (pos : Int) (i : Nat) (n : Int) (h : ∀ u ∈ us, QrX G u) (hb : (partT us i n).length ≤ 1073741824) :
    AP Tryd.prog G 18 [exA (.mk op nm tl ty num us pos), iv i, iv n] (fun x => x = sv (partT us i n)) := by
  refine AP.go hmix F_qpart (by simp) ?_
  by_cases hi : i < us.length
  · obtain ⟨u, hu⟩ : ∃ u, us[i]? = some u := ⟨_, List.getElem?_eq_getElem hi⟩
    have hat := exsB_at hu
    have hz : i * 7 + 7 ≤ (exsA us).length := by rw [exsB_len]; omega
    have hi' : ¬ (us.length : Int) ≤ i := by omega
    have hp : partT us i n = brack (decide (levelN (opX u) < n)) (exT u) := by unfold partT; rw [hu]
    have hlu : (exT u).length ≤ 1073741824 := Nat.le_trans (part_len2 hu n) hb
    have h1 := h u (List.mem_of_getElem? hu) hlu
    have h2 := qlevel_ap (G := G) u
    obtain ⟨uo, un, ut, uty, unum, uus, upos⟩ := u
    have hv0 : okR [] (exA (.mk uo un ut uty unum uus upos)) = true := by simp [exA, Ex.cells]
    simp only [exA, Ex.cells] at h1 h2 hat
    simp -implicitDefEqProofs [c_qpart, exA, Ex.cells, hi, hi', hat, hz]
    refine SC.frz (by simp) [.agg [iv uo, sv un, sv ut, iv uty, cv (W unum.1) (W unum.2), .sl uus.length (exsA uus), iv upos]] (by simp) (by simpa using h1) (by simp) ?_ (a := .mk)
    rintro x rfl
    simp -implicitDefEqProofs [hi, hi', hat, hz]
    refine SC.frz (by simp) [.agg [iv uo, sv un, sv ut, iv uty, cv (W unum.1) (W unum.2), .sl uus.length (exsA uus), iv upos]] (by simp) (by simpa using h2) (by simp) ?_ (a := .mk)
    rintro x rfl
    obtain ⟨t, ht⟩ : ∃ t, exT (.mk uo un ut uty unum uus upos) = t := ⟨_, rfl⟩
    rw [ht] at hlu hp
    cases hb : decide (levelN (opX (.mk uo un ut uty unum uus upos)) < n)
    · rw [hb] at hp
      have hb' := of_decide_eq_false hb
      simp -implicitDefEqProofs [hb', hp, brack, ht]
    · rw [hb] at hp
      have hb' := of_decide_eq_true hb
      simp -implicitDefEqProofs [hb', hp, brack, ht, ba_cat, ba_size]
      omega
  · have hp : partT us i n = [] := by unfold partT; rw [List.getElem?_eq_none (by omega)]
    have hi' : (us.length : Int) ≤ i := by omega
    simp -implicitDefEqProofs [c_qpart, exA, Ex.cells, hi', hp]
structure InvL (cs : List AV) (us : List Ex) (g : Nat) (F : Fr) (H : List Ob) : Prop where
  k : ∃ k : Nat, k ≤ us.length ∧ g = us.length - k ∧ F 4 = some (iv k) ∧ F 3 = some (sv ([40] ++ commas ((us.map exT).take k)))
  f1 : F 1 = some (.ptr 0 0)
  h0 : H[0]? = some (.var cs)
theorem qlist_ap (op : Int) (nm tl : List UInt8) (ty : Int) (num : Int × Int) (us : List Ex) (pos : Int) (hlen : us.length ≤ 1000000) (h : ∀ u ∈ us, QrX G u) (hb : (commas (us.map exT)).length ≤ 1073741824) :
    AP Tryd.prog G 22 [exA (.mk op nm tl ty num us pos)] (fun x => x = sv ([40] ++ commas (us.map exT) ++ [41])) := by
  refine AP.go hmix F_qlist (by simp) ?_
  have hP := fun (i : Nat) hb => qpart_ap (G := G) op nm tl ty num us pos i 0 h hb
  obtain ⟨cs, hcs⟩ : ∃ cs, exA (.mk op nm tl ty num us pos) = .agg cs := ⟨_, rfl⟩
  simp -implicitDefEqProofs [c_qlist, exA, Ex.cells]
  refine LP.go (InvL [iv op, sv nm, sv tl, iv ty, cv (W num.1) (W num.2), .sl us.length (exsA us), iv pos] us) us.length ⟨⟨0, Nat.zero_le _, rfl, by simp, by simp [commas]⟩, by simp, by simp⟩ ?_
  unfold c_qlist_L0
  rintro g F H ⟨⟨k, hk, rfl, h4, h3⟩, h1, h0⟩
  by_cases hkl : k < us.length
  · obtain ⟨u, hu⟩ : ∃ u, us[k]? = some u := ⟨_, List.getElem?_eq_getElem hkl⟩
    have hkl' : (k : Int) < us.length := by omega
    have hmu : (us.map exT)[k]? = some (exT u) := by rw [List.getElem?_map, hu]; rfl
    have hct : commas ((us.map exT).take (k + 1)) = bif k == 0 then exT u else commas ((us.map exT).take k) ++ [44, 32] ++ exT u := by
      rw [List.take_add_one, hmu]
      simp only [Option.toList_some]
      rw [commas_snoc]
      cases k with
      | zero => simp
      | succ k =>
        have : ((us.map exT).take (k + 1)).isEmpty = false := by
          cases us with
          | nil => simp at hkl
          | cons => simp
        rw [this]; rfl
    have hle := commas_le2 (us.map exT) (k + 1) (by simp; omega)
    have hp0 := part0 hu
    have hw0 : IntKind.i64.wrap 1 = 1 := wrap64 _ (by omega)
    have hwk : IntKind.i64.wrap ((k : Int) + 1) = ((k + 1 : Nat) : Int) := by rw [wrap64 _ (by omega)]; omega
    cases k with
    | zero =>
      simp only [BEq.rfl, cond_true] at hct
      have hPk := hP 0 (by rw [hp0, ← hct]; omega)
      rw [hp0] at hPk
      have h0l : 0 < us.length := hkl
      rw [hct] at hle
      obtain ⟨t, ht⟩ : ∃ t, exT u = t := ⟨_, rfl⟩
      rw [ht] at hPk hct hle
      simp -implicitDefEqProofs [-Int.natCast_add, h1, h0, h3, h4, h0l, commas]
      refine SC.frz (by simp) [.agg [iv op, sv nm, sv tl, iv ty, cv (W num.1) (W num.2), .sl us.length (exsA us), iv pos], iv 0, iv 0] (by simp) (by simpa [exA, Ex.cells] using hPk) (by simp) ?_ (a := .mk)
      rintro x rfl
      simp -implicitDefEqProofs [-Int.natCast_add, h1, h0, h3, h4, h0l, commas, ba_cat, ba_size, hw0]
      refine ⟨by omega, us.length - 1, by omega, ⟨⟨1, by omega, rfl, by simp [hw0], by simp [hct]⟩, by simp [h1], h0⟩⟩
    | succ k =>
      simp only [show (k + 1 == 0) = false from rfl, cond_false] at hct
      have hPk := hP (k + 1) (by rw [hp0]; rw [hct] at hle; simp only [List.length_append] at hle; omega)
      rw [hp0] at hPk
      rw [hct] at hle
      simp only [List.length_append, List.length_cons, List.length_nil] at hle
      have hk0 : (0 : Int) < ((k + 1 : Nat) : Int) := by omega
      obtain ⟨t, ht⟩ : ∃ t, exT u = t := ⟨_, rfl⟩
      rw [ht] at hPk hct hle
      simp -implicitDefEqProofs [-Int.natCast_add, h1, h0, h3, h4, hkl, hkl', hk0, ba_cat, ba_size]
      refine ⟨by omega, ?_⟩
      refine SC.frz (by simp) [.agg [iv op, sv nm, sv tl, iv ty, cv (W num.1) (W num.2), .sl us.length (exsA us), iv pos], iv ((k + 1 : Nat) : Int), iv 0] (by simp) (by simpa [exA, Ex.cells] using hPk) (by simp) ?_ (a := .mk)
      rintro x rfl
      simp -implicitDefEqProofs [-Int.natCast_add, h1, h0, h3, h4, ba_cat, ba_size, hwk]
      refine ⟨by omega, us.length - (k + 1 + 1), by omega, ⟨⟨k + 1 + 1, by omega, rfl, by simp [hwk], by simp [hct]⟩, by simp [h1], h0⟩⟩
  · have hke : k = us.length := by omega
    subst hke
    rw [List.take_of_length_le (by simp)] at h3
    simp -implicitDefEqProofs [h1, h0, h3, h4, ba_cat, ba_size]
    omega
end
end Go.Proofs.YtgddkgbidhhheaaDoor
