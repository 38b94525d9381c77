/- Texts joined: Invl. -/
import Derived.Test.YtgddkgbidhhheaaGreatDoorKwaf
import Derived.Test.YtgddkgbidhhheaaGreatDoorRows
import Derived.Lib.LaidU8
import Derived.Stop.LaidErr
import Derived.MakeChecks
namespace Go.Proofs.YtgddkgbidhhheaaGreatDoor
open Go.RowKit Flo
theorem err_star : "*" ++ "errors.errorString" = "*errors.errorString":=by decide
theorem err_row (u:TypeId) (h:Tryz.prog.typeName? 3 u=some "*errors.errorString"):u=218:=
 typeName_ptr_named (nm:= "errors.errorString") (by rw [err_star]; kernel_rfl) (by kernel_rfl) (by decide) u (by rw [err_star]; exact h)
theorem d_first:Rows.laid_unicode_utf8_first=Lib.firstData:=by kernel_rfl
theorem d_accept:(Rows.laid_unicode_utf8_acceptRanges:DataW Unit)=Lib.acceptData:=by kernel_rfl
theorem d_pow:(Rows.laid_internal_strconv_uint64pow10:DataW Unit)=Lib.tabData .u64 Lib.pow10Tab:=by kernel_rfl
theorem pow_type:Tryz.prog.globalNamed "internal/strconv.uint64pow10" = some 8:=by kernel_rfl
theorem d_space:(Rows.laid_strings_asciiSpace:DataW Unit)=Lib.tabData .u8 Lib.asciiSpaceTab:=by kernel_rfl
theorem space_global:Tryz.prog.globalNamed "strings.asciiSpace" = some 0:=by kernel_rfl
theorem inv_of_laid {W:World} (hL0:laidMetH Tryz.prog Rows.langParsesRow.laid W):Inv W∧Spc W:=by
 rw [MakeChecks.laidMetH_plain _ _ _ (by kernel_rfl)] at hL0
 have hL:laidMet Tryz.prog [("math/bits.deBruijn32tab",Rows.laid_math_bits_deBruijn32tab),("math/bits.deBruijn64tab",Rows.laid_math_bits_deBruijn64tab),("internal/strconv.uint64pow10",Rows.laid_internal_strconv_uint64pow10),("unicode/utf8.acceptRanges",Rows.laid_unicode_utf8_acceptRanges),("strconv.ErrRange",Rows.laid_strconv_ErrRange),("strconv.ErrSyntax",Rows.laid_strconv_ErrSyntax),("unicode.White_Space",Rows.laid_unicode_White_Space),("strings.asciiSpace",Rows.laid_strings_asciiSpace),("unicode/utf8.first",Rows.laid_unicode_utf8_first)] W:=hL0
 clear hL0
 have h4:=Lib.laidMet.reads hL (n:= "unicode/utf8.acceptRanges") (d:=Rows.laid_unicode_utf8_acceptRanges) (.tail _ (.tail _ (.tail _ (.head _))))
 have h3:=Lib.laidMet.reads hL (n:= "unicode/utf8.first") (d:=Rows.laid_unicode_utf8_first) (.tail _ (.tail _ (.tail _ (.tail _ (.tail _ (.tail _ (.tail _ (.tail _ (.head _)))))))))
 rw [d_accept] at h4
 rw [d_first] at h3
 obtain ⟨a0,t0,hv0,_,_,_⟩:=laid_sentinel (g:=6) hL.tail.tail.tail.tail (by kernel_rfl) (by kernel_rfl) err_type err_row Tryz.underlying218 Tryz.underlying220 rfl rfl Tryz.underlying9 (by kernel_rfl) (by kernel_rfl)
 obtain ⟨a1,t1,hv1,_,_,_⟩:=laid_sentinel (g:=5) hL.tail.tail.tail.tail.tail (by kernel_rfl) (by kernel_rfl) err_type err_row Tryz.underlying218 Tryz.underlying220 rfl rfl Tryz.underlying9 (by kernel_rfl) (by kernel_rfl)
 have hp:=hL.tail.tail
 rw [d_pow] at hp
 have hsp:=hL.tail.tail.tail.tail.tail.tail.tail
 rw [d_space] at hsp
 refine ⟨?_,Lib.tabIs_of_head (t:=168) (e:=5) (n:=256) space_global (by kernel_rfl) (by kernel_rfl) (by kernel_rfl) (by kernel_rfl) (by kernel_rfl) hsp⟩
 refine ⟨Lib.tabIs_of_head (t:=223) (e:=193) (n:=20) pow_type (by kernel_rfl) (by kernel_rfl) (by kernel_rfl) (by kernel_rfl) (by kernel_rfl) hp,?_,⟨_,by simpa using World.var?_cell (show Tryz.prog.globalNamed "strconv.ErrSyntax" = some 5 by kernel_rfl) hv1 0,Or.inr ⟨_,_,rfl⟩⟩,⟨_,by simpa using World.var?_cell (show Tryz.prog.globalNamed "strconv.ErrRange" = some 6 by kernel_rfl) hv0 0,Or.inr ⟨_,_,rfl⟩⟩⟩
 exact utf8Tabs_of_reads (ρ:=Tryz.lays260_ren) { Tryz.lays260 with } ⟨by kernel_rfl,by kernel_rfl,by kernel_rfl,by kernel_rfl,by kernel_rfl,by kernel_rfl,by kernel_rfl⟩ h3 h4
end Go.Proofs.YtgddkgbidhhheaaGreatDoor
