/-
 What the laws' calls begin with. Own work.
-/
import Derived.Test.YtfeknkaioofljaaGreatDoorQ24
import Derived.Test.YtfeknkaioofljaaGreatDoorQ25
set_option linter.all false
namespace Go.Proofs.YtfeknkaioofljaaGreatDoor
open Go.Aw Go.ChangeShapes Go.WideShapes Go.ChangeAt Go.RowKit Tree
theorem startL {W : World} (h0 : laidMetH Tryz.prog Rows.dreadLongRow.laid W) : ∃ S0,LawG S0 ∧ RelS W (Kof W) S0 W := by
 have hp : laidMet Tryz.prog [("math/bits.deBruijn32tab", Rows.laid_math_bits_deBruijn32tab), ("math/bits.deBruijn64tab", Rows.laid_math_bits_deBruijn64tab), ("internal/strconv.uint64pow10", Rows.laid_internal_strconv_uint64pow10), ("strconv.ErrRange", Rows.laid_strconv_ErrRange), ("strconv.ErrSyntax", Rows.laid_strconv_ErrSyntax), ("sorites/text.errForm", Rows.laid_sorites_text_errForm), ("sorites/dtree.errTree", Rows.laid_sorites_dtree_errTree)] W ∧ handlesMet Tryz.prog [("errors.errorType", Rows.laid_errors_errorType)] W := h0
 obtain ⟨h,hH⟩ := hp
 have h3 := laidMet.tail (laidMet.tail h)
 have ht := pow_tab (by kernel_rfl) h3
 have h4 := laidMet.tail h3
 have h5 := laidMet.tail h4
 have h6 := laidMet.tail h5
 have h7 := laidMet.tail h6
 obtain ⟨a1,s1,v1,c1,_⟩ := laid_sentinel (g := 5) (ti := 55) h4 (by kernel_rfl) (by kernel_rfl) Tryz.underlying55 errRow Tryz.underlying263 Tryz.underlying265 rfl rfl Tryz.underlying9 (by kernel_rfl) (by kernel_rfl)
 obtain ⟨a2,s2,v2,c2,_⟩ := laid_sentinel (g := 4) (ti := 55) h5 (by kernel_rfl) (by kernel_rfl) Tryz.underlying55 errRow Tryz.underlying263 Tryz.underlying265 rfl rfl Tryz.underlying9 (by kernel_rfl) (by kernel_rfl)
 obtain ⟨a3,s3,v3,c3,_⟩ := laid_sentinel (g := 2) (ti := 55) h6 (by kernel_rfl) (by kernel_rfl) Tryz.underlying55 errRow Tryz.underlying263 Tryz.underlying265 rfl rfl Tryz.underlying9 (by kernel_rfl) (by kernel_rfl)
 obtain ⟨a4,s4,v4,c4,_⟩ := laid_sentinel (g := 1) (ti := 55) h7 (by kernel_rfl) (by kernel_rfl) Tryz.underlying55 errRow Tryz.underlying263 Tryz.underlying265 rfl rfl Tryz.underlying9 (by kernel_rfl) (by kernel_rfl)
 have r0 := start_handle (relS_start W) hH
 have q1 := start_err r0 (g := 1) (by kernel_rfl) v4 c4
 have r1 := start_err q1 (g := 2) (by kernel_rfl) v3 c3
 have r2 := start_err r1 (g := 5) (by kernel_rfl) v1 c1
 have r3 := start_err r2 (g := 4) (by kernel_rfl) v2 c2
 have r4 := start_tab r3 (g := 6) (by kernel_rfl) ht pow_ok
 exact ⟨_,⟨⟨⟨.head _,⟨_,_, .tail _ (.head _)⟩,_,_, .tail _ (.tail _ (.head _))⟩,⟨_,_, .tail _ (.tail _ (.tail _ (.head _)))⟩, .tail _ (.tail _ (.tail _ (.tail _ (.tail _ (.head _))))), .tail _ (.tail _ (.tail _ (.tail _ (.tail _ (.head _)))))⟩,⟨_,_, .tail _ (.tail _ (.tail _ (.tail _ (.head _))))⟩⟩,r4⟩
end Go.Proofs.YtfeknkaioofljaaGreatDoor
