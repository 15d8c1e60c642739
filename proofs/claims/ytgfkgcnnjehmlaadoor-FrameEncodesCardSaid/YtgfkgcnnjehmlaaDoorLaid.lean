/- From the row's condition on the package-level variables to what the walks ask. -/
import Derived.Test.YtgfkgcnnjehmlaaDoorHead
import Derived.ProofKit
import Derived.OpenShut
import Derived.LaidMore
import Derived.Lay
import Derived.Stop.Joined
import Derived.Stop.LaidErr
import Derived.Lib.LaidTab
namespace Go.Proofs.YtgfkgcnnjehmlaaDoor
open Go Go.RowKit Go.ChangeShapes Go.WideShapes Go.ChangeAt

theorem Tryd.ownL : ownKnob Tryd.prog.godebug = none := by kernel_rfl
theorem Tryd.laidOutL : laidOutB Tryd.prog = true := by kernel_rfl

def laidAll : List (String × DataW Unit) := [("math/bits.deBruijn32tab", Rows.laid_math_bits_deBruijn32tab), ("math/bits.deBruijn64tab", Rows.laid_math_bits_deBruijn64tab), ("internal/strconv.uint64pow10", Rows.laid_internal_strconv_uint64pow10), ("unicode/utf8.acceptRanges", Rows.laid_unicode_utf8_acceptRanges), ("strconv.ErrRange", Rows.laid_strconv_ErrRange), ("strconv.ErrSyntax", Rows.laid_strconv_ErrSyntax), ("unicode/utf8.first", Rows.laid_unicode_utf8_first)]

theorem Tryd.star : "*" ++ "errors.errorString" = "*errors.errorString" := by decide
theorem Tryd.errRow (u : TypeId) (h : Tryd.prog.typeName? 3 u = some "*errors.errorString") : u = 112 :=
  typeName_ptr_named (nm := "errors.errorString") (by rw [Tryd.star]; kernel_rfl) (by kernel_rfl) (by decide) u (by rw [Tryd.star]; exact h)

theorem glob_of {W : World} (h : laidMetH Tryd.prog laidAll W) : Glob W := by
  rw [MakeChecks.laidMetH_plain _ _ _ (by kernel_rfl)] at h
  have h2 := h.tail.tail
  have h4 := h2.tail.tail
  have h5 := h4.tail
  have htab : Lib.TabIs Tryd.prog W "internal/strconv.uint64pow10" .u64 Lib.pow10Tab :=
    Lib.tabIs_of_head Tryd.gTab (by kernel_rfl) Tryd.underlying91 Tryd.underlying74 (by kernel_rfl) (by kernel_rfl) h2
  obtain ⟨a1, s1, hv1, -⟩ := laid_sentinel h4 Tryd.gRng (by kernel_rfl) Tryd.underlying45 Tryd.errRow Tryd.underlying112 Tryd.underlying114 rfl rfl Tryd.underlying9 (by kernel_rfl) (by kernel_rfl)
  obtain ⟨a2, s2, hv2, -⟩ := laid_sentinel h5 Tryd.gSyn (by kernel_rfl) Tryd.underlying45 Tryd.errRow Tryd.underlying112 Tryd.underlying114 rfl rfl Tryd.underlying9 (by kernel_rfl) (by kernel_rfl)
  refine ⟨⟨_, _, hv2⟩, ⟨_, _, hv1⟩, htab, ?_⟩
  have := World.var?_cell Tryd.gRng hv1 0
  have := World.block_lt_of_cell? W _ (by simpa using this)
  exact this
end Go.Proofs.YtgfkgcnnjehmlaaDoor
