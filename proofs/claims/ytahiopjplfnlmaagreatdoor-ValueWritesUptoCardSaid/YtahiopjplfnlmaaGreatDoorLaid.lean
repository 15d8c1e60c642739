/- From the row's condition on the package-level variables to what the walks ask. -/
import Derived.Test.YtahiopjplfnlmaaGreatDoorLawA
import Derived.Test.YtahiopjplfnlmaaGreatDoorRows
import Derived.Lib.LaidU8T
import Derived.ProofKit
import Derived.OpenShut
import Derived.LaidMore
import Derived.Lay
import Derived.Stop.Joined
import Derived.Stop.LaidErr
import Derived.Lib.LaidTab
namespace Go.Proofs.YtahiopjplfnlmaaGreatDoor
open Go Go.RowKit Go.ChangeShapes Go.WideShapes Go.ChangeAt

theorem Tryz.ownL : ownKnob Tryz.prog.godebug = none := by kernel_rfl
theorem Tryz.laidOutL : laidOutB Tryz.prog = true := by kernel_rfl

def laidAll : List (String × DataW Unit) := [("math/bits.deBruijn32tab", Rows.laid_math_bits_deBruijn32tab), ("math/bits.deBruijn64tab", Rows.laid_math_bits_deBruijn64tab), ("internal/strconv.uint64pow10", Rows.laid_internal_strconv_uint64pow10), ("unicode/utf8.acceptRanges", Rows.laid_unicode_utf8_acceptRanges), ("strconv.ErrRange", Rows.laid_strconv_ErrRange), ("strconv.ErrSyntax", Rows.laid_strconv_ErrSyntax), ("unicode/utf8.first", Rows.laid_unicode_utf8_first)]

theorem Tryz.star : "*" ++ "errors.errorString" = "*errors.errorString" := by decide
theorem Tryz.errRow (u : TypeId) (h : Tryz.prog.typeName? 3 u = some "*errors.errorString") : u = 159 :=
  typeName_ptr_named (nm := "errors.errorString") (by rw [Tryz.star]; kernel_rfl) (by kernel_rfl) (by decide) u (by rw [Tryz.star]; exact h)

theorem glob_of {W : World} (h : laidMetH Tryz.prog laidAll W) : Glob W := by
  rw [MakeChecks.laidMetH_plain _ _ _ (by kernel_rfl)] at h
  have h2 := h.tail.tail
  have h4 := h2.tail.tail
  have h5 := h4.tail
  have htab : Lib.TabIs Tryz.prog W "internal/strconv.uint64pow10" .u64 Lib.pow10Tab :=
    Lib.tabIs_of_head Tryz.gTab (by kernel_rfl) Tryz.underlying135 Tryz.underlying108 (by kernel_rfl) (by kernel_rfl) h2
  obtain ⟨a1, s1, hv1, -⟩ := laid_sentinel h4 Tryz.gRng (by kernel_rfl) Tryz.underlying76 Tryz.errRow Tryz.underlying159 Tryz.underlying161 rfl rfl Tryz.underlying9 (by kernel_rfl) (by kernel_rfl)
  obtain ⟨a2, s2, hv2, -⟩ := laid_sentinel h5 Tryz.gSyn (by kernel_rfl) Tryz.underlying76 Tryz.errRow Tryz.underlying159 Tryz.underlying161 rfl rfl Tryz.underlying9 (by kernel_rfl) (by kernel_rfl)
  have r1 : Lib.VarReads Tryz.prog W "unicode/utf8.first" Lib.firstData := by
    rw [show Lib.firstData = Rows.laid_unicode_utf8_first by kernel_rfl]
    exact Lib.laidMet.reads h (.tail _ (.tail _ (.tail _ (.tail _ (.tail _ (.tail _ (.head _)))))))
  have r2 : Lib.VarReads Tryz.prog W "unicode/utf8.acceptRanges" Lib.acceptData := by
    rw [show Lib.acceptData = Rows.laid_unicode_utf8_acceptRanges by kernel_rfl]
    exact Lib.laidMet.reads h (.tail _ (.tail _ (.tail _ (.head _))))
  have hutf : Lib.Utf8Tabs (Tryz.laysValid_ren.g 3) (Tryz.laysValid_ren.g 4) W :=
    utf8Tabs_of_readsT (U8Types.of196 Tryz.laysValid) ⟨by kernel_rfl, by kernel_rfl, by kernel_rfl, by kernel_rfl, by kernel_rfl, by kernel_rfl, by kernel_rfl⟩ r1 r2
  refine ⟨⟨_, _, hv2⟩, ⟨_, _, hv1⟩, htab, hutf, ?_⟩
  obtain ⟨g, t, cs, fuel, p, -, -, hv, -⟩ := Lib.laidMet.reads h (n := "math/bits.deBruijn64tab") (d := Rows.laid_math_bits_deBruijn64tab) (.tail _ (.head _))
  unfold World.var? at hv
  rw [show Tryz.prog.globalNamed "math/bits.deBruijn64tab" = some 7 by kernel_rfl, Option.bind_some] at hv
  split at hv
  · rename_i hh
    exact (Array.getElem?_eq_some_iff.1 hh).1
  · cases hv
end Go.Proofs.YtahiopjplfnlmaaGreatDoor
