/-
  What the rows' condition and the world's shape give.
-/
import Derived.Test.YtbhelobahfgaeaaDoorEnv
import Derived.Test.YtbhelobahfgaeaaDoorCards
import Derived.Test.YtbhelobahfgaeaaDoorTie
namespace Go.Proofs.YtbhelobahfgaeaaDoor
open Go Go.RowKit
set_option linter.unusedVariables false
theorem esStar : "*" ++ "errors.errorString" = "*errors.errorString" := by decide
theorem esRow (u : TypeId) (h : Tryd.prog.typeName? 3 u = some "*errors.errorString") : u = 111 :=
  typeName_ptr_named (nm := "errors.errorString") (by rw [esStar]; kernel_rfl) (by kernel_rfl) (by decide) u (by rw [esStar]; exact h)
theorem env_of {W : World} (hsh : W.ShapedOpen Tryd.prog) (h : laidMetH Tryd.prog Rows.fnFormatProgramRow.laid W) : Env W := by
  rw [MakeChecks.laidMetH_plain _ _ _ (by kernel_rfl)] at h
  have h2 : laidMet Tryd.prog (("internal/strconv.uint64pow10", Lib.tabData .u64 Lib.pow10Tab) :: Rows.fnFormatProgramRow.laid.drop 3) W := h.tail.tail
  have h4 : laidMet Tryd.prog (("strconv.ErrRange", Rows.laid_strconv_ErrRange) :: Rows.fnFormatProgramRow.laid.drop 5) W := h2.tail.tail
  have h5 : laidMet Tryd.prog (("strconv.ErrSyntax", Rows.laid_strconv_ErrSyntax) :: Rows.fnFormatProgramRow.laid.drop 6) W := h4.tail
  refine ⟨?_, ?_, ?_, ?_⟩
  · exact Lib.tabIs_of_head (g := 2) (t := 104) (e := 87) (n := 20) (by kernel_rfl) (by kernel_rfl) Tryd.underlying104 Tryd.underlying87 (by kernel_rfl) (by kernel_rfl) h2
  · exact Go.Proofs.cell_of_shapedOpen_int (zero := #[.int .i64 0]) (t := 3) hsh (of_decide_eq_true (by kernel_rfl)) (by kernel_rfl) rfl (by kernel_rfl) (by kernel_rfl) Tryd.underlying3
  · obtain ⟨a0, s0, hv0, -, -, -⟩ := laid_sentinel h5 (g := 0) (ti := 69) (by kernel_rfl) (by kernel_rfl) Tryd.underlying69 esRow Tryd.underlying111 Tryd.underlying113 rfl rfl Tryd.underlying9 (by kernel_rfl) (by kernel_rfl)
    exact ⟨_, _, hv0⟩
  · obtain ⟨a0, s0, hv0, -, -, -⟩ := laid_sentinel h4 (g := 1) (ti := 69) (by kernel_rfl) (by kernel_rfl) Tryd.underlying69 esRow Tryd.underlying111 Tryd.underlying113 rfl rfl Tryd.underlying9 (by kernel_rfl) (by kernel_rfl)
    exact ⟨_, _, hv0⟩
end Go.Proofs.YtbhelobahfgaeaaDoor
