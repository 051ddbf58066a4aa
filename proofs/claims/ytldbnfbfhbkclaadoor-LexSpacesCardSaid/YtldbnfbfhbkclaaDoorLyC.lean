/-
  The library's tables and errors, off the row's condition.
-/
import Derived.Test.YtldbnfbfhbkclaaDoorLyB
import Derived.Test.YtldbnfbfhbkclaaDoorRows
import Derived.Lib.LaidTab
import Derived.Stop.LaidErr
import Derived.MakeChecks
namespace Go.Proofs.YtldbnfbfhbkclaaDoor
open Go.RowKit Go.Shelf

/-- The name of the errors' type, as the row has it. -/
def nmE : String := match (Rows.laid_strconv_ErrRange : DataW Unit) with | .iface s _ => s | _ => ""
theorem tp_errStr (u : TypeId) (h : Tryd.prog.typeName? 3 u = some nmE) : u = 120 :=
  typeName_ptr_named (nm := "errors.errorString") (by kernel_rfl) (by kernel_rfl) (by decide) u (h.trans (by decide +kernel))
theorem glob_of_laid {W : World} (h : laidMetH Tryd.prog Rows.lexTokensRow.laid W) : Glob W := by
  rw [Go.MakeChecks.laidMetH_plain _ _ _ (by kernel_rfl)] at h
  have h1 := laidMet.tail h
  have h2 := laidMet.tail h1
  have h3 := laidMet.tail h2
  have h4 := laidMet.tail h3
  have hd : Lib.TabIs Tryd.prog W "math/bits.deBruijn64tab" .u8 [0, 1, 56, 2, 57, 49, 28, 3, 61, 58, 42, 50, 38, 29, 17, 4, 62, 47, 59, 36, 45, 43, 51, 22, 53, 39, 33, 30, 24, 18, 12, 5, 63, 55, 48, 27, 60, 41, 37, 16, 46, 35, 44, 21, 52, 32, 23, 11, 54, 26, 40, 15, 34, 20, 31, 10, 25, 14, 19, 9, 13, 8, 7, 6] :=
    Lib.tabIs_of_head (g := 5) (t := 126) (e := 5) (n := 64) (by kernel_rfl) (by kernel_rfl) Tryd.underlying126 Tryd.underlying5 (by kernel_rfl) (by kernel_rfl) h1
  have hp : Lib.TabIs Tryd.prog W "internal/strconv.uint64pow10" .u64 Lib.pow10Tab :=
    Lib.tabIs_of_head (g := 3) (t := 115) (e := 35) (n := 20) (by kernel_rfl) (by kernel_rfl) Tryd.underlying115 Tryd.underlying35 (by kernel_rfl) (by kernel_rfl) h2
  obtain ⟨ar, sr, hvr, _⟩ := laid_sentinel (nm := nmE) (g := 2) h3 (by kernel_rfl) (by kernel_rfl) Tryd.underlying84 tp_errStr Tryd.underlying120 Tryd.underlying122 rfl rfl Tryd.underlying9 (by kernel_rfl) (by kernel_rfl)
  obtain ⟨ay, sy, hvs, _⟩ := laid_sentinel (nm := nmE) (g := 1) h4 (by kernel_rfl) (by kernel_rfl) Tryd.underlying84 tp_errStr Tryd.underlying120 Tryd.underlying122 rfl rfl Tryd.underlying9 (by kernel_rfl) (by kernel_rfl)
  exact ⟨hp, ⟨_, hd, rfl⟩, ⟨_, _, hvs⟩, ⟨_, _, hvr⟩⟩
end Go.Proofs.YtldbnfbfhbkclaaDoor
