/- The table of the powers of ten, out of the row's condition. -/
import Derived.Test.YtecaaimaeaocbaaDoorRows
import Derived.Test.YtecaaimaeaocbaaDoorKWrite
import Derived.Lib.LaidTab
import Derived.LaidSub
namespace Go.Proofs.YtecaaimaeaocbaaDoor
open Go Go.RowKit
theorem tab_of {w : World} {l : List (String × DataW Unit)} (hl : ((l.filter fun x => x.2.handleName?.isNone).filter fun x => x.1 == "internal/strconv.uint64pow10") = [("internal/strconv.uint64pow10", Lib.tabData .u64 Lib.pow10Tab)]) (h : laidMetH Tryd.prog l w) : TabB w.heap.size w := by
  have h1 := (laidMetH_iff.1 h).1.filter (fun x => x.1 == "internal/strconv.uint64pow10")
  rw [hl] at h1
  exact Lib.tabBelow_of_tabIs (Lib.tabIs_of_head (g := 0) (t := 176) (e := 163) (n := 20) (by kernel_rfl) (by kernel_rfl) (by kernel_rfl) (by kernel_rfl) (by kernel_rfl) (by kernel_rfl) h1)
theorem tab_parses {w : World} (h : laidMetH Tryd.prog Rows.cutParsesRow.laid w) : TabB w.heap.size w := tab_of (by kernel_rfl) h
theorem tab_formats {w : World} (h : laidMetH Tryd.prog Rows.cutFormatsRow.laid w) : TabB w.heap.size w := tab_of (by kernel_rfl) h
end Go.Proofs.YtecaaimaeaocbaaDoor
