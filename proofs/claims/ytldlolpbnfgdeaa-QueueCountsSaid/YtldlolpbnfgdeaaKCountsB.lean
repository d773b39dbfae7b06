/- The queue's counts: every run. -/
import Derived.Test.YtldlolpbnfgdeaaKCountsA
namespace Go.Proofs.Ytldlolpbnfgdeaa.AA
open Go Go.RowKit Go.Proofs.Ytldlolpbnfgdeaa
set_option maxRecDepth 100000
theorem rest0 : (List.range 13).all (okRest 0) = true := by kernel_rfl
theorem rest1 : (List.range 13).all (okRest 1) = true := by kernel_rfl
theorem rest2 : (List.range 13).all (okRest 2) = true := by kernel_rfl
theorem rest3 : (List.range 13).all (okRest 3) = true := by kernel_rfl
theorem rest4 : (List.range 13).all (okRest 4) = true := by kernel_rfl
theorem rest5 : (List.range 13).all (okRest 5) = true := by kernel_rfl
theorem rest6 : (List.range 13).all (okRest 6) = true := by kernel_rfl
theorem rest7 : (List.range 13).all (okRest 7) = true := by kernel_rfl
theorem rest8 : (List.range 13).all (okRest 8) = true := by kernel_rfl
theorem rest9 : (List.range 13).all (okRest 9) = true := by kernel_rfl
theorem rest10 : (List.range 13).all (okRest 10) = true := by kernel_rfl
theorem rest11 : (List.range 13).all (okRest 11) = true := by kernel_rfl
theorem rest12 : (List.range 13).all (okRest 12) = true := by kernel_rfl
end Go.Proofs.Ytldlolpbnfgdeaa.AA
