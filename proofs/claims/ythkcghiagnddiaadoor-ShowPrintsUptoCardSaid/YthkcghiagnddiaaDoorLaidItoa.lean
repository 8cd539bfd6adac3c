import Derived.Test.YthkcghiagnddiaaDoorLaid
namespace Go.Proofs.YthkcghiagnddiaaDoor.Laid
open Go Go.RowKit
theorem gPow : Tryd.prog.globalNamed "internal/strconv.uint64pow10" = some 2 := by kernel_rfl
theorem gPowT : (Tryd.prog.globals[2]?).map (·.type) = some 183 := by kernel_rfl
theorem pow_of {l : List (String × DataW Unit)} {W : World} (hm : ("internal/strconv.uint64pow10", Rows.laid_internal_strconv_uint64pow10) ∈ l.filter fun x => x.2.handleName?.isNone) (h : laidMetH Tryd.prog l W) : X.GPow W := by
  obtain ⟨ps, hv, _⟩ := laidMet_of_H h
  exact tab_of_laidVars (zs := Lib.pow10Tab) gPow gPowT Tryd.underlying183 (e := 172) (by kernel_rfl) (by kernel_rfl) (by kernel_rfl) _ ps hm hv
end Go.Proofs.YthkcghiagnddiaaDoor.Laid
