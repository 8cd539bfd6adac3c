import Derived.Test.YthkcghiagnddiaaDoorShelf
import Derived.Shelf.Strings.BuilderK
import Derived.Lib.LaidTab
import Derived.Lib.AppendIntMem
import Derived.Lib.OthersKept
import Derived.WalkKit
import Derived.BigCall
import Derived.Test.YthkcghiagnddiaaDoorWMore
import Derived.Test.YthkcghiagnddiaaDoorPlain
namespace Go.Proofs.YthkcghiagnddiaaDoor.X
open Go Go.RowKit

/-- The table of powers of ten lies as its initialiser lays it. -/
def GPow (w : World) : Prop := Lib.TabIs Tryd.prog w "internal/strconv.uint64pow10" .u64 Lib.pow10Tab
theorem tab_below {n : String} {k : IntKind} {zs : List Int} {w w' : World} {B : Nat} (hB : w.heap.size ≤ B) (h : Lib.TabIs Tryd.prog w n k zs) (hb : Below B w w') : Lib.TabIs Tryd.prog w' n k zs := by
  unfold Lib.TabIs World.var? at h ⊢
  cases hg : Tryd.prog.globalNamed n with
  | none => rw [hg] at h; cases h
  | some g =>
    rw [hg] at h
    simp only [Option.bind_some] at h ⊢
    have hlt : g < w.heap.size := by
      rcases Nat.lt_or_ge g w.heap.size with h' | h'
      · exact h'
      · rw [Array.getElem?_eq_none h'] at h; cases h
    rw [hb.block g (Nat.lt_of_lt_of_le hlt hB)]
    exact h
theorem GPow.below {w w' : World} (h : GPow w) (hb : Below w.heap.size w w') : GPow w' := tab_below (Nat.le_refl _) h hb

end Go.Proofs.YthkcghiagnddiaaDoor.X
