import Derived.Test.YthkcghiagnddiaaDoorRows
import Derived.Test.YthkcghiagnddiaaDoorBase
import Derived.LaidHandle
import Derived.Deep.DeepHandedRow
namespace Go.Proofs.YthkcghiagnddiaaDoor.Laid
open Go Go.RowKit

set_option maxRecDepth 100000 in
/-- A listed table, wherever it stands on the list. -/
theorem tab_of_laidVars {W : World} {name : String} {k : IntKind} {zs : List Int} {g : Nat} {t e : TypeId} {n : Nat}
    (hg : Tryd.prog.globalNamed name = some g) (hty : (Tryd.prog.globals[g]?).map (·.type) = some t) (ht : Tryd.prog.underlying t = some (.array n e)) (he : Tryd.prog.underlying e = some (.int k)) (hce : Tryd.prog.cellsOf e = 1) (hct : Tryd.prog.cellsOf t = n) :
    ∀ (l : List (String × DataW Unit)) (ps : List MemPlace), (name, Lib.tabData k zs) ∈ l → DataW.LaidVars Tryd.prog W l ps → Lib.TabIs Tryd.prog W name k zs
  | [], _, hm, _ => by cases hm
  | (n0, d0) :: r, ps, hm, h => by
    obtain ⟨g', t', cs, fuel, p, q, hg', ht', hvar, hd, hr, _⟩ := h
    rcases List.mem_cons.1 hm with e' | hm
    · injection e' with e1 e2
      subst e1
      subst e2
      obtain rfl := Option.some.inj (hg.symm.trans hg')
      obtain rfl := Option.some.inj (hty.symm.trans ht')
      unfold Lib.TabIs
      rw [hvar, ← Lib.cells_of_tab ht he hce hct hd]
    · exact tab_of_laidVars hg hty ht he hce hct r q hm hr
theorem laidMet_of_H {l : List (String × DataW Unit)} {W : World} (h : laidMetH Tryd.prog l W) : laidMet Tryd.prog (l.filter fun x => x.2.handleName?.isNone) W := by
  unfold laidMetH at h
  split at h
  · rename_i hf
    rw [List.filter_eq_self.2]
    · exact h
    · intro x hx
      cases hn : x.2.handleName? with
      | none => rfl
      | some y =>
        have : x ∈ l.filter fun x => x.2.handleName?.isSome := List.mem_filter.2 ⟨hx, by rw [hn]; rfl⟩
        rw [hf] at this
        cases this
  · exact h.1
/-- A plain datum's cells. -/
def litV : DataW Unit → Value
  | .lit (.int k n) => .int k n
  | _ => undef
def cellsV : DataW Unit → Array Value
  | .agg l => (l.map litV).toArray
  | _ => #[]
/-- A variable's block holds these cells. -/
def lay (W : World) (g : Nat) (c : Array Value) : World := { W with heap := W.heap.modify g fun
  | .cells _ t frozen => .cells c t frozen
  | o => o }
end Go.Proofs.YthkcghiagnddiaaDoor.Laid
