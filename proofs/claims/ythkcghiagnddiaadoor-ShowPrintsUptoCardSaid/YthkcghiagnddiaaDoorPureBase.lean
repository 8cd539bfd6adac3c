import Derived.Test.YthkcghiagnddiaaDoorX0
namespace Go.Proofs.YthkcghiagnddiaaDoor.Pure
open Go Go.RowKit X Go.Proofs.YthkcghiagnddiaaDoorW.PrintWords Go.Proofs.YthkcghiagnddiaaDoorW.PrintLast

theorem wrap_of {i : Int} (h0 : -9223372036854775808 ≤ i) (h : i ≤ 9223372036854775807) : wrap64 i = i := by
  unfold wrap64
  omega
theorem list_size (s : ByteArray) : s.data.toList.length = s.size := by rw [Array.length_toList]; rfl
theorem bt_get (s : ByteArray) (i : Int) (b : UInt8) (h : s.data.toList[i.toNat]? = some b) : bt s i = (b.toNat : Int) := by
  have hl := (List.getElem?_eq_some_iff.1 h).1
  rw [list_size] at hl
  rw [← bt_at s i hl]
  have h2 : s.data.toList[i.toNat]'(by rw [list_size]; exact hl) = b := (List.getElem?_eq_some_iff.1 h).2
  rw [← h2]
  rfl
theorem drop_cons {α : Type} {l : List α} {i : Int} (h0 : 0 ≤ i) (h : i < (l.length : Int)) : ∃ x, l[i.toNat]? = some x ∧ l.drop i.toNat = x :: l.drop (i + 1).toNat := by
  have hn : i.toNat < l.length := by omega
  exact ⟨l[i.toNat], List.getElem?_eq_getElem hn, by rw [show (i + 1).toNat = i.toNat + 1 by omega, List.drop_eq_getElem_cons hn]⟩
theorem rd42 {l : List S42} {i : Int} {x : S42} (h : l[i.toNat]? = some x) : rd_T42 l i = x := by
  unfold rd_T42
  rw [List.getD_eq_getElem?_getD, h]
  rfl
theorem rd26 {l : List S26} {i : Int} {x : S26} (h : l[i.toNat]? = some x) : rd_T26 l i = x := by
  unfold rd_T26
  rw [List.getD_eq_getElem?_getD, h]
  rfl
/-- A byte within a text. -/
def hasB (s : ByteArray) (c : Int) : Bool := s.data.toList.any fun b => (b.toNat : Int) == c
end Go.Proofs.YthkcghiagnddiaaDoor.Pure
