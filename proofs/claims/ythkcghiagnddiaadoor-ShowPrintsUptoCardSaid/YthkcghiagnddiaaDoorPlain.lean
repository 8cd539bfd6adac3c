import Derived.Lib.TrimUEq
import Derived.Laws.RangeAny
namespace Go.Proofs.YthkcghiagnddiaaDoor.Plain
open Go

/-- The byte at a place, as a number (0 beyond the end). -/
def byt (s : ByteArray) (j : Nat) : Nat := (s.data.toList.getD j 0).toNat

theorem list_size (s : ByteArray) : s.data.toList.length = s.size := by rw [Array.length_toList]; rfl

/-- What decoding at a place tells of the bytes it covers. -/
theorem decode_covers (s : ByteArray) (pos : Nat) (h : pos < s.size) :
    ((Utf8.decode s pos).1 < 128 → (Utf8.decode s pos).2 = 1 ∧ (Utf8.decode s pos).1 = byt s pos) ∧
    (128 ≤ (Utf8.decode s pos).1 → ∀ j, pos ≤ j → j < pos + (Utf8.decode s pos).2 → 128 ≤ byt s j) ∧
    1 ≤ (Utf8.decode s pos).2 ∧ pos + (Utf8.decode s pos).2 ≤ s.size := by
  have hl := list_size s
  have e := Lib.decode_N s pos
  rw [hl] at e
  unfold byt
  generalize hb0 : (s.data.toList.getD pos 0).toNat = b0 at e ⊢
  generalize hb1 : (s.data.toList.getD (pos + 1) 0).toNat = b1 at e
  generalize hb2 : (s.data.toList.getD (pos + 2) 0).toNat = b2 at e
  generalize hb3 : (s.data.toList.getD (pos + 3) 0).toNat = b3 at e
  rw [e]
  have key : ∀ j, pos ≤ j → j < pos + 4 → (j = pos ∨ j = pos + 1 ∨ j = pos + 2 ∨ j = pos + 3) := by intro j h1 h2; omega
  unfold Lib.decodeN
  split
  · refine ⟨fun _ => ⟨rfl, rfl⟩, fun h => ?_, by simp, by simp; omega⟩
    simp only at h
    omega
  · split
    · split
      · refine ⟨fun h => by simp only at h; omega, fun _ j h1 h2 => ?_, by simp, by simp; omega⟩
        simp only at h2
        rcases key j h1 (by omega) with rfl | rfl | rfl | rfl <;> omega
      · refine ⟨fun h => by simp only at h; omega, fun _ j h1 h2 => ?_, by simp, by simp; omega⟩
        simp only at h2
        rcases key j h1 (by omega) with rfl | rfl | rfl | rfl <;> omega
    · split
      · split
        · refine ⟨fun h => by simp only at h; omega, fun _ j h1 h2 => ?_, by simp, by simp; omega⟩
          simp only at h2
          rcases key j h1 (by omega) with rfl | rfl | rfl | rfl <;> omega
        · refine ⟨fun h => by simp only at h; omega, fun _ j h1 h2 => ?_, by simp, by simp; omega⟩
          simp only at h2
          rcases key j h1 (by omega) with rfl | rfl | rfl | rfl <;> omega
      · split
        · split
          · refine ⟨fun h => by simp only at h; omega, fun _ j h1 h2 => ?_, by simp, by simp; omega⟩
            simp only at h2
            rcases key j h1 (by omega) with rfl | rfl | rfl | rfl <;> omega
          · refine ⟨fun h => by simp only at h; omega, fun _ j h1 h2 => ?_, by simp, by simp; omega⟩
            simp only at h2
            rcases key j h1 (by omega) with rfl | rfl | rfl | rfl <;> omega
        · refine ⟨fun h => by simp only at h; omega, fun _ j h1 h2 => ?_, by simp, by simp; omega⟩
          simp only at h2
          rcases key j h1 (by omega) with rfl | rfl | rfl | rfl <;> omega

/-- No newline, no carriage return within. -/
def clean (s : ByteArray) : Bool := s.data.toList.all fun c => !(c == 10) && !(c == 13)

theorem clean_of (s : ByteArray) (h : ∀ j, j < s.size → byt s j ≠ 10 ∧ byt s j ≠ 13) : clean s = true := by
  unfold clean
  rw [List.all_eq_true]
  intro c hc
  obtain ⟨j, hj, rfl⟩ := List.mem_iff_getElem.1 hc
  have hj' : j < s.size := by rw [← list_size]; exact hj
  obtain ⟨h1, h2⟩ := h j hj'
  unfold byt at h1 h2
  rw [List.getD_eq_getElem?_getD, List.getElem?_eq_getElem hj] at h1 h2
  simp only [Option.getD_some] at h1 h2
  generalize s.data.toList[j] = c at h1 h2
  have e1 : (c == 10) = false := beq_eq_false_iff_ne.2 fun e => h1 (by rw [e]; rfl)
  have e2 : (c == 13) = false := beq_eq_false_iff_ne.2 fun e => h2 (by rw [e]; rfl)
  rw [e1, e2]
  rfl

theorem clean_not (s : ByteArray) (j : Nat) (hj : j < s.size) (h : byt s j = 10 ∨ byt s j = 13) : clean s = false := by
  unfold clean
  rw [List.all_eq_false]
  have hj' : j < s.data.toList.length := by rw [list_size]; exact hj
  refine ⟨s.data.toList[j], List.getElem_mem hj', ?_⟩
  unfold byt at h
  rw [List.getD_eq_getElem?_getD, List.getElem?_eq_getElem hj'] at h
  simp only [Option.getD_some] at h
  rcases h with h | h
  · have e : s.data.toList[j] = 10 := UInt8.toNat_inj.1 h
    rw [e]
    decide
  · have e : s.data.toList[j] = 13 := UInt8.toNat_inj.1 h
    rw [e]
    decide
end Go.Proofs.YthkcghiagnddiaaDoor.Plain
