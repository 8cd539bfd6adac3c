import Derived.Lib.TrimUEq
import Derived.Laws.RangeAny
import Derived.Test.YthkcghiagnddiaaDoorShelf
import Derived.Shelf.Strings.BuilderK
import Derived.Lib.LaidTab
import Derived.Lib.AppendIntMem
import Derived.Lib.OthersKept
import Derived.WalkKit
import Derived.BigCall
import Derived.Test.YthkcghiagnddiaaDoorWMore
namespace Go.Proofs.YthkcghiagnddiaaDoor.Plain
open Go

/-- The byte at a place, as a number (0 beyond the end). -/
def byt (s : ByteArray) (j : Nat) : Nat := (s.data.toList.getD j 0).toNat

theorem list_size (s : ByteArray) : s.data.toList.length = s.size := by rw [Array.length_toList]; rfl

/-- What decoding at a place tells of the bytes it covers. -/
theorem decode_covers (s : ByteArray) (pos : Nat) (h : pos < s.size) :
    ((Utf8.decode s pos).1 < 128 → (Utf8.decode s pos).2 = 1 ∧ (Utf8.decode s pos).1 = byt s pos) ∧
    (128 ≤ (Utf8.decode s pos).1 → ∀ j, pos ≤ j → j < pos + (Utf8.decode s pos).2 → 128 ≤ byt s j) ∧
    1 ≤ (Utf8.decode s pos).2 ∧ pos + (Utf8.decode s pos).2 ≤ s.size := by
  have hl := list_size s
  have e := Lib.decode_N s pos
  rw [hl] at e
  unfold byt
  generalize hb0 : (s.data.toList.getD pos 0).toNat = b0 at e ⊢
  generalize hb1 : (s.data.toList.getD (pos + 1) 0).toNat = b1 at e
  generalize hb2 : (s.data.toList.getD (pos + 2) 0).toNat = b2 at e
  generalize hb3 : (s.data.toList.getD (pos + 3) 0).toNat = b3 at e
  rw [e]
  have key : ∀ j, pos ≤ j → j < pos + 4 → (j = pos ∨ j = pos + 1 ∨ j = pos + 2 ∨ j = pos + 3) := by intro j h1 h2; omega
  unfold Lib.decodeN
  split
  · refine ⟨fun _ => ⟨rfl, rfl⟩, fun h => ?_, by simp, by simp; omega⟩
    simp only at h
    omega
  · split
    · split
      · refine ⟨fun h => by simp only at h; omega, fun _ j h1 h2 => ?_, by simp, by simp; omega⟩
        simp only at h2
        rcases key j h1 (by omega) with rfl | rfl | rfl | rfl <;> omega
      · refine ⟨fun h => by simp only at h; omega, fun _ j h1 h2 => ?_, by simp, by simp; omega⟩
        simp only at h2
        rcases key j h1 (by omega) with rfl | rfl | rfl | rfl <;> omega
    · split
      · split
        · refine ⟨fun h => by simp only at h; omega, fun _ j h1 h2 => ?_, by simp, by simp; omega⟩
          simp only at h2
          rcases key j h1 (by omega) with rfl | rfl | rfl | rfl <;> omega
        · refine ⟨fun h => by simp only at h; omega, fun _ j h1 h2 => ?_, by simp, by simp; omega⟩
          simp only at h2
          rcases key j h1 (by omega) with rfl | rfl | rfl | rfl <;> omega
      · split
        · split
          · refine ⟨fun h => by simp only at h; omega, fun _ j h1 h2 => ?_, by simp, by simp; omega⟩
            simp only at h2
            rcases key j h1 (by omega) with rfl | rfl | rfl | rfl <;> omega
          · refine ⟨fun h => by simp only at h; omega, fun _ j h1 h2 => ?_, by simp, by simp; omega⟩
            simp only at h2
            rcases key j h1 (by omega) with rfl | rfl | rfl | rfl <;> omega
        · refine ⟨fun h => by simp only at h; omega, fun _ j h1 h2 => ?_, by simp, by simp; omega⟩
          simp only at h2
          rcases key j h1 (by omega) with rfl | rfl | rfl | rfl <;> omega

/-- No newline, no carriage return within. -/
def clean (s : ByteArray) : Bool := s.data.toList.all fun c => !(c == 10) && !(c == 13)

theorem clean_of (s : ByteArray) (h : ∀ j, j < s.size → byt s j ≠ 10 ∧ byt s j ≠ 13) : clean s = true := by
  unfold clean
  rw [List.all_eq_true]
  intro c hc
  obtain ⟨j, hj, rfl⟩ := List.mem_iff_getElem.1 hc
  have hj' : j < s.size := by rw [← list_size]; exact hj
  obtain ⟨h1, h2⟩ := h j hj'
  unfold byt at h1 h2
  rw [List.getD_eq_getElem?_getD, List.getElem?_eq_getElem hj] at h1 h2
  simp only [Option.getD_some] at h1 h2
  generalize s.data.toList[j] = c at h1 h2
  have e1 : (c == 10) = false := beq_eq_false_iff_ne.2 fun e => h1 (by rw [e]; rfl)
  have e2 : (c == 13) = false := beq_eq_false_iff_ne.2 fun e => h2 (by rw [e]; rfl)
  rw [e1, e2]
  rfl

theorem clean_not (s : ByteArray) (j : Nat) (hj : j < s.size) (h : byt s j = 10 ∨ byt s j = 13) : clean s = false := by
  unfold clean
  rw [List.all_eq_false]
  have hj' : j < s.data.toList.length := by rw [list_size]; exact hj
  refine ⟨s.data.toList[j], List.getElem_mem hj', ?_⟩
  unfold byt at h
  rw [List.getD_eq_getElem?_getD, List.getElem?_eq_getElem hj'] at h
  simp only [Option.getD_some] at h
  rcases h with h | h
  · have e : s.data.toList[j] = 10 := UInt8.toNat_inj.1 h
    rw [e]
    decide
  · have e : s.data.toList[j] = 13 := UInt8.toNat_inj.1 h
    rw [e]
    decide
end Go.Proofs.YthkcghiagnddiaaDoor.Plain
namespace Go.Proofs.YthkcghiagnddiaaDoor.X
open Go Go.RowKit

/-- The table of powers of ten lies as its initialiser lays it. -/
def GPow (w : World) : Prop := Lib.TabIs Tryd.prog w "internal/strconv.uint64pow10" .u64 Lib.pow10Tab
theorem tab_below {n : String} {k : IntKind} {zs : List Int} {w w' : World} {B : Nat} (hB : w.heap.size ≤ B) (h : Lib.TabIs Tryd.prog w n k zs) (hb : Below B w w') : Lib.TabIs Tryd.prog w' n k zs := by
  unfold Lib.TabIs World.var? at h ⊢
  cases hg : Tryd.prog.globalNamed n with
  | none => rw [hg] at h; cases h
  | some g =>
    rw [hg] at h
    simp only [Option.bind_some] at h ⊢
    have hlt : g < w.heap.size := by
      rcases Nat.lt_or_ge g w.heap.size with h' | h'
      · exact h'
      · rw [Array.getElem?_eq_none h'] at h; cases h
    rw [hb.block g (Nat.lt_of_lt_of_le hlt hB)]
    exact h
theorem GPow.below {w w' : World} (h : GPow w) (hb : Below w.heap.size w w') : GPow w' := tab_below (Nat.le_refl _) h hb

end Go.Proofs.YthkcghiagnddiaaDoor.X
namespace Go.Proofs.YthkcghiagnddiaaDoor.X
open Go Go.RowKit Go.Proofs.YthkcghiagnddiaaDoorW.PrintWords
theorem cat_list (a b : ByteArray) : (a ++ b).data.toList = a.data.toList ++ b.data.toList := by simp
/-- string([]byte{c}), the slice just made. -/
theorem conv1 (W : World) (s : Int) : (convert 34 9 (.slice (some ⟨W.heap.size, 0, none⟩) 1 1)).run Tryd.prog (W.alloc (.cells #[.int .u8 s] 5 (0, 0))) = .ok (.string (strOfNums [s])) (W.alloc (.cells #[.int .u8 s] 5 (0, 0))) := by
  refine string_of_reads (e := 5) (by kernel_rfl) (by kernel_rfl) (by kernel_rfl) ⟨rfl, by decide, fun _ => ⟨_, rfl, fun j hj => ?_⟩⟩
  obtain rfl : j = 0 := by omega
  rw [add_plain]
  exact (blk_cell (blk_new W _) 0)
theorem builderLays : Lays.n166 Tryd.prog Tryd.lays156_ren := { Tryd.lays156 with }
/-- The number of strings.Builder's type. -/
abbrev BT : Nat := 68
/-- A writer's contract. -/
theorem writeString (B b : Nat) (bs : List Value) (s : ByteArray) (w : World) (h : Lib.IsBuilderF BT 5 B b bs w) (hlen : bs.length + s.size ≤ 140737488355328) (hBw : B ≤ w.heap.size) :
    Calls Tryd.prog 26 #[.pointer (some ⟨b, 0, none⟩), .string s] w fun e w' => e = .returned (.tuple #[.int .i64 s.size, .nilIface]) ∧ (Lib.IsBuilderF BT 5 B b (bs ++ Lib.strCells s) w' ∧ Below B w w' ∧ Lib.OthersKept 5 (some b) w w') :=
  (Any.Builder_WriteString_k builderLays Tryd.Builder_Extra_156 B b bs s w h hlen hBw).mono fun _ _ ⟨h1, h2, h3⟩ => ⟨h1, .inr h2, h3⟩
/-- A builder that nobody else writes lives on. -/
theorem builder_below {T e : TypeId} {B b : Nat} {bs : List Value} {w w' : World} (h : Lib.IsBuilderF T e B b bs w) (hb : Below w.heap.size w w') : Lib.IsBuilderF T e B b bs w' := by
  have key : ∀ p, Lib.BuilderAtF T e B b p bs w → Lib.BuilderAtF T e B b p bs w' := by
    intro p h
    have hlt := h.lt
    obtain ⟨hB, v, h1, hown, hne⟩ := h
    exact ⟨hB, v, (hb.block b hlt).trans h1, hown.kept (grown_of_below hb none) (by cases v.ownBlock <;> simp), hne⟩
  exact h.elim (fun x => .inl (key _ x)) (fun x => .inr (key _ x))
theorem builder_lt {T e : TypeId} {B b : Nat} {bs : List Value} {w : World} (h : Lib.IsBuilderF T e B b bs w) : b < w.heap.size := h.elim (fun x => x.lt) (fun x => x.lt)
theorem builderString (B b : Nat) (l : List UInt8) (w : World) (h : Lib.IsBuilderF BT 5 B b (Lib.byteCells l) w) (hBw : B ≤ w.heap.size) :
    Calls Tryd.prog 27 #[.pointer (some ⟨b, 0, none⟩)] w fun e w' => e = .returned (.string ⟨l.toArray⟩) ∧ (Lib.IsBuilderF BT 5 B b (Lib.byteCells l) w' ∧ Below B w w' ∧ Lib.OthersKept 5 (some b) w w') :=
  Tryd.Builder_String_any_k B b l w h hBw
end Go.Proofs.YthkcghiagnddiaaDoor.X
