import Derived.Test.YthkcghiagnddiaaDoorBase
namespace Go.Proofs.YthkcghiagnddiaaDoor.X
open Go Go.RowKit Go.Proofs.YthkcghiagnddiaaDoorW.PrintWords
theorem cat_list (a b : ByteArray) : (a ++ b).data.toList = a.data.toList ++ b.data.toList := by simp
/-- string([]byte{c}), the slice just made. -/
theorem conv1 (W : World) (s : Int) : (convert 34 9 (.slice (some ⟨W.heap.size, 0, none⟩) 1 1)).run Tryd.prog (W.alloc (.cells #[.int .u8 s] 5 (0, 0))) = .ok (.string (strOfNums [s])) (W.alloc (.cells #[.int .u8 s] 5 (0, 0))) := by
  refine string_of_reads (e := 5) (by kernel_rfl) (by kernel_rfl) (by kernel_rfl) ⟨rfl, by decide, fun _ => ⟨_, rfl, fun j hj => ?_⟩⟩
  obtain rfl : j = 0 := by omega
  rw [add_plain]
  exact (blk_cell (blk_new W _) 0)
theorem builderLays : Lays.n166 Tryd.prog Tryd.lays156_ren := { Tryd.lays156 with }
/-- The number of strings.Builder's type. -/
abbrev BT : Nat := 68
/-- A writer's contract. -/
theorem writeString (B b : Nat) (bs : List Value) (s : ByteArray) (w : World) (h : Lib.IsBuilderF BT 5 B b bs w) (hlen : bs.length + s.size ≤ 140737488355328) (hBw : B ≤ w.heap.size) :
    Calls Tryd.prog 26 #[.pointer (some ⟨b, 0, none⟩), .string s] w fun e w' => e = .returned (.tuple #[.int .i64 s.size, .nilIface]) ∧ (Lib.IsBuilderF BT 5 B b (bs ++ Lib.strCells s) w' ∧ Below B w w' ∧ Lib.OthersKept 5 (some b) w w') :=
  (Any.Builder_WriteString_k builderLays Tryd.Builder_Extra_156 B b bs s w h hlen hBw).mono fun _ _ ⟨h1, h2, h3⟩ => ⟨h1, .inr h2, h3⟩
/-- A builder that nobody else writes lives on. -/
theorem builder_below {T e : TypeId} {B b : Nat} {bs : List Value} {w w' : World} (h : Lib.IsBuilderF T e B b bs w) (hb : Below w.heap.size w w') : Lib.IsBuilderF T e B b bs w' := by
  have key : ∀ p, Lib.BuilderAtF T e B b p bs w → Lib.BuilderAtF T e B b p bs w' := by
    intro p h
    have hlt := h.lt
    obtain ⟨hB, v, h1, hown, hne⟩ := h
    exact ⟨hB, v, (hb.block b hlt).trans h1, hown.kept (grown_of_below hb none) (by cases v.ownBlock <;> simp), hne⟩
  exact h.elim (fun x => .inl (key _ x)) (fun x => .inr (key _ x))
theorem builder_lt {T e : TypeId} {B b : Nat} {bs : List Value} {w : World} (h : Lib.IsBuilderF T e B b bs w) : b < w.heap.size := h.elim (fun x => x.lt) (fun x => x.lt)
theorem builderString (B b : Nat) (l : List UInt8) (w : World) (h : Lib.IsBuilderF BT 5 B b (Lib.byteCells l) w) (hBw : B ≤ w.heap.size) :
    Calls Tryd.prog 27 #[.pointer (some ⟨b, 0, none⟩)] w fun e w' => e = .returned (.string ⟨l.toArray⟩) ∧ (Lib.IsBuilderF BT 5 B b (Lib.byteCells l) w' ∧ Below B w w' ∧ Lib.OthersKept 5 (some b) w w') :=
  Tryd.Builder_String_any_k B b l w h hBw
end Go.Proofs.YthkcghiagnddiaaDoor.X
