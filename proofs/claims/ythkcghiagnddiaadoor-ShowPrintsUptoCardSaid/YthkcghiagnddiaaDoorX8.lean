-- Printed by px.sh (a patched copy of the kit's print): the walks of Go functions, out of the translation.
import Derived.Test.YthkcghiagnddiaaDoorX0
namespace Go.Proofs.YthkcghiagnddiaaDoor.X
open Go.RowKit Go.Proofs.YthkcghiagnddiaaDoorW.PrintWords Go.Proofs.YthkcghiagnddiaaDoorW.PrintLast Go.Proofs.YthkcghiagnddiaaDoorW.PrintMore
attribute [local go_sem] max2_int min2_int max_two min_two max_three min_three max_four min_four   -- for this text's walks alone
set_option linter.unusedVariables false
set_option linter.unusedSimpArgs false

/-! ### show_Name: function 25 -/
def show_Name.f (a0 : ByteArray) : Option (Bool) := if a0.size ≤ 9223372036854775807 then some (Plain.clean a0 && (decide (0 < a0.size) && decide (a0.size ≤ 64))) else none
set_option maxHeartbeats 4000000 in
set_option maxRecDepth 1000000 in
theorem show_Name.calls (a0 : ByteArray) (r : Bool) (w : World) (h : show_Name.f a0 = some r) : Calls Tryd.prog 25 #[.string a0] w fun e w' => e = .returned (.bool r) ∧ Below w.heap.size w w' := by
 unfold show_Name.f at h
 split at h
 ·rename_i hs
  have H := Aside0.mk (Option.some.inj h)
  clear h
  go_enter Tryd.func25, Tryd.ntmps25
  go_wp2
  go_loopw [] (fun wr => ∃ (pos : Nat), wr.heap[w.heap.size]? = some (.stringIter a0 pos) ∧ Below w.heap.size w wr ∧ pos ≤ a0.size ∧ Aside0 (∀ j, j < pos → Plain.byt a0 j ≠ 10 ∧ Plain.byt a0 j ≠ 13)) (fun wr => a0.size - wr.iterPos w.heap.size)
  case atStart =>
   exact ⟨0, World.iter_heap w a0 0, (Below.refl _ w).alloc (Nat.le_refl _) _, by omega, ⟨fun j hj => by omega⟩⟩
  case round =>
   obtain ⟨pos, hit, hbw, hle, hcl⟩ := hrel
   have hwlt : w.heap.size < wr.heap.size := (Array.getElem?_eq_some_iff.1 hit).1
   by_cases hp : pos < a0.size
   ·have hnx : ∀ ty, (Instr.next (.pointer (some ⟨w.heap.size, 0, none⟩)) true ty).run Tryd.prog wr = _ := fun ty => Lib.run_next_any_at wr w.heap.size a0 pos ty hit hp
    obtain ⟨hlo, hhi, hw1, hw2⟩ := Plain.decode_covers a0 pos hp
    have hlo := Aside0.mk hlo
    have hbw2 := Lib.below_iterAt hbw (k := w.heap.size) (Nat.le_refl _) a0 (pos + (Utf8.decode a0 pos).2)
    have hit2 := Lib.iterAt_heap wr w.heap.size a0 pos (pos + (Utf8.decode a0 pos).2) hit
    have hret : ∀ n : Nat, (n = 10 ∨ n = 13) → (Utf8.decode a0 pos).1 = n → r = false := by
     intro n hn e
     obtain ⟨_, hb⟩ := hlo.out (by omega)
     rw [← H.out, Plain.clean_not a0 pos hp (by omega)]
     rfl
    have hret := Aside0.mk hret
    go_wp2
    ·have e : ((Utf8.decode a0 pos).1 : Int) = 10 := by assumption
     go_ret
     exact ⟨by rw [hret.out 10 (.inl rfl) (by omega)]; rfl, hbw2⟩
    ·have e : (((Utf8.decode a0 pos).1 : Int) == 10) = true ∨ (((Utf8.decode a0 pos).1 : Int) == 13) = true := by assumption
     simp only [beq_iff_eq] at e
     go_ret
     exact ⟨by rw [hret.out (Utf8.decode a0 pos).1 (by omega) rfl]; rfl, hbw2⟩
    ·have e : (((Utf8.decode a0 pos).1 : Int) == 10) = false ∧ (((Utf8.decode a0 pos).1 : Int) == 13) = false := by assumption
     simp only [beq_eq_false_iff_ne] at e
     go_roundw
     case rel =>
      refine ⟨pos + (Utf8.decode a0 pos).2, hit2, hbw2, hw2, ⟨fun j hj => ?_⟩⟩
      rcases Nat.lt_or_ge j pos with h1 | h1
      ·exact hcl.out j h1
      ·rcases Nat.lt_or_ge (Utf8.decode a0 pos).1 128 with h2 | h2
       ·obtain ⟨h3, h4⟩ := hlo.out h2
        have : j = pos := by omega
        subst this
        omega
       ·have := hhi h2 j h1 hj
        omega
     case measure =>
      simp only [World.iterPos, hit2, hit]
      omega
   ·have hnx : ∀ ty, (Instr.next (.pointer (some ⟨w.heap.size, 0, none⟩)) true ty).run Tryd.prog wr = _ := fun ty => Lib.run_next_end_at wr w.heap.size a0 pos ty hit hp
    have hok : Plain.clean a0 = true := Plain.clean_of a0 fun j hj => hcl.out j (by omega)
    have hok := Aside0.mk hok
    go_wp2
    ·have e : 0 < a0.size := by assumption
     go_ret
     refine ⟨?_, hbw⟩
     rw [← H.out, hok.out]
     simp [e]
     omega
    ·have e : ¬ 0 < a0.size := by assumption
     go_ret
     refine ⟨?_, hbw⟩
     rw [← H.out, hok.out]
     simp [e]
 ·simp at h

end Go.Proofs.YthkcghiagnddiaaDoor.X
