-- Printed by px.sh (a patched copy of the kit's print): the walks of Go functions, out of the translation.
import Derived.Test.YthkcghiagnddiaaDoorX0
import Derived.Test.YthkcghiagnddiaaDoorX3
import Derived.Test.YthkcghiagnddiaaDoorX4
import Derived.Test.YthkcghiagnddiaaDoorX5
namespace Go.Proofs.YthkcghiagnddiaaDoor.X
open Go.RowKit Go.Proofs.YthkcghiagnddiaaDoorW.PrintWords Go.Proofs.YthkcghiagnddiaaDoorW.PrintLast Go.Proofs.YthkcghiagnddiaaDoorW.PrintMore
attribute [local go_sem] max2_int min2_int max_two min_two max_three min_three max_four min_four   -- for this text's walks alone
set_option linter.unusedVariables false
set_option linter.unusedSimpArgs false

/-! ### redpenref18_Print: function 13 -/
mutual
def redpenref18_Print.l0 : Nat → List (S26) → ByteArray → Int → Option (ByteArray × Int)
 | 0, _, _, _ => none
 | k + 1, x1, x6, x7 => if x7 < (x1.length : Int) then (if 0 ≤ x7 then ((redpenref18_Check.f k ((rd_T26 x1 x7).f0) ((rd_T26 x1 x7).f1) ((rd_T26 x1 x7).f2) ((rd_T26 x1 x7).f3) ((rd_T26 x1 x7).f4)).bind fun t144 => (if t144 = 0 then ((redpenref18_Head.f k ((rd_T26 x1 x7).f0) ((rd_T26 x1 x7).f1) ((rd_T26 x1 x7).f2) ((rd_T26 x1 x7).f3) ((rd_T26 x1 x7).f4)).bind fun t146 => (if x6.size + t146.size ≤ 9223372036854775807 then (redpenref18_Print.l1 k x1 (x6 ++ t146) x7 0) else (none))) else (some ((⟨#[]⟩ : ByteArray), t144)))) else (none)) else (some (x6, 0))
def redpenref18_Print.l1 : Nat → List (S26) → ByteArray → Int → Int → Option (ByteArray × Int)
 | 0, _, _, _, _ => none
 | k + 1, x1, x6, x7, x9 => if 0 ≤ x7 then (if x7 < (x1.length : Int) then (if x9 < (((rd_T26 x1 x7).f4).length : Int) then (if 0 ≤ x9 then ((some (([(rd_T42 ((rd_T26 x1 x7).f4) x9).f0] : List Int) : List Int)).bind fun y151 => (if x6.size + (strOfNums y151).size ≤ 9223372036854775807 then (if (x6 ++ (strOfNums y151)).size + ((rd_T42 ((rd_T26 x1 x7).f4) x9).f1).size ≤ 9223372036854775807 then (if ((x6 ++ (strOfNums y151)) ++ ((rd_T42 ((rd_T26 x1 x7).f4) x9).f1)).size + 1 ≤ 9223372036854775807 then (if (rd_T42 ((rd_T26 x1 x7).f4) x9).f2 = true then (if (((x6 ++ (strOfNums y151)) ++ ((rd_T42 ((rd_T26 x1 x7).f4) x9).f1)) ++ (⟨#[10]⟩ : ByteArray)).size + 28 ≤ 9223372036854775807 then (redpenref18_Print.l1 k x1 ((((x6 ++ (strOfNums y151)) ++ ((rd_T42 ((rd_T26 x1 x7).f4) x9).f1)) ++ (⟨#[10]⟩ : ByteArray)) ++ (⟨#[92, 32, 78, 111, 32, 110, 101, 119, 108, 105, 110, 101, 32, 97, 116, 32, 101, 110, 100, 32, 111, 102, 32, 102, 105, 108, 101, 10]⟩ : ByteArray)) x7 (wrap64 (x9 + 1))) else (none)) else (redpenref18_Print.l1 k x1 (((x6 ++ (strOfNums y151)) ++ ((rd_T42 ((rd_T26 x1 x7).f4) x9).f1)) ++ (⟨#[10]⟩ : ByteArray)) x7 (wrap64 (x9 + 1)))) else (none)) else (none)) else (none))) else (none)) else (redpenref18_Print.l0 k x1 x6 (wrap64 (x7 + 1)))) else (none)) else (none)
end
def redpenref18_Print.f (k : Nat) (a0 : ByteArray) (l1 : List (S26)) : Option (ByteArray × Int) := (redpenref18_Name.f k a0).bind fun t142 => (if t142 = true then (if (l1.length : Int) = 0 then (some ((⟨#[]⟩ : ByteArray), 0)) else (if 6 + a0.size ≤ 9223372036854775807 then (if ((⟨#[45, 45, 45, 32, 97, 47]⟩ : ByteArray) ++ a0).size + 7 ≤ 9223372036854775807 then (if (((⟨#[45, 45, 45, 32, 97, 47]⟩ : ByteArray) ++ a0) ++ (⟨#[10, 43, 43, 43, 32, 98, 47]⟩ : ByteArray)).size + a0.size ≤ 9223372036854775807 then (if ((((⟨#[45, 45, 45, 32, 97, 47]⟩ : ByteArray) ++ a0) ++ (⟨#[10, 43, 43, 43, 32, 98, 47]⟩ : ByteArray)) ++ a0).size + 1 ≤ 9223372036854775807 then (redpenref18_Print.l0 k l1 (((((⟨#[45, 45, 45, 32, 97, 47]⟩ : ByteArray) ++ a0) ++ (⟨#[10, 43, 43, 43, 32, 98, 47]⟩ : ByteArray)) ++ a0) ++ (⟨#[10]⟩ : ByteArray)) 0) else (none)) else (none)) else (none)) else (none))) else (some ((⟨#[]⟩ : ByteArray), 10)))
theorem redpenref18_Print.mono_l : ∀ k, (∀ y0 y1 y2, LeO (redpenref18_Print.l0 k y0 y1 y2) (redpenref18_Print.l0 (k + 1) y0 y1 y2)) ∧ (∀ y0 y1 y2 y3, LeO (redpenref18_Print.l1 k y0 y1 y2 y3) (redpenref18_Print.l1 (k + 1) y0 y1 y2 y3))
 | 0 => ⟨fun _ _ _ r h => by simp [redpenref18_Print.l0] at h, fun _ _ _ _ r h => by simp [redpenref18_Print.l1] at h⟩
 | k + 1 => by
  obtain ⟨ih0, ih1⟩ := redpenref18_Print.mono_l k
  refine ⟨?_, ?_⟩
  ·intro y0 y1 y2
   unfold redpenref18_Print.l0
   repeat' first
   | (with_reducible exact ih0 _ _ _)
   | (with_reducible exact ih1 _ _ _ _)
   | (with_reducible exact redpenref18_Check.mono _ _ _ _ _ _)
   | (with_reducible exact redpenref18_Head.mono _ _ _ _ _ _)
   | (with_reducible exact redpenref18_Name.mono _ _)
   | (with_reducible exact LeO.refl _)
   | (with_reducible exact LeO.none _)
   | (with_reducible refine LeO.ite ?_ ?_)
   | (with_reducible refine LeO.bind ?_ (fun _ => ?_))
   | exact ih0 _ _ _
   | exact ih1 _ _ _ _
   | exact redpenref18_Check.mono _ _ _ _ _ _
   | exact redpenref18_Head.mono _ _ _ _ _ _
   | exact redpenref18_Name.mono _ _
   | exact LeO.none _
   | refine LeO.ite ?_ ?_
   | refine LeO.bind ?_ (fun _ => ?_)
  ·intro y0 y1 y2 y3
   unfold redpenref18_Print.l1
   repeat' first
   | (with_reducible exact ih0 _ _ _)
   | (with_reducible exact ih1 _ _ _ _)
   | (with_reducible exact redpenref18_Check.mono _ _ _ _ _ _)
   | (with_reducible exact redpenref18_Head.mono _ _ _ _ _ _)
   | (with_reducible exact redpenref18_Name.mono _ _)
   | (with_reducible exact LeO.refl _)
   | (with_reducible exact LeO.none _)
   | (with_reducible refine LeO.ite ?_ ?_)
   | (with_reducible refine LeO.bind ?_ (fun _ => ?_))
   | exact ih0 _ _ _
   | exact ih1 _ _ _ _
   | exact redpenref18_Check.mono _ _ _ _ _ _
   | exact redpenref18_Head.mono _ _ _ _ _ _
   | exact redpenref18_Name.mono _ _
   | exact LeO.none _
   | refine LeO.ite ?_ ?_
   | refine LeO.bind ?_ (fun _ => ?_)
theorem redpenref18_Print.mono : ∀ a0 a1 k, LeO (redpenref18_Print.f k a0 a1) (redpenref18_Print.f (k + 1) a0 a1) := by
 intro a0 a1 k
 obtain ⟨ih0, ih1⟩ := redpenref18_Print.mono_l k
 unfold redpenref18_Print.f
 repeat' first
   | (with_reducible exact ih0 _ _ _)
   | (with_reducible exact ih1 _ _ _ _)
   | (with_reducible exact redpenref18_Check.mono _ _ _ _ _ _)
   | (with_reducible exact redpenref18_Head.mono _ _ _ _ _ _)
   | (with_reducible exact redpenref18_Name.mono _ _)
   | (with_reducible exact LeO.refl _)
   | (with_reducible exact LeO.none _)
   | (with_reducible refine LeO.ite ?_ ?_)
   | (with_reducible refine LeO.bind ?_ (fun _ => ?_))
   | exact ih0 _ _ _
   | exact ih1 _ _ _ _
   | exact redpenref18_Check.mono _ _ _ _ _ _
   | exact redpenref18_Head.mono _ _ _ _ _ _
   | exact redpenref18_Name.mono _ _
   | exact LeO.none _
   | refine LeO.ite ?_ ?_
   | refine LeO.bind ?_ (fun _ => ?_)
set_option maxHeartbeats 8000000 in
set_option maxRecDepth 100000 in
theorem redpenref18_Print.calls (k : Nat) (a0 : ByteArray) (A1 : Option Addr) (c1 : Nat) (l1 : List (S26)) (r1 : ByteArray) (r2 : Int) (w : World) (hr1 : Kd.C k26 w A1 l1.length l1) (hc1 : l1.length ≤ c1) (h : redpenref18_Print.f k a0 l1 = some (r1, r2)) :
  Calls Tryd.prog 13 #[.string a0, .slice A1 l1.length c1] w fun e w' => e = .returned (.tuple #[.string r1, .int .i64 r2]) ∧ Below w.heap.size w w' := by
 have hu26 := Tryd.underlying26
 have hu42 := Tryd.underlying42
 have HR1 := Aside0.mk hr1
 have HC1 := Aside0.mk hc1
 clear hr1 hc1
 have HB := Aside0.mk (Below.refl w.heap.size w)
 have H : ((redpenref18_Name.f k a0).bind fun t142 => (if t142 = true then (if (l1.length : Int) = 0 then (some ((⟨#[]⟩ : ByteArray), 0)) else (if 6 + a0.size ≤ 9223372036854775807 then (if ((⟨#[45, 45, 45, 32, 97, 47]⟩ : ByteArray) ++ a0).size + 7 ≤ 9223372036854775807 then (if (((⟨#[45, 45, 45, 32, 97, 47]⟩ : ByteArray) ++ a0) ++ (⟨#[10, 43, 43, 43, 32, 98, 47]⟩ : ByteArray)).size + a0.size ≤ 9223372036854775807 then (if ((((⟨#[45, 45, 45, 32, 97, 47]⟩ : ByteArray) ++ a0) ++ (⟨#[10, 43, 43, 43, 32, 98, 47]⟩ : ByteArray)) ++ a0).size + 1 ≤ 9223372036854775807 then (redpenref18_Print.l0 k l1 (((((⟨#[45, 45, 45, 32, 97, 47]⟩ : ByteArray) ++ a0) ++ (⟨#[10, 43, 43, 43, 32, 98, 47]⟩ : ByteArray)) ++ a0) ++ (⟨#[10]⟩ : ByteArray)) 0) else (none)) else (none)) else (none)) else (none))) else (some ((⟨#[]⟩ : ByteArray), 10)))) = some (r1, r2) := h
 clear h
 replace H := Option.bind_eq_some_iff.mp H
 obtain ⟨t142, A30, H⟩ := H
 replace H : (if t142 = true then (if (l1.length : Int) = 0 then (some ((⟨#[]⟩ : ByteArray), 0)) else (if 6 + a0.size ≤ 9223372036854775807 then (if ((⟨#[45, 45, 45, 32, 97, 47]⟩ : ByteArray) ++ a0).size + 7 ≤ 9223372036854775807 then (if (((⟨#[45, 45, 45, 32, 97, 47]⟩ : ByteArray) ++ a0) ++ (⟨#[10, 43, 43, 43, 32, 98, 47]⟩ : ByteArray)).size + a0.size ≤ 9223372036854775807 then (if ((((⟨#[45, 45, 45, 32, 97, 47]⟩ : ByteArray) ++ a0) ++ (⟨#[10, 43, 43, 43, 32, 98, 47]⟩ : ByteArray)) ++ a0).size + 1 ≤ 9223372036854775807 then (redpenref18_Print.l0 k l1 (((((⟨#[45, 45, 45, 32, 97, 47]⟩ : ByteArray) ++ a0) ++ (⟨#[10, 43, 43, 43, 32, 98, 47]⟩ : ByteArray)) ++ a0) ++ (⟨#[10]⟩ : ByteArray)) 0) else (none)) else (none)) else (none)) else (none))) else (some ((⟨#[]⟩ : ByteArray), 10))) = some (r1, r2) := H
 have A3 := Aside0.mk A30
 clear A30
 by_cases c4 : t142 = true
 ·subst c4
  have H1 : (if (l1.length : Int) = 0 then (some ((⟨#[]⟩ : ByteArray), 0)) else (if 6 + a0.size ≤ 9223372036854775807 then (if ((⟨#[45, 45, 45, 32, 97, 47]⟩ : ByteArray) ++ a0).size + 7 ≤ 9223372036854775807 then (if (((⟨#[45, 45, 45, 32, 97, 47]⟩ : ByteArray) ++ a0) ++ (⟨#[10, 43, 43, 43, 32, 98, 47]⟩ : ByteArray)).size + a0.size ≤ 9223372036854775807 then (if ((((⟨#[45, 45, 45, 32, 97, 47]⟩ : ByteArray) ++ a0) ++ (⟨#[10, 43, 43, 43, 32, 98, 47]⟩ : ByteArray)) ++ a0).size + 1 ≤ 9223372036854775807 then (redpenref18_Print.l0 k l1 (((((⟨#[45, 45, 45, 32, 97, 47]⟩ : ByteArray) ++ a0) ++ (⟨#[10, 43, 43, 43, 32, 98, 47]⟩ : ByteArray)) ++ a0) ++ (⟨#[10]⟩ : ByteArray)) 0) else (none)) else (none)) else (none)) else (none))) = some (r1, r2) := by rw [if_pos rfl] at H; exact H
  clear H
  have H := H1
  clear H1
  by_cases c5 : (l1.length : Int) = 0
  ·rw [if_pos c5] at H
   have c5b0 : ((l1.length : Int) == 0) = true := beq_iff_eq.mpr c5
   have c5b1 : ((l1.length : Int) != 0) = false := bne_eq_false_iff_eq.mpr c5
   clear c5
   simp only [Option.some.injEq, Prod.mk.injEq] at H
   obtain ⟨rfl, rfl⟩ := H
   go_enter Tryd.func13, Tryd.ntmps13
   go_wp2_with (first | ((with_reducible refine gate_callee (f := 28) rfl ?_); refine goesL_ (some 12) rfl rfl Tryd.func28 (by kernel_rfl) rfl #[.string a0] rfl (by (try simp only [List.map_toArray, List.map_cons, List.map_nil]); first | done | rfl | (simp only [List.length_drop, List.length_take]; rfl)) ?_; (with_reducible refine (redpenref18_Name.calls k a0 true _ A3.out).mono ?_); rintro e w' ⟨rfl, ⟨nd, rfl⟩⟩; refine ⟨_, rfl, ?_⟩))
   go_ret2
   exact ⟨by first | rfl | (simp [errW_none, errW_some] <;> rfl) | (simp [*, errW_none, errW_some] <;> rfl), by repeat (first | (with_reducible first | exact HB.out | apply below_alloc | apply pw_below_drewN | apply below_drew1) | exact HB.out)⟩
  ·rw [if_neg c5] at H
   have c5b0 : ((l1.length : Int) == 0) = false := beq_eq_false_iff_ne.mpr c5
   have c5b1 : ((l1.length : Int) != 0) = true := bne_iff_ne.mpr c5
   have c5b2 : ¬ (l1 = []) := fun h_ => c5 (by rw [h_]; rfl)
   by_cases c6 : 6 + a0.size ≤ 9223372036854775807
   ·rw [if_pos c6] at H
    have c6b0 := eq_true c6
    have c6b1 : decide (6 + a0.size ≤ 9223372036854775807) = true := decide_eq_true c6
    try have c6b2 : (9223372036854775807 < 6 + a0.size) = False := eq_false (Nat.not_lt.2 c6)
    by_cases c7 : ((⟨#[45, 45, 45, 32, 97, 47]⟩ : ByteArray) ++ a0).size + 7 ≤ 9223372036854775807
    ·rw [if_pos c7] at H
     have c7b0 := eq_true c7
     have c7b1 : decide (((⟨#[45, 45, 45, 32, 97, 47]⟩ : ByteArray) ++ a0).size + 7 ≤ 9223372036854775807) = true := decide_eq_true c7
     try have c7b2 : (9223372036854775807 < ((⟨#[45, 45, 45, 32, 97, 47]⟩ : ByteArray) ++ a0).size + 7) = False := eq_false (Nat.not_lt.2 c7)
     try have c7b3 : (9223372036854775807 < 6 + a0.size + 7) = False := eq_false (fun h_ => by have z_ := c7; simp only [ByteArray.size_append', (show (⟨#[45, 45, 45, 32, 97, 47]⟩ : ByteArray).size = 6 from rfl)] at z_; omega)
     by_cases c8 : (((⟨#[45, 45, 45, 32, 97, 47]⟩ : ByteArray) ++ a0) ++ (⟨#[10, 43, 43, 43, 32, 98, 47]⟩ : ByteArray)).size + a0.size ≤ 9223372036854775807
     ·rw [if_pos c8] at H
      have c8b0 := eq_true c8
      have c8b1 : decide ((((⟨#[45, 45, 45, 32, 97, 47]⟩ : ByteArray) ++ a0) ++ (⟨#[10, 43, 43, 43, 32, 98, 47]⟩ : ByteArray)).size + a0.size ≤ 9223372036854775807) = true := decide_eq_true c8
      try have c8b2 : (9223372036854775807 < (((⟨#[45, 45, 45, 32, 97, 47]⟩ : ByteArray) ++ a0) ++ (⟨#[10, 43, 43, 43, 32, 98, 47]⟩ : ByteArray)).size + a0.size) = False := eq_false (Nat.not_lt.2 c8)
      try have c8b3 : (9223372036854775807 < 6 + a0.size + 7 + a0.size) = False := eq_false (fun h_ => by have z_ := c8; simp only [ByteArray.size_append', (show (⟨#[45, 45, 45, 32, 97, 47]⟩ : ByteArray).size = 6 from rfl), (show (⟨#[10, 43, 43, 43, 32, 98, 47]⟩ : ByteArray).size = 7 from rfl)] at z_; omega)
      by_cases c9 : ((((⟨#[45, 45, 45, 32, 97, 47]⟩ : ByteArray) ++ a0) ++ (⟨#[10, 43, 43, 43, 32, 98, 47]⟩ : ByteArray)) ++ a0).size + 1 ≤ 9223372036854775807
      ·rw [if_pos c9] at H
       have c9b0 := eq_true c9
       have c9b1 : decide (((((⟨#[45, 45, 45, 32, 97, 47]⟩ : ByteArray) ++ a0) ++ (⟨#[10, 43, 43, 43, 32, 98, 47]⟩ : ByteArray)) ++ a0).size + 1 ≤ 9223372036854775807) = true := decide_eq_true c9
       try have c9b2 : (9223372036854775807 < ((((⟨#[45, 45, 45, 32, 97, 47]⟩ : ByteArray) ++ a0) ++ (⟨#[10, 43, 43, 43, 32, 98, 47]⟩ : ByteArray)) ++ a0).size + 1) = False := eq_false (Nat.not_lt.2 c9)
       try have c9b3 : (9223372036854775807 < 6 + a0.size + 7 + a0.size + 1) = False := eq_false (fun h_ => by have z_ := c9; simp only [ByteArray.size_append', (show (⟨#[45, 45, 45, 32, 97, 47]⟩ : ByteArray).size = 6 from rfl), (show (⟨#[10, 43, 43, 43, 32, 98, 47]⟩ : ByteArray).size = 7 from rfl)] at z_; omega)
       have H' := Aside0.mk H
       clear H
       go_enter Tryd.func13, Tryd.ntmps13
       go_wp2_with (first | ((with_reducible refine gate_callee (f := 28) rfl ?_); refine goesL_ (some 12) rfl rfl Tryd.func28 (by kernel_rfl) rfl #[.string a0] rfl (by (try simp only [List.map_toArray, List.map_cons, List.map_nil]); first | done | rfl | (simp only [List.length_drop, List.length_take]; rfl)) ?_; (with_reducible refine (redpenref18_Name.calls k a0 true _ A3.out).mono ?_); rintro e w' ⟨rfl, ⟨nd, rfl⟩⟩; refine ⟨_, rfl, ?_⟩))
       go_loopg [6, 7] k (fun kq v6 v7 w' => ∃ (x6_1 : ByteArray) (x7_1 : Int), v6 = .string x6_1 ∧ v7 = .int .i64 x7_1 ∧ Aside0 (redpenref18_Print.l0 kq l1 x6_1 x7_1 = some (r1, r2)) ∧ Aside0 (kq ≤ k) ∧ Aside0 (Below w.heap.size w w'))
       case atStart => exact ⟨(((((⟨#[45, 45, 45, 32, 97, 47]⟩ : ByteArray) ++ a0) ++ (⟨#[10, 43, 43, 43, 32, 98, 47]⟩ : ByteArray)) ++ a0) ++ (⟨#[10]⟩ : ByteArray)), (0), (by first | rfl | (simp; done) | (simp [*]; done)), (by first | rfl | (simp; done) | (simp [*]; done)), H', ⟨Nat.le_refl _⟩, ⟨by repeat (first | (with_reducible first | exact HB.out | apply below_alloc | apply pw_below_drewN | apply below_drew1) | exact HB.out)⟩⟩
       case round =>
        clear H'
        try clear c1
        try clear c2
        try clear p2
        try clear c4
        try clear c5
        try clear c5b0
        try clear c5b1
        try clear c5b2
        try clear c6
        try clear c6b0
        try clear c6b1
        try clear c6b2
        try clear c7
        try clear c7b0
        try clear c7b1
        try clear c7b2
        try clear c8
        try clear c8b0
        try clear c8b1
        try clear c8b2
        try clear c9
        try clear c9b0
        try clear c9b1
        try clear c9b2
        obtain ⟨x6_1, x7_1, rfl, rfl, HA, HK1, HB⟩ := hrel
        cases gk with
        | zero => exact absurd HA.out (by simp [redpenref18_Print.l0])
        | succ k1 =>
         have H := HA.out
         clear HA
         simp only [redpenref18_Print.l0] at H
         by_cases c10 : x7_1 < (l1.length : Int)
         ·rw [if_pos c10] at H
          have c10b0 : decide (x7_1 < (l1.length : Int)) = true := decide_eq_true c10
          clear c10
          by_cases c11 : 0 ≤ x7_1
          ·rw [if_pos c11] at H
           have c11b0 : decide (0 ≤ x7_1) = true := decide_eq_true c11
           clear c11
           replace H := Option.bind_eq_some_iff.mp H
           obtain ⟨t144, A120, H⟩ := H
           replace H : (if t144 = 0 then ((redpenref18_Head.f k1 ((rd_T26 l1 x7_1).f0) ((rd_T26 l1 x7_1).f1) ((rd_T26 l1 x7_1).f2) ((rd_T26 l1 x7_1).f3) ((rd_T26 l1 x7_1).f4)).bind fun t146 => (if x6_1.size + t146.size ≤ 9223372036854775807 then (redpenref18_Print.l1 k1 l1 (x6_1 ++ t146) x7_1 0) else (none))) else (some ((⟨#[]⟩ : ByteArray), t144))) = some (r1, r2) := H
           have A12 := Aside0.mk A120
           clear A120
           by_cases c13 : t144 = 0
           ·rw [if_pos c13] at H
            have c13b0 : (t144 == 0) = true := beq_iff_eq.mpr c13
            have c13b1 : (t144 != 0) = false := bne_eq_false_iff_eq.mpr c13
            clear c13
            replace H := Option.bind_eq_some_iff.mp H
            obtain ⟨t146, A140, H⟩ := H
            replace H : (if x6_1.size + t146.size ≤ 9223372036854775807 then (redpenref18_Print.l1 k1 l1 (x6_1 ++ t146) x7_1 0) else (none)) = some (r1, r2) := H
            have A14 := Aside0.mk A140
            clear A140
            by_cases c15 : x6_1.size + t146.size ≤ 9223372036854775807
            ·rw [if_pos c15] at H
             have c15b0 := eq_true c15
             have c15b1 : decide (x6_1.size + t146.size ≤ 9223372036854775807) = true := decide_eq_true c15
             try have c15b2 : (9223372036854775807 < x6_1.size + t146.size) = False := eq_false (Nat.not_lt.2 c15)
             have H' := Aside0.mk H
             clear H
             have p143 : 0 ≤ (x7_1 : Int) := of_decide_eq_true (by first | (with_reducible assumption) | assumption)
             have q143 : x7_1 < (l1.length : Int) := of_decide_eq_true (by first | (with_reducible assumption) | assumption)
             obtain ⟨ad143, A143_4, c143_4, e143, hx143_0, hx143_1, hx143_2, hx143_3, hx143_4, hl143_4, hi143_4⟩ := at_T26 HR1.out x7_1 p143 q143
             cases e143
             replace hx143_0 := (HB.out.cell (World.block_lt_of_cell? w _ hx143_0)).trans hx143_0
             replace hx143_1 := (HB.out.cell (World.block_lt_of_cell? w _ hx143_1)).trans hx143_1
             replace hx143_2 := (HB.out.cell (World.block_lt_of_cell? w _ hx143_2)).trans hx143_2
             replace hx143_3 := (HB.out.cell (World.block_lt_of_cell? w _ hx143_3)).trans hx143_3
             replace hx143_4 := (HB.out.cell (World.block_lt_of_cell? w _ hx143_4)).trans hx143_4
             have HR143_4 := Aside0.mk hi143_4
             have HC143_4 := Aside0.mk hl143_4
             clear hi143_4 hl143_4
             replace p143 := eq_true p143
             replace q143 := eq_true q143
             go_wp2_with (first | ((with_reducible refine gate_callee (f := 29) rfl ?_); refine goesL_ (some 33) rfl rfl Tryd.func29 (by kernel_rfl) rfl #[.agg #[.int .i64 ((rd_T26 l1 x7_1).f0), .int .i64 ((rd_T26 l1 x7_1).f1), .int .i64 ((rd_T26 l1 x7_1).f2), .int .i64 ((rd_T26 l1 x7_1).f3), .slice A143_4 ((rd_T26 l1 x7_1).f4).length c143_4]] rfl (by (try simp only [List.map_toArray, List.map_cons, List.map_nil]); first | done | rfl | (simp only [List.length_drop, List.length_take]; rfl)) ?_; (with_reducible refine (redpenref18_Check.calls k1 ((rd_T26 l1 x7_1).f0) ((rd_T26 l1 x7_1).f1) ((rd_T26 l1 x7_1).f2) ((rd_T26 l1 x7_1).f3) _ _ ((rd_T26 l1 x7_1).f4) t144 _ ?side1 ?side2 A12.out).mono ?_); (case side1 => repeat (first | exact (Kd.C_below HR143_4.out HB.out) | (with_reducible refine Kd.C_alloc ?_ _) | (with_reducible refine Kd.C_drewN ?_ _) | (with_reducible refine Kd.C_drew ?_))); (case side2 => exact HC143_4.out); rintro e w16 ⟨rfl, hb⟩; refine ⟨_, rfl, ?_⟩; have n0_ := Aside0.mk (below_step (by repeat (first | (with_reducible first | exact HB.out | apply below_alloc | apply pw_below_drewN | apply below_drew1) | exact HB.out)) hb); clear HB; have HB := n0_; clear n0_; (try clear hb); (try clear hb2); (try clear hk); (try clear hi); have p145 : 0 ≤ (x7_1 : Int) := of_decide_eq_true (by first | (with_reducible assumption) | assumption); have q145 : x7_1 < (l1.length : Int) := of_decide_eq_true (by first | (with_reducible assumption) | assumption); obtain ⟨ad145, A145_4, c145_4, e145, hx145_0, hx145_1, hx145_2, hx145_3, hx145_4, hl145_4, hi145_4⟩ := at_T26 HR1.out x7_1 p145 q145; obtain rfl : ad143 = ad145 := (by injection e145); replace hx145_0 := (HB.out.cell (World.block_lt_of_cell? w _ hx145_0)).trans hx145_0; replace hx145_1 := (HB.out.cell (World.block_lt_of_cell? w _ hx145_1)).trans hx145_1; replace hx145_2 := (HB.out.cell (World.block_lt_of_cell? w _ hx145_2)).trans hx145_2; replace hx145_3 := (HB.out.cell (World.block_lt_of_cell? w _ hx145_3)).trans hx145_3; replace hx145_4 := (HB.out.cell (World.block_lt_of_cell? w _ hx145_4)).trans hx145_4; have HR145_4 := Aside0.mk hi145_4; have HC145_4 := Aside0.mk hl145_4; clear hi145_4 hl145_4; replace p145 := eq_true p145; replace q145 := eq_true q145) | ((with_reducible refine gate_callee (f := 30) rfl ?_); refine goesL_ (some 42) rfl rfl Tryd.func30 (by kernel_rfl) rfl #[.agg #[.int .i64 ((rd_T26 l1 x7_1).f0), .int .i64 ((rd_T26 l1 x7_1).f1), .int .i64 ((rd_T26 l1 x7_1).f2), .int .i64 ((rd_T26 l1 x7_1).f3), .slice A145_4 ((rd_T26 l1 x7_1).f4).length c145_4]] rfl (by (try simp only [List.map_toArray, List.map_cons, List.map_nil]); first | done | rfl | (simp only [List.length_drop, List.length_take]; rfl)) ?_; (with_reducible refine (redpenref18_Head.calls k1 ((rd_T26 l1 x7_1).f0) ((rd_T26 l1 x7_1).f1) ((rd_T26 l1 x7_1).f2) ((rd_T26 l1 x7_1).f3) _ _ ((rd_T26 l1 x7_1).f4) t146 _ ?side1 ?side2 A14.out).mono ?_); (case side1 => repeat (first | exact (Kd.C_below HR145_4.out HB.out) | (with_reducible refine Kd.C_alloc ?_ _) | (with_reducible refine Kd.C_drewN ?_ _) | (with_reducible refine Kd.C_drew ?_))); (case side2 => exact HC145_4.out); rintro e w17 ⟨rfl, hb⟩; refine ⟨_, rfl, ?_⟩; have n0_ := Aside0.mk (below_step (by repeat (first | (with_reducible first | exact HB.out | apply below_alloc | apply pw_below_drewN | apply below_drew1) | exact HB.out)) hb); clear HB; have HB := n0_; clear n0_; (try clear hb); (try clear hb2); (try clear hk); (try clear hi)))
             go_loopg [6, 9] k1 (fun kq v6 v9 w' => ∃ (x6_2 : ByteArray) (x9_2 : Int), v6 = .string x6_2 ∧ v9 = .int .i64 x9_2 ∧ Aside0 (redpenref18_Print.l1 kq l1 x6_2 x7_1 x9_2 = some (r1, r2)) ∧ Aside0 (kq ≤ k1) ∧ Aside0 (Below w.heap.size w w'))
             case atStart => exact ⟨(x6_1 ++ t146), (0), (by first | rfl | (simp; done) | (simp [*]; done)), (by first | rfl | (simp; done) | (simp [*]; done)), H', ⟨Nat.le_refl _⟩, ⟨by repeat (first | (with_reducible first | exact HB.out | apply below_alloc | apply pw_below_drewN | apply below_drew1) | exact HB.out)⟩⟩
             case round =>
              clear H'
              try clear c1
              try clear p1
              try clear q1
              try clear hx1
              try clear c2
              try clear p2
              try clear c3
              try clear c4
              try clear c5
              try clear c5b0
              try clear c5b1
              try clear c5b2
              try clear c6
              try clear c6b0
              try clear c6b1
              try clear c6b2
              try clear c7
              try clear c7b0
              try clear c7b1
              try clear c7b2
              try clear c8
              try clear c8b0
              try clear c8b1
              try clear c8b2
              try clear c9
              try clear c9b0
              try clear c9b1
              try clear c9b2
              try clear c10
              try clear c10b0
              try clear c11
              try clear c11b0
              try clear c13
              try clear c13b0
              try clear c13b1
              try clear c14
              try clear p14
              try clear q14
              try clear hx14
              try clear c15
              try clear c15b0
              try clear c15b1
              try clear c15b2
              try clear hx143_0
              try clear hx143_1
              try clear hx143_2
              try clear hx143_3
              try clear hx143_4
              try clear hx145_0
              try clear hx145_1
              try clear hx145_2
              try clear hx145_3
              try clear hx145_4
              try clear p143
              try clear p145
              try clear p2
              try clear q143
              try clear q145
              obtain ⟨x6_2, x9_2, rfl, rfl, HA, HK2, HB⟩ := hrel
              cases gk with
              | zero => exact absurd HA.out (by simp [redpenref18_Print.l1])
              | succ k2 =>
               have H := HA.out
               clear HA
               simp only [redpenref18_Print.l1] at H
               by_cases c18 : 0 ≤ x7_1
               ·rw [if_pos c18] at H
                have c18b0 : decide (0 ≤ x7_1) = true := decide_eq_true c18
                clear c18
                by_cases c19 : x7_1 < (l1.length : Int)
                ·rw [if_pos c19] at H
                 have c19b0 : decide (x7_1 < (l1.length : Int)) = true := decide_eq_true c19
                 clear c19
                 by_cases c20 : x9_2 < (((rd_T26 l1 x7_1).f4).length : Int)
                 ·rw [if_pos c20] at H
                  have c20b0 : decide (x9_2 < (((rd_T26 l1 x7_1).f4).length : Int)) = true := decide_eq_true c20
                  clear c20
                  by_cases c21 : 0 ≤ x9_2
                  ·rw [if_pos c21] at H
                   have c21b0 : decide (0 ≤ x9_2) = true := decide_eq_true c21
                   clear c21
                   obtain ⟨y151, hy151⟩ : ∃ y_ : List Int, y_ = (([(rd_T42 ((rd_T26 l1 x7_1).f4) x9_2).f0] : List Int)) := ⟨_, rfl⟩
                   replace H : (if x6_2.size + (strOfNums y151).size ≤ 9223372036854775807 then (if (x6_2 ++ (strOfNums y151)).size + ((rd_T42 ((rd_T26 l1 x7_1).f4) x9_2).f1).size ≤ 9223372036854775807 then (if ((x6_2 ++ (strOfNums y151)) ++ ((rd_T42 ((rd_T26 l1 x7_1).f4) x9_2).f1)).size + 1 ≤ 9223372036854775807 then (if (rd_T42 ((rd_T26 l1 x7_1).f4) x9_2).f2 = true then (if (((x6_2 ++ (strOfNums y151)) ++ ((rd_T42 ((rd_T26 l1 x7_1).f4) x9_2).f1)) ++ (⟨#[10]⟩ : ByteArray)).size + 28 ≤ 9223372036854775807 then (redpenref18_Print.l1 k2 l1 ((((x6_2 ++ (strOfNums y151)) ++ ((rd_T42 ((rd_T26 l1 x7_1).f4) x9_2).f1)) ++ (⟨#[10]⟩ : ByteArray)) ++ (⟨#[92, 32, 78, 111, 32, 110, 101, 119, 108, 105, 110, 101, 32, 97, 116, 32, 101, 110, 100, 32, 111, 102, 32, 102, 105, 108, 101, 10]⟩ : ByteArray)) x7_1 (wrap64 (x9_2 + 1))) else (none)) else (redpenref18_Print.l1 k2 l1 (((x6_2 ++ (strOfNums y151)) ++ ((rd_T42 ((rd_T26 l1 x7_1).f4) x9_2).f1)) ++ (⟨#[10]⟩ : ByteArray)) x7_1 (wrap64 (x9_2 + 1)))) else (none)) else (none)) else (none)) = some (r1, r2) := by first | (rw [hy151]; with_reducible exact H) | (have H2_ := (Option.bind_some _ _).symm.trans H; rw [hy151]; with_reducible exact H2_) | (have H2_ := (Option.bind_some _ _).symm.trans H; with_reducible exact H2_) | with_reducible exact H | (rw [hy151]; exact H) | exact H
                   have Ny151 := Aside0.mk hy151
                   clear hy151
                   by_cases c22 : x6_2.size + (strOfNums y151).size ≤ 9223372036854775807
                   ·rw [if_pos c22] at H
                    have c22b0 := eq_true c22
                    have c22b1 : decide (x6_2.size + (strOfNums y151).size ≤ 9223372036854775807) = true := decide_eq_true c22
                    try have c22b2 : (9223372036854775807 < x6_2.size + (strOfNums y151).size) = False := eq_false (Nat.not_lt.2 c22)
                    by_cases c23 : (x6_2 ++ (strOfNums y151)).size + ((rd_T42 ((rd_T26 l1 x7_1).f4) x9_2).f1).size ≤ 9223372036854775807
                    ·rw [if_pos c23] at H
                     have c23b0 := eq_true c23
                     have c23b1 : decide ((x6_2 ++ (strOfNums y151)).size + ((rd_T42 ((rd_T26 l1 x7_1).f4) x9_2).f1).size ≤ 9223372036854775807) = true := decide_eq_true c23
                     try have c23b2 : (9223372036854775807 < (x6_2 ++ (strOfNums y151)).size + ((rd_T42 ((rd_T26 l1 x7_1).f4) x9_2).f1).size) = False := eq_false (Nat.not_lt.2 c23)
                     try have c23b3 : (9223372036854775807 < x6_2.size + (strOfNums y151).size + ((rd_T42 ((rd_T26 l1 x7_1).f4) x9_2).f1).size) = False := eq_false (fun h_ => by have z_ := c23; simp only [ByteArray.size_append', ] at z_; omega)
                     by_cases c24 : ((x6_2 ++ (strOfNums y151)) ++ ((rd_T42 ((rd_T26 l1 x7_1).f4) x9_2).f1)).size + 1 ≤ 9223372036854775807
                     ·rw [if_pos c24] at H
                      have c24b0 := eq_true c24
                      have c24b1 : decide (((x6_2 ++ (strOfNums y151)) ++ ((rd_T42 ((rd_T26 l1 x7_1).f4) x9_2).f1)).size + 1 ≤ 9223372036854775807) = true := decide_eq_true c24
                      try have c24b2 : (9223372036854775807 < ((x6_2 ++ (strOfNums y151)) ++ ((rd_T42 ((rd_T26 l1 x7_1).f4) x9_2).f1)).size + 1) = False := eq_false (Nat.not_lt.2 c24)
                      try have c24b3 : (9223372036854775807 < x6_2.size + (strOfNums y151).size + ((rd_T42 ((rd_T26 l1 x7_1).f4) x9_2).f1).size + 1) = False := eq_false (fun h_ => by have z_ := c24; simp only [ByteArray.size_append', ] at z_; omega)
                      obtain ⟨bq25, hbq25⟩ : ∃ b_ : Bool, b_ = ((rd_T42 ((rd_T26 l1 x7_1).f4) x9_2).f2) := ⟨_, rfl⟩
                      replace H : (if bq25 = true then (if (((x6_2 ++ (strOfNums y151)) ++ ((rd_T42 ((rd_T26 l1 x7_1).f4) x9_2).f1)) ++ (⟨#[10]⟩ : ByteArray)).size + 28 ≤ 9223372036854775807 then (redpenref18_Print.l1 k2 l1 ((((x6_2 ++ (strOfNums y151)) ++ ((rd_T42 ((rd_T26 l1 x7_1).f4) x9_2).f1)) ++ (⟨#[10]⟩ : ByteArray)) ++ (⟨#[92, 32, 78, 111, 32, 110, 101, 119, 108, 105, 110, 101, 32, 97, 116, 32, 101, 110, 100, 32, 111, 102, 32, 102, 105, 108, 101, 10]⟩ : ByteArray)) x7_1 (wrap64 (x9_2 + 1))) else (none)) else (redpenref18_Print.l1 k2 l1 (((x6_2 ++ (strOfNums y151)) ++ ((rd_T42 ((rd_T26 l1 x7_1).f4) x9_2).f1)) ++ (⟨#[10]⟩ : ByteArray)) x7_1 (wrap64 (x9_2 + 1)))) = some (r1, r2) := by rw [← hbq25] at H; exact H
                      have Nbq25 := Aside0.mk hbq25
                      clear hbq25
                      by_cases c26 : bq25 = true
                      ·subst c26
                       have H1 : (if (((x6_2 ++ (strOfNums y151)) ++ ((rd_T42 ((rd_T26 l1 x7_1).f4) x9_2).f1)) ++ (⟨#[10]⟩ : ByteArray)).size + 28 ≤ 9223372036854775807 then (redpenref18_Print.l1 k2 l1 ((((x6_2 ++ (strOfNums y151)) ++ ((rd_T42 ((rd_T26 l1 x7_1).f4) x9_2).f1)) ++ (⟨#[10]⟩ : ByteArray)) ++ (⟨#[92, 32, 78, 111, 32, 110, 101, 119, 108, 105, 110, 101, 32, 97, 116, 32, 101, 110, 100, 32, 111, 102, 32, 102, 105, 108, 101, 10]⟩ : ByteArray)) x7_1 (wrap64 (x9_2 + 1))) else (none)) = some (r1, r2) := by rw [if_pos rfl] at H; exact H
                       clear H
                       have H := H1
                       clear H1
                       by_cases c27 : (((x6_2 ++ (strOfNums y151)) ++ ((rd_T42 ((rd_T26 l1 x7_1).f4) x9_2).f1)) ++ (⟨#[10]⟩ : ByteArray)).size + 28 ≤ 9223372036854775807
                       ·rw [if_pos c27] at H
                        have c27b0 := eq_true c27
                        have c27b1 : decide ((((x6_2 ++ (strOfNums y151)) ++ ((rd_T42 ((rd_T26 l1 x7_1).f4) x9_2).f1)) ++ (⟨#[10]⟩ : ByteArray)).size + 28 ≤ 9223372036854775807) = true := decide_eq_true c27
                        try have c27b2 : (9223372036854775807 < (((x6_2 ++ (strOfNums y151)) ++ ((rd_T42 ((rd_T26 l1 x7_1).f4) x9_2).f1)) ++ (⟨#[10]⟩ : ByteArray)).size + 28) = False := eq_false (Nat.not_lt.2 c27)
                        try have c27b3 : (9223372036854775807 < x6_2.size + (strOfNums y151).size + ((rd_T42 ((rd_T26 l1 x7_1).f4) x9_2).f1).size + 1 + 28) = False := eq_false (fun h_ => by have z_ := c27; simp only [ByteArray.size_append', (show (⟨#[10]⟩ : ByteArray).size = 1 from rfl)] at z_; omega)
                        have H' := Aside0.mk H
                        clear H
                        have p147 : 0 ≤ (x7_1 : Int) := of_decide_eq_true (by first | (with_reducible assumption) | assumption)
                        have q147 : x7_1 < (l1.length : Int) := of_decide_eq_true (by first | (with_reducible assumption) | assumption)
                        obtain ⟨ad147, A147_4, c147_4, e147, hx147_0, hx147_1, hx147_2, hx147_3, hx147_4, hl147_4, hi147_4⟩ := at_T26 HR1.out x7_1 p147 q147
                        obtain rfl : ad143 = ad147 := (by injection e147)
                        replace hx147_0 := (HB.out.cell (World.block_lt_of_cell? w _ hx147_0)).trans hx147_0
                        replace hx147_1 := (HB.out.cell (World.block_lt_of_cell? w _ hx147_1)).trans hx147_1
                        replace hx147_2 := (HB.out.cell (World.block_lt_of_cell? w _ hx147_2)).trans hx147_2
                        replace hx147_3 := (HB.out.cell (World.block_lt_of_cell? w _ hx147_3)).trans hx147_3
                        replace hx147_4 := (HB.out.cell (World.block_lt_of_cell? w _ hx147_4)).trans hx147_4
                        have HR147_4 := Aside0.mk hi147_4
                        have HC147_4 := Aside0.mk hl147_4
                        clear hi147_4 hl147_4
                        replace p147 := eq_true p147
                        replace q147 := eq_true q147
                        have p148 : 0 ≤ (x7_1 : Int) := of_decide_eq_true (by first | (with_reducible assumption) | assumption)
                        have q148 : x7_1 < (l1.length : Int) := of_decide_eq_true (by first | (with_reducible assumption) | assumption)
                        obtain ⟨ad148, A148_4, c148_4, e148, hx148_0, hx148_1, hx148_2, hx148_3, hx148_4, hl148_4, hi148_4⟩ := at_T26 HR1.out x7_1 p148 q148
                        obtain rfl : ad143 = ad148 := (by injection e148)
                        replace hx148_0 := (HB.out.cell (World.block_lt_of_cell? w _ hx148_0)).trans hx148_0
                        replace hx148_1 := (HB.out.cell (World.block_lt_of_cell? w _ hx148_1)).trans hx148_1
                        replace hx148_2 := (HB.out.cell (World.block_lt_of_cell? w _ hx148_2)).trans hx148_2
                        replace hx148_3 := (HB.out.cell (World.block_lt_of_cell? w _ hx148_3)).trans hx148_3
                        replace hx148_4 := (HB.out.cell (World.block_lt_of_cell? w _ hx148_4)).trans hx148_4
                        have HR148_4 := Aside0.mk hi148_4
                        have HC148_4 := Aside0.mk hl148_4
                        clear hi148_4 hl148_4
                        replace p148 := eq_true p148
                        replace q148 := eq_true q148
                        have ea_ := Option.some.inj (hx147_4.symm.trans hx148_4)
                        injection ea_ with ea_ en_ ec_
                        subst ea_
                        subst ec_
                        clear en_
                        have p149 : 0 ≤ (x9_2 : Int) := of_decide_eq_true (by first | (with_reducible assumption) | assumption)
                        have q149 : x9_2 < (((rd_T26 l1 x7_1).f4).length : Int) := of_decide_eq_true (by first | (with_reducible assumption) | assumption)
                        obtain ⟨ad149, e149, hx149_0, hx149_1, hx149_2⟩ := at_T42 HR148_4.out x9_2 p149 q149
                        (try rw [← Nbq25.out] at hx149_2)
                        cases e149
                        replace hx149_0 := (HB.out.cell (World.block_lt_of_cell? w _ hx149_0)).trans hx149_0
                        replace hx149_1 := (HB.out.cell (World.block_lt_of_cell? w _ hx149_1)).trans hx149_1
                        replace hx149_2 := (HB.out.cell (World.block_lt_of_cell? w _ hx149_2)).trans hx149_2
                        replace p149 := eq_true p149
                        replace q149 := eq_true q149
                        go_wp2_with (first | ((with_reducible refine gate_dst (N := 10) rfl ?_); refine box_event ?hg (N := 10) ?hd (cs := #[.int .u8 0, .string (⟨#[]⟩ : ByteArray), .bool false]) (t := 42) ?hr ?_; (case hd => rfl); (case hg => rfl); (case hr => first | (go_simp; done) | (go_simp; rfl)); intro gb150 hg w28 hbox hb; have n0_ := Aside0.mk (below_step (by repeat (first | (with_reducible first | exact HB.out | apply below_alloc | apply pw_below_drewN | apply below_drew1) | exact HB.out)) hb); have n1_ := Aside0.mk (hbox); have n2_ := Aside0.mk ((by rw [hg]; exact (below_size (by repeat (first | (with_reducible first | exact HB.out | apply below_alloc | apply pw_below_drewN | apply below_drew1) | exact HB.out))) : w.heap.size ≤ gb150)); have n3_ := Aside0.mk ((by rw [hg]; exact (below_size (by repeat (first | (with_reducible first | exact HB.out | apply below_alloc | apply pw_below_drewN | apply below_drew1) | exact HB.out))) : w.heap.size ≤ gb150)); clear HB; have HB := n0_; have BK150 := n1_; have GW150 := n2_; have GE150 := n3_; clear n0_ n1_ n2_ n3_; clear hb hbox hg; have hcz29_0 : w28.cell? ⟨gb150, 0, none⟩ = some (.int .u8 0) := (blk_cell BK150.out 0).trans rfl; have hcz29_1 : w28.cell? ⟨gb150, 1, none⟩ = some (.string (⟨#[]⟩ : ByteArray)) := (blk_cell BK150.out 1).trans rfl; have hcz29_2 : w28.cell? ⟨gb150, 2, none⟩ = some (.bool false) := (blk_cell BK150.out 2).trans rfl; have hfz29_0 := blk_frozen BK150.out 0; have hfz29_1 := blk_frozen BK150.out 1; have hfz29_2 := blk_frozen BK150.out 2) | ((with_reducible refine gate_dst (N := 65) rfl ?_); refine Kd.R_lit (Kd.int .u8) _ 5 ?hg (N := 65) ?hd (xs := ([(rd_T42 ((rd_T26 l1 x7_1).f4) x9_2).f0] : List Int)) (inner := [.int .u8 ((rd_T42 ((rd_T26 l1 x7_1).f4) x9_2).f0)]) (ok := fun _ => True) (okp := fun _ => True) ?hr ?hp (fun _ hk => hk) trivial (Below.refl _ _) (Nat.le_refl _) (by simp) ?_; (case hd => rfl); (case hg => rfl); (case hr => first | (go_simp; done) | (go_simp; rfl)); (case hp => exact (Reps.one (show Kd.M (Kd.int .u8) _ _ _ ((rd_T42 ((rd_T26 l1 x7_1).f4) x9_2).f0) [.int .u8 ((rd_T42 ((rd_T26 l1 x7_1).f4) x9_2).f0)] from rfl) (Reps.none _ _))); intro v152 w30 ho31 hb hg_ hnew_; clear hg_ hnew_; (first | rw [← Ny151.out] at ho31 | (simp only [Int.reduceToNat] at ho31; rw [← Ny151.out] at ho31)); have n0_ := Aside0.mk (Kd.R_lower ho31 (below_size (by repeat (first | (with_reducible first | exact HB.out | apply below_alloc | apply pw_below_drewN | apply below_drew1 | refine below_set ?_ GE150.out) | exact HB.out)))); have n1_ := Aside0.mk (blk_below (g := gb150) (o := .cells #[.int .u8 ((rd_T42 ((rd_T26 l1 x7_1).f4) x9_2).f0), .string ((rd_T42 ((rd_T26 l1 x7_1).f4) x9_2).f1), .bool true] 42 (0, 0)) (by (with_reducible repeat (first | refine blk_drewN ?_ _ | refine blk_drew ?_ | refine blk_alloc ?_ _)); refine blk_put (cs := #[.int .u8 ((rd_T42 ((rd_T26 l1 x7_1).f4) x9_2).f0), .string ((rd_T42 ((rd_T26 l1 x7_1).f4) x9_2).f1), .bool false]) ?_ 2 _ rfl; (with_reducible repeat (first | refine blk_drewN ?_ _ | refine blk_drew ?_ | refine blk_alloc ?_ _)); refine blk_put (cs := #[.int .u8 ((rd_T42 ((rd_T26 l1 x7_1).f4) x9_2).f0), .string (⟨#[]⟩ : ByteArray), .bool false]) ?_ 1 _ rfl; (with_reducible repeat (first | refine blk_drewN ?_ _ | refine blk_drew ?_ | refine blk_alloc ?_ _)); refine blk_put (cs := #[.int .u8 0, .string (⟨#[]⟩ : ByteArray), .bool false]) ?_ 0 _ rfl; (with_reducible repeat (first | refine blk_drewN ?_ _ | refine blk_drew ?_ | refine blk_alloc ?_ _)); exact BK150.out) hb); have n2_ := Aside0.mk (below_step (by repeat (first | (with_reducible first | exact HB.out | apply below_alloc | apply pw_below_drewN | apply below_drew1 | refine below_set ?_ GE150.out) | exact HB.out)) hb); clear BK150; clear HB; have HO153 := n0_; have BK150 := n1_; have HB := n2_; clear n0_ n1_ n2_; clear hb ho31; have hcv32 := own_string (P := Tryd.prog) Tryd.underlying34 Tryd.underlying5 Tryd.underlying9 (Kd.own_of_R HO153.out); have hcz33_0 : w30.cell? ⟨gb150, 0, none⟩ = some (.int .u8 ((rd_T42 ((rd_T26 l1 x7_1).f4) x9_2).f0)) := (blk_cell BK150.out 0).trans rfl; have hcz33_1 : w30.cell? ⟨gb150, 1, none⟩ = some (.string ((rd_T42 ((rd_T26 l1 x7_1).f4) x9_2).f1)) := (blk_cell BK150.out 1).trans rfl; have hcz33_2 : w30.cell? ⟨gb150, 2, none⟩ = some (.bool true) := (blk_cell BK150.out 2).trans rfl; have hfz33_0 := blk_frozen BK150.out 0; have hfz33_1 := blk_frozen BK150.out 1; have hfz33_2 := blk_frozen BK150.out 2))
                        go_roundg k2
                        case measure => have := HK1.out; have := HK2.out; omega
                        case rel => exact ⟨((((x6_2 ++ (strOfNums y151)) ++ ((rd_T42 ((rd_T26 l1 x7_1).f4) x9_2).f1)) ++ (⟨#[10]⟩ : ByteArray)) ++ (⟨#[92, 32, 78, 111, 32, 110, 101, 119, 108, 105, 110, 101, 32, 97, 116, 32, 101, 110, 100, 32, 111, 102, 32, 102, 105, 108, 101, 10]⟩ : ByteArray)), (wrap64 (x9_2 + 1)), (by first | rfl | (simp; done) | (simp [*]; done)), (by first | rfl | (simp; done) | (simp [*]; done)), H', ⟨by have := HK1.out; have := HK2.out; omega⟩, ⟨by repeat (first | (with_reducible first | exact HB.out | apply below_alloc | apply pw_below_drewN | apply below_drew1 | refine below_set ?_ GE150.out) | exact HB.out)⟩⟩
                       ·rw [if_neg c27] at H
                        exact absurd H (by simp)
                      ·replace c26 := Bool.eq_false_iff.mpr c26
                       subst c26
                       have H1 : (redpenref18_Print.l1 k2 l1 (((x6_2 ++ (strOfNums y151)) ++ ((rd_T42 ((rd_T26 l1 x7_1).f4) x9_2).f1)) ++ (⟨#[10]⟩ : ByteArray)) x7_1 (wrap64 (x9_2 + 1))) = some (r1, r2) := by rw [if_neg (show ¬ (false = true) by decide)] at H; exact H
                       clear H
                       have H := H1
                       clear H1
                       have H' := Aside0.mk H
                       clear H
                       have p147 : 0 ≤ (x7_1 : Int) := of_decide_eq_true (by first | (with_reducible assumption) | assumption)
                       have q147 : x7_1 < (l1.length : Int) := of_decide_eq_true (by first | (with_reducible assumption) | assumption)
                       obtain ⟨ad147, A147_4, c147_4, e147, hx147_0, hx147_1, hx147_2, hx147_3, hx147_4, hl147_4, hi147_4⟩ := at_T26 HR1.out x7_1 p147 q147
                       obtain rfl : ad143 = ad147 := (by injection e147)
                       replace hx147_0 := (HB.out.cell (World.block_lt_of_cell? w _ hx147_0)).trans hx147_0
                       replace hx147_1 := (HB.out.cell (World.block_lt_of_cell? w _ hx147_1)).trans hx147_1
                       replace hx147_2 := (HB.out.cell (World.block_lt_of_cell? w _ hx147_2)).trans hx147_2
                       replace hx147_3 := (HB.out.cell (World.block_lt_of_cell? w _ hx147_3)).trans hx147_3
                       replace hx147_4 := (HB.out.cell (World.block_lt_of_cell? w _ hx147_4)).trans hx147_4
                       have HR147_4 := Aside0.mk hi147_4
                       have HC147_4 := Aside0.mk hl147_4
                       clear hi147_4 hl147_4
                       replace p147 := eq_true p147
                       replace q147 := eq_true q147
                       have p148 : 0 ≤ (x7_1 : Int) := of_decide_eq_true (by first | (with_reducible assumption) | assumption)
                       have q148 : x7_1 < (l1.length : Int) := of_decide_eq_true (by first | (with_reducible assumption) | assumption)
                       obtain ⟨ad148, A148_4, c148_4, e148, hx148_0, hx148_1, hx148_2, hx148_3, hx148_4, hl148_4, hi148_4⟩ := at_T26 HR1.out x7_1 p148 q148
                       obtain rfl : ad143 = ad148 := (by injection e148)
                       replace hx148_0 := (HB.out.cell (World.block_lt_of_cell? w _ hx148_0)).trans hx148_0
                       replace hx148_1 := (HB.out.cell (World.block_lt_of_cell? w _ hx148_1)).trans hx148_1
                       replace hx148_2 := (HB.out.cell (World.block_lt_of_cell? w _ hx148_2)).trans hx148_2
                       replace hx148_3 := (HB.out.cell (World.block_lt_of_cell? w _ hx148_3)).trans hx148_3
                       replace hx148_4 := (HB.out.cell (World.block_lt_of_cell? w _ hx148_4)).trans hx148_4
                       have HR148_4 := Aside0.mk hi148_4
                       have HC148_4 := Aside0.mk hl148_4
                       clear hi148_4 hl148_4
                       replace p148 := eq_true p148
                       replace q148 := eq_true q148
                       have ea_ := Option.some.inj (hx147_4.symm.trans hx148_4)
                       injection ea_ with ea_ en_ ec_
                       subst ea_
                       subst ec_
                       clear en_
                       have p149 : 0 ≤ (x9_2 : Int) := of_decide_eq_true (by first | (with_reducible assumption) | assumption)
                       have q149 : x9_2 < (((rd_T26 l1 x7_1).f4).length : Int) := of_decide_eq_true (by first | (with_reducible assumption) | assumption)
                       obtain ⟨ad149, e149, hx149_0, hx149_1, hx149_2⟩ := at_T42 HR148_4.out x9_2 p149 q149
                       (try rw [← Nbq25.out] at hx149_2)
                       cases e149
                       replace hx149_0 := (HB.out.cell (World.block_lt_of_cell? w _ hx149_0)).trans hx149_0
                       replace hx149_1 := (HB.out.cell (World.block_lt_of_cell? w _ hx149_1)).trans hx149_1
                       replace hx149_2 := (HB.out.cell (World.block_lt_of_cell? w _ hx149_2)).trans hx149_2
                       replace p149 := eq_true p149
                       replace q149 := eq_true q149
                       go_wp2_with (first | ((with_reducible refine gate_dst (N := 10) rfl ?_); refine box_event ?hg (N := 10) ?hd (cs := #[.int .u8 0, .string (⟨#[]⟩ : ByteArray), .bool false]) (t := 42) ?hr ?_; (case hd => rfl); (case hg => rfl); (case hr => first | (go_simp; done) | (go_simp; rfl)); intro gb150 hg w34 hbox hb; have n0_ := Aside0.mk (below_step (by repeat (first | (with_reducible first | exact HB.out | apply below_alloc | apply pw_below_drewN | apply below_drew1) | exact HB.out)) hb); have n1_ := Aside0.mk (hbox); have n2_ := Aside0.mk ((by rw [hg]; exact (below_size (by repeat (first | (with_reducible first | exact HB.out | apply below_alloc | apply pw_below_drewN | apply below_drew1) | exact HB.out))) : w.heap.size ≤ gb150)); have n3_ := Aside0.mk ((by rw [hg]; exact (below_size (by repeat (first | (with_reducible first | exact HB.out | apply below_alloc | apply pw_below_drewN | apply below_drew1) | exact HB.out))) : w.heap.size ≤ gb150)); clear HB; have HB := n0_; have BK150 := n1_; have GW150 := n2_; have GE150 := n3_; clear n0_ n1_ n2_ n3_; clear hb hbox hg; have hcz35_0 : w34.cell? ⟨gb150, 0, none⟩ = some (.int .u8 0) := (blk_cell BK150.out 0).trans rfl; have hcz35_1 : w34.cell? ⟨gb150, 1, none⟩ = some (.string (⟨#[]⟩ : ByteArray)) := (blk_cell BK150.out 1).trans rfl; have hcz35_2 : w34.cell? ⟨gb150, 2, none⟩ = some (.bool false) := (blk_cell BK150.out 2).trans rfl; have hfz35_0 := blk_frozen BK150.out 0; have hfz35_1 := blk_frozen BK150.out 1; have hfz35_2 := blk_frozen BK150.out 2) | ((with_reducible refine gate_dst (N := 65) rfl ?_); refine Kd.R_lit (Kd.int .u8) _ 5 ?hg (N := 65) ?hd (xs := ([(rd_T42 ((rd_T26 l1 x7_1).f4) x9_2).f0] : List Int)) (inner := [.int .u8 ((rd_T42 ((rd_T26 l1 x7_1).f4) x9_2).f0)]) (ok := fun _ => True) (okp := fun _ => True) ?hr ?hp (fun _ hk => hk) trivial (Below.refl _ _) (Nat.le_refl _) (by simp) ?_; (case hd => rfl); (case hg => rfl); (case hr => first | (go_simp; done) | (go_simp; rfl)); (case hp => exact (Reps.one (show Kd.M (Kd.int .u8) _ _ _ ((rd_T42 ((rd_T26 l1 x7_1).f4) x9_2).f0) [.int .u8 ((rd_T42 ((rd_T26 l1 x7_1).f4) x9_2).f0)] from rfl) (Reps.none _ _))); intro v152 w36 ho37 hb hg_ hnew_; clear hg_ hnew_; (first | rw [← Ny151.out] at ho37 | (simp only [Int.reduceToNat] at ho37; rw [← Ny151.out] at ho37)); have n0_ := Aside0.mk (Kd.R_lower ho37 (below_size (by repeat (first | (with_reducible first | exact HB.out | apply below_alloc | apply pw_below_drewN | apply below_drew1 | refine below_set ?_ GE150.out) | exact HB.out)))); have n1_ := Aside0.mk (blk_below (g := gb150) (o := .cells #[.int .u8 ((rd_T42 ((rd_T26 l1 x7_1).f4) x9_2).f0), .string ((rd_T42 ((rd_T26 l1 x7_1).f4) x9_2).f1), .bool false] 42 (0, 0)) (by (with_reducible repeat (first | refine blk_drewN ?_ _ | refine blk_drew ?_ | refine blk_alloc ?_ _)); refine blk_put (cs := #[.int .u8 ((rd_T42 ((rd_T26 l1 x7_1).f4) x9_2).f0), .string ((rd_T42 ((rd_T26 l1 x7_1).f4) x9_2).f1), .bool false]) ?_ 2 _ rfl; (with_reducible repeat (first | refine blk_drewN ?_ _ | refine blk_drew ?_ | refine blk_alloc ?_ _)); refine blk_put (cs := #[.int .u8 ((rd_T42 ((rd_T26 l1 x7_1).f4) x9_2).f0), .string (⟨#[]⟩ : ByteArray), .bool false]) ?_ 1 _ rfl; (with_reducible repeat (first | refine blk_drewN ?_ _ | refine blk_drew ?_ | refine blk_alloc ?_ _)); refine blk_put (cs := #[.int .u8 0, .string (⟨#[]⟩ : ByteArray), .bool false]) ?_ 0 _ rfl; (with_reducible repeat (first | refine blk_drewN ?_ _ | refine blk_drew ?_ | refine blk_alloc ?_ _)); exact BK150.out) hb); have n2_ := Aside0.mk (below_step (by repeat (first | (with_reducible first | exact HB.out | apply below_alloc | apply pw_below_drewN | apply below_drew1 | refine below_set ?_ GE150.out) | exact HB.out)) hb); clear BK150; clear HB; have HO153 := n0_; have BK150 := n1_; have HB := n2_; clear n0_ n1_ n2_; clear hb ho37; have hcv38 := own_string (P := Tryd.prog) Tryd.underlying34 Tryd.underlying5 Tryd.underlying9 (Kd.own_of_R HO153.out); have hcz39_0 : w36.cell? ⟨gb150, 0, none⟩ = some (.int .u8 ((rd_T42 ((rd_T26 l1 x7_1).f4) x9_2).f0)) := (blk_cell BK150.out 0).trans rfl; have hcz39_1 : w36.cell? ⟨gb150, 1, none⟩ = some (.string ((rd_T42 ((rd_T26 l1 x7_1).f4) x9_2).f1)) := (blk_cell BK150.out 1).trans rfl; have hcz39_2 : w36.cell? ⟨gb150, 2, none⟩ = some (.bool false) := (blk_cell BK150.out 2).trans rfl; have hfz39_0 := blk_frozen BK150.out 0; have hfz39_1 := blk_frozen BK150.out 1; have hfz39_2 := blk_frozen BK150.out 2))
                       go_roundg k2
                       case measure => have := HK1.out; have := HK2.out; omega
                       case rel => exact ⟨(((x6_2 ++ (strOfNums y151)) ++ ((rd_T42 ((rd_T26 l1 x7_1).f4) x9_2).f1)) ++ (⟨#[10]⟩ : ByteArray)), (wrap64 (x9_2 + 1)), (by first | rfl | (simp; done) | (simp [*]; done)), (by first | rfl | (simp; done) | (simp [*]; done)), H', ⟨by have := HK1.out; have := HK2.out; omega⟩, ⟨by repeat (first | (with_reducible first | exact HB.out | apply below_alloc | apply pw_below_drewN | apply below_drew1 | refine below_set ?_ GE150.out) | exact HB.out)⟩⟩
                     ·rw [if_neg c24] at H
                      exact absurd H (by simp)
                    ·rw [if_neg c23] at H
                     exact absurd H (by simp)
                   ·rw [if_neg c22] at H
                    exact absurd H (by simp)
                  ·rw [if_neg c21] at H
                   exact absurd H (by simp)
                 ·rw [if_neg c20] at H
                  have c20b0 : decide (x9_2 < (((rd_T26 l1 x7_1).f4).length : Int)) = false := decide_eq_false c20
                  clear c20
                  have H' := Aside0.mk H
                  clear H
                  have p147 : 0 ≤ (x7_1 : Int) := of_decide_eq_true (by first | (with_reducible assumption) | assumption)
                  have q147 : x7_1 < (l1.length : Int) := of_decide_eq_true (by first | (with_reducible assumption) | assumption)
                  obtain ⟨ad147, A147_4, c147_4, e147, hx147_0, hx147_1, hx147_2, hx147_3, hx147_4, hl147_4, hi147_4⟩ := at_T26 HR1.out x7_1 p147 q147
                  obtain rfl : ad143 = ad147 := (by injection e147)
                  replace hx147_0 := (HB.out.cell (World.block_lt_of_cell? w _ hx147_0)).trans hx147_0
                  replace hx147_1 := (HB.out.cell (World.block_lt_of_cell? w _ hx147_1)).trans hx147_1
                  replace hx147_2 := (HB.out.cell (World.block_lt_of_cell? w _ hx147_2)).trans hx147_2
                  replace hx147_3 := (HB.out.cell (World.block_lt_of_cell? w _ hx147_3)).trans hx147_3
                  replace hx147_4 := (HB.out.cell (World.block_lt_of_cell? w _ hx147_4)).trans hx147_4
                  have HR147_4 := Aside0.mk hi147_4
                  have HC147_4 := Aside0.mk hl147_4
                  clear hi147_4 hl147_4
                  replace p147 := eq_true p147
                  replace q147 := eq_true q147
                  go_wp2
                  go_roundg k2
                  case measure => have := HK1.out; have := HK2.out; omega
                  case rel => exact ⟨(x6_2), (wrap64 (x7_1 + 1)), (by first | rfl | (simp; done) | (simp [*]; done)), (by first | rfl | (simp; done) | (simp [*]; done)), H', ⟨by have := HK1.out; have := HK2.out; omega⟩, ⟨by repeat (first | (with_reducible first | exact HB.out | apply below_alloc | apply pw_below_drewN | apply below_drew1) | exact HB.out)⟩⟩
                ·rw [if_neg c19] at H
                 exact absurd H (by simp)
               ·rw [if_neg c18] at H
                exact absurd H (by simp)
            ·rw [if_neg c15] at H
             exact absurd H (by simp)
           ·rw [if_neg c13] at H
            have c13b0 : (t144 == 0) = false := beq_eq_false_iff_ne.mpr c13
            have c13b1 : (t144 != 0) = true := bne_iff_ne.mpr c13
            simp only [Option.some.injEq, Prod.mk.injEq] at H
            obtain ⟨rfl, rfl⟩ := H
            have p143 : 0 ≤ (x7_1 : Int) := of_decide_eq_true (by first | (with_reducible assumption) | assumption)
            have q143 : x7_1 < (l1.length : Int) := of_decide_eq_true (by first | (with_reducible assumption) | assumption)
            obtain ⟨ad143, A143_4, c143_4, e143, hx143_0, hx143_1, hx143_2, hx143_3, hx143_4, hl143_4, hi143_4⟩ := at_T26 HR1.out x7_1 p143 q143
            cases e143
            replace hx143_0 := (HB.out.cell (World.block_lt_of_cell? w _ hx143_0)).trans hx143_0
            replace hx143_1 := (HB.out.cell (World.block_lt_of_cell? w _ hx143_1)).trans hx143_1
            replace hx143_2 := (HB.out.cell (World.block_lt_of_cell? w _ hx143_2)).trans hx143_2
            replace hx143_3 := (HB.out.cell (World.block_lt_of_cell? w _ hx143_3)).trans hx143_3
            replace hx143_4 := (HB.out.cell (World.block_lt_of_cell? w _ hx143_4)).trans hx143_4
            have HR143_4 := Aside0.mk hi143_4
            have HC143_4 := Aside0.mk hl143_4
            clear hi143_4 hl143_4
            replace p143 := eq_true p143
            replace q143 := eq_true q143
            go_wp2_with (first | ((with_reducible refine gate_callee (f := 29) rfl ?_); refine goesL_ (some 33) rfl rfl Tryd.func29 (by kernel_rfl) rfl #[.agg #[.int .i64 ((rd_T26 l1 x7_1).f0), .int .i64 ((rd_T26 l1 x7_1).f1), .int .i64 ((rd_T26 l1 x7_1).f2), .int .i64 ((rd_T26 l1 x7_1).f3), .slice A143_4 ((rd_T26 l1 x7_1).f4).length c143_4]] rfl (by (try simp only [List.map_toArray, List.map_cons, List.map_nil]); first | done | rfl | (simp only [List.length_drop, List.length_take]; rfl)) ?_; (with_reducible refine (redpenref18_Check.calls k1 ((rd_T26 l1 x7_1).f0) ((rd_T26 l1 x7_1).f1) ((rd_T26 l1 x7_1).f2) ((rd_T26 l1 x7_1).f3) _ _ ((rd_T26 l1 x7_1).f4) t144 _ ?side1 ?side2 A12.out).mono ?_); (case side1 => repeat (first | exact (Kd.C_below HR143_4.out HB.out) | (with_reducible refine Kd.C_alloc ?_ _) | (with_reducible refine Kd.C_drewN ?_ _) | (with_reducible refine Kd.C_drew ?_))); (case side2 => exact HC143_4.out); rintro e w40 ⟨rfl, hb⟩; refine ⟨_, rfl, ?_⟩; have n0_ := Aside0.mk (below_step (by repeat (first | (with_reducible first | exact HB.out | apply below_alloc | apply pw_below_drewN | apply below_drew1) | exact HB.out)) hb); clear HB; have HB := n0_; clear n0_; (try clear hb); (try clear hb2); (try clear hk); (try clear hi)))
            go_ret2
            exact ⟨by first | rfl | (simp [errW_none, errW_some] <;> rfl) | (simp [*, errW_none, errW_some] <;> rfl), by repeat (first | (with_reducible first | exact HB.out | apply below_alloc | apply pw_below_drewN | apply below_drew1) | exact HB.out)⟩
          ·rw [if_neg c11] at H
           exact absurd H (by simp)
         ·rw [if_neg c10] at H
          have c10b0 : decide (x7_1 < (l1.length : Int)) = false := decide_eq_false c10
          clear c10
          simp only [Option.some.injEq, Prod.mk.injEq] at H
          obtain ⟨rfl, rfl⟩ := H
          go_wp2
          go_ret2
          exact ⟨by first | rfl | (simp [errW_none, errW_some] <;> rfl) | (simp [*, errW_none, errW_some] <;> rfl), by repeat (first | (with_reducible first | exact HB.out | apply below_alloc | apply pw_below_drewN | apply below_drew1) | exact HB.out)⟩
      ·rw [if_neg c9] at H
       exact absurd H (by simp)
     ·rw [if_neg c8] at H
      exact absurd H (by simp)
    ·rw [if_neg c7] at H
     exact absurd H (by simp)
   ·rw [if_neg c6] at H
    exact absurd H (by simp)
 ·replace c4 := Bool.eq_false_iff.mpr c4
  subst c4
  have H1 : (some ((⟨#[]⟩ : ByteArray), 10)) = some (r1, r2) := by rw [if_neg (show ¬ (false = true) by decide)] at H; exact H
  clear H
  have H := H1
  clear H1
  simp only [Option.some.injEq, Prod.mk.injEq] at H
  obtain ⟨rfl, rfl⟩ := H
  go_enter Tryd.func13, Tryd.ntmps13
  go_wp2_with (first | ((with_reducible refine gate_callee (f := 28) rfl ?_); refine goesL_ (some 12) rfl rfl Tryd.func28 (by kernel_rfl) rfl #[.string a0] rfl (by (try simp only [List.map_toArray, List.map_cons, List.map_nil]); first | done | rfl | (simp only [List.length_drop, List.length_take]; rfl)) ?_; (with_reducible refine (redpenref18_Name.calls k a0 false _ A3.out).mono ?_); rintro e w' ⟨rfl, ⟨nd, rfl⟩⟩; refine ⟨_, rfl, ?_⟩))
  go_ret2
  exact ⟨by first | rfl | (simp [errW_none, errW_some] <;> rfl) | (simp [*, errW_none, errW_some] <;> rfl), by repeat (first | (with_reducible first | exact HB.out | apply below_alloc | apply pw_below_drewN | apply below_drew1) | exact HB.out)⟩

end Go.Proofs.YthkcghiagnddiaaDoor.X
