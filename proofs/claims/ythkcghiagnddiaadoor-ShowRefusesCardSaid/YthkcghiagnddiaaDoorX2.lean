-- Printed by px.sh (a patched copy of the kit's print): the walks of Go functions, out of the translation.
import Derived.Test.YthkcghiagnddiaaDoorX0
import Derived.Test.YthkcghiagnddiaaDoorX1
import Derived.Test.YthkcghiagnddiaaDoorLines
import Derived.Test.YthkcghiagnddiaaDoorChanges
import Derived.Test.YthkcghiagnddiaaDoorTable
import Derived.BigRegion
import Derived.RegionTactic
namespace Go.Proofs.YthkcghiagnddiaaDoor.X
open Go.RowKit Go.Proofs.YthkcghiagnddiaaDoorW.PrintWords Go.Proofs.YthkcghiagnddiaaDoorW.PrintLast Go.Proofs.YthkcghiagnddiaaDoorW.PrintMore
attribute [local go_sem] max2_int min2_int max_two min_two max_three min_three max_four min_four   -- for this text's walks alone
set_option linter.unusedVariables false
set_option linter.unusedSimpArgs false

/-! ### redpenlaw19_Text: function 15 -/
def redpenlaw19_Text.l0 : Nat → Bool → List Int → List Int → Int → Int → Option (List Int)
 | 0, _, _, _, _, _ => none
 | k + 1, x1, x5, x8, x9, x10 => if x10 < x9 then (if 0 ≤ x10 then (if x10 < (x8.length : Int) then (if x10 ≥ 40 then (if x1 = true then (if (x5.length : Int) > 0 then (if 0 ≤ (wrap64 ((x5.length : Int) - 1)) then (if (wrap64 ((x5.length : Int) - 1)) ≤ (x5.length : Int) then (some (x5.take ((wrap64 ((x5.length : Int) - 1)) : Int).toNat)) else (none)) else (none)) else (some x5)) else (some x5)) else ((some (([(⟨#[97]⟩ : ByteArray), (⟨#[98]⟩ : ByteArray), (⟨#[99]⟩ : ByteArray), (⟨#[]⟩ : ByteArray), (⟨#[97, 13]⟩ : ByteArray), (⟨#[119, 111, 114, 100]⟩ : ByteArray)] : List ByteArray) : List ByteArray)).bind fun y125 => (if 0 ≤ (Int.tmod (rd x8 x10) 6) then (if (Int.tmod (rd x8 x10) 6) < (y125.length : Int) then (if x5.length + (rdOf ByteArray.empty y125 (Int.tmod (rd x8 x10) 6)).size < 140737488355328 then ((some (x5 ++ bytesOf (rdOf ByteArray.empty y125 (Int.tmod (rd x8 x10) 6)) : List Int)).bind fun y129 => (if y129.length < 140737488355328 then (redpenlaw19_Text.l0 k x1 (y129 ++ [10]) x8 x9 (wrap64 (x10 + 1))) else (none))) else (none)) else (none)) else (none)))) else (none)) else (none)) else (if x1 = true then (if (x5.length : Int) > 0 then (if 0 ≤ (wrap64 ((x5.length : Int) - 1)) then (if (wrap64 ((x5.length : Int) - 1)) ≤ (x5.length : Int) then (some (x5.take ((wrap64 ((x5.length : Int) - 1)) : Int).toNat)) else (none)) else (none)) else (some x5)) else (some x5))
def redpenlaw19_Text.f (k : Nat) (l0 : List Int) (a1 : Bool) : Option (List Int) := redpenlaw19_Text.l0 k a1 ([] : List Int) l0 (l0.length : Int) 0
theorem redpenlaw19_Text.mono_l : ∀ k, (∀ y0 y1 y2 y3 y4, LeO (redpenlaw19_Text.l0 k y0 y1 y2 y3 y4) (redpenlaw19_Text.l0 (k + 1) y0 y1 y2 y3 y4))
 | 0 => fun _ _ _ _ _ r h => by simp [redpenlaw19_Text.l0] at h
 | k + 1 => by
  have ih0 := redpenlaw19_Text.mono_l k
  ·intro y0 y1 y2 y3 y4
   unfold redpenlaw19_Text.l0
   repeat' first
   | (with_reducible exact ih0 _ _ _ _ _)
   | (with_reducible exact LeO.refl _)
   | (with_reducible exact LeO.none _)
   | (with_reducible refine LeO.ite ?_ ?_)
   | (with_reducible refine LeO.bind ?_ (fun _ => ?_))
   | exact ih0 _ _ _ _ _
   | exact LeO.none _
   | refine LeO.ite ?_ ?_
   | refine LeO.bind ?_ (fun _ => ?_)
theorem redpenlaw19_Text.mono : ∀ a0 a1 k, LeO (redpenlaw19_Text.f k a0 a1) (redpenlaw19_Text.f (k + 1) a0 a1) := by
 intro a0 a1 k
 have ih0 := redpenlaw19_Text.mono_l k
 unfold redpenlaw19_Text.f
 repeat' first
   | (with_reducible exact ih0 _ _ _ _ _)
   | (with_reducible exact LeO.refl _)
   | (with_reducible exact LeO.none _)
   | (with_reducible refine LeO.ite ?_ ?_)
   | (with_reducible refine LeO.bind ?_ (fun _ => ?_))
   | exact ih0 _ _ _ _ _
   | exact LeO.none _
   | refine LeO.ite ?_ ?_
   | refine LeO.bind ?_ (fun _ => ?_)
set_option maxHeartbeats 8000000 in
set_option maxRecDepth 100000 in
theorem redpenlaw19_Text.calls (k : Nat) (A0 : Option Addr) (c0 : Nat) (l0 : List Int) (a1 : Bool) (r : List Int) (w : World) (hr0 : Kd.C (Kd.int .u8) w A0 l0.length l0) (hc0 : l0.length ≤ c0) (h : redpenlaw19_Text.f k l0 a1 = some r) :
  Calls Tryd.prog 15 #[.slice A0 l0.length c0, .bool a1] w fun e w' => ∃ v0_ : Value, e = .returned (v0_) ∧ Kd.R (Kd.int .u8) 5 w' w.heap.size (fun _ => True) v0_ r ∧ Below w.heap.size w w' := by
 have HR0 := Aside0.mk hr0
 have HC0 := Aside0.mk hc0
 clear hr0 hc0
 have HB := Aside0.mk (Below.refl w.heap.size w)
 have H : (redpenlaw19_Text.l0 k a1 ([] : List Int) l0 (l0.length : Int) 0) = some r := h
 clear h
 have H' := Aside0.mk H
 clear H
 go_enter Tryd.func15, Tryd.ntmps15
 go_wp2
 go_loopg [5, 10] k (fun kq v5 v10 w' => ∃ (x5_1 : List Int) (x10_1 : Int), v10 = .int .i64 x10_1 ∧ Aside0 (redpenlaw19_Text.l0 kq a1 x5_1 l0 (l0.length : Int) x10_1 = some r) ∧ Aside0 (kq ≤ k) ∧ Aside0 (Kd.R (Kd.int .u8) 5 w' w.heap.size (fun _ => True) v5 x5_1) ∧ Aside0 (Below w.heap.size w w'))
 case atStart => exact ⟨(([] : List Int)), (0), (by first | rfl | (simp; done) | (simp [*]; done)), H', ⟨Nat.le_refl _⟩, ⟨by first | exact Kd.R_nil _ _ _ _ _ | exact Kd.N_nil _ _ _ _ _ | exact Kd.V_nil _ _ _ _ _ | exact Kd.Q_nil _ _ _ _ _ | exact Kd.S_nil _ _ _ _ _⟩, ⟨by repeat (first | (with_reducible first | exact HB.out | apply below_alloc | apply pw_below_drewN | apply below_drew1) | exact HB.out)⟩⟩
 case round =>
  clear H'
  try clear c1
  try clear p2
  obtain ⟨x5_1, x10_1, rfl, HA, HK1, HO_5, HB⟩ := hrel
  cases gk with
  | zero => exact absurd HA.out (by simp [redpenlaw19_Text.l0])
  | succ k1 =>
   have H := HA.out
   clear HA
   simp only [redpenlaw19_Text.l0] at H
   by_cases c3 : x10_1 < (l0.length : Int)
   ·rw [if_pos c3] at H
    have c3b0 : decide (x10_1 < (l0.length : Int)) = true := decide_eq_true c3
    clear c3
    by_cases c4 : 0 ≤ x10_1
    ·rw [if_pos c4] at H
     have c4b0 : decide (0 ≤ x10_1) = true := decide_eq_true c4
     clear c4
     by_cases c5 : x10_1 < (l0.length : Int)
     ·rw [if_pos c5] at H
      have c5b0 : decide (x10_1 < (l0.length : Int)) = true := decide_eq_true c5
      clear c5
      by_cases c6 : x10_1 ≥ 40
      ·rw [if_pos c6] at H
       have c6b0 : decide (40 ≤ x10_1) = true := decide_eq_true c6
       clear c6
       by_cases c7 : a1 = true
       ·subst c7
        have H1 : (if (x5_1.length : Int) > 0 then (if 0 ≤ (wrap64 ((x5_1.length : Int) - 1)) then (if (wrap64 ((x5_1.length : Int) - 1)) ≤ (x5_1.length : Int) then (some (x5_1.take ((wrap64 ((x5_1.length : Int) - 1)) : Int).toNat)) else (none)) else (none)) else (some x5_1)) = some r := by rw [if_pos rfl] at H; exact H
        clear H
        have H := H1
        clear H1
        by_cases c8 : (x5_1.length : Int) > 0
        ·rw [if_pos c8] at H
         have c8b0 : decide (0 < (x5_1.length : Int)) = true := decide_eq_true c8
         have c8b1 : decide (0 < x5_1.length) = true := decide_eq_true (by omega)
         clear c8
         obtain ⟨ji9, hji9⟩ : ∃ j_ : Int, (wrap64 ((x5_1.length : Int) - 1)) = j_ := ⟨_, rfl⟩
         replace H : (if 0 ≤ (ji9) then (if (ji9) ≤ (x5_1.length : Int) then (some (x5_1.take ((ji9) : Int).toNat)) else (none)) else (none)) = some r := by first | (rw [hji9] at H; exact H) | (simp only [hji9] at H ⊢; exact H)
         have hji9w : (IntKind.i64.wrap ((x5_1.length : Int) - 1)) = ji9 := (i64_w _).trans hji9
         by_cases c10 : 0 ≤ (ji9)
         ·rw [if_pos c10] at H
          have c10b0 := eq_true c10
          have c10b1 : decide (0 ≤ (ji9)) = true := decide_eq_true c10
          clear c10
          by_cases c11 : (ji9) ≤ (x5_1.length : Int)
          ·rw [if_pos c11] at H
           have c11b0 := eq_true c11
           have c11b1 : decide ((ji9) ≤ (x5_1.length : Int)) = true := decide_eq_true c11
           clear c11
           obtain ⟨y122, hy122⟩ : ∃ y_ : List Int, y_ = (x5_1.take ((ji9) : Int).toNat) := ⟨_, rfl⟩
           replace H : (some y122) = some r := by first | (rw [hy122]; with_reducible exact H) | (have H2_ := (Option.bind_some _ _).symm.trans H; rw [hy122]; with_reducible exact H2_) | (have H2_ := (Option.bind_some _ _).symm.trans H; with_reducible exact H2_) | with_reducible exact H | (rw [hy122]; exact H) | exact H
           have Ny122 := Aside0.mk hy122
           clear hy122
           obtain rfl := Option.some.inj H
           have p121 : 0 ≤ (x10_1 : Int) := of_decide_eq_true (by first | (with_reducible assumption) | assumption)
           have q121 : x10_1 < (l0.length : Int) := of_decide_eq_true (by first | (with_reducible assumption) | assumption)
           obtain ⟨ad121, e121, hx121_0⟩ := Kd.at_int HR0.out x10_1 p121 q121
           cases e121
           replace hx121_0 := (HB.out.cell (World.block_lt_of_cell? w _ hx121_0)).trans hx121_0
           replace p121 := eq_true p121
           replace q121 := eq_true q121
           obtain ⟨Ao12, co12, eo12⟩ := Kd.R_slice HO_5.out
           subst eo12
           have q13 : ((ji9) : Int) ≤ ((x5_1.length : Int) : Int) := of_decide_eq_true (by first | (with_reducible assumption) | assumption)
           obtain ⟨i013, hi013, _, hsz13, _⟩ := info_parts info5
           have hcut13 := cut_to (P := Tryd.prog) 34 5 .i64 Tryd.underlying34 hi013 Ao12 x5_1.length co12 (ji9) (of_decide_eq_true (by first | (with_reducible assumption) | assumption)) q13 (Kd.R_reads' HO_5.out).2.1
           have hr13 := Kd.R_take (m := ((ji9) : Int).toNat) HO_5.out (by omega)
           have hy13 : y122.length = ((ji9) : Int).toNat := (by rw [Ny122.out, List.length_take]; omega)
           rw [← Ny122.out] at hr13
           rw [← hy13] at hr13 hcut13
           clear hy13 hi013 hsz13 HO_5
           have HO124 := Aside0.mk hr13
           clear hr13
           replace q13 := eq_true q13
           go_wp2
           go_ret
           exact ⟨_, by first | rfl | (simp [errW_none, errW_some] <;> rfl) | (simp only [← hji9]; first | rfl | (simp [errW_none, errW_some] <;> rfl)) | (simp [*, errW_none, errW_some] <;> rfl), by (with_reducible repeat (first | apply Kd.R_alloc | apply Kd.R_drewN | apply Kd.R_drew)); exact HO124.out, by repeat (first | (with_reducible first | exact HB.out | apply below_alloc | apply pw_below_drewN | apply below_drew1) | exact HB.out)⟩
          ·rw [if_neg c11] at H
           exact absurd H (by simp)
         ·rw [if_neg c10] at H
          exact absurd H (by simp)
        ·rw [if_neg c8] at H
         have c8b0 : decide (0 < (x5_1.length : Int)) = false := decide_eq_false c8
         have c8b1 : decide (0 < x5_1.length) = false := decide_eq_false (by omega)
         clear c8
         obtain rfl := Option.some.inj H
         have p121 : 0 ≤ (x10_1 : Int) := of_decide_eq_true (by first | (with_reducible assumption) | assumption)
         have q121 : x10_1 < (l0.length : Int) := of_decide_eq_true (by first | (with_reducible assumption) | assumption)
         obtain ⟨ad121, e121, hx121_0⟩ := Kd.at_int HR0.out x10_1 p121 q121
         cases e121
         replace hx121_0 := (HB.out.cell (World.block_lt_of_cell? w _ hx121_0)).trans hx121_0
         replace p121 := eq_true p121
         replace q121 := eq_true q121
         obtain ⟨Ao14, co14, eo14⟩ := Kd.R_slice HO_5.out
         subst eo14
         go_wp2
         go_ret
         exact ⟨_, by first | rfl | (simp [errW_none, errW_some] <;> rfl) | (simp [*, errW_none, errW_some] <;> rfl), by (with_reducible repeat (first | apply Kd.R_alloc | apply Kd.R_drewN | apply Kd.R_drew)); exact HO_5.out, by repeat (first | (with_reducible first | exact HB.out | apply below_alloc | apply pw_below_drewN | apply below_drew1) | exact HB.out)⟩
       ·replace c7 := Bool.eq_false_iff.mpr c7
        subst c7
        have H1 : (some x5_1) = some r := by rw [if_neg (show ¬ (false = true) by decide)] at H; exact H
        clear H
        have H := H1
        clear H1
        obtain rfl := Option.some.inj H
        have p121 : 0 ≤ (x10_1 : Int) := of_decide_eq_true (by first | (with_reducible assumption) | assumption)
        have q121 : x10_1 < (l0.length : Int) := of_decide_eq_true (by first | (with_reducible assumption) | assumption)
        obtain ⟨ad121, e121, hx121_0⟩ := Kd.at_int HR0.out x10_1 p121 q121
        cases e121
        replace hx121_0 := (HB.out.cell (World.block_lt_of_cell? w _ hx121_0)).trans hx121_0
        replace p121 := eq_true p121
        replace q121 := eq_true q121
        go_wp2
        go_ret
        exact ⟨_, by first | rfl | (simp [errW_none, errW_some] <;> rfl) | (simp [*, errW_none, errW_some] <;> rfl), by (with_reducible repeat (first | apply Kd.R_alloc | apply Kd.R_drewN | apply Kd.R_drew)); exact HO_5.out, by repeat (first | (with_reducible first | exact HB.out | apply below_alloc | apply pw_below_drewN | apply below_drew1) | exact HB.out)⟩
      ·rw [if_neg c6] at H
       have c6b0 : decide (40 ≤ x10_1) = false := decide_eq_false c6
       clear c6
       obtain ⟨y125, hy125⟩ : ∃ y_ : List ByteArray, y_ = (([(⟨#[97]⟩ : ByteArray), (⟨#[98]⟩ : ByteArray), (⟨#[99]⟩ : ByteArray), (⟨#[]⟩ : ByteArray), (⟨#[97, 13]⟩ : ByteArray), (⟨#[119, 111, 114, 100]⟩ : ByteArray)] : List ByteArray)) := ⟨_, rfl⟩
       replace H : (if 0 ≤ (Int.tmod (rd l0 x10_1) 6) then (if (Int.tmod (rd l0 x10_1) 6) < (y125.length : Int) then (if x5_1.length + (rdOf ByteArray.empty y125 (Int.tmod (rd l0 x10_1) 6)).size < 140737488355328 then ((some (x5_1 ++ bytesOf (rdOf ByteArray.empty y125 (Int.tmod (rd l0 x10_1) 6)) : List Int)).bind fun y129 => (if y129.length < 140737488355328 then (redpenlaw19_Text.l0 k1 a1 (y129 ++ [10]) l0 (l0.length : Int) (wrap64 (x10_1 + 1))) else (none))) else (none)) else (none)) else (none)) = some r := by first | (rw [hy125]; with_reducible exact H) | (have H2_ := (Option.bind_some _ _).symm.trans H; rw [hy125]; with_reducible exact H2_) | (have H2_ := (Option.bind_some _ _).symm.trans H; with_reducible exact H2_) | with_reducible exact H | (rw [hy125]; exact H) | exact H
       have Ny125 := Aside0.mk hy125
       clear hy125
       obtain ⟨ji15, hji15⟩ : ∃ j_ : Int, (Int.tmod (rd l0 x10_1) 6) = j_ := ⟨_, rfl⟩
       replace H : (if 0 ≤ (ji15) then (if (ji15) < (y125.length : Int) then (if x5_1.length + (rdOf ByteArray.empty y125 (ji15)).size < 140737488355328 then ((some (x5_1 ++ bytesOf (rdOf ByteArray.empty y125 (ji15)) : List Int)).bind fun y129 => (if y129.length < 140737488355328 then (redpenlaw19_Text.l0 k1 a1 (y129 ++ [10]) l0 (l0.length : Int) (wrap64 (x10_1 + 1))) else (none))) else (none)) else (none)) else (none)) = some r := by first | (rw [hji15] at H; exact H) | (simp only [hji15] at H ⊢; exact H)
       by_cases c16 : 0 ≤ (ji15)
       ·rw [if_pos c16] at H
        have c16b0 : decide (0 ≤ (ji15)) = true := decide_eq_true c16
        clear c16
        by_cases c17 : (ji15) < (y125.length : Int)
        ·rw [if_pos c17] at H
         have c17b0 : decide ((ji15) < (y125.length : Int)) = true := decide_eq_true c17
         clear c17
         by_cases c18 : x5_1.length + (rdOf ByteArray.empty y125 (ji15)).size < 140737488355328
         ·rw [if_pos c18] at H
          have LMc18 := Aside0.mk c18
          clear c18
          obtain ⟨y129, hy129⟩ : ∃ y_ : List Int, y_ = (x5_1 ++ bytesOf (rdOf ByteArray.empty y125 (ji15))) := ⟨_, rfl⟩
          replace H : (if y129.length < 140737488355328 then (redpenlaw19_Text.l0 k1 a1 (y129 ++ [10]) l0 (l0.length : Int) (wrap64 (x10_1 + 1))) else (none)) = some r := by first | (rw [hy129]; with_reducible exact H) | (have H2_ := (Option.bind_some _ _).symm.trans H; rw [hy129]; with_reducible exact H2_) | (have H2_ := (Option.bind_some _ _).symm.trans H; with_reducible exact H2_) | with_reducible exact H | (rw [hy129]; exact H) | exact H
          have Ny129 := Aside0.mk hy129
          clear hy129
          by_cases c19 : y129.length < 140737488355328
          ·rw [if_pos c19] at H
           have LMc19 := Aside0.mk c19
           clear c19
           obtain ⟨y132, hy132⟩ : ∃ y_ : List Int, y_ = (y129 ++ [10]) := ⟨_, rfl⟩
           replace H : (redpenlaw19_Text.l0 k1 a1 y132 l0 (l0.length : Int) (wrap64 (x10_1 + 1))) = some r := by first | (rw [hy132]; with_reducible exact H) | (have H2_ := (Option.bind_some _ _).symm.trans H; rw [hy132]; with_reducible exact H2_) | (have H2_ := (Option.bind_some _ _).symm.trans H; with_reducible exact H2_) | with_reducible exact H | (rw [hy132]; exact H) | exact H
           have Ny132 := Aside0.mk hy132
           clear hy132
           have H' := Aside0.mk H
           clear H
           have p121 : 0 ≤ (x10_1 : Int) := of_decide_eq_true (by first | (with_reducible assumption) | assumption)
           have q121 : x10_1 < (l0.length : Int) := of_decide_eq_true (by first | (with_reducible assumption) | assumption)
           obtain ⟨ad121, e121, hx121_0⟩ := Kd.at_int HR0.out x10_1 p121 q121
           cases e121
           replace hx121_0 := (HB.out.cell (World.block_lt_of_cell? w _ hx121_0)).trans hx121_0
           replace p121 := eq_true p121
           replace q121 := eq_true q121
           go_wp2_with (first | ((with_reducible refine gate_dst (N := 18) rfl ?_); (try (refine gate_guard (by rfl) ?_; dsimp only)); refine Kd.R_lit Kd.string _ 9 ?hg (N := 18) ?hd (xs := ([(⟨#[97]⟩ : ByteArray), (⟨#[98]⟩ : ByteArray), (⟨#[99]⟩ : ByteArray), (⟨#[]⟩ : ByteArray), (⟨#[97, 13]⟩ : ByteArray), (⟨#[119, 111, 114, 100]⟩ : ByteArray)] : List ByteArray)) (inner := [.string (⟨#[97]⟩ : ByteArray), .string (⟨#[98]⟩ : ByteArray), .string (⟨#[99]⟩ : ByteArray), .string (⟨#[]⟩ : ByteArray), .string (⟨#[97, 13]⟩ : ByteArray), .string (⟨#[119, 111, 114, 100]⟩ : ByteArray)]) (ok := fun _ => True) (okp := fun _ => True) ?hr ?hp (fun _ hk => hk) trivial (Below.refl _ _) (Nat.le_refl _) (by simp) ?_; (case hd => rfl); (case hg => rfl); (case hr => first | (go_simp; done) | (go_simp; rfl)); (case hp => exact (Reps.one (show Kd.M Kd.string _ _ _ (⟨#[97]⟩ : ByteArray) [.string (⟨#[97]⟩ : ByteArray)] from rfl) (Reps.one (show Kd.M Kd.string _ _ _ (⟨#[98]⟩ : ByteArray) [.string (⟨#[98]⟩ : ByteArray)] from rfl) (Reps.one (show Kd.M Kd.string _ _ _ (⟨#[99]⟩ : ByteArray) [.string (⟨#[99]⟩ : ByteArray)] from rfl) (Reps.one (show Kd.M Kd.string _ _ _ (⟨#[]⟩ : ByteArray) [.string (⟨#[]⟩ : ByteArray)] from rfl) (Reps.one (show Kd.M Kd.string _ _ _ (⟨#[97, 13]⟩ : ByteArray) [.string (⟨#[97, 13]⟩ : ByteArray)] from rfl) (Reps.one (show Kd.M Kd.string _ _ _ (⟨#[119, 111, 114, 100]⟩ : ByteArray) [.string (⟨#[119, 111, 114, 100]⟩ : ByteArray)] from rfl) (Reps.none _ _)))))))); intro v126 w20 ho21 hb hg_ hnew_; clear hg_ hnew_; (first | rw [← Ny125.out] at ho21 | (simp only [Int.reduceToNat] at ho21; rw [← Ny125.out] at ho21)); have n0_ := Aside0.mk (Kd.R_below (by (with_reducible repeat (first | apply Kd.R_alloc | apply Kd.R_drewN | apply Kd.R_drew)); exact HO_5.out) hb); have n1_ := Aside0.mk (Kd.R_lower ho21 (below_size (by repeat (first | (with_reducible first | exact HB.out | apply below_alloc | apply pw_below_drewN | apply below_drew1) | exact HB.out)))); have n2_ := Aside0.mk (below_step (by repeat (first | (with_reducible first | exact HB.out | apply below_alloc | apply pw_below_drewN | apply below_drew1) | exact HB.out)) hb); clear HO_5; clear HB; have HO_5 := n0_; have HO127 := n1_; have HB := n2_; clear n0_ n1_ n2_; clear hb ho21; obtain ⟨Ao22, co22, eo22⟩ := Kd.R_slice HO127.out; subst eo22; have p128 : 0 ≤ ((ji15) : Int) := of_decide_eq_true (by first | (with_reducible assumption) | assumption); have q128 : (ji15) < (y125.length : Int) := of_decide_eq_true (by first | (with_reducible assumption) | assumption); obtain ⟨ad128, e128, hx128_0⟩ := Kd.at_string (Kd.R_reads' HO127.out).2.2 (ji15) p128 q128; cases e128; replace p128 := eq_true p128; replace q128 := eq_true q128) | (at_builtin; refine print_append_str (w0 := w) w.heap.size rfl (.tmp 17) _ 34 9 5 rfl Tryd.underlying34 Tryd.underlying9 info5 u5 x5_1 (rdOf ByteArray.empty y125 (ji15)) rfl rfl ?aO ?aB ?aS ?aL ?_; (case aB => exact (by repeat (first | (with_reducible first | exact HB.out | apply below_alloc | apply pw_below_drewN | apply below_drew1) | exact HB.out))); (case aO => exact (Kd.own_of_R (by (with_reducible repeat (first | apply Kd.R_alloc | apply Kd.R_drewN | apply Kd.R_drew)); exact HO_5.out))); (case aS => exact (below_size (by repeat (first | (with_reducible first | exact HB.out | apply below_alloc | apply pw_below_drewN | apply below_drew1) | exact HB.out)))); (case aL => have := LMc18.out; omega); intro v130 w23 ho0 hb hg; have ho := Kd.R_of_own (h1 := fun _ => rfl) (ok := fun _ => True) ho0 (fun _ _ => trivial); clear ho0; have hat := True.intro; rw [← Ny129.out] at ho; change Kd.R (Kd.int .u8) 5 w23 w.heap.size (fun _ => True) v130 y129 at ho; have n0_ := Aside0.mk (Kd.R_over' (by (with_reducible repeat (first | apply Kd.R_alloc | apply Kd.R_drewN | apply Kd.R_drew)); exact HO127.out) (Kd.R_typed (by (with_reducible repeat (first | apply Kd.R_alloc | apply Kd.R_drewN | apply Kd.R_drew)); exact HO_5.out)) (by decide) hg); have n1_ := Aside0.mk (hb); have n2_ := Aside0.mk (ho); clear HO127; clear HB; clear HO_5; have HO127 := n0_; have HB := n1_; have HO131 := n2_; clear n0_ n1_ n2_; clear ho hb hg hat) | ((with_reducible refine gate_builtin (b := .append) (xs := #[.tmp 24, .tmp 25]) rfl ?_); (try (refine gate_guard (by rfl) ?_; dsimp only)); at_builtin; refine Kd.R_append (Kd.int .u8) (w0 := w) w.heap.size rfl (.tmp 24) (.tmp 25) 34 5 (.int .u8 0) 1 rfl Tryd.underlying34 info5 rfl (by decide) (by omega) v130 y129 10 [.int .u8 10] (fun _ => True) (fun _ => False) rfl rfl ?aP (fun _ hk => hk.elim) ?aF ?aO ?aB ?aS ?aL ?_; (case aP => exact rfl); (case aB => exact (by repeat (first | (with_reducible first | exact HB.out | apply below_alloc | apply pw_below_drewN | apply below_drew1) | exact HB.out))); (case aF => exact (fun _ _ => trivial)); (case aO => exact (by (with_reducible repeat (first | apply Kd.R_alloc | apply Kd.R_drewN | apply Kd.R_drew)); exact HO131.out)); (case aS => exact (below_size (by repeat (first | (with_reducible first | exact HB.out | apply below_alloc | apply pw_below_drewN | apply below_drew1) | exact HB.out)))); (case aL => have := LMc19.out; omega); intro v133 w24 ho hb hg hat; rw [← Ny132.out] at ho; have n0_ := Aside0.mk (Kd.R_over' (by (with_reducible repeat (first | apply Kd.R_alloc | apply Kd.R_drewN | apply Kd.R_drew)); exact HO127.out) (Kd.R_typed (by (with_reducible repeat (first | apply Kd.R_alloc | apply Kd.R_drewN | apply Kd.R_drew)); exact HO131.out)) (by decide) hg); have n1_ := Aside0.mk (hb); have n2_ := Aside0.mk (ho); clear HO127; clear HB; clear HO131; have HO127 := n0_; have HB := n1_; have HO134 := n2_; clear n0_ n1_ n2_; clear ho hb hg hat))
           go_roundg k1
           case measure => have := HK1.out; omega
           case rel => exact ⟨(y132), (wrap64 (x10_1 + 1)), (by first | rfl | (simp; done) | (simp [*]; done)), H', ⟨by have := HK1.out; omega⟩, ⟨by (with_reducible repeat (first | apply Kd.R_alloc | apply Kd.R_drewN | apply Kd.R_drew)); exact HO134.out⟩, ⟨by repeat (first | (with_reducible first | exact HB.out | apply below_alloc | apply pw_below_drewN | apply below_drew1) | exact HB.out)⟩⟩
          ·rw [if_neg c19] at H
           exact absurd H (by simp)
         ·rw [if_neg c18] at H
          exact absurd H (by simp)
        ·rw [if_neg c17] at H
         exact absurd H (by simp)
       ·rw [if_neg c16] at H
        exact absurd H (by simp)
     ·rw [if_neg c5] at H
      exact absurd H (by simp)
    ·rw [if_neg c4] at H
     exact absurd H (by simp)
   ·rw [if_neg c3] at H
    have c3b0 : decide (x10_1 < (l0.length : Int)) = false := decide_eq_false c3
    clear c3
    by_cases c25 : a1 = true
    ·subst c25
     have H1 : (if (x5_1.length : Int) > 0 then (if 0 ≤ (wrap64 ((x5_1.length : Int) - 1)) then (if (wrap64 ((x5_1.length : Int) - 1)) ≤ (x5_1.length : Int) then (some (x5_1.take ((wrap64 ((x5_1.length : Int) - 1)) : Int).toNat)) else (none)) else (none)) else (some x5_1)) = some r := by rw [if_pos rfl] at H; exact H
     clear H
     have H := H1
     clear H1
     by_cases c26 : (x5_1.length : Int) > 0
     ·rw [if_pos c26] at H
      have c26b0 : decide (0 < (x5_1.length : Int)) = true := decide_eq_true c26
      have c26b1 : decide (0 < x5_1.length) = true := decide_eq_true (by omega)
      clear c26
      obtain ⟨ji27, hji27⟩ : ∃ j_ : Int, (wrap64 ((x5_1.length : Int) - 1)) = j_ := ⟨_, rfl⟩
      replace H : (if 0 ≤ (ji27) then (if (ji27) ≤ (x5_1.length : Int) then (some (x5_1.take ((ji27) : Int).toNat)) else (none)) else (none)) = some r := by first | (rw [hji27] at H; exact H) | (simp only [hji27] at H ⊢; exact H)
      have hji27w : (IntKind.i64.wrap ((x5_1.length : Int) - 1)) = ji27 := (i64_w _).trans hji27
      by_cases c28 : 0 ≤ (ji27)
      ·rw [if_pos c28] at H
       have c28b0 := eq_true c28
       have c28b1 : decide (0 ≤ (ji27)) = true := decide_eq_true c28
       clear c28
       by_cases c29 : (ji27) ≤ (x5_1.length : Int)
       ·rw [if_pos c29] at H
        have c29b0 := eq_true c29
        have c29b1 : decide ((ji27) ≤ (x5_1.length : Int)) = true := decide_eq_true c29
        clear c29
        obtain ⟨y135, hy135⟩ : ∃ y_ : List Int, y_ = (x5_1.take ((ji27) : Int).toNat) := ⟨_, rfl⟩
        replace H : (some y135) = some r := by first | (rw [hy135]; with_reducible exact H) | (have H2_ := (Option.bind_some _ _).symm.trans H; rw [hy135]; with_reducible exact H2_) | (have H2_ := (Option.bind_some _ _).symm.trans H; with_reducible exact H2_) | with_reducible exact H | (rw [hy135]; exact H) | exact H
        have Ny135 := Aside0.mk hy135
        clear hy135
        obtain rfl := Option.some.inj H
        obtain ⟨Ao30, co30, eo30⟩ := Kd.R_slice HO_5.out
        subst eo30
        have q31 : ((ji27) : Int) ≤ ((x5_1.length : Int) : Int) := of_decide_eq_true (by first | (with_reducible assumption) | assumption)
        obtain ⟨i031, hi031, _, hsz31, _⟩ := info_parts info5
        have hcut31 := cut_to (P := Tryd.prog) 34 5 .i64 Tryd.underlying34 hi031 Ao30 x5_1.length co30 (ji27) (of_decide_eq_true (by first | (with_reducible assumption) | assumption)) q31 (Kd.R_reads' HO_5.out).2.1
        have hr31 := Kd.R_take (m := ((ji27) : Int).toNat) HO_5.out (by omega)
        have hy31 : y135.length = ((ji27) : Int).toNat := (by rw [Ny135.out, List.length_take]; omega)
        rw [← Ny135.out] at hr31
        rw [← hy31] at hr31 hcut31
        clear hy31 hi031 hsz31 HO_5
        have HO137 := Aside0.mk hr31
        clear hr31
        replace q31 := eq_true q31
        go_wp2
        go_ret
        exact ⟨_, by first | rfl | (simp [errW_none, errW_some] <;> rfl) | (simp only [← hji27]; first | rfl | (simp [errW_none, errW_some] <;> rfl)) | (simp [*, errW_none, errW_some] <;> rfl), by (with_reducible repeat (first | apply Kd.R_alloc | apply Kd.R_drewN | apply Kd.R_drew)); exact HO137.out, by repeat (first | (with_reducible first | exact HB.out | apply below_alloc | apply pw_below_drewN | apply below_drew1) | exact HB.out)⟩
       ·rw [if_neg c29] at H
        exact absurd H (by simp)
      ·rw [if_neg c28] at H
       exact absurd H (by simp)
     ·rw [if_neg c26] at H
      have c26b0 : decide (0 < (x5_1.length : Int)) = false := decide_eq_false c26
      have c26b1 : decide (0 < x5_1.length) = false := decide_eq_false (by omega)
      clear c26
      obtain rfl := Option.some.inj H
      obtain ⟨Ao32, co32, eo32⟩ := Kd.R_slice HO_5.out
      subst eo32
      go_wp2
      go_ret
      exact ⟨_, by first | rfl | (simp [errW_none, errW_some] <;> rfl) | (simp [*, errW_none, errW_some] <;> rfl), by (with_reducible repeat (first | apply Kd.R_alloc | apply Kd.R_drewN | apply Kd.R_drew)); exact HO_5.out, by repeat (first | (with_reducible first | exact HB.out | apply below_alloc | apply pw_below_drewN | apply below_drew1) | exact HB.out)⟩
    ·replace c25 := Bool.eq_false_iff.mpr c25
     subst c25
     have H1 : (some x5_1) = some r := by rw [if_neg (show ¬ (false = true) by decide)] at H; exact H
     clear H
     have H := H1
     clear H1
     obtain rfl := Option.some.inj H
     go_wp2
     go_ret
     exact ⟨_, by first | rfl | (simp [errW_none, errW_some] <;> rfl) | (simp [*, errW_none, errW_some] <;> rfl), by (with_reducible repeat (first | apply Kd.R_alloc | apply Kd.R_drewN | apply Kd.R_drew)); exact HO_5.out, by repeat (first | (with_reducible first | exact HB.out | apply below_alloc | apply pw_below_drewN | apply below_drew1) | exact HB.out)⟩

-- IMPORT Derived.Test.YthkcghiagnddiaaDoorLines
/-! ### lines_Split: function 31 -/
def lines_Split.f (l0 : List Int) : Option (List ByteArray) := if l0.length ≤ 1000000000 then some (lSplit.f l0) else none
theorem lines_Split.calls (A0 : Option Addr) (c0 : Nat) (l0 : List Int) (r : List ByteArray) (w : World) (hr0 : Kd.C (Kd.int .u8) w A0 l0.length l0) (hc0 : l0.length ≤ c0) (h : lines_Split.f l0 = some r) :
  Calls Tryd.prog 31 #[.slice A0 l0.length c0] w fun e w' => ∃ v, e = .returned v ∧ Kd.R Kd.string 9 w' w.heap.size (fun _ => True) v r ∧ Below w.heap.size w w' := by
 unfold lines_Split.f at h
 split at h
 ·rename_i hb
  have h' := Option.some.inj h
  subst h'
  exact lSplit.calls A0 c0 l0 w hr0 hc0 hb
 ·simp at h

-- IMPORT Derived.Test.YthkcghiagnddiaaDoorChanges
/-! ### hunks_Changes: function 32 -/
def hunks_Changes.f (l0 l1 : List ByteArray) : Option (List S78) := if l0.length ≤ 1000000000 ∧ l1.length ≤ 1000000000 then some (chg.f l0 l1) else none
theorem hunks_Changes.calls (A0 : Option Addr) (c0 : Nat) (l0 : List ByteArray) (A1 : Option Addr) (c1 : Nat) (l1 : List ByteArray) (r : List S78) (w : World) (hr0 : Kd.C Kd.string w A0 l0.length l0) (hc0 : l0.length ≤ c0) (hr1 : Kd.C Kd.string w A1 l1.length l1) (hc1 : l1.length ≤ c1) (h : hunks_Changes.f l0 l1 = some r) :
  Calls Tryd.prog 32 #[.slice A0 l0.length c0, .slice A1 l1.length c1] w fun e w' => ∃ v, e = .returned v ∧ Kd.R k78 78 w' w.heap.size (fun _ => True) v r ∧ Below w.heap.size w w' := by
 unfold hunks_Changes.f at h
 split at h
 ·rename_i hb
  have h' := Option.some.inj h
  subst h'
  exact chg.calls A0 c0 l0 A1 c1 l1 w hr0 hc0 hr1 hc1 hb.1 hb.2
 ·simp at h

/-! ### stringslite_HasSuffix: function 64 -/
def stringslite_HasSuffix.f (a0 : ByteArray) (a1 : ByteArray) : Option (Bool) := if (a0.size : Int) ≥ (a1.size : Int) then (if 0 ≤ (wrap64 ((a0.size : Int) - (a1.size : Int))) then (if (wrap64 ((a0.size : Int) - (a1.size : Int))) ≤ (a0.size : Int) then (some ((a0.extract ((wrap64 ((a0.size : Int) - (a1.size : Int))) : Int).toNat a0.size).toList == a1.toList)) else (none)) else (none)) else (some false)
set_option maxHeartbeats 8000000 in
set_option maxRecDepth 100000 in
theorem stringslite_HasSuffix.calls (a0 : ByteArray) (a1 : ByteArray) (r : Bool) (w : World) (h : stringslite_HasSuffix.f a0 a1 = some r) :
  Calls Tryd.prog 64 #[.string a0, .string a1] w fun e w' => e = .returned (.bool r) ∧ Drawn0 w w' := by
 have H : (if (a0.size : Int) ≥ (a1.size : Int) then (if 0 ≤ (wrap64 ((a0.size : Int) - (a1.size : Int))) then (if (wrap64 ((a0.size : Int) - (a1.size : Int))) ≤ (a0.size : Int) then (some ((a0.extract ((wrap64 ((a0.size : Int) - (a1.size : Int))) : Int).toNat a0.size).toList == a1.toList)) else (none)) else (none)) else (some false)) = some r := h
 clear h
 by_cases c3 : (a0.size : Int) ≥ (a1.size : Int)
 ·rw [if_pos c3] at H
  have c3b0 : decide ((a1.size : Int) ≤ (a0.size : Int)) = true := decide_eq_true c3
  have c3b1 : decide (a1.size ≤ a0.size) = true := decide_eq_true (Int.ofNat_le.mp c3)
  clear c3
  obtain ⟨ji4, hji4⟩ : ∃ j_ : Int, (wrap64 ((a0.size : Int) - (a1.size : Int))) = j_ := ⟨_, rfl⟩
  replace H : (if 0 ≤ (ji4) then (if (ji4) ≤ (a0.size : Int) then (some ((a0.extract ((ji4) : Int).toNat a0.size).toList == a1.toList)) else (none)) else (none)) = some r := by first | (rw [hji4] at H; exact H) | (simp only [hji4] at H ⊢; exact H)
  have hji4w : (IntKind.i64.wrap ((a0.size : Int) - (a1.size : Int))) = ji4 := (i64_w _).trans hji4
  by_cases c5 : 0 ≤ (ji4)
  ·rw [if_pos c5] at H
   have c5b0 := eq_true c5
   have c5b1 : decide (0 ≤ (ji4)) = true := decide_eq_true c5
   clear c5
   by_cases c6 : (ji4) ≤ (a0.size : Int)
   ·rw [if_pos c6] at H
    have c6b0 := eq_true c6
    have c6b1 : decide ((ji4) ≤ (a0.size : Int)) = true := decide_eq_true c6
    clear c6
    obtain rfl := Option.some.inj H
    go_enter Tryd.func64, Tryd.ntmps64
    go_wp2
    go_ret
    exact ⟨by first | rfl | (simp; done) | (simp only [← hji4] <;> (first | rfl | simp)) | (simp [*]; done), by repeat (first | exact Drawn0.refl _ | apply Drawn0.step)⟩
   ·rw [if_neg c6] at H
    exact absurd H (by simp)
  ·rw [if_neg c5] at H
   exact absurd H (by simp)
 ·rw [if_neg c3] at H
  have c3b0 : decide ((a1.size : Int) ≤ (a0.size : Int)) = false := decide_eq_false c3
  have c3b1 : decide (a1.size ≤ a0.size) = false := decide_eq_false (fun h => c3 (Int.ofNat_le.mpr h))
  clear c3
  obtain rfl := Option.some.inj H
  go_enter Tryd.func64, Tryd.ntmps64
  go_wp2
  go_ret
  exact ⟨by first | rfl | (simp; done) | (simp [*]; done), by repeat (first | exact Drawn0.refl _ | apply Drawn0.step)⟩

/-! ### stringslite_CutSuffix: function 88 -/
def stringslite_CutSuffix.f (a0 : ByteArray) (a1 : ByteArray) : Option (ByteArray × Bool) := (stringslite_HasSuffix.f a0 a1).bind fun t138 => (if t138 = true then (if 0 ≤ (wrap64 ((a0.size : Int) - (a1.size : Int))) then (if (wrap64 ((a0.size : Int) - (a1.size : Int))) ≤ (a0.size : Int) then (some (a0.extract 0 ((wrap64 ((a0.size : Int) - (a1.size : Int))) : Int).toNat, true)) else (none)) else (none)) else (some (a0, false)))
set_option maxHeartbeats 8000000 in
set_option maxRecDepth 100000 in
theorem stringslite_CutSuffix.calls (a0 : ByteArray) (a1 : ByteArray) (r1 : ByteArray) (r2 : Bool) (w : World) (h : stringslite_CutSuffix.f a0 a1 = some (r1, r2)) :
  Calls Tryd.prog 88 #[.string a0, .string a1] w fun e w' => e = .returned (.tuple #[.string r1, .bool r2]) ∧ Drawn0 w w' := by
 have H : ((stringslite_HasSuffix.f a0 a1).bind fun t138 => (if t138 = true then (if 0 ≤ (wrap64 ((a0.size : Int) - (a1.size : Int))) then (if (wrap64 ((a0.size : Int) - (a1.size : Int))) ≤ (a0.size : Int) then (some (a0.extract 0 ((wrap64 ((a0.size : Int) - (a1.size : Int))) : Int).toNat, true)) else (none)) else (none)) else (some (a0, false)))) = some (r1, r2) := h
 clear h
 replace H := Option.bind_eq_some_iff.mp H
 obtain ⟨t138, A30, H⟩ := H
 replace H : (if t138 = true then (if 0 ≤ (wrap64 ((a0.size : Int) - (a1.size : Int))) then (if (wrap64 ((a0.size : Int) - (a1.size : Int))) ≤ (a0.size : Int) then (some (a0.extract 0 ((wrap64 ((a0.size : Int) - (a1.size : Int))) : Int).toNat, true)) else (none)) else (none)) else (some (a0, false))) = some (r1, r2) := H
 have A3 := Aside0.mk A30
 clear A30
 by_cases c4 : t138 = true
 ·subst c4
  have H1 : (if 0 ≤ (wrap64 ((a0.size : Int) - (a1.size : Int))) then (if (wrap64 ((a0.size : Int) - (a1.size : Int))) ≤ (a0.size : Int) then (some (a0.extract 0 ((wrap64 ((a0.size : Int) - (a1.size : Int))) : Int).toNat, true)) else (none)) else (none)) = some (r1, r2) := by rw [if_pos rfl] at H; exact H
  clear H
  have H := H1
  clear H1
  obtain ⟨ji5, hji5⟩ : ∃ j_ : Int, (wrap64 ((a0.size : Int) - (a1.size : Int))) = j_ := ⟨_, rfl⟩
  replace H : (if 0 ≤ (ji5) then (if (ji5) ≤ (a0.size : Int) then (some (a0.extract 0 ((ji5) : Int).toNat, true)) else (none)) else (none)) = some (r1, r2) := by first | (rw [hji5] at H; exact H) | (simp only [hji5] at H ⊢; exact H)
  (try rw [hji5] at A3)
  have hji5w : (IntKind.i64.wrap ((a0.size : Int) - (a1.size : Int))) = ji5 := (i64_w _).trans hji5
  by_cases c6 : 0 ≤ (ji5)
  ·rw [if_pos c6] at H
   have c6b0 := eq_true c6
   have c6b1 : decide (0 ≤ (ji5)) = true := decide_eq_true c6
   clear c6
   by_cases c7 : (ji5) ≤ (a0.size : Int)
   ·rw [if_pos c7] at H
    have c7b0 := eq_true c7
    have c7b1 : decide ((ji5) ≤ (a0.size : Int)) = true := decide_eq_true c7
    clear c7
    simp only [Option.some.injEq, Prod.mk.injEq] at H
    obtain ⟨rfl, rfl⟩ := H
    go_enter Tryd.func88, Tryd.ntmps88
    go_wp2_with (first | ((with_reducible refine gate_callee (f := 64) rfl ?_); refine goesL_ (some 8) rfl rfl Tryd.func64 (by kernel_rfl) rfl #[.string a0, .string a1] rfl (by (try simp only [List.map_toArray, List.map_cons, List.map_nil]); first | done | rfl | (simp only [List.length_drop, List.length_take]; rfl)) ?_; (with_reducible refine (stringslite_HasSuffix.calls a0 a1 true _ A3.out).mono ?_); rintro e w' ⟨rfl, ⟨nd, rfl⟩⟩; refine ⟨_, rfl, ?_⟩))
    go_ret2
    exact ⟨by first | rfl | (simp; done) | (simp only [← hji5] <;> (first | rfl | simp)) | (simp [*]; done), by repeat (first | exact Drawn0.refl _ | apply Drawn0.step)⟩
   ·rw [if_neg c7] at H
    exact absurd H (by simp)
  ·rw [if_neg c6] at H
   exact absurd H (by simp)
 ·replace c4 := Bool.eq_false_iff.mpr c4
  subst c4
  have H1 : (some (a0, false)) = some (r1, r2) := by rw [if_neg (show ¬ (false = true) by decide)] at H; exact H
  clear H
  have H := H1
  clear H1
  simp only [Option.some.injEq, Prod.mk.injEq] at H
  obtain ⟨rfl, rfl⟩ := H
  go_enter Tryd.func88, Tryd.ntmps88
  go_wp2_with (first | ((with_reducible refine gate_callee (f := 64) rfl ?_); refine goesL_ (some 8) rfl rfl Tryd.func64 (by kernel_rfl) rfl #[.string a0, .string a1] rfl (by (try simp only [List.map_toArray, List.map_cons, List.map_nil]); first | done | rfl | (simp only [List.length_drop, List.length_take]; rfl)) ?_; (with_reducible refine (stringslite_HasSuffix.calls a0 a1 false _ A3.out).mono ?_); rintro e w' ⟨rfl, ⟨nd, rfl⟩⟩; refine ⟨_, rfl, ?_⟩))
  go_ret2
  exact ⟨by first | rfl | (simp; done) | (simp [*]; done), by repeat (first | exact Drawn0.refl _ | apply Drawn0.step)⟩

/-! ### strings_CutSuffix: function 77 -/
def strings_CutSuffix.f (a0 : ByteArray) (a1 : ByteArray) : Option (ByteArray × Bool) := (stringslite_CutSuffix.f a0 a1).bind fun bt139 => (some (bt139.1, bt139.2))
set_option maxHeartbeats 8000000 in
set_option maxRecDepth 100000 in
theorem strings_CutSuffix.calls (a0 : ByteArray) (a1 : ByteArray) (r1 : ByteArray) (r2 : Bool) (w : World) (h : strings_CutSuffix.f a0 a1 = some (r1, r2)) :
  Calls Tryd.prog 77 #[.string a0, .string a1] w fun e w' => e = .returned (.tuple #[.string r1, .bool r2]) ∧ Drawn0 w w' := by
 have H : ((stringslite_CutSuffix.f a0 a1).bind fun bt139 => (some (bt139.1, bt139.2))) = some (r1, r2) := h
 clear h
 replace H := Option.bind_eq_some_iff.mp H
 obtain ⟨⟨t139, t140⟩, A30, H⟩ := H
 replace H : (some (t139, t140)) = some (r1, r2) := H
 have A3 := Aside0.mk A30
 clear A30
 simp only [Option.some.injEq, Prod.mk.injEq] at H
 obtain ⟨rfl, rfl⟩ := H
 go_enter Tryd.func77, Tryd.ntmps77
 go_wp2_with (first | ((with_reducible refine gate_callee (f := 88) rfl ?_); refine goesL_ (some 8) rfl rfl Tryd.func88 (by kernel_rfl) rfl #[.string a0, .string a1] rfl (by (try simp only [List.map_toArray, List.map_cons, List.map_nil]); first | done | rfl | (simp only [List.length_drop, List.length_take]; rfl)) ?_; (with_reducible refine (stringslite_CutSuffix.calls a0 a1 t139 t140 _ A3.out).mono ?_); rintro e w' ⟨rfl, ⟨nd, rfl⟩⟩; refine ⟨_, rfl, ?_⟩))
 go_ret2
 exact ⟨by first | rfl | (simp; done) | (simp [*]; done), by repeat (first | exact Drawn0.refl _ | apply Drawn0.step)⟩

/-! ### hunks_line: function 61 -/
def hunks_line.f (a0 : Int) (a1 : ByteArray) : Option (Int × ByteArray × Bool) := (strings_CutSuffix.f a1 (⟨#[10]⟩ : ByteArray)).bind fun bt142 => (some (a0, bt142.1, !bt142.2))
set_option maxHeartbeats 8000000 in
set_option maxRecDepth 100000 in
theorem hunks_line.calls (a0 : Int) (a1 : ByteArray) (r1 : Int) (r2 : ByteArray) (r3 : Bool) (w : World) (h : hunks_line.f a0 a1 = some (r1, r2, r3)) :
  Calls Tryd.prog 61 #[.int .u8 a0, .string a1] w fun e w' => e = .returned (.agg #[.int .u8 r1, .string r2, .bool r3]) ∧ Below w.heap.size w w' := by
 have hu42 := Tryd.underlying42
 have HB := Aside0.mk (Below.refl w.heap.size w)
 have H : ((strings_CutSuffix.f a1 (⟨#[10]⟩ : ByteArray)).bind fun bt142 => (some (a0, bt142.1, !bt142.2))) = some (r1, r2, r3) := h
 clear h
 replace H := Option.bind_eq_some_iff.mp H
 obtain ⟨⟨t142, t143⟩, A30, H⟩ := H
 replace H : (some (a0, t142, !t143)) = some (r1, r2, r3) := H
 have A3 := Aside0.mk A30
 clear A30
 simp only [Option.some.injEq, Prod.mk.injEq] at H
 obtain ⟨rfl, rfl, rfl⟩ := H
 go_enter Tryd.func61, Tryd.ntmps61
 go_wp2_with (first | ((with_reducible refine gate_dst (N := 4) rfl ?_); refine box_event ?hg (N := 4) ?hd (cs := #[.int .u8 0, .string (⟨#[]⟩ : ByteArray), .bool false]) (t := 42) ?hr ?_; (case hd => rfl); (case hg => rfl); (case hr => first | (go_simp; done) | (go_simp; rfl)); intro gb141 hg w4 hbox hb; have n0_ := Aside0.mk (below_step (by repeat (first | (with_reducible first | exact HB.out | apply below_alloc | apply pw_below_drewN | apply below_drew1) | exact HB.out)) hb); have n1_ := Aside0.mk (hbox); have n2_ := Aside0.mk ((by rw [hg]; exact (below_size (by repeat (first | (with_reducible first | exact HB.out | apply below_alloc | apply pw_below_drewN | apply below_drew1) | exact HB.out))) : w.heap.size ≤ gb141)); have n3_ := Aside0.mk ((by rw [hg]; exact (below_size (by repeat (first | (with_reducible first | exact HB.out | apply below_alloc | apply pw_below_drewN | apply below_drew1) | exact HB.out))) : w.heap.size ≤ gb141)); clear HB; have HB := n0_; have BK141 := n1_; have GW141 := n2_; have GE141 := n3_; clear n0_ n1_ n2_ n3_; clear hb hbox hg) | ((with_reducible refine gate_callee (f := 77) rfl ?_); refine goesL_ (some 9) rfl rfl Tryd.func77 (by kernel_rfl) rfl #[.string a1, .string (⟨#[10]⟩ : ByteArray)] rfl (by (try simp only [List.map_toArray, List.map_cons, List.map_nil]); first | done | rfl | (simp only [List.length_drop, List.length_take]; rfl)) ?_; (with_reducible refine (strings_CutSuffix.calls a1 (⟨#[10]⟩ : ByteArray) t142 t143 _ A3.out).mono ?_); rintro e w' ⟨rfl, ⟨nd, rfl⟩⟩; refine ⟨_, rfl, ?_⟩; (try (rw [drewN_self w4]; generalize hq_ : World.drewN w4 _ = w4; have n0_ : Aside0 (w4.heap[gb141]? = some (.cells #[.int .u8 0, .string (⟨#[]⟩ : ByteArray), .bool false] 42 (0, 0))) := ⟨by rw [← hq_]; exact (by (with_reducible repeat (first | refine blk_drewN ?_ _ | refine blk_drew ?_ | refine blk_alloc ?_ _)); exact BK141.out)⟩; have n1_ : Aside0 (Below w.heap.size w w4) := ⟨by rw [← hq_]; exact (by repeat (first | (with_reducible first | exact HB.out | apply below_alloc | apply pw_below_drewN | apply below_drew1 | refine below_set ?_ GE141.out) | exact HB.out))⟩; clear BK141 HB hq_; have BK141 := n0_; have HB := n1_; clear n0_ n1_)); have hcz5_0 : w4.cell? ⟨gb141, 0, none⟩ = some (.int .u8 0) := (blk_cell BK141.out 0).trans rfl; have hcz5_1 : w4.cell? ⟨gb141, 1, none⟩ = some (.string (⟨#[]⟩ : ByteArray)) := (blk_cell BK141.out 1).trans rfl; have hcz5_2 : w4.cell? ⟨gb141, 2, none⟩ = some (.bool false) := (blk_cell BK141.out 2).trans rfl; have hfz5_0 := blk_frozen BK141.out 0; have hfz5_1 := blk_frozen BK141.out 1; have hfz5_2 := blk_frozen BK141.out 2))
 refine bodyPost_ret (results_cell_row rfl _ _ gb141 42 #[.int .u8 a0, .string t142, .bool (!t143)] (0, 0) _ rfl (by (with_reducible repeat (first | refine blk_drewN ?_ _ | refine blk_drew ?_ | refine blk_alloc ?_ _)); refine blk_put (cs := #[.int .u8 a0, .string t142, .bool false]) ?_ 2 _ rfl; (with_reducible repeat (first | refine blk_drewN ?_ _ | refine blk_drew ?_ | refine blk_alloc ?_ _)); refine blk_put (cs := #[.int .u8 a0, .string (⟨#[]⟩ : ByteArray), .bool false]) ?_ 1 _ rfl; (with_reducible repeat (first | refine blk_drewN ?_ _ | refine blk_drew ?_ | refine blk_alloc ?_ _)); refine blk_put (cs := #[.int .u8 0, .string (⟨#[]⟩ : ByteArray), .bool false]) ?_ 0 _ rfl; (with_reducible repeat (first | refine blk_drewN ?_ _ | refine blk_drew ?_ | refine blk_alloc ?_ _)); exact BK141.out) Tryd.underlying42 rfl (by kernel_rfl)) rfl ?_
 exact ⟨by first | rfl | (simp [errW_none, errW_some] <;> rfl) | (simp [*, errW_none, errW_some] <;> rfl), by repeat (first | (with_reducible first | exact HB.out | apply below_alloc | apply pw_below_drewN | apply below_drew1 | refine below_set ?_ GE141.out) | exact HB.out)⟩

/-! ### hunks_count: function 62 -/
def hunks_count.l0 : Nat → Int → Int → List (S42) → Int → Int → Option (Int)
 | 0, _, _, _, _, _ => none
 | k + 1, x1, x5, x8, x9, x10 => if x10 < x9 then (if 0 ≤ x10 then (if x10 < (x8.length : Int) then (if ((rd_T42 x8 x10).f0) = x1 then (hunks_count.l0 k x1 (wrap64 (x5 + 1)) x8 x9 (wrap64 (x10 + 1))) else (hunks_count.l0 k x1 x5 x8 x9 (wrap64 (x10 + 1)))) else (none)) else (none)) else (some x5)
def hunks_count.f (k : Nat) (l0 : List (S42)) (a1 : Int) : Option (Int) := hunks_count.l0 k a1 0 l0 (l0.length : Int) 0
theorem hunks_count.mono_l : ∀ k, (∀ y0 y1 y2 y3 y4, LeO (hunks_count.l0 k y0 y1 y2 y3 y4) (hunks_count.l0 (k + 1) y0 y1 y2 y3 y4))
 | 0 => fun _ _ _ _ _ r h => by simp [hunks_count.l0] at h
 | k + 1 => by
  have ih0 := hunks_count.mono_l k
  ·intro y0 y1 y2 y3 y4
   unfold hunks_count.l0
   repeat' first
   | (with_reducible exact ih0 _ _ _ _ _)
   | (with_reducible exact LeO.refl _)
   | (with_reducible exact LeO.none _)
   | (with_reducible refine LeO.ite ?_ ?_)
   | (with_reducible refine LeO.bind ?_ (fun _ => ?_))
   | exact ih0 _ _ _ _ _
   | exact LeO.none _
   | refine LeO.ite ?_ ?_
   | refine LeO.bind ?_ (fun _ => ?_)
theorem hunks_count.mono : ∀ a0 a1 k, LeO (hunks_count.f k a0 a1) (hunks_count.f (k + 1) a0 a1) := by
 intro a0 a1 k
 have ih0 := hunks_count.mono_l k
 unfold hunks_count.f
 repeat' first
   | (with_reducible exact ih0 _ _ _ _ _)
   | (with_reducible exact LeO.refl _)
   | (with_reducible exact LeO.none _)
   | (with_reducible refine LeO.ite ?_ ?_)
   | (with_reducible refine LeO.bind ?_ (fun _ => ?_))
   | exact ih0 _ _ _ _ _
   | exact LeO.none _
   | refine LeO.ite ?_ ?_
   | refine LeO.bind ?_ (fun _ => ?_)
set_option maxHeartbeats 8000000 in
set_option maxRecDepth 100000 in
theorem hunks_count.calls (k : Nat) (A0 : Option Addr) (c0 : Nat) (l0 : List (S42)) (a1 : Int) (r : Int) (w : World) (hr0 : Kd.C k42 w A0 l0.length l0) (hc0 : l0.length ≤ c0) (h : hunks_count.f k l0 a1 = some r) :
  Calls Tryd.prog 62 #[.slice A0 l0.length c0, .int .u8 a1] w fun e w' => e = .returned (.int .i64 r) ∧ Below w.heap.size w w' := by
 have hu42 := Tryd.underlying42
 have HR0 := Aside0.mk hr0
 have HC0 := Aside0.mk hc0
 clear hr0 hc0
 have HB := Aside0.mk (Below.refl w.heap.size w)
 have H : (hunks_count.l0 k a1 0 l0 (l0.length : Int) 0) = some r := h
 clear h
 have H' := Aside0.mk H
 clear H
 go_enter Tryd.func62, Tryd.ntmps62
 go_wp2
 go_loopg [5, 10] k (fun kq v5 v10 w' => ∃ (x5_1 : Int) (x10_1 : Int), v5 = .int .i64 x5_1 ∧ v10 = .int .i64 x10_1 ∧ Aside0 (hunks_count.l0 kq a1 x5_1 l0 (l0.length : Int) x10_1 = some r) ∧ Aside0 (kq ≤ k) ∧ Aside0 (Below w.heap.size w w'))
 case atStart => exact ⟨(0), (0), (by first | rfl | (simp; done) | (simp [*]; done)), (by first | rfl | (simp; done) | (simp [*]; done)), H', ⟨Nat.le_refl _⟩, ⟨by repeat (first | (with_reducible first | exact HB.out | apply below_alloc | apply pw_below_drewN | apply below_drew1) | exact HB.out)⟩⟩
 case round =>
  clear H'
  try clear p2
  obtain ⟨x5_1, x10_1, rfl, rfl, HA, HK1, HB⟩ := hrel
  cases gk with
  | zero => exact absurd HA.out (by simp [hunks_count.l0])
  | succ k1 =>
   have H := HA.out
   clear HA
   simp only [hunks_count.l0] at H
   by_cases c3 : x10_1 < (l0.length : Int)
   ·rw [if_pos c3] at H
    have c3b0 : decide (x10_1 < (l0.length : Int)) = true := decide_eq_true c3
    clear c3
    by_cases c4 : 0 ≤ x10_1
    ·rw [if_pos c4] at H
     have c4b0 : decide (0 ≤ x10_1) = true := decide_eq_true c4
     clear c4
     by_cases c5 : x10_1 < (l0.length : Int)
     ·rw [if_pos c5] at H
      have c5b0 : decide (x10_1 < (l0.length : Int)) = true := decide_eq_true c5
      clear c5
      by_cases c6 : ((rd_T42 l0 x10_1).f0) = a1
      ·rw [if_pos c6] at H
       have c6b0 : (((rd_T42 l0 x10_1).f0) == a1) = true := beq_iff_eq.mpr c6
       have c6b1 : (((rd_T42 l0 x10_1).f0) != a1) = false := bne_eq_false_iff_eq.mpr c6
       clear c6
       have H' := Aside0.mk H
       clear H
       have p144 : 0 ≤ (x10_1 : Int) := of_decide_eq_true (by first | (with_reducible assumption) | assumption)
       have q144 : x10_1 < (l0.length : Int) := of_decide_eq_true (by first | (with_reducible assumption) | assumption)
       obtain ⟨ad144, e144, hx144_0, hx144_1, hx144_2⟩ := at_T42 HR0.out x10_1 p144 q144
       cases e144
       replace hx144_0 := (HB.out.cell (World.block_lt_of_cell? w _ hx144_0)).trans hx144_0
       replace hx144_1 := (HB.out.cell (World.block_lt_of_cell? w _ hx144_1)).trans hx144_1
       replace hx144_2 := (HB.out.cell (World.block_lt_of_cell? w _ hx144_2)).trans hx144_2
       replace p144 := eq_true p144
       replace q144 := eq_true q144
       go_wp2_with (first | ((with_reducible refine gate_dst (N := 7) rfl ?_); refine box_event ?hg (N := 7) ?hd (cs := #[.int .u8 0, .string (⟨#[]⟩ : ByteArray), .bool false]) (t := 42) ?hr ?_; (case hd => rfl); (case hg => rfl); (case hr => first | (go_simp; done) | (go_simp; rfl)); intro gb145 hg w7 hbox hb; have n0_ := Aside0.mk (below_step (by repeat (first | (with_reducible first | exact HB.out | apply below_alloc | apply pw_below_drewN | apply below_drew1) | exact HB.out)) hb); have n1_ := Aside0.mk (hbox); have n2_ := Aside0.mk ((by rw [hg]; exact (below_size (by repeat (first | (with_reducible first | exact HB.out | apply below_alloc | apply pw_below_drewN | apply below_drew1) | exact HB.out))) : w.heap.size ≤ gb145)); have n3_ := Aside0.mk ((by rw [hg]; exact (below_size (by repeat (first | (with_reducible first | exact HB.out | apply below_alloc | apply pw_below_drewN | apply below_drew1) | exact HB.out))) : w.heap.size ≤ gb145)); clear HB; have HB := n0_; have BK145 := n1_; have GW145 := n2_; have GE145 := n3_; clear n0_ n1_ n2_ n3_; clear hb hbox hg; have hcz8_0 : w7.cell? ⟨gb145, 0, none⟩ = some (.int .u8 0) := (blk_cell BK145.out 0).trans rfl; have hcz8_1 : w7.cell? ⟨gb145, 1, none⟩ = some (.string (⟨#[]⟩ : ByteArray)) := (blk_cell BK145.out 1).trans rfl; have hcz8_2 : w7.cell? ⟨gb145, 2, none⟩ = some (.bool false) := (blk_cell BK145.out 2).trans rfl; have hfz8_0 := blk_frozen BK145.out 0; have hfz8_1 := blk_frozen BK145.out 1; have hfz8_2 := blk_frozen BK145.out 2))
       go_roundg k1
       case measure => have := HK1.out; omega
       case rel => exact ⟨(wrap64 (x5_1 + 1)), (wrap64 (x10_1 + 1)), (by first | rfl | (simp; done) | (simp [*]; done)), (by first | rfl | (simp; done) | (simp [*]; done)), H', ⟨by have := HK1.out; omega⟩, ⟨by repeat (first | (with_reducible first | exact HB.out | apply below_alloc | apply pw_below_drewN | apply below_drew1 | refine below_set ?_ GE145.out) | exact HB.out)⟩⟩
      ·rw [if_neg c6] at H
       have c6b0 : (((rd_T42 l0 x10_1).f0) == a1) = false := beq_eq_false_iff_ne.mpr c6
       have c6b1 : (((rd_T42 l0 x10_1).f0) != a1) = true := bne_iff_ne.mpr c6
       have H' := Aside0.mk H
       clear H
       have p144 : 0 ≤ (x10_1 : Int) := of_decide_eq_true (by first | (with_reducible assumption) | assumption)
       have q144 : x10_1 < (l0.length : Int) := of_decide_eq_true (by first | (with_reducible assumption) | assumption)
       obtain ⟨ad144, e144, hx144_0, hx144_1, hx144_2⟩ := at_T42 HR0.out x10_1 p144 q144
       cases e144
       replace hx144_0 := (HB.out.cell (World.block_lt_of_cell? w _ hx144_0)).trans hx144_0
       replace hx144_1 := (HB.out.cell (World.block_lt_of_cell? w _ hx144_1)).trans hx144_1
       replace hx144_2 := (HB.out.cell (World.block_lt_of_cell? w _ hx144_2)).trans hx144_2
       replace p144 := eq_true p144
       replace q144 := eq_true q144
       go_wp2_with (first | ((with_reducible refine gate_dst (N := 7) rfl ?_); refine box_event ?hg (N := 7) ?hd (cs := #[.int .u8 0, .string (⟨#[]⟩ : ByteArray), .bool false]) (t := 42) ?hr ?_; (case hd => rfl); (case hg => rfl); (case hr => first | (go_simp; done) | (go_simp; rfl)); intro gb145 hg w9 hbox hb; have n0_ := Aside0.mk (below_step (by repeat (first | (with_reducible first | exact HB.out | apply below_alloc | apply pw_below_drewN | apply below_drew1) | exact HB.out)) hb); have n1_ := Aside0.mk (hbox); have n2_ := Aside0.mk ((by rw [hg]; exact (below_size (by repeat (first | (with_reducible first | exact HB.out | apply below_alloc | apply pw_below_drewN | apply below_drew1) | exact HB.out))) : w.heap.size ≤ gb145)); have n3_ := Aside0.mk ((by rw [hg]; exact (below_size (by repeat (first | (with_reducible first | exact HB.out | apply below_alloc | apply pw_below_drewN | apply below_drew1) | exact HB.out))) : w.heap.size ≤ gb145)); clear HB; have HB := n0_; have BK145 := n1_; have GW145 := n2_; have GE145 := n3_; clear n0_ n1_ n2_ n3_; clear hb hbox hg; have hcz10_0 : w9.cell? ⟨gb145, 0, none⟩ = some (.int .u8 0) := (blk_cell BK145.out 0).trans rfl; have hcz10_1 : w9.cell? ⟨gb145, 1, none⟩ = some (.string (⟨#[]⟩ : ByteArray)) := (blk_cell BK145.out 1).trans rfl; have hcz10_2 : w9.cell? ⟨gb145, 2, none⟩ = some (.bool false) := (blk_cell BK145.out 2).trans rfl; have hfz10_0 := blk_frozen BK145.out 0; have hfz10_1 := blk_frozen BK145.out 1; have hfz10_2 := blk_frozen BK145.out 2))
       go_roundg k1
       case measure => have := HK1.out; omega
       case rel => exact ⟨(x5_1), (wrap64 (x10_1 + 1)), (by first | rfl | (simp; done) | (simp [*]; done)), (by first | rfl | (simp; done) | (simp [*]; done)), H', ⟨by have := HK1.out; omega⟩, ⟨by repeat (first | (with_reducible first | exact HB.out | apply below_alloc | apply pw_below_drewN | apply below_drew1 | refine below_set ?_ GE145.out) | exact HB.out)⟩⟩
     ·rw [if_neg c5] at H
      exact absurd H (by simp)
    ·rw [if_neg c4] at H
     exact absurd H (by simp)
   ·rw [if_neg c3] at H
    have c3b0 : decide (x10_1 < (l0.length : Int)) = false := decide_eq_false c3
    clear c3
    obtain rfl := Option.some.inj H
    go_wp2
    go_ret
    exact ⟨by first | rfl | (simp [errW_none, errW_some] <;> rfl) | (simp [*, errW_none, errW_some] <;> rfl), by repeat (first | (with_reducible first | exact HB.out | apply below_alloc | apply pw_below_drewN | apply below_drew1) | exact HB.out)⟩

-- IMPORT Derived.Test.YthkcghiagnddiaaDoorTable
-- IMPORT Derived.BigRegion
-- IMPORT Derived.RegionTactic
/-! ### hunks_hunk: function 33 -/
/-- Lines with a sign, behind others. -/
def hunks_hunk.put (s : Int) : List ByteArray → List S42 → Option (List S42)
 | [], acc => some acc
 | x :: t, acc => (hunks_line.f s x).bind fun l => if acc.length ≤ 1000000000 then hunks_hunk.put s t (acc ++ [(⟨l.1, l.2.1, l.2.2⟩ : S42)]) else none
/-- The hunk under way. -/
structure HunkSt (w : World) (B gH : Nat) (a b c d : Int) (vl : Value) (ls : List S42) : Prop where
 bH : w.heap[gH]? = some (.cells #[.int .i64 a, .int .i64 b, .int .i64 c, .int .i64 d, vl] 26 (0, 0))
 row : Kd.R k42 42 w B (fun _ => True) vl ls
theorem HunkSt.below {w w' : World} {B gH : Nat} {a b c d : Int} {vl : Value} {ls : List S42} (h : HunkSt w B gH a b c d vl ls) (hb : Below w.heap.size w w') : HunkSt w' B gH a b c d vl ls := ⟨(hb.block _ (blk_lt h.bH)).trans h.bH, Kd.R_below h.row hb⟩
/-- What is no row of lines stays, but for one block. -/
def hunks_hunk.Kp (g : Nat) (w w' : World) : Prop := ∀ k cells t, w.heap[k]? = some (.cells cells t (0, 0)) → t ≠ 42 → k ≠ g → w'.heap[k]? = w.heap[k]?
theorem hunks_hunk.Kp.refl (g : Nat) (w : World) : hunks_hunk.Kp g w w := fun _ _ _ _ _ _ => rfl
theorem hunks_hunk.Kp.trans {g : Nat} {w1 w2 w3 : World} (h1 : hunks_hunk.Kp g w1 w2) (h2 : hunks_hunk.Kp g w2 w3) : hunks_hunk.Kp g w1 w3 := fun k cells t hk ht hg =>
 (h2 k cells t ((h1 k cells t hk ht hg).trans hk) ht hg).trans (h1 k cells t hk ht hg)
theorem hunks_hunk.Kp.of_below {g : Nat} {w w' : World} (h : Below w.heap.size w w') : hunks_hunk.Kp g w w' := fun _ _ _ hk _ _ => h.block _ (blk_lt hk)
theorem hunks_hunk.Kp.of_grown {g : Nat} {w w' : World} {base : Nat} {ok : Nat → Prop} {v : Value} {xs : List S42} (hR : Kd.R k42 42 w base ok v xs) (h : w.grownBy w' v.ownBlock) : hunks_hunk.Kp g w w' := fun _ _ _ hk ht _ => h.block _ (blk_lt hk) (Kd.R_ne hR hk (Ne.symm ht))
theorem hunks_hunk.Kp.set (g j : Nat) (w : World) (v : Value) : hunks_hunk.Kp g w (w.setCell ⟨g, j, none⟩ v) := fun _ _ _ _ _ hg => Below.heap_setCell _ _ _ _ hg
set_option maxHeartbeats 4000000 in
set_option maxRecDepth 1000000 in
theorem hunks_hunk.put_calls (s : Int) (A : Option Addr) (cp : Nat) (l : List ByteArray) (w : World) (B gH : Nat) (a b c d : Int) (vl : Value) (ls r : List S42) (hr : Kd.C Kd.string w A l.length l) (hc : l.length ≤ cp) (hH : HunkSt w B gH a b c d vl ls) (hB : B ≤ gH) (hl : ls.length + l.length ≤ 1000000000) (hfar : ∀ ad, A = some ad → 0 < l.length → ad.block < B) (h : hunks_hunk.put s l ls = some r) :
  Calls Tryd.prog 60 #[.int .u8 s, .slice A l.length cp, .pointer (some ⟨gH, 0, none⟩)] w fun e w' => (∃ v, e = .returned v) ∧ ∃ vl', HunkSt w' B gH a b c d vl' r ∧ Below B w w' ∧ Aside0 (hunks_hunk.Kp gH w w') := by
 have HR := Aside0.mk hr
 have H := Aside0.mk h
 have HS := Aside0.mk hH
 clear hr h hH
 go_enter Tryd.func60, Tryd.ntmps60
 go_wp2_with fail
 go_loopw [9] (fun v9 wr => ∃ (i : Nat) (vo : Value) (acc : List S42), v9 = .int .i64 i ∧ i ≤ l.length ∧ Aside0 (HunkSt wr B gH a b c d vo acc) ∧ Aside0 (Below B w wr) ∧ Aside0 (hunks_hunk.Kp gH w wr) ∧ Aside0 (hunks_hunk.put s (l.drop i) acc = some r)) (fun v9 _ => l.length - (intOf v9).toNat)
 case atStart => exact ⟨0, vl, ls, rfl, by omega, HS, ⟨Below.refl _ _⟩, ⟨hunks_hunk.Kp.refl _ _⟩, ⟨by simpa using H.out⟩⟩
 case round =>
  clear HS H
  obtain ⟨i, vo, acc, rfl, hi, HS, HB, HK, H⟩ := hrel
  by_cases hlt : i < l.length
  ·obtain ⟨ad, e, hx⟩ := Kd.at_string HR.out (i : Int) (by omega) (by omega)
   cases e
   have hx := (HB.out.cell (hfar ad rfl (by omega) |> fun h => (by rw [add_block]; exact h))).trans hx
   rw [Int.toNat_natCast] at hx
   have hdr : l.drop i = rdOf ByteArray.empty l i :: l.drop (i + 1) := by
    rw [List.drop_eq_getElem_cons hlt]
    congr 1
    simp [rdOf, List.getD_eq_getElem?_getD, List.getElem?_eq_getElem hlt]
   have hP := H.out
   rw [hdr] at hP
   simp only [hunks_hunk.put] at hP
   generalize rdOf ByteArray.empty l i = x at *
   obtain ⟨⟨x1, x2, x3⟩, hL, hP⟩ := Option.bind_eq_some_iff.1 hP
   have hlen : acc.length ≤ 1000000000 := by
    rcases Nat.lt_or_ge 1000000000 acc.length with h | h
    ·rw [if_neg (by omega)] at hP
     cases hP
    ·exact h
   rw [if_pos hlen] at hP
   have HL := Aside0.mk hL
   have HP := Aside0.mk hP
   clear hP hL hdr H
   have c4 := blk_cell HS.out.bH 4
   have f4 := blk_frozen HS.out.bH 4
   simp only [List.getElem?_toArray] at c4
   have lH := blk_lt HS.out.bH
   have hlt' : (i : Int) < (l.length : Int) := by omega
   have ty24 : Tryd.prog.underlying 24 = some (.slice 42) := by kernel_rfl
   have i42 : (Tryd.prog.info? 42).map (fun i => (i.zero, i.size, i.bytes)) = some (some (.agg #[.int .u8 0, .string ⟨#[]⟩, .bool false]), 3, 32) := by kernel_rfl
   have hsz : B ≤ wr.heap.size := by omega
   go_wp2_with fail
   go_region_law (first | (go_simp; go_at_call 61; go_loud (refine (hunks_line.calls s x x1 x2 x3 _ HL.out).mono ?_; rintro e w5 ⟨rfl, hb5⟩; replace hb5 := (show Below wr.heap.size wr wr.drew from pw_below_drewN (Below.refl _ wr) 1).trans hb5; have c4' := (hb5.cell (p := ⟨gH, 4, none⟩) lH).trans c4; have f4' := (frozen_below hb5 (a := ⟨gH, 4, none⟩) lH).trans f4; have HR5 := Kd.R_below HS.out.row hb5; have lH5 := Nat.lt_of_lt_of_le lH hb5.size; have bH5 := (hb5.block gH lH).trans HS.out.bH)) | (go_loud (refine Kd.R_append_step k42 (w0 := wr) B (by rfl) (.tmp 14) (.tmp 18) 24 42 (.agg #[.int .u8 0, .string ⟨#[]⟩, .bool false]) 32 (by rfl) ty24 i42 rfl (by decide) (by omega) vo acc ⟨x1, x2, x3⟩ [.int .u8 x1, .string x2, .bool x3] (fun _ => True) (fun _ => False) (by simp [Act.eval, Act.put]) (by simp [Act.eval, Act.put]) (k42_mkM _ _ _ ⟨x1, x2, x3⟩) (fun _ hk => hk.elim) (fun _ _ => trivial) HR5 (hb5.mono hsz) (by have := hb5.size; omega) (by omega) ?_; intro v1 w6 hR6 hb6 hg6 _; obtain ⟨A6, c6, rfl, _, _⟩ := Kd.R_reads hR6; have bH6 := (hg6.block gH (blk_lt bH5) (Kd.R_ne HR5 bH5 (by decide))).trans bH5; have c46 := blk_cell bH6 4; have f46 := blk_frozen bH6 4; simp only [List.getElem?_toArray] at c46)))
   all_goals
    rw [List.length_append, List.length_singleton] at hR6
    have hS6 : HunkSt (w6.setCell ⟨gH, 4, none⟩ (.slice A6 (acc.length + 1) c6)) B gH a b c d (.slice A6 (acc.length + 1) c6) (acc ++ [(⟨x1, x2, x3⟩ : S42)]) := ⟨blk_set bH6 4 _, Kd.R_set hR6 bH6 (by decide) 4 _⟩
    have HS6 := Aside0.mk hS6
    have HB6 := Aside0.mk (show Below B w (w6.setCell ⟨gH, 4, none⟩ (.slice A6 (acc.length + 1) c6)) from (HB.out.trans hb6).setCell hB _)
    have HK6 := Aside0.mk (HK.out.trans ((hunks_hunk.Kp.of_below (g := gH) hb5).trans ((hunks_hunk.Kp.of_grown (g := gH) HR5 hg6).trans (hunks_hunk.Kp.set gH 4 w6 (.slice A6 (acc.length + 1) c6)))))
    clear hS6 hR6 bH6 bH5 HR5 hb5 hb6 hg6 c4 f4 c4' f4' c46 f46
    go_wp2_with fail
    go_roundw
    case rel => exact ⟨i + 1, _, _, by go_num, by omega, HS6, HB6, HK6, HP⟩
    case measure => simp [intOf]; omega
  ·have hE := H.out
   rw [List.drop_eq_nil_of_le (by omega)] at hE
   have hE2 : acc = r := Option.some.inj hE
   subst hE2
   go_wp2_with fail
   refine bodyPost_end (results_list (rs := []) (vs := []) rfl (by simp) .nil) rfl ?_
   exact ⟨⟨_, rfl⟩, _, HS.out, HB.out, HK⟩
def hunks_hunk.putB (s : Int) (x : List ByteArray) (acc : List S42) : Option (List S42) := if acc.length + x.length ≤ 1000000000 then hunks_hunk.put s x acc else none
def hunks_hunk.cutB (l : List ByteArray) (i j : Int) : Option (List ByteArray) := if 0 ≤ i ∧ i ≤ j ∧ j ≤ l.length then some ((l.take j.toNat).drop i.toNat) else none
def hunks_hunk.okC (c : S78) : Prop := (0 ≤ c.f0 ∧ c.f0 ≤ 1000000000) ∧ (0 ≤ c.f1 ∧ c.f1 ≤ 1000000000) ∧ (0 ≤ c.f2 ∧ c.f2 ≤ 1000000000) ∧ (0 ≤ c.f3 ∧ c.f3 ≤ 1000000000)
instance (c : S78) : Decidable (hunks_hunk.okC c) := by unfold hunks_hunk.okC; infer_instance
def hunks_hunk.loop (a b : List ByteArray) : List S78 → Int → List S42 → Option (Int × List S42)
 | [], i, acc => some (i, acc)
 | c :: t, i, acc => if hunks_hunk.okC c then (hunks_hunk.cutB a i c.f0).bind fun x => (hunks_hunk.putB 32 x acc).bind fun acc1 => (hunks_hunk.cutB a c.f0 (c.f0 + c.f1)).bind fun y => (hunks_hunk.putB 45 y acc1).bind fun acc2 => (hunks_hunk.cutB b c.f2 (c.f2 + c.f3)).bind fun z => (hunks_hunk.putB 43 z acc2).bind fun acc3 => hunks_hunk.loop a b t (c.f0 + c.f1) acc3 else none
def hunks_hunk.lead (l : List S78) (c : Int) : Int := min c (rd_T78 l 0).f0
def hunks_hunk.f (k : Nat) (a b : List ByteArray) (l : List S78) (c : Int) : Option (Int × Int × Int × Int × List S42) :=
 if 0 < l.length ∧ l.length ≤ 1000000000 ∧ a.length ≤ 1000000000 ∧ b.length ≤ 1000000000 ∧ 0 ≤ c ∧ c ≤ 1000000000 ∧ hunks_hunk.okC (rd_T78 l 0) then
  (hunks_hunk.loop a b l ((rd_T78 l 0).f0 - hunks_hunk.lead l c) []).bind fun r => (hunks_hunk.cutB a r.1 (min (r.1 + c) a.length)).bind fun x => (hunks_hunk.putB 32 x r.2).bind fun ls =>
   (hunks_count.f k ls 43).bind fun n => (hunks_count.f k ls 45).bind fun m => some ((rd_T78 l 0).f0 - hunks_hunk.lead l c, wrap64 (ls.length - n), (rd_T78 l 0).f2 - hunks_hunk.lead l c, wrap64 (ls.length - m), ls)
 else none
theorem hunks_hunk.mono : ∀ a0 l1 l2 c k, LeO (hunks_hunk.f k a0 l1 l2 c) (hunks_hunk.f (k + 1) a0 l1 l2 c) := by
 intro a0 l1 l2 c k
 unfold hunks_hunk.f
 refine LeO.ite ?_ (LeO.refl _)
 refine LeO.bind (LeO.refl _) fun r => LeO.bind (LeO.refl _) fun x => LeO.bind (LeO.refl _) fun ls => ?_
 exact LeO.bind (hunks_count.mono _ _ _) fun n => LeO.bind (hunks_count.mono _ _ _) fun m => LeO.refl _
theorem hunks_hunk.cut_str (A0 : Option Addr) (c0 : Nat) (l0 : List ByteArray) (w : World) (hr : Kd.C Kd.string w A0 l0.length l0) (hc : l0.length ≤ c0) (i j : Int) (x : List ByteArray) (h : hunks_hunk.cutB l0 i j = some x) :
  ∃ A' c', (∀ W : World, (Instr.slice 73 (.slice A0 l0.length c0) (some (.int .i64 i)) (some (.int .i64 j)) none).run Tryd.prog W = .ok (.slice A' x.length c') W) ∧ Kd.C Kd.string w A' x.length x ∧ x.length ≤ c' ∧ x.length ≤ l0.length ∧ ∀ ad, A' = some ad → 0 < x.length → ad.block < w.heap.size := by
 unfold hunks_hunk.cutB at h
 split at h
 ·rename_i hb
  obtain ⟨h1, h2, h3⟩ := hb
  have h' := Option.some.inj h
  subst h'
  have i9 : (Tryd.prog.info? 9).map (fun i => (i.zero, i.size, i.bytes)) = some (some (.string ⟨#[]⟩), 1, 16) := by kernel_rfl
  obtain ⟨ti, hi9, hti⟩ := Option.map_eq_some_iff.1 i9
  have hsz9 : ti.size = 1 := congrArg (fun x => x.2.1) hti
  have u73 : Tryd.prog.underlying 73 = some (.slice 9) := by kernel_rfl
  have hl : ((l0.take j.toNat).drop i.toNat).length = j.toNat - i.toNat := by rw [List.length_drop, List.length_take]; omega
  have hC := Kd.C_mid (lo := i.toNat) (hi := j.toNat) hr (by omega) (by omega) hc
  have hcut := cut_mid (P := Tryd.prog) 73 9 .i64 .i64 u73 hi9 1 hsz9 A0 l0.length c0 i j h1 h2 h3 hc
  rw [← hl] at hcut
  refine ⟨_, _, hcut, hC, by rw [hl]; omega, by rw [hl]; omega, fun ad he hp => ?_⟩
  obtain ⟨ad', e', hcell⟩ := hC.2.2 hp
  have e2 := he.symm.trans e'
  injection e2 with e2
  subst e2
  obtain ⟨cs, h4, h5, h6⟩ := hcell 0 _ (List.getElem?_eq_getElem hp)
  obtain ⟨v, hv⟩ : ∃ v, cs[0]? = some v := ⟨cs[0]'(by rw [h4]; show 0 < 1; omega), List.getElem?_eq_getElem _⟩
  have := World.block_lt_of_cell? w _ (h6 0 v hv)
  rwa [add_block] at this
 ·cases h
set_option maxHeartbeats 4000000 in
set_option maxRecDepth 1000000 in
theorem hunks_hunk.calls (k : Nat) (A0 : Option Addr) (c0 : Nat) (l0 : List ByteArray) (A1 : Option Addr) (c1 : Nat) (l1 : List ByteArray) (A2 : Option Addr) (c2 : Nat) (l2 : List S78) (a3 : Int) (r1 r2 r3 r4 : Int) (r5 : List S42) (w : World) (hr0 : Kd.C Kd.string w A0 l0.length l0) (hc0 : l0.length ≤ c0) (hr1 : Kd.C Kd.string w A1 l1.length l1) (hc1 : l1.length ≤ c1) (hr2 : Kd.C k78 w A2 l2.length l2) (hc2 : l2.length ≤ c2) (h : hunks_hunk.f k l0 l1 l2 a3 = some (r1, r2, r3, r4, r5)) :
  Calls Tryd.prog 33 #[.slice A0 l0.length c0, .slice A1 l1.length c1, .slice A2 l2.length c2, .int .i64 a3] w fun e w' => ∃ v4_ : Value, e = .returned (.agg #[.int .i64 r1, .int .i64 r2, .int .i64 r3, .int .i64 r4, v4_]) ∧ Kd.R k42 42 w' w.heap.size (fun _ => True) v4_ r5 ∧ Below w.heap.size w w' := by
 unfold hunks_hunk.f at h
 split at h
 case isFalse => cases h
 rename_i hg
 obtain ⟨g1, g2, g3, g4, g5, g6, g7⟩ := hg
 obtain ⟨⟨iF, lsF⟩, hL, h⟩ := Option.bind_eq_some_iff.1 h
 obtain ⟨xF, hX, h⟩ := Option.bind_eq_some_iff.1 h
 obtain ⟨ls, hP, h⟩ := Option.bind_eq_some_iff.1 h
 obtain ⟨n, hn, h⟩ := Option.bind_eq_some_iff.1 h
 obtain ⟨m, hm, h⟩ := Option.bind_eq_some_iff.1 h
 simp only [Option.some.injEq, Prod.mk.injEq] at h
 obtain ⟨e1, e2, e3, e4, e5⟩ := h
 subst e1 e2 e3 e4 e5
 obtain ⟨ad2, e, hx0, hx1, hx2, hx3⟩ := at_T78 hr2 0 (by omega) (by omega)
 have e2 := Aside0.mk e
 have HR0 := Aside0.mk hr0
 have HR1 := Aside0.mk hr1
 have HR2 := Aside0.mk hr2
 have HL := Aside0.mk hL
 have HX := Aside0.mk hX
 have HP := Aside0.mk hP
 have HN := Aside0.mk hn
 have HM := Aside0.mk hm
 clear e hr0 hr1 hr2 hL hX hP hn hm
 unfold hunks_hunk.lead at *
 have a0 : ad2.add ((0 : Int).toNat * 4) = ad2 := by unfold Addr.add; simp
 rw [a0] at hx0 hx1 hx2 hx3
 have lt2 := World.block_lt_of_cell? w _ hx0
 have y0 := fun o => ((below_alloc (Below.refl _ w) o).cell lt2).trans hx0
 have y2 := fun o => ((below_alloc (Below.refl _ w) o).cell (p := ⟨ad2.block, ad2.off + 2, none⟩) lt2).trans hx2
 generalize hh0 : rd_T78 l2 0 = h0 at *
 obtain ⟨⟨b01, b02⟩, ⟨b11, b12⟩, ⟨b21, b22⟩, ⟨b31, b32⟩⟩ := g7
 obtain ⟨lead, hl⟩ : ∃ lead : Int, min a3 h0.f0 = lead := ⟨_, rfl⟩
 rw [hl] at HL
 rw [hl]
 have hlb : 0 ≤ lead ∧ lead ≤ h0.f0 := by omega
 have g1I : (0 : Int) < (l2.length : Int) := by omega
 have w1 : IntKind.i64.wrap (h0.f0 - lead) = h0.f0 - lead := IntWalk.i64_in _ (by omega)
 have w2 : IntKind.i64.wrap (h0.f2 - lead) = h0.f2 - lead := IntWalk.i64_in _ (by omega)
 have e2' := e2.out
 subst e2'
 have HLD := Aside0.mk hl
 clear hl e2 hh0
 go_enter Tryd.func33, Tryd.ntmps33
 go_upto_region 2 with fail
 have hif : (if h0.f0 < a3 then h0.f0 else a3) = lead := by
  rw [← HLD.out]
  split <;> omega
 simp only [hif]
 clear hif
 have z0 := y0 (.cells #[.int .i64 0, .int .i64 0, .int .i64 0, .int .i64 0, .slice none 0 0] 26)
 have z2 := y2 (.cells #[.int .i64 0, .int .i64 0, .int .i64 0, .int .i64 0, .slice none 0 0] 26)
 have HB1 := Aside0.mk (below_alloc (Below.refl _ w) (.cells #[.int .i64 0, .int .i64 0, .int .i64 0, .int .i64 0, .slice none 0 0] 26))
 have HR1_ := Aside0.mk (blk_new w (.cells #[.int .i64 0, .int .i64 0, .int .i64 0, .int .i64 0, .slice none 0 0] 26))
 have hsz1 : (w.alloc (.cells #[.int .i64 0, .int .i64 0, .int .i64 0, .int .i64 0, .slice none 0 0] 26)).heap.size = w.heap.size + 1 := by simp
 clear y0 y2
 generalize w.alloc (.cells #[.int .i64 0, .int .i64 0, .int .i64 0, .int .i64 0, .slice none 0 0] 26) = wa at *
 have lt1 : ad2.block < wa.heap.size := by omega
 have q0 := fun o => ((below_alloc (Below.refl _ wa) o).cell lt1).trans z0
 have q2 := fun o => ((below_alloc (Below.refl _ wa) o).cell (p := ⟨ad2.block, ad2.off + 2, none⟩) lt1).trans z2
 have HS1 := Aside0.mk hsz1
 clear hsz1
 go_cut [10] from 21 to 33 (fun v10 wc => v10 = .pointer (some ⟨wa.heap.size, 0, none⟩) ∧ wc.heap[wa.heap.size]? = some (.cells #[.int .i64 (h0.f0 - lead), .int .i64 0, .int .i64 (h0.f2 - lead), .int .i64 0, .slice none 0 0] 26 (0, 0)) ∧ Aside0 (Below wa.heap.size wa wc))
 case first =>
  go_region
  go_wp2_with fail
  go_meet
  exact ⟨rfl, blk_new wa _, ⟨pw_below_drewN (below_alloc (Below.refl _ wa) _) 1⟩⟩
 case rest =>
  obtain ⟨rfl, hbH, HBc⟩ := hcut
  have c0' := blk_cell hbH 0
  simp only [List.getElem?_toArray] at c0'
  have HH := Aside0.mk hbH
  clear q0 q2 z0 z2 hbH hx0 hx1 hx2 hx3
  obtain ⟨wd, rfl⟩ : ∃ wd : World, wd = wc := ⟨_, rfl⟩
  obtain ⟨gH, hgH⟩ : ∃ gH : Nat, gH = wa.heap.size := ⟨_, rfl⟩
  rw [← hgH] at c0' HBc HH ⊢
  have HBd := Aside0.mk (below_then HB1.out (by rw [HS1.out]; omega) (HBc.out.mono (by omega)))
  have HGw := Aside0.mk (show gH = w.heap.size + 1 by rw [hgH, HS1.out])
  have HRd := Aside0.mk ((HBc.out.block w.heap.size (by have := HGw.out; omega)).trans HR1_.out)
  clear HBc HR1_ HB1 hgH HS1 lt1
  go_wp2_with fail
  go_loopw [39, 11] (fun v39 v11 wr => ∃ (i : Nat) (at_ : Int) (vl : Value) (acc : List S42), v39 = .int .i64 i ∧ v11 = .int .i64 at_ ∧ i ≤ l2.length ∧ Aside0 (HunkSt wr gH gH (h0.f0 - lead) 0 (h0.f2 - lead) 0 vl acc) ∧ Aside0 (Below w.heap.size w wr) ∧ Aside0 (wr.heap[w.heap.size]? = some (.cells #[.int .i64 0, .int .i64 0, .int .i64 0, .int .i64 0, .slice none 0 0] 26 (0, 0))) ∧ Aside0 (hunks_hunk.loop l0 l1 (l2.drop i) at_ acc = some (iF, lsF))) (fun v39 _ _ => l2.length - (intOf v39).toNat)
  case atStart => exact ⟨0, _, _, [], rfl, rfl, by omega, ⟨⟨HH.out, Kd.R_nil _ _ _ _ _⟩⟩, HBd, HRd, ⟨by simpa using HL.out⟩⟩
  case round =>
   clear HBd HRd HL HH c0'
   obtain ⟨i, at_, vl, acc, rfl, rfl, hi, HS, HB, HR, HL⟩ := hrel
   by_cases hlt : i < l2.length
   ·have hltI : (i : Int) < (l2.length : Int) := by omega
    obtain ⟨ad, e, hx0, hx1, hx2, hx3⟩ := at_T78 HR2.out (i : Int) (by omega) hltI
    cases e
    have hd : l2.drop i = rd_T78 l2 i :: l2.drop (i + 1) := by
     rw [List.drop_eq_getElem_cons hlt]
     congr 1
     simp [rd_T78, List.getD_eq_getElem?_getD, List.getElem?_eq_getElem hlt]
    have H := HL.out
    rw [hd] at H
    simp only [hunks_hunk.loop] at H
    generalize rd_T78 l2 i = c at *
    split at H
    case isFalse => cases H
    rename_i hok
    obtain ⟨x, h1, H⟩ := Option.bind_eq_some_iff.1 H
    obtain ⟨acc1, h2, H⟩ := Option.bind_eq_some_iff.1 H
    obtain ⟨y, h3, H⟩ := Option.bind_eq_some_iff.1 H
    obtain ⟨acc2, h4, H⟩ := Option.bind_eq_some_iff.1 H
    obtain ⟨z, h5, H⟩ := Option.bind_eq_some_iff.1 H
    obtain ⟨acc3, h6, H⟩ := Option.bind_eq_some_iff.1 H
    obtain ⟨⟨k01, k02⟩, ⟨k11, k12⟩, ⟨k21, k22⟩, ⟨k31, k32⟩⟩ := hok
    obtain ⟨Ax, cx, cutx, hCx, hcx, hlx, hfx⟩ := hunks_hunk.cut_str A0 c0 l0 w HR0.out hc0 _ _ _ h1
    obtain ⟨Ay, cy, cuty, hCy, hcy, hly, hfy⟩ := hunks_hunk.cut_str A0 c0 l0 w HR0.out hc0 _ _ _ h3
    obtain ⟨Az, cz, cutz, hCz, hcz, hlz, hfz⟩ := hunks_hunk.cut_str A1 c1 l1 w HR1.out hc1 _ _ _ h5
    unfold hunks_hunk.putB at h2 h4 h6
    split at h2
    case isFalse => cases h2
    split at h4
    case isFalse => cases h4
    split at h6
    case isFalse => cases h6
    rename_i n2 n4 n6
    have CX := Aside0.mk hCx
    have CY := Aside0.mk hCy
    have CZ := Aside0.mk hCz
    have FX := Aside0.mk hfx
    have FY := Aside0.mk hfy
    have FZ := Aside0.mk hfz
    have P2 := Aside0.mk h2
    have P4 := Aside0.mk h4
    have P6 := Aside0.mk h6
    have HT := Aside0.mk H
    clear hCx hCy hCz hfx hfy hfz h1 h2 h3 h4 h5 h6 H HL hd
    obtain ⟨wo, rfl⟩ : ∃ wo : World, wo = wr := ⟨_, rfl⟩
    replace hx0 := (HB.out.cell (World.block_lt_of_cell? w _ hx0)).trans hx0
    replace hx1 := (HB.out.cell (World.block_lt_of_cell? w _ hx1)).trans hx1
    replace hx2 := (HB.out.cell (World.block_lt_of_cell? w _ hx2)).trans hx2
    replace hx3 := (HB.out.cell (World.block_lt_of_cell? w _ hx3)).trans hx3
    rw [Int.toNat_natCast] at hx0 hx1 hx2 hx3
    have hgl := blk_lt HS.out.bH
    have u1 : IntKind.i64.wrap (c.f0 + c.f1) = c.f0 + c.f1 := IntWalk.i64_in _ (by omega)
    have u2 : IntKind.i64.wrap (c.f2 + c.f3) = c.f2 + c.f3 := IntWalk.i64_in _ (by omega)
    go_wp2_with fail
    refine (hunks_hunk.put_calls 32 Ax cx x _ gH gH (h0.f0 - lead) 0 (h0.f2 - lead) 0 vl acc acc1 (Kd.C_below CX.out (below_alloc HB.out _)) hcx (HS.out.below (below_alloc (Below.refl _ wo) _)) (Nat.le_refl _) (by omega) (fun ad he hp => Nat.lt_trans (FX.out ad he hp) (by have := HGw.out; omega)) P2.out).mono ?_
    rintro e w1 ⟨⟨_, rfl⟩, vl1, hS, hb, hk⟩
    have hbk := (hk.out wo.heap.size _ _ (blk_new wo _) (by decide) (by omega)).trans (blk_new wo _)
    have HB1 := Aside0.mk ((below_alloc HB.out _).trans (hb.mono (by have := HGw.out; omega)))
    have HR1_ := Aside0.mk ((hb.block w.heap.size (by have := HGw.out; omega)).trans (((below_alloc (Below.refl _ wo) _).block w.heap.size (by have := HGw.out; omega)).trans HR.out))
    have BK1 := Aside0.mk hbk
    have HS1 := Aside0.mk hS
    have d0 := blk_cell hbk 0
    have d1 := blk_cell hbk 1
    have d2 := blk_cell hbk 2
    have d3 := blk_cell hbk 3
    simp only [List.getElem?_toArray] at d0 d1 d2 d3
    clear hS hb hk hbk
    clear HS HB HR P2
    go_wp2_with fail
    refine (hunks_hunk.put_calls 45 Ay cy y _ gH gH (h0.f0 - lead) 0 (h0.f2 - lead) 0 vl1 acc1 acc2 (Kd.C_below CY.out HB1.out) hcy (HS1.out) (Nat.le_refl _) (by omega) (fun ad he hp => Nat.lt_trans (FY.out ad he hp) (by have := HGw.out; omega)) P4.out).mono ?_
    rintro e w2 ⟨⟨_, rfl⟩, vl2, hS, hb, hk⟩
    have hbk := (hk.out wo.heap.size _ _ BK1.out (by decide) (by omega)).trans BK1.out
    have HB2 := Aside0.mk (HB1.out.trans (hb.mono (by have := HGw.out; omega)))
    have HR2_ := Aside0.mk ((hb.block w.heap.size (by have := HGw.out; omega)).trans HR1_.out)
    have BK2 := Aside0.mk hbk
    have HS2 := Aside0.mk hS
    clear d0 d1 d2 d3
    have d0 := blk_cell hbk 0
    have d1 := blk_cell hbk 1
    have d2 := blk_cell hbk 2
    have d3 := blk_cell hbk 3
    simp only [List.getElem?_toArray] at d0 d1 d2 d3
    clear hS hb hk hbk
    clear HS1 HB1 HR1_ P4 BK1
    go_wp2_with fail
    refine (hunks_hunk.put_calls 43 Az cz z _ gH gH (h0.f0 - lead) 0 (h0.f2 - lead) 0 vl2 acc2 acc3 (Kd.C_below CZ.out HB2.out) hcz (HS2.out) (Nat.le_refl _) (by omega) (fun ad he hp => Nat.lt_trans (FZ.out ad he hp) (by have := HGw.out; omega)) P6.out).mono ?_
    rintro e w3 ⟨⟨_, rfl⟩, vl3, hS, hb, hk⟩
    have hbk := (hk.out wo.heap.size _ _ BK2.out (by decide) (by omega)).trans BK2.out
    have HB3 := Aside0.mk (HB2.out.trans (hb.mono (by have := HGw.out; omega)))
    have HR3_ := Aside0.mk ((hb.block w.heap.size (by have := HGw.out; omega)).trans HR2_.out)
    have BK3 := Aside0.mk hbk
    have HS3 := Aside0.mk hS
    clear d0 d1 d2 d3
    have d0 := blk_cell hbk 0
    have d1 := blk_cell hbk 1
    have d2 := blk_cell hbk 2
    have d3 := blk_cell hbk 3
    simp only [List.getElem?_toArray] at d0 d1 d2 d3
    clear hS hb hk hbk
    clear HS2 HB2 HR2_ P6 BK2
    go_wp2_with fail
    go_roundw
    case rel => exact ⟨i + 1, _, vl3, acc3, by go_num, rfl, by omega, HS3, HB3, HR3_, HT⟩
    case measure => simp [intOf]; omega
   ·have H := HL.out
    rw [List.drop_eq_nil_of_le (by omega)] at H
    have H := Option.some.inj H
    simp only [Prod.mk.injEq] at H
    obtain ⟨rfl, rfl⟩ := H
    have hX := HX.out
    obtain ⟨jj, hjj⟩ : ∃ jj : Int, min (at_ + a3) (l0.length : Int) = jj := ⟨_, rfl⟩
    rw [hjj] at hX
    have hmn : (if (l0.length : Int) < at_ + a3 then (l0.length : Int) else at_ + a3) = jj := by
     rw [← hjj]
     split <;> omega
    have hX2 := hX
    unfold hunks_hunk.cutB at hX2
    split at hX2
    case isFalse => cases hX2
    rename_i hb
    obtain ⟨Ax, cx, cutx, hCx, hcx, hlx, hfx⟩ := hunks_hunk.cut_str A0 c0 l0 w HR0.out hc0 _ _ _ hX
    have hP := HP.out
    unfold hunks_hunk.putB at hP
    split at hP
    case isFalse => cases hP
    rename_i n2
    have u1 : IntKind.i64.wrap (at_ + a3) = at_ + a3 := IntWalk.i64_in _ (by omega)
    have CX := Aside0.mk hCx
    have FX := Aside0.mk hfx
    have P2 := Aside0.mk hP
    have hgl := blk_lt HS.out.bH
    clear hCx hfx hX hX2 HX HP hP hjj HL
    obtain ⟨wo, rfl⟩ : ∃ wo : World, wo = wr := ⟨_, rfl⟩
    go_wp2_with fail
    refine (hunks_hunk.put_calls 32 Ax cx xF _ gH gH (h0.f0 - lead) 0 (h0.f2 - lead) 0 vl acc ls (Kd.C_below CX.out HB.out) hcx HS.out (Nat.le_refl _) (by omega) (fun ad he hp => Nat.lt_trans (FX.out ad he hp) (by have := HGw.out; omega)) P2.out).mono ?_
    rintro e w4 ⟨⟨_, rfl⟩, vl4, hS, hb, hk⟩
    obtain ⟨A4, c4, rfl, _, _⟩ := Kd.R_reads hS.row
    have HS4 := Aside0.mk hS
    have HB4 := Aside0.mk (HB.out.trans (hb.mono (by have := HGw.out; omega)))
    have HR4 := Aside0.mk ((hb.block w.heap.size (by have := HGw.out; omega)).trans HR.out)
    clear HS HB HR hS hb hk P2 hmn u1 cutx

    go_upto_region 14 with fail
    have e4 := blk_cell HS4.out.bH 4
    have e1 := blk_cell HS4.out.bH 1
    have f1 := blk_frozen HS4.out.bH 1
    simp only [List.getElem?_toArray] at e1 e4
    have lH := blk_lt HS4.out.bH
    go_cut [] from 89 to 96 (fun wc => Aside0 (HunkSt wc gH gH (h0.f0 - lead) (wrap64 ((ls.length : Int) - n)) (h0.f2 - lead) 0 (.slice A4 ls.length c4) ls) ∧ Aside0 (Below w.heap.size w wc) ∧ Aside0 (wc.heap[w.heap.size]? = some (.cells #[.int .i64 0, .int .i64 0, .int .i64 0, .int .i64 0, .slice none 0 0] 26 (0, 0))))
    case first =>
     go_region_law (first | (go_simp; go_at_call 62; go_loud (refine (hunks_count.calls k A4 c4 ls 43 n _ (Kd.C_below (Kd.R_reads' HS4.out.row).2.2 (pw_below_drewN (Below.refl _ _) 1)) (Kd.R_reads' HS4.out.row).2.1 HN.out).mono ?_; rintro e w6 ⟨rfl, hb6⟩; replace hb6 := (show Below w4.heap.size w4 _ from pw_below_drewN (Below.refl _ _) 1).trans hb6; have e4' := (hb6.cell (p := ⟨gH, 4, none⟩) lH).trans e4; have e1' := (hb6.cell (p := ⟨gH, 1, none⟩) lH).trans e1; have f1' := (frozen_below hb6 (a := ⟨gH, 1, none⟩) lH).trans f1)))
     all_goals
      have hS6 := HS4.out.below hb6
      have hS7 : HunkSt (w6.setCell ⟨gH, 1, none⟩ (.int .i64 (IntKind.i64.wrap ((ls.length : Int) - n)))) gH gH (h0.f0 - lead) (wrap64 ((ls.length : Int) - n)) (h0.f2 - lead) 0 (.slice A4 ls.length c4) ls := by
       rw [i64_w]
       exact ⟨blk_set hS6.bH 1 _, Kd.R_set hS6.row hS6.bH (by decide) 1 _⟩
      have hB7 := (HB4.out.trans (hb6.mono HB4.out.size)).setCell (p := ⟨gH, 1, none⟩) (by have := HGw.out; show w.heap.size ≤ gH; omega) (.int .i64 (IntKind.i64.wrap ((ls.length : Int) - n)))
      have hR7 := (Below.heap_setCell w6 ⟨gH, 1, none⟩ (.int .i64 (IntKind.i64.wrap ((ls.length : Int) - n))) w.heap.size (by have := HGw.out; show w.heap.size ≠ gH; omega)).trans ((hb6.block w.heap.size (by have := HGw.out; omega)).trans HR4.out)
      have HS7 := Aside0.mk hS7
      have HB7 := Aside0.mk hB7
      have HR7 := Aside0.mk hR7
      clear hS6 hS7 hB7 hR7 hb6 e4' e1' f1'
      go_wp2_with fail
      go_meet
      exact ⟨HS7, HB7, HR7⟩
    case rest =>
    obtain ⟨HS5, HB5, HR5⟩ := hcut
    clear HS4 HB4 HR4 e4 e1 f1 lH HN
    obtain ⟨w5, rfl⟩ : ∃ w5 : World, w5 = wc := ⟨_, rfl⟩
    go_upto_region 15 with fail
    have e4 := blk_cell HS5.out.bH 4
    have e1 := blk_cell HS5.out.bH 3
    have f1 := blk_frozen HS5.out.bH 3
    simp only [List.getElem?_toArray] at e1 e4
    have lH := blk_lt HS5.out.bH
    go_cut [] from 97 to 104 (fun wc => Aside0 (HunkSt wc gH gH (h0.f0 - lead) (wrap64 ((ls.length : Int) - n)) (h0.f2 - lead) (wrap64 ((ls.length : Int) - m)) (.slice A4 ls.length c4) ls) ∧ Aside0 (Below w.heap.size w wc) ∧ Aside0 (wc.heap[w.heap.size]? = some (.cells #[.int .i64 0, .int .i64 0, .int .i64 0, .int .i64 0, .slice none 0 0] 26 (0, 0))))
    case first =>
     go_region_law (first | (go_simp; go_at_call 62; go_loud (refine (hunks_count.calls k A4 c4 ls 45 m _ (Kd.C_below (Kd.R_reads' HS5.out.row).2.2 (pw_below_drewN (Below.refl _ _) 1)) (Kd.R_reads' HS5.out.row).2.1 HM.out).mono ?_; rintro e w6 ⟨rfl, hb6⟩; replace hb6 := (show Below w5.heap.size w5 _ from pw_below_drewN (Below.refl _ _) 1).trans hb6; have e4' := (hb6.cell (p := ⟨gH, 4, none⟩) lH).trans e4; have e1' := (hb6.cell (p := ⟨gH, 3, none⟩) lH).trans e1; have f1' := (frozen_below hb6 (a := ⟨gH, 3, none⟩) lH).trans f1)))
     all_goals
      have hS6 := HS5.out.below hb6
      have hS7 : HunkSt (w6.setCell ⟨gH, 3, none⟩ (.int .i64 (IntKind.i64.wrap ((ls.length : Int) - m)))) gH gH (h0.f0 - lead) (wrap64 ((ls.length : Int) - n)) (h0.f2 - lead) (wrap64 ((ls.length : Int) - m)) (.slice A4 ls.length c4) ls := by
       rw [i64_w]
       exact ⟨blk_set hS6.bH 3 _, Kd.R_set hS6.row hS6.bH (by decide) 3 _⟩
      have hB7 := (HB5.out.trans (hb6.mono HB5.out.size)).setCell (p := ⟨gH, 3, none⟩) (by have := HGw.out; show w.heap.size ≤ gH; omega) (.int .i64 (IntKind.i64.wrap ((ls.length : Int) - m)))
      have hR7 := (Below.heap_setCell w6 ⟨gH, 3, none⟩ (.int .i64 (IntKind.i64.wrap ((ls.length : Int) - m))) w.heap.size (by have := HGw.out; show w.heap.size ≠ gH; omega)).trans ((hb6.block w.heap.size (by have := HGw.out; omega)).trans HR5.out)
      have HS7 := Aside0.mk hS7
      have HB7 := Aside0.mk hB7
      have HR7 := Aside0.mk hR7
      clear hS6 hS7 hB7 hR7 hb6 e4' e1' f1'
      go_wp2_with fail
      go_meet
      exact ⟨HS7, HB7, HR7⟩
    case rest =>
    obtain ⟨HS8, HB8, HR8⟩ := hcut
    clear HS5 HB5 HR5 e4 e1 f1 lH HM
    obtain ⟨w8, rfl⟩ : ∃ w8 : World, w8 = wc := ⟨_, rfl⟩
    have e0 := blk_cell HS8.out.bH 0
    have e1 := blk_cell HS8.out.bH 1
    have e2 := blk_cell HS8.out.bH 2
    have e3 := blk_cell HS8.out.bH 3
    have e4 := blk_cell HS8.out.bH 4
    have g0 := blk_cell HR8.out 0
    have g1' := blk_cell HR8.out 1
    have g2' := blk_cell HR8.out 2
    have g3' := blk_cell HR8.out 3
    have g4' := blk_cell HR8.out 4
    have f0 := blk_frozen HR8.out 0
    have f1 := blk_frozen HR8.out 1
    have f2 := blk_frozen HR8.out 2
    have f3 := blk_frozen HR8.out 3
    have f4 := blk_frozen HR8.out 4
    simp only [List.getElem?_toArray] at e0 e1 e2 e3 e4 g0 g1' g2' g3' g4'
    have hb0 := blk_set (blk_set (blk_set (blk_set (blk_set HR8.out 0 (.int .i64 (h0.f0 - lead))) 1 (.int .i64 (wrap64 ((ls.length : Int) - n)))) 2 (.int .i64 (h0.f2 - lead))) 3 (.int .i64 (wrap64 ((ls.length : Int) - m)))) 4 (.slice A4 ls.length c4)
    have hG := HGw.out
    have hRow := Kd.R_set (Kd.R_set (Kd.R_set (Kd.R_set (Kd.R_set HS8.out.row HR8.out (by decide) 0 (.int .i64 (h0.f0 - lead))) (blk_set HR8.out 0 _) (by decide) 1 (.int .i64 (wrap64 ((ls.length : Int) - n)))) (blk_set (blk_set HR8.out 0 _) 1 _) (by decide) 2 (.int .i64 (h0.f2 - lead))) (blk_set (blk_set (blk_set HR8.out 0 _) 1 _) 2 _) (by decide) 3 (.int .i64 (wrap64 ((ls.length : Int) - m)))) (blk_set (blk_set (blk_set (blk_set HR8.out 0 _) 1 _) 2 _) 3 _) (by decide) 4 (.slice A4 ls.length c4)
    have hBf := (((((HB8.out.setCell (p := ⟨w.heap.size, 0, none⟩) (Nat.le_refl _) (.int .i64 (h0.f0 - lead))).setCell (p := ⟨w.heap.size, 1, none⟩) (Nat.le_refl _) (.int .i64 (wrap64 ((ls.length : Int) - n)))).setCell (p := ⟨w.heap.size, 2, none⟩) (Nat.le_refl _) (.int .i64 (h0.f2 - lead))).setCell (p := ⟨w.heap.size, 3, none⟩) (Nat.le_refl _) (.int .i64 (wrap64 ((ls.length : Int) - m)))).setCell (p := ⟨w.heap.size, 4, none⟩) (Nat.le_refl _) (.slice A4 ls.length c4))
    have HB0 := Aside0.mk hb0
    have HRow := Aside0.mk hRow
    have HBf := Aside0.mk hBf
    clear hb0 hRow hBf hG
    go_wp2_with fail
    exact bodyPost_ret (results_cell_row rfl _ _ w.heap.size 26 #[.int .i64 (h0.f0 - lead), .int .i64 (wrap64 ((ls.length : Int) - n)), .int .i64 (h0.f2 - lead), .int .i64 (wrap64 ((ls.length : Int) - m)), .slice A4 ls.length c4] (0, 0) _ rfl HB0.out (Tryd.prog.underlying 26 |> fun _ => by kernel_rfl) rfl (by kernel_rfl)) rfl ⟨_, rfl, Kd.R_lower HRow.out (by have := HGw.out; omega), HBf.out⟩

/-! ### hunks_Make: function 14 -/
mutual
def hunks_Make.j0 : Nat → List Int → List Int → Int → Bool → Option ((List (S26)) × Int)
 | 0, _, _, _, _ => none
 | k + 1, x0, x1, x2, x18 => if x18 = true then (some (([] : List (S26)), 2)) else ((lines_Split.f x0).bind fun t146 => ((lines_Split.f x1).bind fun t149 => ((hunks_Changes.f t146 t149).bind fun t152 => (hunks_Make.l0 k x2 t146 t149 ([] : List (S26)) t152))))
def hunks_Make.l0 : Nat → Int → List ByteArray → List ByteArray → List (S26) → List (S78) → Option ((List (S26)) × Int)
 | 0, _, _, _, _, _ => none
 | k + 1, x2, x8, x9, x10, x11 => if (x11.length : Int) > 0 then (hunks_Make.l1 k x2 x8 x9 x10 x11 1) else (some (x10, 0))
def hunks_Make.l1 : Nat → Int → List ByteArray → List ByteArray → List (S26) → List (S78) → Int → Option ((List (S26)) × Int)
 | 0, _, _, _, _, _, _ => none
 | k + 1, x2, x8, x9, x10, x11, x12 => if x12 < (x11.length : Int) then (if 0 ≤ x12 then (if 0 ≤ (wrap64 (x12 - 1)) then (if (wrap64 (x12 - 1)) < (x11.length : Int) then (if (wrap64 (((rd_T78 x11 x12).f0) - (wrap64 (((rd_T78 x11 (wrap64 (x12 - 1))).f0) + ((rd_T78 x11 (wrap64 (x12 - 1))).f1))))) ≤ (wrap64 (2 * x2)) then (hunks_Make.l1 k x2 x8 x9 x10 x11 (wrap64 (x12 + 1))) else (if x12 ≤ (x11.length : Int) then ((hunks_hunk.f k x8 x9 (x11.take (x12 : Int).toNat) x2).bind fun bt162 => (if x10.length < 2513169434916 then (hunks_Make.l0 k x2 x8 x9 (x10 ++ [(⟨bt162.1, bt162.2.1, bt162.2.2.1, bt162.2.2.2.1, bt162.2.2.2.2⟩ : S26)]) (x11.drop (x12 : Int).toNat)) else (none))) else (none))) else (none)) else (none)) else (none)) else (if 0 ≤ x12 then (if x12 ≤ (x11.length : Int) then ((hunks_hunk.f k x8 x9 (x11.take (x12 : Int).toNat) x2).bind fun bt179 => (if x10.length < 2513169434916 then (hunks_Make.l0 k x2 x8 x9 (x10 ++ [(⟨bt179.1, bt179.2.1, bt179.2.2.1, bt179.2.2.2.1, bt179.2.2.2.2⟩ : S26)]) (x11.drop (x12 : Int).toNat)) else (none))) else (none)) else (none))
end
def hunks_Make.f (k : Nat) (l0 : List Int) (l1 : List Int) (a2 : Int) : Option ((List (S26)) × Int) := if a2 < 0 then (hunks_Make.j0 k l0 l1 a2 true) else (hunks_Make.j0 k l0 l1 a2 (decide (a2 > 16)))
theorem hunks_Make.mono_l : ∀ k, (∀ y0 y1 y2 y3, LeO (hunks_Make.j0 k y0 y1 y2 y3) (hunks_Make.j0 (k + 1) y0 y1 y2 y3)) ∧ (∀ y0 y1 y2 y3 y4, LeO (hunks_Make.l0 k y0 y1 y2 y3 y4) (hunks_Make.l0 (k + 1) y0 y1 y2 y3 y4)) ∧ (∀ y0 y1 y2 y3 y4 y5, LeO (hunks_Make.l1 k y0 y1 y2 y3 y4 y5) (hunks_Make.l1 (k + 1) y0 y1 y2 y3 y4 y5))
 | 0 => ⟨fun _ _ _ _ r h => by simp [hunks_Make.j0] at h, fun _ _ _ _ _ r h => by simp [hunks_Make.l0] at h, fun _ _ _ _ _ _ r h => by simp [hunks_Make.l1] at h⟩
 | k + 1 => by
  obtain ⟨ih0, ih1, ih2⟩ := hunks_Make.mono_l k
  refine ⟨?_, ?_, ?_⟩
  ·intro y0 y1 y2 y3
   unfold hunks_Make.j0
   repeat' first
   | (with_reducible exact ih0 _ _ _ _)
   | (with_reducible exact ih1 _ _ _ _ _)
   | (with_reducible exact ih2 _ _ _ _ _ _)
   | (with_reducible exact hunks_hunk.mono _ _ _ _ _)
   | (with_reducible exact LeO.refl _)
   | (with_reducible exact LeO.none _)
   | (with_reducible refine LeO.ite ?_ ?_)
   | (with_reducible refine LeO.bind ?_ (fun _ => ?_))
   | exact ih0 _ _ _ _
   | exact ih1 _ _ _ _ _
   | exact ih2 _ _ _ _ _ _
   | exact hunks_hunk.mono _ _ _ _ _
   | exact LeO.none _
   | refine LeO.ite ?_ ?_
   | refine LeO.bind ?_ (fun _ => ?_)
  ·intro y0 y1 y2 y3 y4
   unfold hunks_Make.l0
   repeat' first
   | (with_reducible exact ih0 _ _ _ _)
   | (with_reducible exact ih1 _ _ _ _ _)
   | (with_reducible exact ih2 _ _ _ _ _ _)
   | (with_reducible exact hunks_hunk.mono _ _ _ _ _)
   | (with_reducible exact LeO.refl _)
   | (with_reducible exact LeO.none _)
   | (with_reducible refine LeO.ite ?_ ?_)
   | (with_reducible refine LeO.bind ?_ (fun _ => ?_))
   | exact ih0 _ _ _ _
   | exact ih1 _ _ _ _ _
   | exact ih2 _ _ _ _ _ _
   | exact hunks_hunk.mono _ _ _ _ _
   | exact LeO.none _
   | refine LeO.ite ?_ ?_
   | refine LeO.bind ?_ (fun _ => ?_)
  ·intro y0 y1 y2 y3 y4 y5
   unfold hunks_Make.l1
   repeat' first
   | (with_reducible exact ih0 _ _ _ _)
   | (with_reducible exact ih1 _ _ _ _ _)
   | (with_reducible exact ih2 _ _ _ _ _ _)
   | (with_reducible exact hunks_hunk.mono _ _ _ _ _)
   | (with_reducible exact LeO.refl _)
   | (with_reducible exact LeO.none _)
   | (with_reducible refine LeO.ite ?_ ?_)
   | (with_reducible refine LeO.bind ?_ (fun _ => ?_))
   | exact ih0 _ _ _ _
   | exact ih1 _ _ _ _ _
   | exact ih2 _ _ _ _ _ _
   | exact hunks_hunk.mono _ _ _ _ _
   | exact LeO.none _
   | refine LeO.ite ?_ ?_
   | refine LeO.bind ?_ (fun _ => ?_)
theorem hunks_Make.mono : ∀ a0 a1 a2 k, LeO (hunks_Make.f k a0 a1 a2) (hunks_Make.f (k + 1) a0 a1 a2) := by
 intro a0 a1 a2 k
 obtain ⟨ih0, ih1, ih2⟩ := hunks_Make.mono_l k
 unfold hunks_Make.f
 repeat' first
   | (with_reducible exact ih0 _ _ _ _)
   | (with_reducible exact ih1 _ _ _ _ _)
   | (with_reducible exact ih2 _ _ _ _ _ _)
   | (with_reducible exact hunks_hunk.mono _ _ _ _ _)
   | (with_reducible exact LeO.refl _)
   | (with_reducible exact LeO.none _)
   | (with_reducible refine LeO.ite ?_ ?_)
   | (with_reducible refine LeO.bind ?_ (fun _ => ?_))
   | exact ih0 _ _ _ _
   | exact ih1 _ _ _ _ _
   | exact ih2 _ _ _ _ _ _
   | exact hunks_hunk.mono _ _ _ _ _
   | exact LeO.none _
   | refine LeO.ite ?_ ?_
   | refine LeO.bind ?_ (fun _ => ?_)
set_option maxHeartbeats 8000000 in
set_option maxRecDepth 100000 in
theorem hunks_Make.calls (k : Nat) (A0 : Option Addr) (c0 : Nat) (l0 : List Int) (A1 : Option Addr) (c1 : Nat) (l1 : List Int) (a2 : Int) (r1 : List (S26)) (r2 : Int) (w : World) (hr0 : Kd.C (Kd.int .u8) w A0 l0.length l0) (hc0 : l0.length ≤ c0) (hr1 : Kd.C (Kd.int .u8) w A1 l1.length l1) (hc1 : l1.length ≤ c1) (h : hunks_Make.f k l0 l1 a2 = some (r1, r2)) :
  Calls Tryd.prog 14 #[.slice A0 l0.length c0, .slice A1 l1.length c1, .int .i64 a2] w fun e w' => ∃ v0_ : Value, e = .returned (.tuple #[v0_, .int .i64 r2]) ∧ Kd.S k26 26 w' w.heap.size (fun _ => True) v0_ r1 ∧ Below w.heap.size w w' := by
 have HR0 := Aside0.mk hr0
 have HC0 := Aside0.mk hc0
 clear hr0 hc0
 have HR1 := Aside0.mk hr1
 have HC1 := Aside0.mk hc1
 clear hr1 hc1
 have HB := Aside0.mk (Below.refl w.heap.size w)
 have H : (if a2 < 0 then (hunks_Make.j0 k l0 l1 a2 true) else (hunks_Make.j0 k l0 l1 a2 (decide (a2 > 16)))) = some (r1, r2) := h
 clear h
 have HC4 := Aside0.mk H
 clear H
 go_enter Tryd.func14, Tryd.ntmps14
 go_upto_region 1 with (fail)
 repeat (go_quiet (fail); go_upto_region 1 with (fail))
 go_cut [18] (fun v18 wc => ∃ (kq : Nat) (x18_3 : Bool), v18 = .bool x18_3 ∧ Aside0 (hunks_Make.j0 kq l0 l1 a2 x18_3 = some (r1, r2)) ∧ Aside0 (kq ≤ k) ∧ Aside0 (Below w.heap.size w wc))
 case first =>
  have H := HC4.out
  clear HC4
  by_cases c5 : a2 < 0
  ·rw [if_pos c5] at H
   have c5b0 : decide (a2 < 0) = true := decide_eq_true c5
   clear c5
   (first | rw [c5b0] | (simp only [i64_w, i32_w]; rw [c5b0]) | skip)
   have H' := Aside0.mk H
   clear H
   go_wp2
   repeat (go_quiet (fail); try go_wp2)
   go_meet
   case rel => exact ⟨_, (true), (by first | rfl | (simp; done) | (simp [*]; done)), H', ⟨by first | omega | exact Nat.le_refl _⟩, ⟨by repeat (first | (with_reducible first | exact HB.out | apply below_alloc | apply pw_below_drewN | apply below_drew1) | exact HB.out)⟩⟩
  ·rw [if_neg c5] at H
   have c5b0 : decide (a2 < 0) = false := decide_eq_false c5
   clear c5
   (first | rw [c5b0] | (simp only [i64_w, i32_w]; rw [c5b0]) | skip)
   have H' := Aside0.mk H
   clear H
   go_wp2
   repeat (go_quiet (fail); try go_wp2)
   go_meet
   case rel => exact ⟨_, (decide (a2 > 16)), (by first | rfl | (simp; done) | (simp [*]; done)), H', ⟨by first | omega | exact Nat.le_refl _⟩, ⟨by repeat (first | (with_reducible first | exact HB.out | apply below_alloc | apply pw_below_drewN | apply below_drew1) | exact HB.out)⟩⟩
 case rest =>
  clear HC4
  try clear c1
  try clear p2
  try clear c5
  try clear c5b0
  obtain ⟨kq, x18_3, rfl, HA, HJ3, HB⟩ := hcut
  cases kq with
  | zero => exact absurd HA.out (by simp [hunks_Make.j0])
  | succ kj3 =>
   have H := HA.out
   clear HA
   simp only [hunks_Make.j0] at H
   by_cases c6 : x18_3 = true
   ·subst c6
    have H1 : (some (([] : List (S26)), 2)) = some (r1, r2) := by rw [if_pos rfl] at H; exact H
    clear H
    have H := H1
    clear H1
    simp only [Option.some.injEq, Prod.mk.injEq] at H
    obtain ⟨rfl, rfl⟩ := H
    go_wp2
    repeat (go_quiet (fail); try go_wp2)
    go_ret2
    exact ⟨_, by first | rfl | (simp [errW_none, errW_some] <;> rfl) | (simp [*, errW_none, errW_some] <;> rfl), by first | exact Kd.S_nil _ _ _ _ _ | exact Kd.N_nil _ _ _ _ _ | exact Kd.V_nil _ _ _ _ _ | exact Kd.Q_nil _ _ _ _ _ | exact Kd.R_nil _ _ _ _ _, by repeat (first | (with_reducible first | exact HB.out | apply below_alloc | apply pw_below_drewN | apply below_drew1) | exact HB.out)⟩
   ·replace c6 := Bool.eq_false_iff.mpr c6
    subst c6
    have H1 : ((lines_Split.f l0).bind fun t146 => ((lines_Split.f l1).bind fun t149 => ((hunks_Changes.f t146 t149).bind fun t152 => (hunks_Make.l0 kj3 a2 t146 t149 ([] : List (S26)) t152)))) = some (r1, r2) := by rw [if_neg (show ¬ (false = true) by decide)] at H; exact H
    clear H
    have H := H1
    clear H1
    replace H := Option.bind_eq_some_iff.mp H
    obtain ⟨t146, A70, H⟩ := H
    replace H : ((lines_Split.f l1).bind fun t149 => ((hunks_Changes.f t146 t149).bind fun t152 => (hunks_Make.l0 kj3 a2 t146 t149 ([] : List (S26)) t152))) = some (r1, r2) := H
    have A7 := Aside0.mk A70
    clear A70
    replace H := Option.bind_eq_some_iff.mp H
    obtain ⟨t149, A80, H⟩ := H
    replace H : ((hunks_Changes.f t146 t149).bind fun t152 => (hunks_Make.l0 kj3 a2 t146 t149 ([] : List (S26)) t152)) = some (r1, r2) := H
    have A8 := Aside0.mk A80
    clear A80
    replace H := Option.bind_eq_some_iff.mp H
    obtain ⟨t152, A90, H⟩ := H
    replace H : (hunks_Make.l0 kj3 a2 t146 t149 ([] : List (S26)) t152) = some (r1, r2) := H
    have A9 := Aside0.mk A90
    clear A90
    have H' := Aside0.mk H
    clear H
    go_wp2_with (first | (go_at_call 31; (with_reducible refine (lines_Split.calls _ _ l0 t146 _ ?side1 ?side2 A7.out).mono ?_); (case side1 => repeat (first | exact (Kd.C_below HR0.out HB.out) | (with_reducible refine Kd.C_alloc ?_ _) | (with_reducible refine Kd.C_drewN ?_ _) | (with_reducible refine Kd.C_drew ?_))); (case side2 => exact HC0.out); rintro e w10 ⟨v147, rfl, ho0, hb⟩; have n0_ := Aside0.mk (Kd.R_lower ho0 (below_size (by repeat (first | (with_reducible first | exact HB.out | apply below_alloc | apply pw_below_drewN | apply below_drew1) | exact HB.out)))); have n1_ := Aside0.mk (below_step (by repeat (first | (with_reducible first | exact HB.out | apply below_alloc | apply pw_below_drewN | apply below_drew1) | exact HB.out)) hb); clear HB; have HO148 := n0_; have HB := n1_; clear n0_ n1_; (try clear hb); (try clear hb2); (try clear hk); (try clear hi); (try clear ho0)) | (go_at_call 31; (with_reducible refine (lines_Split.calls _ _ l1 t149 _ ?side1 ?side2 A8.out).mono ?_); (case side1 => repeat (first | exact (Kd.C_below HR1.out HB.out) | (with_reducible refine Kd.C_alloc ?_ _) | (with_reducible refine Kd.C_drewN ?_ _) | (with_reducible refine Kd.C_drew ?_))); (case side2 => exact HC1.out); rintro e w11 ⟨v150, rfl, ho0, hb⟩; have n0_ := Aside0.mk (Kd.R_elder' (by (with_reducible repeat (first | apply Kd.R_alloc | apply Kd.R_drewN | apply Kd.R_drew)); exact HO148.out) (Kd.R_base ho0) hb); have n1_ := Aside0.mk (Kd.R_lower (Kd.R_new' ho0 (Kd.R_lt (by (with_reducible repeat (first | apply Kd.R_alloc | apply Kd.R_drewN | apply Kd.R_drew)); exact HO148.out))) (below_size (by repeat (first | (with_reducible first | exact HB.out | apply below_alloc | apply pw_below_drewN | apply below_drew1) | exact HB.out)))); have n2_ := Aside0.mk (below_step (by repeat (first | (with_reducible first | exact HB.out | apply below_alloc | apply pw_below_drewN | apply below_drew1) | exact HB.out)) hb); clear HO148; clear HB; have HO148 := n0_; have HO151 := n1_; have HB := n2_; clear n0_ n1_ n2_; (try clear hb); (try clear hb2); (try clear hk); (try clear hi); (try clear ho0); obtain ⟨Ao12, co12, eo12⟩ := Kd.R_slice HO148.out; subst eo12; obtain ⟨Ao13, co13, eo13⟩ := Kd.R_slice HO151.out; subst eo13) | (go_at_call 32; (with_reducible refine (hunks_Changes.calls _ _ t146 _ _ t149 t152 _ ?side1 ?side2 ?side3 ?side4 A9.out).mono ?_); (case side1 => repeat (first | exact (Kd.R_reads' HO148.out).2.2 | (with_reducible refine Kd.C_alloc ?_ _) | (with_reducible refine Kd.C_drewN ?_ _) | (with_reducible refine Kd.C_drew ?_))); (case side2 => exact (Kd.R_reads' HO148.out).2.1); (case side3 => repeat (first | exact (Kd.R_reads' HO151.out).2.2 | (with_reducible refine Kd.C_alloc ?_ _) | (with_reducible refine Kd.C_drewN ?_ _) | (with_reducible refine Kd.C_drew ?_))); (case side4 => exact (Kd.R_reads' HO151.out).2.1); rintro e w14 ⟨v153, rfl, ho0, hb⟩; have n0_ := Aside0.mk (Kd.R_below (by (with_reducible repeat (first | apply Kd.R_alloc | apply Kd.R_drewN | apply Kd.R_drew)); exact HO148.out) hb); have n1_ := Aside0.mk (Kd.R_below (by (with_reducible repeat (first | apply Kd.R_alloc | apply Kd.R_drewN | apply Kd.R_drew)); exact HO151.out) hb); have n2_ := Aside0.mk (Kd.R_lower ho0 (below_size (by repeat (first | (with_reducible first | exact HB.out | apply below_alloc | apply pw_below_drewN | apply below_drew1) | exact HB.out)))); have n3_ := Aside0.mk (below_step (by repeat (first | (with_reducible first | exact HB.out | apply below_alloc | apply pw_below_drewN | apply below_drew1) | exact HB.out)) hb); clear HO148; clear HO151; clear HB; have HO148 := n0_; have HO151 := n1_; have HO154 := n2_; have HB := n3_; clear n0_ n1_ n2_ n3_; (try clear hb); (try clear hb2); (try clear hk); (try clear hi); (try clear ho0)))
    repeat (go_quiet (first | (go_at_call 31; (with_reducible refine (lines_Split.calls _ _ l0 t146 _ ?side1 ?side2 A7.out).mono ?_); (case side1 => repeat (first | exact (Kd.C_below HR0.out HB.out) | (with_reducible refine Kd.C_alloc ?_ _) | (with_reducible refine Kd.C_drewN ?_ _) | (with_reducible refine Kd.C_drew ?_))); (case side2 => exact HC0.out); rintro e w10 ⟨v147, rfl, ho0, hb⟩; have n0_ := Aside0.mk (Kd.R_lower ho0 (below_size (by repeat (first | (with_reducible first | exact HB.out | apply below_alloc | apply pw_below_drewN | apply below_drew1) | exact HB.out)))); have n1_ := Aside0.mk (below_step (by repeat (first | (with_reducible first | exact HB.out | apply below_alloc | apply pw_below_drewN | apply below_drew1) | exact HB.out)) hb); clear HB; have HO148 := n0_; have HB := n1_; clear n0_ n1_; (try clear hb); (try clear hb2); (try clear hk); (try clear hi); (try clear ho0)) | (go_at_call 31; (with_reducible refine (lines_Split.calls _ _ l1 t149 _ ?side1 ?side2 A8.out).mono ?_); (case side1 => repeat (first | exact (Kd.C_below HR1.out HB.out) | (with_reducible refine Kd.C_alloc ?_ _) | (with_reducible refine Kd.C_drewN ?_ _) | (with_reducible refine Kd.C_drew ?_))); (case side2 => exact HC1.out); rintro e w11 ⟨v150, rfl, ho0, hb⟩; have n0_ := Aside0.mk (Kd.R_elder' (by (with_reducible repeat (first | apply Kd.R_alloc | apply Kd.R_drewN | apply Kd.R_drew)); exact HO148.out) (Kd.R_base ho0) hb); have n1_ := Aside0.mk (Kd.R_lower (Kd.R_new' ho0 (Kd.R_lt (by (with_reducible repeat (first | apply Kd.R_alloc | apply Kd.R_drewN | apply Kd.R_drew)); exact HO148.out))) (below_size (by repeat (first | (with_reducible first | exact HB.out | apply below_alloc | apply pw_below_drewN | apply below_drew1) | exact HB.out)))); have n2_ := Aside0.mk (below_step (by repeat (first | (with_reducible first | exact HB.out | apply below_alloc | apply pw_below_drewN | apply below_drew1) | exact HB.out)) hb); clear HO148; clear HB; have HO148 := n0_; have HO151 := n1_; have HB := n2_; clear n0_ n1_ n2_; (try clear hb); (try clear hb2); (try clear hk); (try clear hi); (try clear ho0); obtain ⟨Ao12, co12, eo12⟩ := Kd.R_slice HO148.out; subst eo12; obtain ⟨Ao13, co13, eo13⟩ := Kd.R_slice HO151.out; subst eo13) | (go_at_call 32; (with_reducible refine (hunks_Changes.calls _ _ t146 _ _ t149 t152 _ ?side1 ?side2 ?side3 ?side4 A9.out).mono ?_); (case side1 => repeat (first | exact (Kd.R_reads' HO148.out).2.2 | (with_reducible refine Kd.C_alloc ?_ _) | (with_reducible refine Kd.C_drewN ?_ _) | (with_reducible refine Kd.C_drew ?_))); (case side2 => exact (Kd.R_reads' HO148.out).2.1); (case side3 => repeat (first | exact (Kd.R_reads' HO151.out).2.2 | (with_reducible refine Kd.C_alloc ?_ _) | (with_reducible refine Kd.C_drewN ?_ _) | (with_reducible refine Kd.C_drew ?_))); (case side4 => exact (Kd.R_reads' HO151.out).2.1); rintro e w14 ⟨v153, rfl, ho0, hb⟩; have n0_ := Aside0.mk (Kd.R_below (by (with_reducible repeat (first | apply Kd.R_alloc | apply Kd.R_drewN | apply Kd.R_drew)); exact HO148.out) hb); have n1_ := Aside0.mk (Kd.R_below (by (with_reducible repeat (first | apply Kd.R_alloc | apply Kd.R_drewN | apply Kd.R_drew)); exact HO151.out) hb); have n2_ := Aside0.mk (Kd.R_lower ho0 (below_size (by repeat (first | (with_reducible first | exact HB.out | apply below_alloc | apply pw_below_drewN | apply below_drew1) | exact HB.out)))); have n3_ := Aside0.mk (below_step (by repeat (first | (with_reducible first | exact HB.out | apply below_alloc | apply pw_below_drewN | apply below_drew1) | exact HB.out)) hb); clear HO148; clear HO151; clear HB; have HO148 := n0_; have HO151 := n1_; have HO154 := n2_; have HB := n3_; clear n0_ n1_ n2_ n3_; (try clear hb); (try clear hb2); (try clear hk); (try clear hi); (try clear ho0))); try go_wp2_with (first | (go_at_call 31; (with_reducible refine (lines_Split.calls _ _ l0 t146 _ ?side1 ?side2 A7.out).mono ?_); (case side1 => repeat (first | exact (Kd.C_below HR0.out HB.out) | (with_reducible refine Kd.C_alloc ?_ _) | (with_reducible refine Kd.C_drewN ?_ _) | (with_reducible refine Kd.C_drew ?_))); (case side2 => exact HC0.out); rintro e w10 ⟨v147, rfl, ho0, hb⟩; have n0_ := Aside0.mk (Kd.R_lower ho0 (below_size (by repeat (first | (with_reducible first | exact HB.out | apply below_alloc | apply pw_below_drewN | apply below_drew1) | exact HB.out)))); have n1_ := Aside0.mk (below_step (by repeat (first | (with_reducible first | exact HB.out | apply below_alloc | apply pw_below_drewN | apply below_drew1) | exact HB.out)) hb); clear HB; have HO148 := n0_; have HB := n1_; clear n0_ n1_; (try clear hb); (try clear hb2); (try clear hk); (try clear hi); (try clear ho0)) | (go_at_call 31; (with_reducible refine (lines_Split.calls _ _ l1 t149 _ ?side1 ?side2 A8.out).mono ?_); (case side1 => repeat (first | exact (Kd.C_below HR1.out HB.out) | (with_reducible refine Kd.C_alloc ?_ _) | (with_reducible refine Kd.C_drewN ?_ _) | (with_reducible refine Kd.C_drew ?_))); (case side2 => exact HC1.out); rintro e w11 ⟨v150, rfl, ho0, hb⟩; have n0_ := Aside0.mk (Kd.R_elder' (by (with_reducible repeat (first | apply Kd.R_alloc | apply Kd.R_drewN | apply Kd.R_drew)); exact HO148.out) (Kd.R_base ho0) hb); have n1_ := Aside0.mk (Kd.R_lower (Kd.R_new' ho0 (Kd.R_lt (by (with_reducible repeat (first | apply Kd.R_alloc | apply Kd.R_drewN | apply Kd.R_drew)); exact HO148.out))) (below_size (by repeat (first | (with_reducible first | exact HB.out | apply below_alloc | apply pw_below_drewN | apply below_drew1) | exact HB.out)))); have n2_ := Aside0.mk (below_step (by repeat (first | (with_reducible first | exact HB.out | apply below_alloc | apply pw_below_drewN | apply below_drew1) | exact HB.out)) hb); clear HO148; clear HB; have HO148 := n0_; have HO151 := n1_; have HB := n2_; clear n0_ n1_ n2_; (try clear hb); (try clear hb2); (try clear hk); (try clear hi); (try clear ho0); obtain ⟨Ao12, co12, eo12⟩ := Kd.R_slice HO148.out; subst eo12; obtain ⟨Ao13, co13, eo13⟩ := Kd.R_slice HO151.out; subst eo13) | (go_at_call 32; (with_reducible refine (hunks_Changes.calls _ _ t146 _ _ t149 t152 _ ?side1 ?side2 ?side3 ?side4 A9.out).mono ?_); (case side1 => repeat (first | exact (Kd.R_reads' HO148.out).2.2 | (with_reducible refine Kd.C_alloc ?_ _) | (with_reducible refine Kd.C_drewN ?_ _) | (with_reducible refine Kd.C_drew ?_))); (case side2 => exact (Kd.R_reads' HO148.out).2.1); (case side3 => repeat (first | exact (Kd.R_reads' HO151.out).2.2 | (with_reducible refine Kd.C_alloc ?_ _) | (with_reducible refine Kd.C_drewN ?_ _) | (with_reducible refine Kd.C_drew ?_))); (case side4 => exact (Kd.R_reads' HO151.out).2.1); rintro e w14 ⟨v153, rfl, ho0, hb⟩; have n0_ := Aside0.mk (Kd.R_below (by (with_reducible repeat (first | apply Kd.R_alloc | apply Kd.R_drewN | apply Kd.R_drew)); exact HO148.out) hb); have n1_ := Aside0.mk (Kd.R_below (by (with_reducible repeat (first | apply Kd.R_alloc | apply Kd.R_drewN | apply Kd.R_drew)); exact HO151.out) hb); have n2_ := Aside0.mk (Kd.R_lower ho0 (below_size (by repeat (first | (with_reducible first | exact HB.out | apply below_alloc | apply pw_below_drewN | apply below_drew1) | exact HB.out)))); have n3_ := Aside0.mk (below_step (by repeat (first | (with_reducible first | exact HB.out | apply below_alloc | apply pw_below_drewN | apply below_drew1) | exact HB.out)) hb); clear HO148; clear HO151; clear HB; have HO148 := n0_; have HO151 := n1_; have HO154 := n2_; have HB := n3_; clear n0_ n1_ n2_ n3_; (try clear hb); (try clear hb2); (try clear hk); (try clear hi); (try clear ho0))))
    go_loopg [10, 11] kj3 (fun kq v10 v11 w' => ∃ (x10_2 : List (S26)) (x11_2 : List (S78)), Aside0 (hunks_Make.l0 kq a2 t146 t149 x10_2 x11_2 = some (r1, r2)) ∧ Aside0 (kq ≤ kj3) ∧ Aside0 (Kd.R Kd.string 9 w' w.heap.size (fun k_ => some k_ ≠ ((.slice Ao13 t149.length co13) : Value).ownBlock) (.slice Ao12 t146.length co12) t146) ∧ Aside0 (Kd.R Kd.string 9 w' w.heap.size (fun k_ => some k_ ≠ ((.slice Ao12 t146.length co12) : Value).ownBlock) (.slice Ao13 t149.length co13) t149) ∧ Aside0 (Kd.S k26 26 w' w.heap.size (fun _ => True) v10 x10_2) ∧ Aside0 (Kd.Q k78 78 w' w.heap.size (fun _ => True) v11 x11_2) ∧ Aside0 (Below w.heap.size w w'))
    case atStart => exact ⟨(([] : List (S26))), (t152), H', ⟨Nat.le_refl _⟩, ⟨by (with_reducible repeat (first | apply Kd.R_alloc | apply Kd.R_drewN | apply Kd.R_drew)); exact Kd.R_mono HO148.out (fun _ hk => hk.2)⟩, ⟨by (with_reducible repeat (first | apply Kd.R_alloc | apply Kd.R_drewN | apply Kd.R_drew)); exact Kd.R_mono HO151.out (fun _ hk => hk.2)⟩, ⟨by first | exact Kd.S_nil _ _ _ _ _ | exact Kd.N_nil _ _ _ _ _ | exact Kd.V_nil _ _ _ _ _ | exact Kd.Q_nil _ _ _ _ _ | exact Kd.R_nil _ _ _ _ _⟩, ⟨Kd.Q_of_R (by (with_reducible repeat (first | apply Kd.R_alloc | apply Kd.R_drewN | apply Kd.R_drew)); exact HO154.out)⟩, ⟨by repeat (first | (with_reducible first | exact HB.out | apply below_alloc | apply pw_below_drewN | apply below_drew1) | exact HB.out)⟩⟩
    case round =>
     clear H'
     try clear c1
     try clear p2
     try clear c5
     try clear c5b0
     try clear c6
     try clear c14
     try clear p2
     obtain ⟨x10_2, x11_2, HA, HK2, HO_8, HO_9, HO_10, HO_11, HB⟩ := hrel
     cases gk with
     | zero => exact absurd HA.out (by simp [hunks_Make.l0])
     | succ k2 =>
      have H := HA.out
      clear HA
      simp only [hunks_Make.l0] at H
      by_cases c15 : (x11_2.length : Int) > 0
      ·rw [if_pos c15] at H
       have c15b0 : decide (0 < (x11_2.length : Int)) = true := decide_eq_true c15
       have c15b1 : decide (0 < x11_2.length) = true := decide_eq_true (by omega)
       clear c15
       have H' := Aside0.mk H
       clear H
       obtain ⟨Ao16, co16, eo16, _⟩ := Kd.Q_slice HO_11.out
       subst eo16
       go_wp2
       repeat (go_quiet (fail); try go_wp2)
       go_loopg [12] k2 (fun kq v12 w' => ∃ (x12_3 : Int), v12 = .int .i64 x12_3 ∧ Aside0 (hunks_Make.l1 kq a2 t146 t149 x10_2 x11_2 x12_3 = some (r1, r2)) ∧ Aside0 (kq ≤ k2) ∧ Aside0 (Kd.R Kd.string 9 w' w.heap.size (fun k_ => some k_ ≠ ((.slice Ao13 t149.length co13) : Value).ownBlock) (.slice Ao12 t146.length co12) t146) ∧ Aside0 (Kd.R Kd.string 9 w' w.heap.size (fun k_ => some k_ ≠ ((.slice Ao12 t146.length co12) : Value).ownBlock) (.slice Ao13 t149.length co13) t149) ∧ Aside0 (Kd.S k26 26 w' w.heap.size (fun _ => True) u10 x10_2) ∧ Aside0 (Kd.Q k78 78 w' w.heap.size (fun _ => True) (.slice Ao16 x11_2.length co16) x11_2) ∧ Aside0 (Below w.heap.size w w'))
       case atStart => exact ⟨(1), (by first | rfl | (simp; done) | (simp [*]; done)), H', ⟨Nat.le_refl _⟩, ⟨by (with_reducible repeat (first | apply Kd.R_alloc | apply Kd.R_drewN | apply Kd.R_drew)); exact HO_8.out⟩, ⟨by (with_reducible repeat (first | apply Kd.R_alloc | apply Kd.R_drewN | apply Kd.R_drew)); exact HO_9.out⟩, ⟨by (with_reducible repeat (first | apply Kd.S_alloc | apply Kd.S_drewN | apply Kd.S_drew)); exact HO_10.out⟩, ⟨by (with_reducible repeat (first | apply Kd.Q_alloc | apply Kd.Q_drewN | apply Kd.Q_drew)); exact HO_11.out⟩, ⟨by repeat (first | (with_reducible first | exact HB.out | apply below_alloc | apply pw_below_drewN | apply below_drew1) | exact HB.out)⟩⟩
       case round =>
        clear H'
        try clear c1
        try clear p2
        try clear c5
        try clear c5b0
        try clear c6
        try clear c14
        try clear c15
        try clear c15b0
        try clear c15b1
        try clear p2
        obtain ⟨x12_3, rfl, HA, HK3, HO_8, HO_9, HO_10, HO_11, HB⟩ := hrel
        cases gk with
        | zero => exact absurd HA.out (by simp [hunks_Make.l1])
        | succ k3 =>
         have H := HA.out
         clear HA
         simp only [hunks_Make.l1] at H
         by_cases c17 : x12_3 < (x11_2.length : Int)
         ·rw [if_pos c17] at H
          have c17b0 : decide (x12_3 < (x11_2.length : Int)) = true := decide_eq_true c17
          clear c17
          by_cases c18 : 0 ≤ x12_3
          ·rw [if_pos c18] at H
           have c18b0 : decide (0 ≤ x12_3) = true := decide_eq_true c18
           clear c18
           obtain ⟨ji19, hji19⟩ : ∃ j_ : Int, (wrap64 (x12_3 - 1)) = j_ := ⟨_, rfl⟩
           replace H : (if 0 ≤ (ji19) then (if (ji19) < (x11_2.length : Int) then (if (wrap64 (((rd_T78 x11_2 x12_3).f0) - (wrap64 (((rd_T78 x11_2 (ji19)).f0) + ((rd_T78 x11_2 (ji19)).f1))))) ≤ (wrap64 (2 * a2)) then (hunks_Make.l1 k3 a2 t146 t149 x10_2 x11_2 (wrap64 (x12_3 + 1))) else (if x12_3 ≤ (x11_2.length : Int) then ((hunks_hunk.f k3 t146 t149 (x11_2.take (x12_3 : Int).toNat) a2).bind fun bt162 => (if x10_2.length < 2513169434916 then (hunks_Make.l0 k3 a2 t146 t149 (x10_2 ++ [(⟨bt162.1, bt162.2.1, bt162.2.2.1, bt162.2.2.2.1, bt162.2.2.2.2⟩ : S26)]) (x11_2.drop (x12_3 : Int).toNat)) else (none))) else (none))) else (none)) else (none)) = some (r1, r2) := by first | (rw [hji19] at H; exact H) | (simp only [hji19] at H ⊢; exact H)
           have hji19w : (IntKind.i64.wrap (x12_3 - 1)) = ji19 := (i64_w _).trans hji19
           by_cases c20 : 0 ≤ (ji19)
           ·rw [if_pos c20] at H
            have c20b0 : decide (0 ≤ (ji19)) = true := decide_eq_true c20
            clear c20
            by_cases c21 : (ji19) < (x11_2.length : Int)
            ·rw [if_pos c21] at H
             have c21b0 : decide ((ji19) < (x11_2.length : Int)) = true := decide_eq_true c21
             clear c21
             by_cases c22 : (wrap64 (((rd_T78 x11_2 x12_3).f0) - (wrap64 (((rd_T78 x11_2 (ji19)).f0) + ((rd_T78 x11_2 (ji19)).f1))))) ≤ (wrap64 (2 * a2))
             ·rw [if_pos c22] at H
              have c22b0 : decide ((wrap64 (((rd_T78 x11_2 x12_3).f0) - (wrap64 (((rd_T78 x11_2 (ji19)).f0) + ((rd_T78 x11_2 (ji19)).f1))))) ≤ (wrap64 (2 * a2))) = true := decide_eq_true c22
              clear c22
              have H' := Aside0.mk H
              clear H
              have p155 : 0 ≤ (x12_3 : Int) := of_decide_eq_true (by first | (with_reducible assumption) | assumption)
              have q155 : x12_3 < (x11_2.length : Int) := of_decide_eq_true (by first | (with_reducible assumption) | assumption)
              obtain ⟨ad155, e155, hx155_0, hx155_1, hx155_2, hx155_3⟩ := at_T78 (Kd.Q_reads' HO_11.out).2.2 x12_3 p155 q155
              cases e155
              replace p155 := eq_true p155
              replace q155 := eq_true q155
              have p156 : 0 ≤ ((ji19) : Int) := of_decide_eq_true (by first | (with_reducible assumption) | assumption)
              have q156 : (ji19) < (x11_2.length : Int) := of_decide_eq_true (by first | (with_reducible assumption) | assumption)
              obtain ⟨ad156, e156, hx156_0, hx156_1, hx156_2, hx156_3⟩ := at_T78 (Kd.Q_reads' HO_11.out).2.2 (ji19) p156 q156
              obtain rfl : ad155 = ad156 := (by injection e156)
              replace p156 := eq_true p156
              replace q156 := eq_true q156
              have p157 : 0 ≤ ((ji19) : Int) := of_decide_eq_true (by first | (with_reducible assumption) | assumption)
              have q157 : (ji19) < (x11_2.length : Int) := of_decide_eq_true (by first | (with_reducible assumption) | assumption)
              obtain ⟨ad157, e157, hx157_0, hx157_1, hx157_2, hx157_3⟩ := at_T78 (Kd.Q_reads' HO_11.out).2.2 (ji19) p157 q157
              obtain rfl : ad155 = ad157 := (by injection e157)
              replace p157 := eq_true p157
              replace q157 := eq_true q157
              go_wp2
              repeat (go_quiet (fail); try go_wp2)
              go_roundg k3
              case measure => have := HJ3.out; have := HK2.out; have := HK3.out; omega
              case rel => exact ⟨(wrap64 (x12_3 + 1)), (by first | rfl | (simp; done) | (simp [*]; done)), H', ⟨by have := HJ3.out; have := HK2.out; have := HK3.out; omega⟩, ⟨by (with_reducible repeat (first | apply Kd.R_alloc | apply Kd.R_drewN | apply Kd.R_drew)); exact HO_8.out⟩, ⟨by (with_reducible repeat (first | apply Kd.R_alloc | apply Kd.R_drewN | apply Kd.R_drew)); exact HO_9.out⟩, ⟨by (with_reducible repeat (first | apply Kd.S_alloc | apply Kd.S_drewN | apply Kd.S_drew)); exact HO_10.out⟩, ⟨by (with_reducible repeat (first | apply Kd.Q_alloc | apply Kd.Q_drewN | apply Kd.Q_drew)); exact HO_11.out⟩, ⟨by repeat (first | (with_reducible first | exact HB.out | apply below_alloc | apply pw_below_drewN | apply below_drew1) | exact HB.out)⟩⟩
             ·rw [if_neg c22] at H
              have c22b0 : decide ((wrap64 (((rd_T78 x11_2 x12_3).f0) - (wrap64 (((rd_T78 x11_2 (ji19)).f0) + ((rd_T78 x11_2 (ji19)).f1))))) ≤ (wrap64 (2 * a2))) = false := decide_eq_false c22
              clear c22
              have c23b0 := eq_true (of_decide_eq_true (by first | (with_reducible assumption) | assumption) : 0 ≤ x12_3)
              by_cases c24 : x12_3 ≤ (x11_2.length : Int)
              ·rw [if_pos c24] at H
               have c24b0 := eq_true c24
               have c24b1 : decide (x12_3 ≤ (x11_2.length : Int)) = true := decide_eq_true c24
               clear c24
               obtain ⟨y158, hy158⟩ : ∃ y_ : List (S78), y_ = (x11_2.take (x12_3 : Int).toNat) := ⟨_, rfl⟩
               replace H : ((hunks_hunk.f k3 t146 t149 y158 a2).bind fun bt162 => (if x10_2.length < 2513169434916 then (hunks_Make.l0 k3 a2 t146 t149 (x10_2 ++ [(⟨bt162.1, bt162.2.1, bt162.2.2.1, bt162.2.2.2.1, bt162.2.2.2.2⟩ : S26)]) (x11_2.drop (x12_3 : Int).toNat)) else (none))) = some (r1, r2) := by first | (rw [hy158]; with_reducible exact H) | (have H2_ := (Option.bind_some _ _).symm.trans H; rw [hy158]; with_reducible exact H2_) | (have H2_ := (Option.bind_some _ _).symm.trans H; with_reducible exact H2_) | with_reducible exact H | (rw [hy158]; exact H) | exact H
               have Ny158 := Aside0.mk hy158
               clear hy158
               replace H := Option.bind_eq_some_iff.mp H
               obtain ⟨⟨t162, t163, t164, t165, t166⟩, A250, H⟩ := H
               replace H : (if x10_2.length < 2513169434916 then (hunks_Make.l0 k3 a2 t146 t149 (x10_2 ++ [(⟨t162, t163, t164, t165, t166⟩ : S26)]) (x11_2.drop (x12_3 : Int).toNat)) else (none)) = some (r1, r2) := H
               have A25 := Aside0.mk A250
               clear A250
               by_cases c26 : x10_2.length < 2513169434916
               ·rw [if_pos c26] at H
                have LMc26 := Aside0.mk c26
                clear c26
                obtain ⟨y169, hy169⟩ : ∃ y_ : List (S26), y_ = (x10_2 ++ [(⟨t162, t163, t164, t165, t166⟩ : S26)]) := ⟨_, rfl⟩
                replace H : (hunks_Make.l0 k3 a2 t146 t149 y169 (x11_2.drop (x12_3 : Int).toNat)) = some (r1, r2) := by first | (rw [hy169]; with_reducible exact H) | (have H2_ := (Option.bind_some _ _).symm.trans H; rw [hy169]; with_reducible exact H2_) | (have H2_ := (Option.bind_some _ _).symm.trans H; with_reducible exact H2_) | with_reducible exact H | (rw [hy169]; exact H) | exact H
                have Ny169 := Aside0.mk hy169
                clear hy169
                have c27b0 := eq_true (of_decide_eq_true (by first | (with_reducible assumption) | assumption) : x12_3 ≤ (x11_2.length : Int))
                obtain ⟨y172, hy172⟩ : ∃ y_ : List (S78), y_ = (x11_2.drop (x12_3 : Int).toNat) := ⟨_, rfl⟩
                replace H : (hunks_Make.l0 k3 a2 t146 t149 y169 y172) = some (r1, r2) := by first | (rw [hy172]; with_reducible exact H) | (have H2_ := (Option.bind_some _ _).symm.trans H; rw [hy172]; with_reducible exact H2_) | (have H2_ := (Option.bind_some _ _).symm.trans H; with_reducible exact H2_) | with_reducible exact H | (rw [hy172]; exact H) | exact H
                have Ny172 := Aside0.mk hy172
                clear hy172
                have H' := Aside0.mk H
                clear H
                have p155 : 0 ≤ (x12_3 : Int) := of_decide_eq_true (by first | (with_reducible assumption) | assumption)
                have q155 : x12_3 < (x11_2.length : Int) := of_decide_eq_true (by first | (with_reducible assumption) | assumption)
                obtain ⟨ad155, e155, hx155_0, hx155_1, hx155_2, hx155_3⟩ := at_T78 (Kd.Q_reads' HO_11.out).2.2 x12_3 p155 q155
                cases e155
                replace p155 := eq_true p155
                replace q155 := eq_true q155
                have p156 : 0 ≤ ((ji19) : Int) := of_decide_eq_true (by first | (with_reducible assumption) | assumption)
                have q156 : (ji19) < (x11_2.length : Int) := of_decide_eq_true (by first | (with_reducible assumption) | assumption)
                obtain ⟨ad156, e156, hx156_0, hx156_1, hx156_2, hx156_3⟩ := at_T78 (Kd.Q_reads' HO_11.out).2.2 (ji19) p156 q156
                obtain rfl : ad155 = ad156 := (by injection e156)
                replace p156 := eq_true p156
                replace q156 := eq_true q156
                have p157 : 0 ≤ ((ji19) : Int) := of_decide_eq_true (by first | (with_reducible assumption) | assumption)
                have q157 : (ji19) < (x11_2.length : Int) := of_decide_eq_true (by first | (with_reducible assumption) | assumption)
                obtain ⟨ad157, e157, hx157_0, hx157_1, hx157_2, hx157_3⟩ := at_T78 (Kd.Q_reads' HO_11.out).2.2 (ji19) p157 q157
                obtain rfl : ad155 = ad157 := (by injection e157)
                replace p157 := eq_true p157
                replace q157 := eq_true q157
                have q28 : (x12_3 : Int) ≤ ((x11_2.length : Int) : Int) := of_decide_eq_true (by first | (with_reducible assumption) | assumption)
                obtain ⟨i028, hi028, _, hsz28, _⟩ := info_parts info78
                have hroom28 : x11_2.length ≤ co16 := (Kd.Q_reads' HO_11.out).2.1
                have hC28 : Kd.C k78 _ (some ad155) x11_2.length x11_2 := (Kd.Q_reads' HO_11.out).2.2
                have hcut28 := cut_to (P := Tryd.prog) 75 78 .i64 Tryd.underlying75 hi028 (some ad155) x11_2.length co16 x12_3 (of_decide_eq_true (by first | (with_reducible assumption) | assumption)) q28 hroom28
                have hr28 := Kd.C_take (m := (x12_3 : Int).toNat) hC28 (by omega)
                have hy28 : y158.length = (x12_3 : Int).toNat := (by rw [Ny158.out, List.length_take]; omega)
                rw [← Ny158.out] at hr28
                rw [← hy28] at hcut28
                have HR161 := Aside0.mk hr28
                have HC161 := Aside0.mk (show y158.length ≤ co16 from by omega)
                clear hr28 hC28 hroom28 hi028 hsz28
                have KY28 := Aside0.mk hy28
                clear hy28
                have KL28 := Aside0.mk (show (x12_3 : Int).toNat ≤ x11_2.length from by omega)
                replace q28 := eq_true q28
                go_wp2_with (first | (go_at_call 33; (with_reducible refine (hunks_hunk.calls k3 _ _ t146 _ _ t149 _ _ y158 a2 t162 t163 t164 t165 t166 _ ?side1 ?side2 ?side3 ?side4 ?side5 ?side6 A25.out).mono ?_); (case side1 => repeat (first | exact (Kd.R_reads' HO_8.out).2.2 | (with_reducible refine Kd.C_alloc ?_ _) | (with_reducible refine Kd.C_drewN ?_ _) | (with_reducible refine Kd.C_drew ?_))); (case side2 => exact (Kd.R_reads' HO_8.out).2.1); (case side3 => repeat (first | exact (Kd.R_reads' HO_9.out).2.2 | (with_reducible refine Kd.C_alloc ?_ _) | (with_reducible refine Kd.C_drewN ?_ _) | (with_reducible refine Kd.C_drew ?_))); (case side4 => exact (Kd.R_reads' HO_9.out).2.1); (case side5 => repeat (first | exact (by repeat (first | (with_reducible exact HR161.out) | (with_reducible refine Kd.C_alloc ?_ _) | (with_reducible refine Kd.C_drewN ?_ _) | (with_reducible refine Kd.C_drew ?_) | exact HR161.out)) | (with_reducible refine Kd.C_alloc ?_ _) | (with_reducible refine Kd.C_drewN ?_ _) | (with_reducible refine Kd.C_drew ?_))); (case side6 => exact HC161.out); rintro e w29 ⟨v167, rfl, ho0, hb⟩; have n0_ := Aside0.mk (Kd.R_below (by (with_reducible repeat (first | apply Kd.R_alloc | apply Kd.R_drewN | apply Kd.R_drew)); exact HO_8.out) hb); have n1_ := Aside0.mk (Kd.R_below (by (with_reducible repeat (first | apply Kd.R_alloc | apply Kd.R_drewN | apply Kd.R_drew)); exact HO_9.out) hb); have n2_ := Aside0.mk (Kd.S_elder' (by (with_reducible repeat (first | apply Kd.S_alloc | apply Kd.S_drewN | apply Kd.S_drew)); exact HO_10.out) (Kd.R_base ho0) hb); have n3_ := Aside0.mk (Kd.Q_below (by (with_reducible repeat (first | apply Kd.Q_alloc | apply Kd.Q_drewN | apply Kd.Q_drew)); exact HO_11.out) hb); have n4_ := Aside0.mk (Kd.R_lower ho0 (below_size (by repeat (first | (with_reducible first | exact HB.out | apply below_alloc | apply pw_below_drewN | apply below_drew1) | exact HB.out)))); have n5_ := Aside0.mk (Kd.C_below (by repeat (first | (with_reducible exact HR161.out) | (with_reducible refine Kd.C_alloc ?_ _) | (with_reducible refine Kd.C_drewN ?_ _) | (with_reducible refine Kd.C_drew ?_) | exact HR161.out)) hb); have n6_ := Aside0.mk (below_step (by repeat (first | (with_reducible first | exact HB.out | apply below_alloc | apply pw_below_drewN | apply below_drew1) | exact HB.out)) hb); clear HO_8; clear HO_9; clear HO_10; clear HO_11; clear HR161; clear HB; have HO_8 := n0_; have HO_9 := n1_; have HO_10 := n2_; have HO_11 := n3_; have HO168 := n4_; have HR161 := n5_; have HB := n6_; clear n0_ n1_ n2_ n3_ n4_ n5_ n6_; (try clear hb); (try clear hb2); (try clear hk); (try clear hi); (try clear ho0); obtain ⟨Ao31, co31, eo31⟩ := Kd.R_slice HO168.out; subst eo31) | ((with_reducible refine gate_builtin (b := .append) (xs := #[.tmp 59, .tmp 67]) rfl ?_); at_builtin; refine Kd.S_append k26 (w0 := w) w.heap.size rfl (.tmp 59) (.tmp 67) 22 26 (.agg #[(.int .i64 0), (.int .i64 0), (.int .i64 0), (.int .i64 0), (.slice none 0 0)]) 56 rfl Tryd.underlying22 info26 rfl (by decide) (by omega) u10 x10_2 (⟨t162, t163, t164, t165, t166⟩ : S26) [.int .i64 t162, .int .i64 t163, .int .i64 t164, .int .i64 t165, .slice Ao31 t166.length co31] (fun _ => True) (fun k_ => some k_ = (.slice Ao31 t166.length co31 : Value).ownBlock) rfl rfl ?aP (fun k_ hk_ => ((Kd.R_mono (ok' := fun k_ => ((fun _ => True)) k_ ∧ some k_ ≠ (u10 : Value).ownBlock) (Kd.R_apart' (HO168.out) (Kd.S_typed HO_10.out) (by decide)) (fun k_ hk => ⟨trivial, hk.2⟩))).1 k_ hk_.symm) ?aF ?aO ?aB ?aS ?aL ?_; (case aP => exact k26_mkM _ _ _ (⟨t162, t163, t164, t165, t166⟩ : S26) (Kd.R_mono (Kd.R_tight rfl (Kd.R_mono (ok' := fun k_ => ((fun _ => True)) k_ ∧ some k_ ≠ (u10 : Value).ownBlock) (Kd.R_apart' (HO168.out) (Kd.S_typed HO_10.out) (by decide)) (fun k_ hk => ⟨trivial, hk.2⟩))) (fun _ h_ => h_))); (case aB => exact (by repeat (first | (with_reducible first | exact HB.out | apply below_alloc | apply pw_below_drewN | apply below_drew1) | exact HB.out))); (case aF => exact (fun _ _ => trivial)); (case aO => exact (by (with_reducible repeat (first | apply Kd.S_alloc | apply Kd.S_drewN | apply Kd.S_drew)); exact Kd.S_mono HO_10.out (fun k_ hk => ⟨trivial, fun e_ => hk.2 e_⟩))); (case aS => exact (below_size (by repeat (first | (with_reducible first | exact HB.out | apply below_alloc | apply pw_below_drewN | apply below_drew1) | exact HB.out)))); (case aL => have := LMc26.out; omega); intro v170 w30 ho hb hg hat; rw [← Ny169.out] at ho; have n0_ := Aside0.mk (Kd.R_over' (by (with_reducible repeat (first | apply Kd.R_alloc | apply Kd.R_drewN | apply Kd.R_drew)); exact HO_8.out) (Kd.S_typed (by (with_reducible repeat (first | apply Kd.S_alloc | apply Kd.S_drewN | apply Kd.S_drew)); exact HO_10.out)) (by decide) hg); have n1_ := Aside0.mk (Kd.R_over' (by (with_reducible repeat (first | apply Kd.R_alloc | apply Kd.R_drewN | apply Kd.R_drew)); exact HO_9.out) (Kd.S_typed (by (with_reducible repeat (first | apply Kd.S_alloc | apply Kd.S_drewN | apply Kd.S_drew)); exact HO_10.out)) (by decide) hg); have n2_ := Aside0.mk (Kd.Q_over' (by (with_reducible repeat (first | apply Kd.Q_alloc | apply Kd.Q_drewN | apply Kd.Q_drew)); exact HO_11.out) (Kd.S_typed (by (with_reducible repeat (first | apply Kd.S_alloc | apply Kd.S_drewN | apply Kd.S_drew)); exact HO_10.out)) (by decide) hg); have n3_ := Aside0.mk (hb); have n4_ := Aside0.mk ((show Kd.C k78 w30 (some ad155) y158.length y158 from by rw [Ny158.out]; exact Kd.C_take (m := (x12_3 : Int).toNat) ((Kd.Q_reads' (Kd.Q_over' (by (with_reducible repeat (first | apply Kd.Q_alloc | apply Kd.Q_drewN | apply Kd.Q_drew)); exact HO_11.out) (Kd.S_typed (by (with_reducible repeat (first | apply Kd.S_alloc | apply Kd.S_drewN | apply Kd.S_drew)); exact HO_10.out)) (by decide) hg)).2.2) KL28.out)); have n5_ := Aside0.mk (ho); clear HO_8; clear HO_9; clear HO_11; clear HB; clear HR161; clear HO_10; clear HO168; have HO_8 := n0_; have HO_9 := n1_; have HO_11 := n2_; have HB := n3_; have HR161 := n4_; have HO171 := n5_; clear n0_ n1_ n2_ n3_ n4_ n5_; clear ho hb hg hat; have q32 : (x12_3 : Int) ≤ ((x11_2.length : Int) : Int) := of_decide_eq_true (by first | (with_reducible assumption) | assumption); obtain ⟨i032, hi032, _, hsz32, _⟩ := info_parts info78; have hcut32 := cut_from (P := Tryd.prog) 75 78 .i64 Tryd.underlying75 hi032 4 hsz32 (some ad155) x11_2.length co16 x12_3 (of_decide_eq_true (by first | (with_reducible assumption) | assumption)) q32; have hr32 := Kd.Q_drop (k := (x12_3 : Int).toNat) HO_11.out (by omega); obtain ⟨A32, hA32⟩ : ∃ A1, A1 = (if co16 = (x12_3 : Int).toNat then (some ad155) else ((some ad155) : Option Addr).map (·.add ((x12_3 : Int).toNat * 4))) := ⟨_, rfl⟩; obtain ⟨c32, hc32⟩ : ∃ c1, c1 = co16 - (x12_3 : Int).toNat := ⟨_, rfl⟩; have hy32 : y172.length = x11_2.length - (x12_3 : Int).toNat := (by rw [Ny172.out, List.length_drop]); rw [← Ny172.out] at hr32; rw [← hy32, ← hA32, ← hc32] at hcut32; replace hr32 : Kd.Q k78 78 w30 w.heap.size (fun _ => True) (.slice A32 y172.length c32) y172 := (by rw [hA32, hc32, hy32]; exact hr32); have HE32 : Aside0 ((Value.slice A32 y172.length c32).ownBlock = (.slice (some ad155) x11_2.length co16 : Value).ownBlock) := ⟨by rw [hA32]; split <;> (cases ((some ad155) : Option Addr) <;> first | rfl | exact congrArg some (add_block _ _))⟩; clear hy32 hi032 hsz32 HO_11 hA32 hc32; have HO174 := Aside0.mk hr32; clear hr32; replace q32 := eq_true q32))
                repeat (go_quiet (first | (go_at_call 33; (with_reducible refine (hunks_hunk.calls k3 _ _ t146 _ _ t149 _ _ y158 a2 t162 t163 t164 t165 t166 _ ?side1 ?side2 ?side3 ?side4 ?side5 ?side6 A25.out).mono ?_); (case side1 => repeat (first | exact (Kd.R_reads' HO_8.out).2.2 | (with_reducible refine Kd.C_alloc ?_ _) | (with_reducible refine Kd.C_drewN ?_ _) | (with_reducible refine Kd.C_drew ?_))); (case side2 => exact (Kd.R_reads' HO_8.out).2.1); (case side3 => repeat (first | exact (Kd.R_reads' HO_9.out).2.2 | (with_reducible refine Kd.C_alloc ?_ _) | (with_reducible refine Kd.C_drewN ?_ _) | (with_reducible refine Kd.C_drew ?_))); (case side4 => exact (Kd.R_reads' HO_9.out).2.1); (case side5 => repeat (first | exact (by repeat (first | (with_reducible exact HR161.out) | (with_reducible refine Kd.C_alloc ?_ _) | (with_reducible refine Kd.C_drewN ?_ _) | (with_reducible refine Kd.C_drew ?_) | exact HR161.out)) | (with_reducible refine Kd.C_alloc ?_ _) | (with_reducible refine Kd.C_drewN ?_ _) | (with_reducible refine Kd.C_drew ?_))); (case side6 => exact HC161.out); rintro e w29 ⟨v167, rfl, ho0, hb⟩; have n0_ := Aside0.mk (Kd.R_below (by (with_reducible repeat (first | apply Kd.R_alloc | apply Kd.R_drewN | apply Kd.R_drew)); exact HO_8.out) hb); have n1_ := Aside0.mk (Kd.R_below (by (with_reducible repeat (first | apply Kd.R_alloc | apply Kd.R_drewN | apply Kd.R_drew)); exact HO_9.out) hb); have n2_ := Aside0.mk (Kd.S_elder' (by (with_reducible repeat (first | apply Kd.S_alloc | apply Kd.S_drewN | apply Kd.S_drew)); exact HO_10.out) (Kd.R_base ho0) hb); have n3_ := Aside0.mk (Kd.Q_below (by (with_reducible repeat (first | apply Kd.Q_alloc | apply Kd.Q_drewN | apply Kd.Q_drew)); exact HO_11.out) hb); have n4_ := Aside0.mk (Kd.R_lower ho0 (below_size (by repeat (first | (with_reducible first | exact HB.out | apply below_alloc | apply pw_below_drewN | apply below_drew1) | exact HB.out)))); have n5_ := Aside0.mk (Kd.C_below (by repeat (first | (with_reducible exact HR161.out) | (with_reducible refine Kd.C_alloc ?_ _) | (with_reducible refine Kd.C_drewN ?_ _) | (with_reducible refine Kd.C_drew ?_) | exact HR161.out)) hb); have n6_ := Aside0.mk (below_step (by repeat (first | (with_reducible first | exact HB.out | apply below_alloc | apply pw_below_drewN | apply below_drew1) | exact HB.out)) hb); clear HO_8; clear HO_9; clear HO_10; clear HO_11; clear HR161; clear HB; have HO_8 := n0_; have HO_9 := n1_; have HO_10 := n2_; have HO_11 := n3_; have HO168 := n4_; have HR161 := n5_; have HB := n6_; clear n0_ n1_ n2_ n3_ n4_ n5_ n6_; (try clear hb); (try clear hb2); (try clear hk); (try clear hi); (try clear ho0); obtain ⟨Ao31, co31, eo31⟩ := Kd.R_slice HO168.out; subst eo31) | ((with_reducible refine gate_builtin (b := .append) (xs := #[.tmp 59, .tmp 67]) rfl ?_); at_builtin; refine Kd.S_append k26 (w0 := w) w.heap.size rfl (.tmp 59) (.tmp 67) 22 26 (.agg #[(.int .i64 0), (.int .i64 0), (.int .i64 0), (.int .i64 0), (.slice none 0 0)]) 56 rfl Tryd.underlying22 info26 rfl (by decide) (by omega) u10 x10_2 (⟨t162, t163, t164, t165, t166⟩ : S26) [.int .i64 t162, .int .i64 t163, .int .i64 t164, .int .i64 t165, .slice Ao31 t166.length co31] (fun _ => True) (fun k_ => some k_ = (.slice Ao31 t166.length co31 : Value).ownBlock) rfl rfl ?aP (fun k_ hk_ => ((Kd.R_mono (ok' := fun k_ => ((fun _ => True)) k_ ∧ some k_ ≠ (u10 : Value).ownBlock) (Kd.R_apart' (HO168.out) (Kd.S_typed HO_10.out) (by decide)) (fun k_ hk => ⟨trivial, hk.2⟩))).1 k_ hk_.symm) ?aF ?aO ?aB ?aS ?aL ?_; (case aP => exact k26_mkM _ _ _ (⟨t162, t163, t164, t165, t166⟩ : S26) (Kd.R_mono (Kd.R_tight rfl (Kd.R_mono (ok' := fun k_ => ((fun _ => True)) k_ ∧ some k_ ≠ (u10 : Value).ownBlock) (Kd.R_apart' (HO168.out) (Kd.S_typed HO_10.out) (by decide)) (fun k_ hk => ⟨trivial, hk.2⟩))) (fun _ h_ => h_))); (case aB => exact (by repeat (first | (with_reducible first | exact HB.out | apply below_alloc | apply pw_below_drewN | apply below_drew1) | exact HB.out))); (case aF => exact (fun _ _ => trivial)); (case aO => exact (by (with_reducible repeat (first | apply Kd.S_alloc | apply Kd.S_drewN | apply Kd.S_drew)); exact Kd.S_mono HO_10.out (fun k_ hk => ⟨trivial, fun e_ => hk.2 e_⟩))); (case aS => exact (below_size (by repeat (first | (with_reducible first | exact HB.out | apply below_alloc | apply pw_below_drewN | apply below_drew1) | exact HB.out)))); (case aL => have := LMc26.out; omega); intro v170 w30 ho hb hg hat; rw [← Ny169.out] at ho; have n0_ := Aside0.mk (Kd.R_over' (by (with_reducible repeat (first | apply Kd.R_alloc | apply Kd.R_drewN | apply Kd.R_drew)); exact HO_8.out) (Kd.S_typed (by (with_reducible repeat (first | apply Kd.S_alloc | apply Kd.S_drewN | apply Kd.S_drew)); exact HO_10.out)) (by decide) hg); have n1_ := Aside0.mk (Kd.R_over' (by (with_reducible repeat (first | apply Kd.R_alloc | apply Kd.R_drewN | apply Kd.R_drew)); exact HO_9.out) (Kd.S_typed (by (with_reducible repeat (first | apply Kd.S_alloc | apply Kd.S_drewN | apply Kd.S_drew)); exact HO_10.out)) (by decide) hg); have n2_ := Aside0.mk (Kd.Q_over' (by (with_reducible repeat (first | apply Kd.Q_alloc | apply Kd.Q_drewN | apply Kd.Q_drew)); exact HO_11.out) (Kd.S_typed (by (with_reducible repeat (first | apply Kd.S_alloc | apply Kd.S_drewN | apply Kd.S_drew)); exact HO_10.out)) (by decide) hg); have n3_ := Aside0.mk (hb); have n4_ := Aside0.mk ((show Kd.C k78 w30 (some ad155) y158.length y158 from by rw [Ny158.out]; exact Kd.C_take (m := (x12_3 : Int).toNat) ((Kd.Q_reads' (Kd.Q_over' (by (with_reducible repeat (first | apply Kd.Q_alloc | apply Kd.Q_drewN | apply Kd.Q_drew)); exact HO_11.out) (Kd.S_typed (by (with_reducible repeat (first | apply Kd.S_alloc | apply Kd.S_drewN | apply Kd.S_drew)); exact HO_10.out)) (by decide) hg)).2.2) KL28.out)); have n5_ := Aside0.mk (ho); clear HO_8; clear HO_9; clear HO_11; clear HB; clear HR161; clear HO_10; clear HO168; have HO_8 := n0_; have HO_9 := n1_; have HO_11 := n2_; have HB := n3_; have HR161 := n4_; have HO171 := n5_; clear n0_ n1_ n2_ n3_ n4_ n5_; clear ho hb hg hat; have q32 : (x12_3 : Int) ≤ ((x11_2.length : Int) : Int) := of_decide_eq_true (by first | (with_reducible assumption) | assumption); obtain ⟨i032, hi032, _, hsz32, _⟩ := info_parts info78; have hcut32 := cut_from (P := Tryd.prog) 75 78 .i64 Tryd.underlying75 hi032 4 hsz32 (some ad155) x11_2.length co16 x12_3 (of_decide_eq_true (by first | (with_reducible assumption) | assumption)) q32; have hr32 := Kd.Q_drop (k := (x12_3 : Int).toNat) HO_11.out (by omega); obtain ⟨A32, hA32⟩ : ∃ A1, A1 = (if co16 = (x12_3 : Int).toNat then (some ad155) else ((some ad155) : Option Addr).map (·.add ((x12_3 : Int).toNat * 4))) := ⟨_, rfl⟩; obtain ⟨c32, hc32⟩ : ∃ c1, c1 = co16 - (x12_3 : Int).toNat := ⟨_, rfl⟩; have hy32 : y172.length = x11_2.length - (x12_3 : Int).toNat := (by rw [Ny172.out, List.length_drop]); rw [← Ny172.out] at hr32; rw [← hy32, ← hA32, ← hc32] at hcut32; replace hr32 : Kd.Q k78 78 w30 w.heap.size (fun _ => True) (.slice A32 y172.length c32) y172 := (by rw [hA32, hc32, hy32]; exact hr32); have HE32 : Aside0 ((Value.slice A32 y172.length c32).ownBlock = (.slice (some ad155) x11_2.length co16 : Value).ownBlock) := ⟨by rw [hA32]; split <;> (cases ((some ad155) : Option Addr) <;> first | rfl | exact congrArg some (add_block _ _))⟩; clear hy32 hi032 hsz32 HO_11 hA32 hc32; have HO174 := Aside0.mk hr32; clear hr32; replace q32 := eq_true q32)); try go_wp2_with (first | (go_at_call 33; (with_reducible refine (hunks_hunk.calls k3 _ _ t146 _ _ t149 _ _ y158 a2 t162 t163 t164 t165 t166 _ ?side1 ?side2 ?side3 ?side4 ?side5 ?side6 A25.out).mono ?_); (case side1 => repeat (first | exact (Kd.R_reads' HO_8.out).2.2 | (with_reducible refine Kd.C_alloc ?_ _) | (with_reducible refine Kd.C_drewN ?_ _) | (with_reducible refine Kd.C_drew ?_))); (case side2 => exact (Kd.R_reads' HO_8.out).2.1); (case side3 => repeat (first | exact (Kd.R_reads' HO_9.out).2.2 | (with_reducible refine Kd.C_alloc ?_ _) | (with_reducible refine Kd.C_drewN ?_ _) | (with_reducible refine Kd.C_drew ?_))); (case side4 => exact (Kd.R_reads' HO_9.out).2.1); (case side5 => repeat (first | exact (by repeat (first | (with_reducible exact HR161.out) | (with_reducible refine Kd.C_alloc ?_ _) | (with_reducible refine Kd.C_drewN ?_ _) | (with_reducible refine Kd.C_drew ?_) | exact HR161.out)) | (with_reducible refine Kd.C_alloc ?_ _) | (with_reducible refine Kd.C_drewN ?_ _) | (with_reducible refine Kd.C_drew ?_))); (case side6 => exact HC161.out); rintro e w29 ⟨v167, rfl, ho0, hb⟩; have n0_ := Aside0.mk (Kd.R_below (by (with_reducible repeat (first | apply Kd.R_alloc | apply Kd.R_drewN | apply Kd.R_drew)); exact HO_8.out) hb); have n1_ := Aside0.mk (Kd.R_below (by (with_reducible repeat (first | apply Kd.R_alloc | apply Kd.R_drewN | apply Kd.R_drew)); exact HO_9.out) hb); have n2_ := Aside0.mk (Kd.S_elder' (by (with_reducible repeat (first | apply Kd.S_alloc | apply Kd.S_drewN | apply Kd.S_drew)); exact HO_10.out) (Kd.R_base ho0) hb); have n3_ := Aside0.mk (Kd.Q_below (by (with_reducible repeat (first | apply Kd.Q_alloc | apply Kd.Q_drewN | apply Kd.Q_drew)); exact HO_11.out) hb); have n4_ := Aside0.mk (Kd.R_lower ho0 (below_size (by repeat (first | (with_reducible first | exact HB.out | apply below_alloc | apply pw_below_drewN | apply below_drew1) | exact HB.out)))); have n5_ := Aside0.mk (Kd.C_below (by repeat (first | (with_reducible exact HR161.out) | (with_reducible refine Kd.C_alloc ?_ _) | (with_reducible refine Kd.C_drewN ?_ _) | (with_reducible refine Kd.C_drew ?_) | exact HR161.out)) hb); have n6_ := Aside0.mk (below_step (by repeat (first | (with_reducible first | exact HB.out | apply below_alloc | apply pw_below_drewN | apply below_drew1) | exact HB.out)) hb); clear HO_8; clear HO_9; clear HO_10; clear HO_11; clear HR161; clear HB; have HO_8 := n0_; have HO_9 := n1_; have HO_10 := n2_; have HO_11 := n3_; have HO168 := n4_; have HR161 := n5_; have HB := n6_; clear n0_ n1_ n2_ n3_ n4_ n5_ n6_; (try clear hb); (try clear hb2); (try clear hk); (try clear hi); (try clear ho0); obtain ⟨Ao31, co31, eo31⟩ := Kd.R_slice HO168.out; subst eo31) | ((with_reducible refine gate_builtin (b := .append) (xs := #[.tmp 59, .tmp 67]) rfl ?_); at_builtin; refine Kd.S_append k26 (w0 := w) w.heap.size rfl (.tmp 59) (.tmp 67) 22 26 (.agg #[(.int .i64 0), (.int .i64 0), (.int .i64 0), (.int .i64 0), (.slice none 0 0)]) 56 rfl Tryd.underlying22 info26 rfl (by decide) (by omega) u10 x10_2 (⟨t162, t163, t164, t165, t166⟩ : S26) [.int .i64 t162, .int .i64 t163, .int .i64 t164, .int .i64 t165, .slice Ao31 t166.length co31] (fun _ => True) (fun k_ => some k_ = (.slice Ao31 t166.length co31 : Value).ownBlock) rfl rfl ?aP (fun k_ hk_ => ((Kd.R_mono (ok' := fun k_ => ((fun _ => True)) k_ ∧ some k_ ≠ (u10 : Value).ownBlock) (Kd.R_apart' (HO168.out) (Kd.S_typed HO_10.out) (by decide)) (fun k_ hk => ⟨trivial, hk.2⟩))).1 k_ hk_.symm) ?aF ?aO ?aB ?aS ?aL ?_; (case aP => exact k26_mkM _ _ _ (⟨t162, t163, t164, t165, t166⟩ : S26) (Kd.R_mono (Kd.R_tight rfl (Kd.R_mono (ok' := fun k_ => ((fun _ => True)) k_ ∧ some k_ ≠ (u10 : Value).ownBlock) (Kd.R_apart' (HO168.out) (Kd.S_typed HO_10.out) (by decide)) (fun k_ hk => ⟨trivial, hk.2⟩))) (fun _ h_ => h_))); (case aB => exact (by repeat (first | (with_reducible first | exact HB.out | apply below_alloc | apply pw_below_drewN | apply below_drew1) | exact HB.out))); (case aF => exact (fun _ _ => trivial)); (case aO => exact (by (with_reducible repeat (first | apply Kd.S_alloc | apply Kd.S_drewN | apply Kd.S_drew)); exact Kd.S_mono HO_10.out (fun k_ hk => ⟨trivial, fun e_ => hk.2 e_⟩))); (case aS => exact (below_size (by repeat (first | (with_reducible first | exact HB.out | apply below_alloc | apply pw_below_drewN | apply below_drew1) | exact HB.out)))); (case aL => have := LMc26.out; omega); intro v170 w30 ho hb hg hat; rw [← Ny169.out] at ho; have n0_ := Aside0.mk (Kd.R_over' (by (with_reducible repeat (first | apply Kd.R_alloc | apply Kd.R_drewN | apply Kd.R_drew)); exact HO_8.out) (Kd.S_typed (by (with_reducible repeat (first | apply Kd.S_alloc | apply Kd.S_drewN | apply Kd.S_drew)); exact HO_10.out)) (by decide) hg); have n1_ := Aside0.mk (Kd.R_over' (by (with_reducible repeat (first | apply Kd.R_alloc | apply Kd.R_drewN | apply Kd.R_drew)); exact HO_9.out) (Kd.S_typed (by (with_reducible repeat (first | apply Kd.S_alloc | apply Kd.S_drewN | apply Kd.S_drew)); exact HO_10.out)) (by decide) hg); have n2_ := Aside0.mk (Kd.Q_over' (by (with_reducible repeat (first | apply Kd.Q_alloc | apply Kd.Q_drewN | apply Kd.Q_drew)); exact HO_11.out) (Kd.S_typed (by (with_reducible repeat (first | apply Kd.S_alloc | apply Kd.S_drewN | apply Kd.S_drew)); exact HO_10.out)) (by decide) hg); have n3_ := Aside0.mk (hb); have n4_ := Aside0.mk ((show Kd.C k78 w30 (some ad155) y158.length y158 from by rw [Ny158.out]; exact Kd.C_take (m := (x12_3 : Int).toNat) ((Kd.Q_reads' (Kd.Q_over' (by (with_reducible repeat (first | apply Kd.Q_alloc | apply Kd.Q_drewN | apply Kd.Q_drew)); exact HO_11.out) (Kd.S_typed (by (with_reducible repeat (first | apply Kd.S_alloc | apply Kd.S_drewN | apply Kd.S_drew)); exact HO_10.out)) (by decide) hg)).2.2) KL28.out)); have n5_ := Aside0.mk (ho); clear HO_8; clear HO_9; clear HO_11; clear HB; clear HR161; clear HO_10; clear HO168; have HO_8 := n0_; have HO_9 := n1_; have HO_11 := n2_; have HB := n3_; have HR161 := n4_; have HO171 := n5_; clear n0_ n1_ n2_ n3_ n4_ n5_; clear ho hb hg hat; have q32 : (x12_3 : Int) ≤ ((x11_2.length : Int) : Int) := of_decide_eq_true (by first | (with_reducible assumption) | assumption); obtain ⟨i032, hi032, _, hsz32, _⟩ := info_parts info78; have hcut32 := cut_from (P := Tryd.prog) 75 78 .i64 Tryd.underlying75 hi032 4 hsz32 (some ad155) x11_2.length co16 x12_3 (of_decide_eq_true (by first | (with_reducible assumption) | assumption)) q32; have hr32 := Kd.Q_drop (k := (x12_3 : Int).toNat) HO_11.out (by omega); obtain ⟨A32, hA32⟩ : ∃ A1, A1 = (if co16 = (x12_3 : Int).toNat then (some ad155) else ((some ad155) : Option Addr).map (·.add ((x12_3 : Int).toNat * 4))) := ⟨_, rfl⟩; obtain ⟨c32, hc32⟩ : ∃ c1, c1 = co16 - (x12_3 : Int).toNat := ⟨_, rfl⟩; have hy32 : y172.length = x11_2.length - (x12_3 : Int).toNat := (by rw [Ny172.out, List.length_drop]); rw [← Ny172.out] at hr32; rw [← hy32, ← hA32, ← hc32] at hcut32; replace hr32 : Kd.Q k78 78 w30 w.heap.size (fun _ => True) (.slice A32 y172.length c32) y172 := (by rw [hA32, hc32, hy32]; exact hr32); have HE32 : Aside0 ((Value.slice A32 y172.length c32).ownBlock = (.slice (some ad155) x11_2.length co16 : Value).ownBlock) := ⟨by rw [hA32]; split <;> (cases ((some ad155) : Option Addr) <;> first | rfl | exact congrArg some (add_block _ _))⟩; clear hy32 hi032 hsz32 HO_11 hA32 hc32; have HO174 := Aside0.mk hr32; clear hr32; replace q32 := eq_true q32)))
                go_roundg k3
                case measure => have := HJ3.out; have := HK2.out; have := HK3.out; omega
                case rel => exact ⟨(y169), (y172), H', ⟨by have := HJ3.out; have := HK2.out; have := HK3.out; omega⟩, ⟨by (with_reducible repeat (first | apply Kd.R_alloc | apply Kd.R_drewN | apply Kd.R_drew)); exact HO_8.out⟩, ⟨by (with_reducible repeat (first | apply Kd.R_alloc | apply Kd.R_drewN | apply Kd.R_drew)); exact HO_9.out⟩, ⟨by (with_reducible repeat (first | apply Kd.S_alloc | apply Kd.S_drewN | apply Kd.S_drew)); exact HO171.out⟩, ⟨by (with_reducible repeat (first | apply Kd.Q_alloc | apply Kd.Q_drewN | apply Kd.Q_drew)); exact HO174.out⟩, ⟨by repeat (first | (with_reducible first | exact HB.out | apply below_alloc | apply pw_below_drewN | apply below_drew1) | exact HB.out)⟩⟩
               ·rw [if_neg c26] at H
                exact absurd H (by simp)
              ·rw [if_neg c24] at H
               exact absurd H (by simp)
            ·rw [if_neg c21] at H
             exact absurd H (by simp)
           ·rw [if_neg c20] at H
            exact absurd H (by simp)
          ·rw [if_neg c18] at H
           exact absurd H (by simp)
         ·rw [if_neg c17] at H
          have c17b0 : decide (x12_3 < (x11_2.length : Int)) = false := decide_eq_false c17
          clear c17
          by_cases c33 : 0 ≤ x12_3
          ·rw [if_pos c33] at H
           have c33b0 := eq_true c33
           have c33b1 : decide (0 ≤ x12_3) = true := decide_eq_true c33
           clear c33
           by_cases c34 : x12_3 ≤ (x11_2.length : Int)
           ·rw [if_pos c34] at H
            have c34b0 := eq_true c34
            have c34b1 : decide (x12_3 ≤ (x11_2.length : Int)) = true := decide_eq_true c34
            clear c34
            obtain ⟨y175, hy175⟩ : ∃ y_ : List (S78), y_ = (x11_2.take (x12_3 : Int).toNat) := ⟨_, rfl⟩
            replace H : ((hunks_hunk.f k3 t146 t149 y175 a2).bind fun bt179 => (if x10_2.length < 2513169434916 then (hunks_Make.l0 k3 a2 t146 t149 (x10_2 ++ [(⟨bt179.1, bt179.2.1, bt179.2.2.1, bt179.2.2.2.1, bt179.2.2.2.2⟩ : S26)]) (x11_2.drop (x12_3 : Int).toNat)) else (none))) = some (r1, r2) := by first | (rw [hy175]; with_reducible exact H) | (have H2_ := (Option.bind_some _ _).symm.trans H; rw [hy175]; with_reducible exact H2_) | (have H2_ := (Option.bind_some _ _).symm.trans H; with_reducible exact H2_) | with_reducible exact H | (rw [hy175]; exact H) | exact H
            have Ny175 := Aside0.mk hy175
            clear hy175
            replace H := Option.bind_eq_some_iff.mp H
            obtain ⟨⟨t179, t180, t181, t182, t183⟩, A350, H⟩ := H
            replace H : (if x10_2.length < 2513169434916 then (hunks_Make.l0 k3 a2 t146 t149 (x10_2 ++ [(⟨t179, t180, t181, t182, t183⟩ : S26)]) (x11_2.drop (x12_3 : Int).toNat)) else (none)) = some (r1, r2) := H
            have A35 := Aside0.mk A350
            clear A350
            by_cases c36 : x10_2.length < 2513169434916
            ·rw [if_pos c36] at H
             have LMc36 := Aside0.mk c36
             clear c36
             obtain ⟨y186, hy186⟩ : ∃ y_ : List (S26), y_ = (x10_2 ++ [(⟨t179, t180, t181, t182, t183⟩ : S26)]) := ⟨_, rfl⟩
             replace H : (hunks_Make.l0 k3 a2 t146 t149 y186 (x11_2.drop (x12_3 : Int).toNat)) = some (r1, r2) := by first | (rw [hy186]; with_reducible exact H) | (have H2_ := (Option.bind_some _ _).symm.trans H; rw [hy186]; with_reducible exact H2_) | (have H2_ := (Option.bind_some _ _).symm.trans H; with_reducible exact H2_) | with_reducible exact H | (rw [hy186]; exact H) | exact H
             have Ny186 := Aside0.mk hy186
             clear hy186
             have c37b0 := eq_true (of_decide_eq_true (by first | (with_reducible assumption) | assumption) : x12_3 ≤ (x11_2.length : Int))
             obtain ⟨y189, hy189⟩ : ∃ y_ : List (S78), y_ = (x11_2.drop (x12_3 : Int).toNat) := ⟨_, rfl⟩
             replace H : (hunks_Make.l0 k3 a2 t146 t149 y186 y189) = some (r1, r2) := by first | (rw [hy189]; with_reducible exact H) | (have H2_ := (Option.bind_some _ _).symm.trans H; rw [hy189]; with_reducible exact H2_) | (have H2_ := (Option.bind_some _ _).symm.trans H; with_reducible exact H2_) | with_reducible exact H | (rw [hy189]; exact H) | exact H
             have Ny189 := Aside0.mk hy189
             clear hy189
             have H' := Aside0.mk H
             clear H
             have q38 : (x12_3 : Int) ≤ ((x11_2.length : Int) : Int) := of_decide_eq_true (by first | (with_reducible assumption) | assumption)
             obtain ⟨i038, hi038, _, hsz38, _⟩ := info_parts info78
             have hroom38 : x11_2.length ≤ co16 := (Kd.Q_reads' HO_11.out).2.1
             have hC38 : Kd.C k78 _ Ao16 x11_2.length x11_2 := (Kd.Q_reads' HO_11.out).2.2
             have hcut38 := cut_to (P := Tryd.prog) 75 78 .i64 Tryd.underlying75 hi038 Ao16 x11_2.length co16 x12_3 (of_decide_eq_true (by first | (with_reducible assumption) | assumption)) q38 hroom38
             have hr38 := Kd.C_take (m := (x12_3 : Int).toNat) hC38 (by omega)
             have hy38 : y175.length = (x12_3 : Int).toNat := (by rw [Ny175.out, List.length_take]; omega)
             rw [← Ny175.out] at hr38
             rw [← hy38] at hcut38
             have HR178 := Aside0.mk hr38
             have HC178 := Aside0.mk (show y175.length ≤ co16 from by omega)
             clear hr38 hC38 hroom38 hi038 hsz38
             have KY38 := Aside0.mk hy38
             clear hy38
             have KL38 := Aside0.mk (show (x12_3 : Int).toNat ≤ x11_2.length from by omega)
             replace q38 := eq_true q38
             go_wp2_with (first | (go_at_call 33; (with_reducible refine (hunks_hunk.calls k3 _ _ t146 _ _ t149 _ _ y175 a2 t179 t180 t181 t182 t183 _ ?side1 ?side2 ?side3 ?side4 ?side5 ?side6 A35.out).mono ?_); (case side1 => repeat (first | exact (Kd.R_reads' HO_8.out).2.2 | (with_reducible refine Kd.C_alloc ?_ _) | (with_reducible refine Kd.C_drewN ?_ _) | (with_reducible refine Kd.C_drew ?_))); (case side2 => exact (Kd.R_reads' HO_8.out).2.1); (case side3 => repeat (first | exact (Kd.R_reads' HO_9.out).2.2 | (with_reducible refine Kd.C_alloc ?_ _) | (with_reducible refine Kd.C_drewN ?_ _) | (with_reducible refine Kd.C_drew ?_))); (case side4 => exact (Kd.R_reads' HO_9.out).2.1); (case side5 => repeat (first | exact (by repeat (first | (with_reducible exact HR178.out) | (with_reducible refine Kd.C_alloc ?_ _) | (with_reducible refine Kd.C_drewN ?_ _) | (with_reducible refine Kd.C_drew ?_) | exact HR178.out)) | (with_reducible refine Kd.C_alloc ?_ _) | (with_reducible refine Kd.C_drewN ?_ _) | (with_reducible refine Kd.C_drew ?_))); (case side6 => exact HC178.out); rintro e w39 ⟨v184, rfl, ho0, hb⟩; have n0_ := Aside0.mk (Kd.R_below (by (with_reducible repeat (first | apply Kd.R_alloc | apply Kd.R_drewN | apply Kd.R_drew)); exact HO_8.out) hb); have n1_ := Aside0.mk (Kd.R_below (by (with_reducible repeat (first | apply Kd.R_alloc | apply Kd.R_drewN | apply Kd.R_drew)); exact HO_9.out) hb); have n2_ := Aside0.mk (Kd.S_elder' (by (with_reducible repeat (first | apply Kd.S_alloc | apply Kd.S_drewN | apply Kd.S_drew)); exact HO_10.out) (Kd.R_base ho0) hb); have n3_ := Aside0.mk (Kd.Q_below (by (with_reducible repeat (first | apply Kd.Q_alloc | apply Kd.Q_drewN | apply Kd.Q_drew)); exact HO_11.out) hb); have n4_ := Aside0.mk (Kd.R_lower ho0 (below_size (by repeat (first | (with_reducible first | exact HB.out | apply below_alloc | apply pw_below_drewN | apply below_drew1) | exact HB.out)))); have n5_ := Aside0.mk (Kd.C_below (by repeat (first | (with_reducible exact HR178.out) | (with_reducible refine Kd.C_alloc ?_ _) | (with_reducible refine Kd.C_drewN ?_ _) | (with_reducible refine Kd.C_drew ?_) | exact HR178.out)) hb); have n6_ := Aside0.mk (below_step (by repeat (first | (with_reducible first | exact HB.out | apply below_alloc | apply pw_below_drewN | apply below_drew1) | exact HB.out)) hb); clear HO_8; clear HO_9; clear HO_10; clear HO_11; clear HR178; clear HB; have HO_8 := n0_; have HO_9 := n1_; have HO_10 := n2_; have HO_11 := n3_; have HO185 := n4_; have HR178 := n5_; have HB := n6_; clear n0_ n1_ n2_ n3_ n4_ n5_ n6_; (try clear hb); (try clear hb2); (try clear hk); (try clear hi); (try clear ho0); obtain ⟨Ao41, co41, eo41⟩ := Kd.R_slice HO185.out; subst eo41) | ((with_reducible refine gate_builtin (b := .append) (xs := #[.tmp 59, .tmp 67]) rfl ?_); at_builtin; refine Kd.S_append k26 (w0 := w) w.heap.size rfl (.tmp 59) (.tmp 67) 22 26 (.agg #[(.int .i64 0), (.int .i64 0), (.int .i64 0), (.int .i64 0), (.slice none 0 0)]) 56 rfl Tryd.underlying22 info26 rfl (by decide) (by omega) u10 x10_2 (⟨t179, t180, t181, t182, t183⟩ : S26) [.int .i64 t179, .int .i64 t180, .int .i64 t181, .int .i64 t182, .slice Ao41 t183.length co41] (fun _ => True) (fun k_ => some k_ = (.slice Ao41 t183.length co41 : Value).ownBlock) rfl rfl ?aP (fun k_ hk_ => ((Kd.R_mono (ok' := fun k_ => ((fun _ => True)) k_ ∧ some k_ ≠ (u10 : Value).ownBlock) (Kd.R_apart' (HO185.out) (Kd.S_typed HO_10.out) (by decide)) (fun k_ hk => ⟨trivial, hk.2⟩))).1 k_ hk_.symm) ?aF ?aO ?aB ?aS ?aL ?_; (case aP => exact k26_mkM _ _ _ (⟨t179, t180, t181, t182, t183⟩ : S26) (Kd.R_mono (Kd.R_tight rfl (Kd.R_mono (ok' := fun k_ => ((fun _ => True)) k_ ∧ some k_ ≠ (u10 : Value).ownBlock) (Kd.R_apart' (HO185.out) (Kd.S_typed HO_10.out) (by decide)) (fun k_ hk => ⟨trivial, hk.2⟩))) (fun _ h_ => h_))); (case aB => exact (by repeat (first | (with_reducible first | exact HB.out | apply below_alloc | apply pw_below_drewN | apply below_drew1) | exact HB.out))); (case aF => exact (fun _ _ => trivial)); (case aO => exact (by (with_reducible repeat (first | apply Kd.S_alloc | apply Kd.S_drewN | apply Kd.S_drew)); exact Kd.S_mono HO_10.out (fun k_ hk => ⟨trivial, fun e_ => hk.2 e_⟩))); (case aS => exact (below_size (by repeat (first | (with_reducible first | exact HB.out | apply below_alloc | apply pw_below_drewN | apply below_drew1) | exact HB.out)))); (case aL => have := LMc36.out; omega); intro v187 w40 ho hb hg hat; rw [← Ny186.out] at ho; have n0_ := Aside0.mk (Kd.R_over' (by (with_reducible repeat (first | apply Kd.R_alloc | apply Kd.R_drewN | apply Kd.R_drew)); exact HO_8.out) (Kd.S_typed (by (with_reducible repeat (first | apply Kd.S_alloc | apply Kd.S_drewN | apply Kd.S_drew)); exact HO_10.out)) (by decide) hg); have n1_ := Aside0.mk (Kd.R_over' (by (with_reducible repeat (first | apply Kd.R_alloc | apply Kd.R_drewN | apply Kd.R_drew)); exact HO_9.out) (Kd.S_typed (by (with_reducible repeat (first | apply Kd.S_alloc | apply Kd.S_drewN | apply Kd.S_drew)); exact HO_10.out)) (by decide) hg); have n2_ := Aside0.mk (Kd.Q_over' (by (with_reducible repeat (first | apply Kd.Q_alloc | apply Kd.Q_drewN | apply Kd.Q_drew)); exact HO_11.out) (Kd.S_typed (by (with_reducible repeat (first | apply Kd.S_alloc | apply Kd.S_drewN | apply Kd.S_drew)); exact HO_10.out)) (by decide) hg); have n3_ := Aside0.mk (hb); have n4_ := Aside0.mk ((show Kd.C k78 w40 Ao16 y175.length y175 from by rw [Ny175.out]; exact Kd.C_take (m := (x12_3 : Int).toNat) ((Kd.Q_reads' (Kd.Q_over' (by (with_reducible repeat (first | apply Kd.Q_alloc | apply Kd.Q_drewN | apply Kd.Q_drew)); exact HO_11.out) (Kd.S_typed (by (with_reducible repeat (first | apply Kd.S_alloc | apply Kd.S_drewN | apply Kd.S_drew)); exact HO_10.out)) (by decide) hg)).2.2) KL38.out)); have n5_ := Aside0.mk (ho); clear HO_8; clear HO_9; clear HO_11; clear HB; clear HR178; clear HO_10; clear HO185; have HO_8 := n0_; have HO_9 := n1_; have HO_11 := n2_; have HB := n3_; have HR178 := n4_; have HO188 := n5_; clear n0_ n1_ n2_ n3_ n4_ n5_; clear ho hb hg hat; have q42 : (x12_3 : Int) ≤ ((x11_2.length : Int) : Int) := of_decide_eq_true (by first | (with_reducible assumption) | assumption); obtain ⟨i042, hi042, _, hsz42, _⟩ := info_parts info78; have hcut42 := cut_from (P := Tryd.prog) 75 78 .i64 Tryd.underlying75 hi042 4 hsz42 Ao16 x11_2.length co16 x12_3 (of_decide_eq_true (by first | (with_reducible assumption) | assumption)) q42; have hr42 := Kd.Q_drop (k := (x12_3 : Int).toNat) HO_11.out (by omega); obtain ⟨A42, hA42⟩ : ∃ A1, A1 = (if co16 = (x12_3 : Int).toNat then Ao16 else (Ao16 : Option Addr).map (·.add ((x12_3 : Int).toNat * 4))) := ⟨_, rfl⟩; obtain ⟨c42, hc42⟩ : ∃ c1, c1 = co16 - (x12_3 : Int).toNat := ⟨_, rfl⟩; have hy42 : y189.length = x11_2.length - (x12_3 : Int).toNat := (by rw [Ny189.out, List.length_drop]); rw [← Ny189.out] at hr42; rw [← hy42, ← hA42, ← hc42] at hcut42; replace hr42 : Kd.Q k78 78 w40 w.heap.size (fun _ => True) (.slice A42 y189.length c42) y189 := (by rw [hA42, hc42, hy42]; exact hr42); have HE42 : Aside0 ((Value.slice A42 y189.length c42).ownBlock = (.slice Ao16 x11_2.length co16 : Value).ownBlock) := ⟨by rw [hA42]; split <;> (cases (Ao16 : Option Addr) <;> first | rfl | exact congrArg some (add_block _ _))⟩; clear hy42 hi042 hsz42 HO_11 hA42 hc42; have HO191 := Aside0.mk hr42; clear hr42; replace q42 := eq_true q42))
             repeat (go_quiet (first | (go_at_call 33; (with_reducible refine (hunks_hunk.calls k3 _ _ t146 _ _ t149 _ _ y175 a2 t179 t180 t181 t182 t183 _ ?side1 ?side2 ?side3 ?side4 ?side5 ?side6 A35.out).mono ?_); (case side1 => repeat (first | exact (Kd.R_reads' HO_8.out).2.2 | (with_reducible refine Kd.C_alloc ?_ _) | (with_reducible refine Kd.C_drewN ?_ _) | (with_reducible refine Kd.C_drew ?_))); (case side2 => exact (Kd.R_reads' HO_8.out).2.1); (case side3 => repeat (first | exact (Kd.R_reads' HO_9.out).2.2 | (with_reducible refine Kd.C_alloc ?_ _) | (with_reducible refine Kd.C_drewN ?_ _) | (with_reducible refine Kd.C_drew ?_))); (case side4 => exact (Kd.R_reads' HO_9.out).2.1); (case side5 => repeat (first | exact (by repeat (first | (with_reducible exact HR178.out) | (with_reducible refine Kd.C_alloc ?_ _) | (with_reducible refine Kd.C_drewN ?_ _) | (with_reducible refine Kd.C_drew ?_) | exact HR178.out)) | (with_reducible refine Kd.C_alloc ?_ _) | (with_reducible refine Kd.C_drewN ?_ _) | (with_reducible refine Kd.C_drew ?_))); (case side6 => exact HC178.out); rintro e w39 ⟨v184, rfl, ho0, hb⟩; have n0_ := Aside0.mk (Kd.R_below (by (with_reducible repeat (first | apply Kd.R_alloc | apply Kd.R_drewN | apply Kd.R_drew)); exact HO_8.out) hb); have n1_ := Aside0.mk (Kd.R_below (by (with_reducible repeat (first | apply Kd.R_alloc | apply Kd.R_drewN | apply Kd.R_drew)); exact HO_9.out) hb); have n2_ := Aside0.mk (Kd.S_elder' (by (with_reducible repeat (first | apply Kd.S_alloc | apply Kd.S_drewN | apply Kd.S_drew)); exact HO_10.out) (Kd.R_base ho0) hb); have n3_ := Aside0.mk (Kd.Q_below (by (with_reducible repeat (first | apply Kd.Q_alloc | apply Kd.Q_drewN | apply Kd.Q_drew)); exact HO_11.out) hb); have n4_ := Aside0.mk (Kd.R_lower ho0 (below_size (by repeat (first | (with_reducible first | exact HB.out | apply below_alloc | apply pw_below_drewN | apply below_drew1) | exact HB.out)))); have n5_ := Aside0.mk (Kd.C_below (by repeat (first | (with_reducible exact HR178.out) | (with_reducible refine Kd.C_alloc ?_ _) | (with_reducible refine Kd.C_drewN ?_ _) | (with_reducible refine Kd.C_drew ?_) | exact HR178.out)) hb); have n6_ := Aside0.mk (below_step (by repeat (first | (with_reducible first | exact HB.out | apply below_alloc | apply pw_below_drewN | apply below_drew1) | exact HB.out)) hb); clear HO_8; clear HO_9; clear HO_10; clear HO_11; clear HR178; clear HB; have HO_8 := n0_; have HO_9 := n1_; have HO_10 := n2_; have HO_11 := n3_; have HO185 := n4_; have HR178 := n5_; have HB := n6_; clear n0_ n1_ n2_ n3_ n4_ n5_ n6_; (try clear hb); (try clear hb2); (try clear hk); (try clear hi); (try clear ho0); obtain ⟨Ao41, co41, eo41⟩ := Kd.R_slice HO185.out; subst eo41) | ((with_reducible refine gate_builtin (b := .append) (xs := #[.tmp 59, .tmp 67]) rfl ?_); at_builtin; refine Kd.S_append k26 (w0 := w) w.heap.size rfl (.tmp 59) (.tmp 67) 22 26 (.agg #[(.int .i64 0), (.int .i64 0), (.int .i64 0), (.int .i64 0), (.slice none 0 0)]) 56 rfl Tryd.underlying22 info26 rfl (by decide) (by omega) u10 x10_2 (⟨t179, t180, t181, t182, t183⟩ : S26) [.int .i64 t179, .int .i64 t180, .int .i64 t181, .int .i64 t182, .slice Ao41 t183.length co41] (fun _ => True) (fun k_ => some k_ = (.slice Ao41 t183.length co41 : Value).ownBlock) rfl rfl ?aP (fun k_ hk_ => ((Kd.R_mono (ok' := fun k_ => ((fun _ => True)) k_ ∧ some k_ ≠ (u10 : Value).ownBlock) (Kd.R_apart' (HO185.out) (Kd.S_typed HO_10.out) (by decide)) (fun k_ hk => ⟨trivial, hk.2⟩))).1 k_ hk_.symm) ?aF ?aO ?aB ?aS ?aL ?_; (case aP => exact k26_mkM _ _ _ (⟨t179, t180, t181, t182, t183⟩ : S26) (Kd.R_mono (Kd.R_tight rfl (Kd.R_mono (ok' := fun k_ => ((fun _ => True)) k_ ∧ some k_ ≠ (u10 : Value).ownBlock) (Kd.R_apart' (HO185.out) (Kd.S_typed HO_10.out) (by decide)) (fun k_ hk => ⟨trivial, hk.2⟩))) (fun _ h_ => h_))); (case aB => exact (by repeat (first | (with_reducible first | exact HB.out | apply below_alloc | apply pw_below_drewN | apply below_drew1) | exact HB.out))); (case aF => exact (fun _ _ => trivial)); (case aO => exact (by (with_reducible repeat (first | apply Kd.S_alloc | apply Kd.S_drewN | apply Kd.S_drew)); exact Kd.S_mono HO_10.out (fun k_ hk => ⟨trivial, fun e_ => hk.2 e_⟩))); (case aS => exact (below_size (by repeat (first | (with_reducible first | exact HB.out | apply below_alloc | apply pw_below_drewN | apply below_drew1) | exact HB.out)))); (case aL => have := LMc36.out; omega); intro v187 w40 ho hb hg hat; rw [← Ny186.out] at ho; have n0_ := Aside0.mk (Kd.R_over' (by (with_reducible repeat (first | apply Kd.R_alloc | apply Kd.R_drewN | apply Kd.R_drew)); exact HO_8.out) (Kd.S_typed (by (with_reducible repeat (first | apply Kd.S_alloc | apply Kd.S_drewN | apply Kd.S_drew)); exact HO_10.out)) (by decide) hg); have n1_ := Aside0.mk (Kd.R_over' (by (with_reducible repeat (first | apply Kd.R_alloc | apply Kd.R_drewN | apply Kd.R_drew)); exact HO_9.out) (Kd.S_typed (by (with_reducible repeat (first | apply Kd.S_alloc | apply Kd.S_drewN | apply Kd.S_drew)); exact HO_10.out)) (by decide) hg); have n2_ := Aside0.mk (Kd.Q_over' (by (with_reducible repeat (first | apply Kd.Q_alloc | apply Kd.Q_drewN | apply Kd.Q_drew)); exact HO_11.out) (Kd.S_typed (by (with_reducible repeat (first | apply Kd.S_alloc | apply Kd.S_drewN | apply Kd.S_drew)); exact HO_10.out)) (by decide) hg); have n3_ := Aside0.mk (hb); have n4_ := Aside0.mk ((show Kd.C k78 w40 Ao16 y175.length y175 from by rw [Ny175.out]; exact Kd.C_take (m := (x12_3 : Int).toNat) ((Kd.Q_reads' (Kd.Q_over' (by (with_reducible repeat (first | apply Kd.Q_alloc | apply Kd.Q_drewN | apply Kd.Q_drew)); exact HO_11.out) (Kd.S_typed (by (with_reducible repeat (first | apply Kd.S_alloc | apply Kd.S_drewN | apply Kd.S_drew)); exact HO_10.out)) (by decide) hg)).2.2) KL38.out)); have n5_ := Aside0.mk (ho); clear HO_8; clear HO_9; clear HO_11; clear HB; clear HR178; clear HO_10; clear HO185; have HO_8 := n0_; have HO_9 := n1_; have HO_11 := n2_; have HB := n3_; have HR178 := n4_; have HO188 := n5_; clear n0_ n1_ n2_ n3_ n4_ n5_; clear ho hb hg hat; have q42 : (x12_3 : Int) ≤ ((x11_2.length : Int) : Int) := of_decide_eq_true (by first | (with_reducible assumption) | assumption); obtain ⟨i042, hi042, _, hsz42, _⟩ := info_parts info78; have hcut42 := cut_from (P := Tryd.prog) 75 78 .i64 Tryd.underlying75 hi042 4 hsz42 Ao16 x11_2.length co16 x12_3 (of_decide_eq_true (by first | (with_reducible assumption) | assumption)) q42; have hr42 := Kd.Q_drop (k := (x12_3 : Int).toNat) HO_11.out (by omega); obtain ⟨A42, hA42⟩ : ∃ A1, A1 = (if co16 = (x12_3 : Int).toNat then Ao16 else (Ao16 : Option Addr).map (·.add ((x12_3 : Int).toNat * 4))) := ⟨_, rfl⟩; obtain ⟨c42, hc42⟩ : ∃ c1, c1 = co16 - (x12_3 : Int).toNat := ⟨_, rfl⟩; have hy42 : y189.length = x11_2.length - (x12_3 : Int).toNat := (by rw [Ny189.out, List.length_drop]); rw [← Ny189.out] at hr42; rw [← hy42, ← hA42, ← hc42] at hcut42; replace hr42 : Kd.Q k78 78 w40 w.heap.size (fun _ => True) (.slice A42 y189.length c42) y189 := (by rw [hA42, hc42, hy42]; exact hr42); have HE42 : Aside0 ((Value.slice A42 y189.length c42).ownBlock = (.slice Ao16 x11_2.length co16 : Value).ownBlock) := ⟨by rw [hA42]; split <;> (cases (Ao16 : Option Addr) <;> first | rfl | exact congrArg some (add_block _ _))⟩; clear hy42 hi042 hsz42 HO_11 hA42 hc42; have HO191 := Aside0.mk hr42; clear hr42; replace q42 := eq_true q42)); try go_wp2_with (first | (go_at_call 33; (with_reducible refine (hunks_hunk.calls k3 _ _ t146 _ _ t149 _ _ y175 a2 t179 t180 t181 t182 t183 _ ?side1 ?side2 ?side3 ?side4 ?side5 ?side6 A35.out).mono ?_); (case side1 => repeat (first | exact (Kd.R_reads' HO_8.out).2.2 | (with_reducible refine Kd.C_alloc ?_ _) | (with_reducible refine Kd.C_drewN ?_ _) | (with_reducible refine Kd.C_drew ?_))); (case side2 => exact (Kd.R_reads' HO_8.out).2.1); (case side3 => repeat (first | exact (Kd.R_reads' HO_9.out).2.2 | (with_reducible refine Kd.C_alloc ?_ _) | (with_reducible refine Kd.C_drewN ?_ _) | (with_reducible refine Kd.C_drew ?_))); (case side4 => exact (Kd.R_reads' HO_9.out).2.1); (case side5 => repeat (first | exact (by repeat (first | (with_reducible exact HR178.out) | (with_reducible refine Kd.C_alloc ?_ _) | (with_reducible refine Kd.C_drewN ?_ _) | (with_reducible refine Kd.C_drew ?_) | exact HR178.out)) | (with_reducible refine Kd.C_alloc ?_ _) | (with_reducible refine Kd.C_drewN ?_ _) | (with_reducible refine Kd.C_drew ?_))); (case side6 => exact HC178.out); rintro e w39 ⟨v184, rfl, ho0, hb⟩; have n0_ := Aside0.mk (Kd.R_below (by (with_reducible repeat (first | apply Kd.R_alloc | apply Kd.R_drewN | apply Kd.R_drew)); exact HO_8.out) hb); have n1_ := Aside0.mk (Kd.R_below (by (with_reducible repeat (first | apply Kd.R_alloc | apply Kd.R_drewN | apply Kd.R_drew)); exact HO_9.out) hb); have n2_ := Aside0.mk (Kd.S_elder' (by (with_reducible repeat (first | apply Kd.S_alloc | apply Kd.S_drewN | apply Kd.S_drew)); exact HO_10.out) (Kd.R_base ho0) hb); have n3_ := Aside0.mk (Kd.Q_below (by (with_reducible repeat (first | apply Kd.Q_alloc | apply Kd.Q_drewN | apply Kd.Q_drew)); exact HO_11.out) hb); have n4_ := Aside0.mk (Kd.R_lower ho0 (below_size (by repeat (first | (with_reducible first | exact HB.out | apply below_alloc | apply pw_below_drewN | apply below_drew1) | exact HB.out)))); have n5_ := Aside0.mk (Kd.C_below (by repeat (first | (with_reducible exact HR178.out) | (with_reducible refine Kd.C_alloc ?_ _) | (with_reducible refine Kd.C_drewN ?_ _) | (with_reducible refine Kd.C_drew ?_) | exact HR178.out)) hb); have n6_ := Aside0.mk (below_step (by repeat (first | (with_reducible first | exact HB.out | apply below_alloc | apply pw_below_drewN | apply below_drew1) | exact HB.out)) hb); clear HO_8; clear HO_9; clear HO_10; clear HO_11; clear HR178; clear HB; have HO_8 := n0_; have HO_9 := n1_; have HO_10 := n2_; have HO_11 := n3_; have HO185 := n4_; have HR178 := n5_; have HB := n6_; clear n0_ n1_ n2_ n3_ n4_ n5_ n6_; (try clear hb); (try clear hb2); (try clear hk); (try clear hi); (try clear ho0); obtain ⟨Ao41, co41, eo41⟩ := Kd.R_slice HO185.out; subst eo41) | ((with_reducible refine gate_builtin (b := .append) (xs := #[.tmp 59, .tmp 67]) rfl ?_); at_builtin; refine Kd.S_append k26 (w0 := w) w.heap.size rfl (.tmp 59) (.tmp 67) 22 26 (.agg #[(.int .i64 0), (.int .i64 0), (.int .i64 0), (.int .i64 0), (.slice none 0 0)]) 56 rfl Tryd.underlying22 info26 rfl (by decide) (by omega) u10 x10_2 (⟨t179, t180, t181, t182, t183⟩ : S26) [.int .i64 t179, .int .i64 t180, .int .i64 t181, .int .i64 t182, .slice Ao41 t183.length co41] (fun _ => True) (fun k_ => some k_ = (.slice Ao41 t183.length co41 : Value).ownBlock) rfl rfl ?aP (fun k_ hk_ => ((Kd.R_mono (ok' := fun k_ => ((fun _ => True)) k_ ∧ some k_ ≠ (u10 : Value).ownBlock) (Kd.R_apart' (HO185.out) (Kd.S_typed HO_10.out) (by decide)) (fun k_ hk => ⟨trivial, hk.2⟩))).1 k_ hk_.symm) ?aF ?aO ?aB ?aS ?aL ?_; (case aP => exact k26_mkM _ _ _ (⟨t179, t180, t181, t182, t183⟩ : S26) (Kd.R_mono (Kd.R_tight rfl (Kd.R_mono (ok' := fun k_ => ((fun _ => True)) k_ ∧ some k_ ≠ (u10 : Value).ownBlock) (Kd.R_apart' (HO185.out) (Kd.S_typed HO_10.out) (by decide)) (fun k_ hk => ⟨trivial, hk.2⟩))) (fun _ h_ => h_))); (case aB => exact (by repeat (first | (with_reducible first | exact HB.out | apply below_alloc | apply pw_below_drewN | apply below_drew1) | exact HB.out))); (case aF => exact (fun _ _ => trivial)); (case aO => exact (by (with_reducible repeat (first | apply Kd.S_alloc | apply Kd.S_drewN | apply Kd.S_drew)); exact Kd.S_mono HO_10.out (fun k_ hk => ⟨trivial, fun e_ => hk.2 e_⟩))); (case aS => exact (below_size (by repeat (first | (with_reducible first | exact HB.out | apply below_alloc | apply pw_below_drewN | apply below_drew1) | exact HB.out)))); (case aL => have := LMc36.out; omega); intro v187 w40 ho hb hg hat; rw [← Ny186.out] at ho; have n0_ := Aside0.mk (Kd.R_over' (by (with_reducible repeat (first | apply Kd.R_alloc | apply Kd.R_drewN | apply Kd.R_drew)); exact HO_8.out) (Kd.S_typed (by (with_reducible repeat (first | apply Kd.S_alloc | apply Kd.S_drewN | apply Kd.S_drew)); exact HO_10.out)) (by decide) hg); have n1_ := Aside0.mk (Kd.R_over' (by (with_reducible repeat (first | apply Kd.R_alloc | apply Kd.R_drewN | apply Kd.R_drew)); exact HO_9.out) (Kd.S_typed (by (with_reducible repeat (first | apply Kd.S_alloc | apply Kd.S_drewN | apply Kd.S_drew)); exact HO_10.out)) (by decide) hg); have n2_ := Aside0.mk (Kd.Q_over' (by (with_reducible repeat (first | apply Kd.Q_alloc | apply Kd.Q_drewN | apply Kd.Q_drew)); exact HO_11.out) (Kd.S_typed (by (with_reducible repeat (first | apply Kd.S_alloc | apply Kd.S_drewN | apply Kd.S_drew)); exact HO_10.out)) (by decide) hg); have n3_ := Aside0.mk (hb); have n4_ := Aside0.mk ((show Kd.C k78 w40 Ao16 y175.length y175 from by rw [Ny175.out]; exact Kd.C_take (m := (x12_3 : Int).toNat) ((Kd.Q_reads' (Kd.Q_over' (by (with_reducible repeat (first | apply Kd.Q_alloc | apply Kd.Q_drewN | apply Kd.Q_drew)); exact HO_11.out) (Kd.S_typed (by (with_reducible repeat (first | apply Kd.S_alloc | apply Kd.S_drewN | apply Kd.S_drew)); exact HO_10.out)) (by decide) hg)).2.2) KL38.out)); have n5_ := Aside0.mk (ho); clear HO_8; clear HO_9; clear HO_11; clear HB; clear HR178; clear HO_10; clear HO185; have HO_8 := n0_; have HO_9 := n1_; have HO_11 := n2_; have HB := n3_; have HR178 := n4_; have HO188 := n5_; clear n0_ n1_ n2_ n3_ n4_ n5_; clear ho hb hg hat; have q42 : (x12_3 : Int) ≤ ((x11_2.length : Int) : Int) := of_decide_eq_true (by first | (with_reducible assumption) | assumption); obtain ⟨i042, hi042, _, hsz42, _⟩ := info_parts info78; have hcut42 := cut_from (P := Tryd.prog) 75 78 .i64 Tryd.underlying75 hi042 4 hsz42 Ao16 x11_2.length co16 x12_3 (of_decide_eq_true (by first | (with_reducible assumption) | assumption)) q42; have hr42 := Kd.Q_drop (k := (x12_3 : Int).toNat) HO_11.out (by omega); obtain ⟨A42, hA42⟩ : ∃ A1, A1 = (if co16 = (x12_3 : Int).toNat then Ao16 else (Ao16 : Option Addr).map (·.add ((x12_3 : Int).toNat * 4))) := ⟨_, rfl⟩; obtain ⟨c42, hc42⟩ : ∃ c1, c1 = co16 - (x12_3 : Int).toNat := ⟨_, rfl⟩; have hy42 : y189.length = x11_2.length - (x12_3 : Int).toNat := (by rw [Ny189.out, List.length_drop]); rw [← Ny189.out] at hr42; rw [← hy42, ← hA42, ← hc42] at hcut42; replace hr42 : Kd.Q k78 78 w40 w.heap.size (fun _ => True) (.slice A42 y189.length c42) y189 := (by rw [hA42, hc42, hy42]; exact hr42); have HE42 : Aside0 ((Value.slice A42 y189.length c42).ownBlock = (.slice Ao16 x11_2.length co16 : Value).ownBlock) := ⟨by rw [hA42]; split <;> (cases (Ao16 : Option Addr) <;> first | rfl | exact congrArg some (add_block _ _))⟩; clear hy42 hi042 hsz42 HO_11 hA42 hc42; have HO191 := Aside0.mk hr42; clear hr42; replace q42 := eq_true q42)))
             go_roundg k3
             case measure => have := HJ3.out; have := HK2.out; have := HK3.out; omega
             case rel => exact ⟨(y186), (y189), H', ⟨by have := HJ3.out; have := HK2.out; have := HK3.out; omega⟩, ⟨by (with_reducible repeat (first | apply Kd.R_alloc | apply Kd.R_drewN | apply Kd.R_drew)); exact HO_8.out⟩, ⟨by (with_reducible repeat (first | apply Kd.R_alloc | apply Kd.R_drewN | apply Kd.R_drew)); exact HO_9.out⟩, ⟨by (with_reducible repeat (first | apply Kd.S_alloc | apply Kd.S_drewN | apply Kd.S_drew)); exact HO188.out⟩, ⟨by (with_reducible repeat (first | apply Kd.Q_alloc | apply Kd.Q_drewN | apply Kd.Q_drew)); exact HO191.out⟩, ⟨by repeat (first | (with_reducible first | exact HB.out | apply below_alloc | apply pw_below_drewN | apply below_drew1) | exact HB.out)⟩⟩
            ·rw [if_neg c36] at H
             exact absurd H (by simp)
           ·rw [if_neg c34] at H
            exact absurd H (by simp)
          ·rw [if_neg c33] at H
           exact absurd H (by simp)
      ·rw [if_neg c15] at H
       have c15b0 : decide (0 < (x11_2.length : Int)) = false := decide_eq_false c15
       have c15b1 : decide (0 < x11_2.length) = false := decide_eq_false (by omega)
       clear c15
       simp only [Option.some.injEq, Prod.mk.injEq] at H
       obtain ⟨rfl, rfl⟩ := H
       obtain ⟨Ao43, co43, eo43, _⟩ := Kd.Q_slice HO_11.out
       subst eo43
       go_wp2
       repeat (go_quiet (fail); try go_wp2)
       go_ret2
       exact ⟨_, by first | rfl | (simp [errW_none, errW_some] <;> rfl) | (simp [*, errW_none, errW_some] <;> rfl), by (with_reducible repeat (first | apply Kd.S_alloc | apply Kd.S_drewN | apply Kd.S_drew)); exact HO_10.out, by repeat (first | (with_reducible first | exact HB.out | apply below_alloc | apply pw_below_drewN | apply below_drew1) | exact HB.out)⟩

/-! ### redpenlaw20_Awake: function 10 -/
def redpenlaw20_Awake.f  : Option (Bool) := (show_Head.f 0 2 0 2 ([] : List (S42))).bind fun t192 => (if t192.toList = ([64, 64, 32, 45, 49, 44, 50, 32, 43, 49, 44, 50, 32, 64, 64, 10] : List UInt8) then ((show_Head.f 3 0 3 1 ([] : List (S42))).bind fun t193 => (some (t193.toList == ([64, 64, 32, 45, 51, 44, 48, 32, 43, 52, 44, 49, 32, 64, 64, 10] : List UInt8)))) else (some false))
set_option maxHeartbeats 8000000 in
set_option maxRecDepth 100000 in
theorem redpenlaw20_Awake.calls  (r : Bool) (w : World) (hG_GPow : GPow w) (h : redpenlaw20_Awake.f  = some r) :
  Calls Tryd.prog 10 #[] w fun e w' => e = .returned (.bool r) ∧ Below w.heap.size w w' := by
 have hu26 := Tryd.underlying26
 have HG_GPow := Aside0.mk hG_GPow
 clear hG_GPow
 have HB := Aside0.mk (Below.refl w.heap.size w)
 have H : ((show_Head.f 0 2 0 2 ([] : List (S42))).bind fun t192 => (if t192.toList = ([64, 64, 32, 45, 49, 44, 50, 32, 43, 49, 44, 50, 32, 64, 64, 10] : List UInt8) then ((show_Head.f 3 0 3 1 ([] : List (S42))).bind fun t193 => (some (t193.toList == ([64, 64, 32, 45, 51, 44, 48, 32, 43, 52, 44, 49, 32, 64, 64, 10] : List UInt8)))) else (some false))) = some r := h
 clear h
 replace H := Option.bind_eq_some_iff.mp H
 obtain ⟨t192, A10, H⟩ := H
 replace H : (if t192.toList = ([64, 64, 32, 45, 49, 44, 50, 32, 43, 49, 44, 50, 32, 64, 64, 10] : List UInt8) then ((show_Head.f 3 0 3 1 ([] : List (S42))).bind fun t193 => (some (t193.toList == ([64, 64, 32, 45, 51, 44, 48, 32, 43, 52, 44, 49, 32, 64, 64, 10] : List UInt8)))) else (some false)) = some r := H
 have A1 := Aside0.mk A10
 clear A10
 by_cases c2 : t192.toList = ([64, 64, 32, 45, 49, 44, 50, 32, 43, 49, 44, 50, 32, 64, 64, 10] : List UInt8)
 ·rw [if_pos c2] at H
  have c2b0 : (t192.toList == ([64, 64, 32, 45, 49, 44, 50, 32, 43, 49, 44, 50, 32, 64, 64, 10] : List UInt8)) = true := beq_iff_eq.mpr c2
  have c2b1 : (t192.toList != ([64, 64, 32, 45, 49, 44, 50, 32, 43, 49, 44, 50, 32, 64, 64, 10] : List UInt8)) = false := bne_eq_false_iff_eq.mpr c2
  clear c2
  replace H := Option.bind_eq_some_iff.mp H
  obtain ⟨t193, A30, H⟩ := H
  replace H : (some (t193.toList == ([64, 64, 32, 45, 51, 44, 48, 32, 43, 52, 44, 49, 32, 64, 64, 10] : List UInt8))) = some r := H
  have A3 := Aside0.mk A30
  clear A30
  obtain rfl := Option.some.inj H
  go_enter Tryd.func10, Tryd.ntmps10
  go_wp2_with (first | ((with_reducible refine gate_callee (f := 24) rfl ?_); refine goesL_ (some 2) rfl rfl Tryd.func24 (by kernel_rfl) rfl #[.agg #[.int .i64 0, .int .i64 2, .int .i64 0, .int .i64 2, .slice none 0 0]] rfl (by (try simp only [List.map_toArray, List.map_cons, List.map_nil]); first | done | rfl | (simp only [List.length_drop, List.length_take]; rfl)) ?_; (refine (show_Head.calls 0 2 0 2 _ _ ([] : List (S42)) t192 _ ?side1 ?side2 ?side3 A1.out).mono ?_); (case side1 => exact Kd.C_nil _ _); (case side2 => exact Nat.le_refl _); (case side3 => exact GPow.below HG_GPow.out (by repeat (first | (with_reducible first | exact HB.out | apply below_alloc | apply pw_below_drewN | apply below_drew1) | exact HB.out))); rintro e w4 ⟨rfl, hb⟩; refine ⟨_, rfl, ?_⟩; have n0_ := Aside0.mk (below_step (by repeat (first | (with_reducible first | exact HB.out | apply below_alloc | apply pw_below_drewN | apply below_drew1) | exact HB.out)) hb); clear HB; have HB := n0_; clear n0_; (try clear hb); (try clear hb2); (try clear hk); (try clear hi)) | (go_at_call 24; (refine (show_Head.calls 3 0 3 1 _ _ ([] : List (S42)) t193 _ ?side1 ?side2 ?side3 A3.out).mono ?_); (case side1 => exact Kd.C_nil _ _); (case side2 => exact Nat.le_refl _); (case side3 => exact GPow.below HG_GPow.out (by repeat (first | (with_reducible first | exact HB.out | apply below_alloc | apply pw_below_drewN | apply below_drew1) | exact HB.out))); rintro e w5 ⟨rfl, hb⟩; have n0_ := Aside0.mk (below_step (by repeat (first | (with_reducible first | exact HB.out | apply below_alloc | apply pw_below_drewN | apply below_drew1) | exact HB.out)) hb); clear HB; have HB := n0_; clear n0_; (try clear hb); (try clear hb2); (try clear hk); (try clear hi)))
  go_ret
  exact ⟨by first | rfl | (simp [errW_none, errW_some] <;> rfl) | (simp [*, errW_none, errW_some] <;> rfl), by repeat (first | (with_reducible first | exact HB.out | apply below_alloc | apply pw_below_drewN | apply below_drew1) | exact HB.out)⟩
 ·rw [if_neg c2] at H
  have c2b0 : (t192.toList == ([64, 64, 32, 45, 49, 44, 50, 32, 43, 49, 44, 50, 32, 64, 64, 10] : List UInt8)) = false := beq_eq_false_iff_ne.mpr c2
  have c2b1 : (t192.toList != ([64, 64, 32, 45, 49, 44, 50, 32, 43, 49, 44, 50, 32, 64, 64, 10] : List UInt8)) = true := bne_iff_ne.mpr c2
  obtain rfl := Option.some.inj H
  go_enter Tryd.func10, Tryd.ntmps10
  go_wp2_with (first | ((with_reducible refine gate_callee (f := 24) rfl ?_); refine goesL_ (some 2) rfl rfl Tryd.func24 (by kernel_rfl) rfl #[.agg #[.int .i64 0, .int .i64 2, .int .i64 0, .int .i64 2, .slice none 0 0]] rfl (by (try simp only [List.map_toArray, List.map_cons, List.map_nil]); first | done | rfl | (simp only [List.length_drop, List.length_take]; rfl)) ?_; (refine (show_Head.calls 0 2 0 2 _ _ ([] : List (S42)) t192 _ ?side1 ?side2 ?side3 A1.out).mono ?_); (case side1 => exact Kd.C_nil _ _); (case side2 => exact Nat.le_refl _); (case side3 => exact GPow.below HG_GPow.out (by repeat (first | (with_reducible first | exact HB.out | apply below_alloc | apply pw_below_drewN | apply below_drew1) | exact HB.out))); rintro e w6 ⟨rfl, hb⟩; refine ⟨_, rfl, ?_⟩; have n0_ := Aside0.mk (below_step (by repeat (first | (with_reducible first | exact HB.out | apply below_alloc | apply pw_below_drewN | apply below_drew1) | exact HB.out)) hb); clear HB; have HB := n0_; clear n0_; (try clear hb); (try clear hb2); (try clear hk); (try clear hi)))
  go_ret
  exact ⟨by first | rfl | (simp [errW_none, errW_some] <;> rfl) | (simp [*, errW_none, errW_some] <;> rfl), by repeat (first | (with_reducible first | exact HB.out | apply below_alloc | apply pw_below_drewN | apply below_drew1) | exact HB.out)⟩

end Go.Proofs.YthkcghiagnddiaaDoor.X
