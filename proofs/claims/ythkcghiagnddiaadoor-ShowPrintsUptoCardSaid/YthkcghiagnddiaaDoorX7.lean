-- Printed by px.sh (a patched copy of the kit's print): the walks of Go functions, out of the translation.
import Derived.Test.YthkcghiagnddiaaDoorX0
namespace Go.Proofs.YthkcghiagnddiaaDoor.X
open Go.RowKit Go.Proofs.YthkcghiagnddiaaDoorW.PrintWords Go.Proofs.YthkcghiagnddiaaDoorW.PrintLast Go.Proofs.YthkcghiagnddiaaDoorW.PrintMore
attribute [local go_sem] max2_int min2_int max_two min_two max_three min_three max_four min_four   -- for this text's walks alone
set_option linter.unusedVariables false
set_option linter.unusedSimpArgs false

/-! ### redpenlaw20_Tidied: function 11 -/
mutual
def redpenlaw20_Tidied.l0 : Nat → Int → Int → Int → Int → Int → Int → List (S42) → Option (Int × Int × Int × Int × (List (S42)))
 | 0, _, _, _, _, _, _, _ => none
 | k + 1, x38, x39, x155000, x155001, x155002, x155003, x155004 => if x39 < x38 then (if 0 ≤ x39 then (if x39 < (x155004.length : Int) then (if 0 ≤ (Int.tmod ((rd_T42 x155004 x39).f0) 3) then (if (Int.tmod ((rd_T42 x155004 x39).f0) 3) < 3 then ((some (x155004.set (x39 : Int).toNat (⟨bt (⟨#[32, 45, 43]⟩ : ByteArray) (Int.tmod ((rd_T42 x155004 x39).f0) 3), (rd_T42 x155004 x39).f1, (rd_T42 x155004 x39).f2⟩ : S42) : List (S42))).bind fun y168 => (redpenlaw20_Tidied.l1 k x39 ([] : List Int) x38 x39 (mn (((rd_T42 y168 x39).f1).size : Int) 9) 0 x155000 x155001 x155002 x155003 y168)) else (none)) else (none)) else (none)) else (none)) else (some (x155000, x155001, x155002, x155003, x155004))
def redpenlaw20_Tidied.l1 : Nat → Int → List Int → Int → Int → Int → Int → Int → Int → Int → Int → List (S42) → Option (Int × Int × Int × Int × (List (S42)))
 | 0, _, _, _, _, _, _, _, _, _, _, _ => none
 | k + 1, x5, x7, x38, x39, x60, x61, x155000, x155001, x155002, x155003, x155004 => if x61 < x60 then (if 0 ≤ x5 then (if x5 < (x155004.length : Int) then (if 0 ≤ x61 then (if x61 < (((rd_T42 x155004 x5).f1).size : Int) then (if (bt ((rd_T42 x155004 x5).f1) x61) = 10 then (redpenlaw20_Tidied.l1 k x5 x7 x38 x39 x60 (wrap64 (x61 + 1)) x155000 x155001 x155002 x155003 x155004) else (if x7.length < 140737488355328 then (redpenlaw20_Tidied.l1 k x5 (x7 ++ [bt ((rd_T42 x155004 x5).f1) x61]) x38 x39 x60 (wrap64 (x61 + 1)) x155000 x155001 x155002 x155003 x155004) else (none))) else (none)) else (none)) else (none)) else (none)) else (if 0 ≤ x5 then (if x5 < (x155004.length : Int) then ((some (x155004.set (x5 : Int).toNat (⟨(rd_T42 x155004 x5).f0, strOfNums x7, (rd_T42 x155004 x5).f2⟩ : S42) : List (S42))).bind fun y175 => (if (rd_T42 y175 x5).f2 = true then (redpenlaw20_Tidied.j2 k x5 x38 x39 x155000 x155001 x155002 x155003 (y175.set (x5 : Int).toNat (⟨(rd_T42 y175 x5).f0, (rd_T42 y175 x5).f1, decide ((wrap64 (x5 + 2)) ≥ (x155004.length : Int))⟩ : S42))) else (redpenlaw20_Tidied.j2 k x5 x38 x39 x155000 x155001 x155002 x155003 (y175.set (x5 : Int).toNat (⟨(rd_T42 y175 x5).f0, (rd_T42 y175 x5).f1, false⟩ : S42))))) else (none)) else (none))
def redpenlaw20_Tidied.j2 : Nat → Int → Int → Int → Int → Int → Int → Int → List (S42) → Option (Int × Int × Int × Int × (List (S42)))
 | 0, _, _, _, _, _, _, _, _ => none
 | k + 1, x5, x38, x39, x155000, x155001, x155002, x155003, x155004 => if 0 ≤ x5 then (if x5 < (x155004.length : Int) then (if ((rd_T42 x155004 x5).f0) = 43 then (if ((rd_T42 x155004 x5).f0) = 45 then (redpenlaw20_Tidied.l0 k x38 (wrap64 (x39 + 1)) x155000 x155001 x155002 x155003 x155004) else (redpenlaw20_Tidied.l0 k x38 (wrap64 (x39 + 1)) x155000 x155001 x155002 (wrap64 (x155003 + 1)) x155004)) else (if ((rd_T42 x155004 x5).f0) = 45 then (redpenlaw20_Tidied.l0 k x38 (wrap64 (x39 + 1)) x155000 (wrap64 (x155001 + 1)) x155002 x155003 x155004) else (redpenlaw20_Tidied.l0 k x38 (wrap64 (x39 + 1)) x155000 (wrap64 (x155001 + 1)) x155002 (wrap64 (x155003 + 1)) x155004))) else (none)) else (none)
end
def redpenlaw20_Tidied.f (k : Nat) (a0_0 : Int) (a0_1 : Int) (a0_2 : Int) (a0_3 : Int) (l0_4 : List (S42)) (a1 : Bool) : Option (Int × Int × Int × Int × (List (S42))) := (some (([] : List (S42)) : List (S42))).bind fun y156 => (if 0 ≤ (mn (l0_4.length : Int) 12) then (if (mn (l0_4.length : Int) 12) ≤ (l0_4.length : Int) then ((some (l0_4.take ((mn (l0_4.length : Int) 12) : Int).toNat : List (S42))).bind fun y159 => (if y156.length + y159.length < 4398046511104 then ((some (y156 ++ y159 : List (S42))).bind fun y163 => (if a1 = true then (redpenlaw20_Tidied.l0 k (y163.length : Int) 0 (wrap64 (Int.tmod (IntKind.u64.wrap (a0_0)) 50)) 0 (wrap64 (Int.tmod (IntKind.u64.wrap (a0_2)) 50)) 0 y163) else (some (a0_0, a0_1, a0_2, a0_3, y163)))) else (none))) else (none)) else (none))
theorem redpenlaw20_Tidied.mono_l : ∀ k, (∀ y0 y1 y2 y3 y4 y5 y6, LeO (redpenlaw20_Tidied.l0 k y0 y1 y2 y3 y4 y5 y6) (redpenlaw20_Tidied.l0 (k + 1) y0 y1 y2 y3 y4 y5 y6)) ∧ (∀ y0 y1 y2 y3 y4 y5 y6 y7 y8 y9 y10, LeO (redpenlaw20_Tidied.l1 k y0 y1 y2 y3 y4 y5 y6 y7 y8 y9 y10) (redpenlaw20_Tidied.l1 (k + 1) y0 y1 y2 y3 y4 y5 y6 y7 y8 y9 y10)) ∧ (∀ y0 y1 y2 y3 y4 y5 y6 y7, LeO (redpenlaw20_Tidied.j2 k y0 y1 y2 y3 y4 y5 y6 y7) (redpenlaw20_Tidied.j2 (k + 1) y0 y1 y2 y3 y4 y5 y6 y7))
 | 0 => ⟨fun _ _ _ _ _ _ _ r h => by simp [redpenlaw20_Tidied.l0] at h, fun _ _ _ _ _ _ _ _ _ _ _ r h => by simp [redpenlaw20_Tidied.l1] at h, fun _ _ _ _ _ _ _ _ r h => by simp [redpenlaw20_Tidied.j2] at h⟩
 | k + 1 => by
  obtain ⟨ih0, ih1, ih2⟩ := redpenlaw20_Tidied.mono_l k
  refine ⟨?_, ?_, ?_⟩
  ·intro y0 y1 y2 y3 y4 y5 y6
   unfold redpenlaw20_Tidied.l0
   repeat' first
   | (with_reducible exact ih0 _ _ _ _ _ _ _)
   | (with_reducible exact ih1 _ _ _ _ _ _ _ _ _ _ _)
   | (with_reducible exact ih2 _ _ _ _ _ _ _ _)
   | (with_reducible exact LeO.refl _)
   | (with_reducible exact LeO.none _)
   | (with_reducible refine LeO.ite ?_ ?_)
   | (with_reducible refine LeO.bind ?_ (fun _ => ?_))
   | exact ih0 _ _ _ _ _ _ _
   | exact ih1 _ _ _ _ _ _ _ _ _ _ _
   | exact ih2 _ _ _ _ _ _ _ _
   | exact LeO.none _
   | refine LeO.ite ?_ ?_
   | refine LeO.bind ?_ (fun _ => ?_)
  ·intro y0 y1 y2 y3 y4 y5 y6 y7 y8 y9 y10
   unfold redpenlaw20_Tidied.l1
   repeat' first
   | (with_reducible exact ih0 _ _ _ _ _ _ _)
   | (with_reducible exact ih1 _ _ _ _ _ _ _ _ _ _ _)
   | (with_reducible exact ih2 _ _ _ _ _ _ _ _)
   | (with_reducible exact LeO.refl _)
   | (with_reducible exact LeO.none _)
   | (with_reducible refine LeO.ite ?_ ?_)
   | (with_reducible refine LeO.bind ?_ (fun _ => ?_))
   | exact ih0 _ _ _ _ _ _ _
   | exact ih1 _ _ _ _ _ _ _ _ _ _ _
   | exact ih2 _ _ _ _ _ _ _ _
   | exact LeO.none _
   | refine LeO.ite ?_ ?_
   | refine LeO.bind ?_ (fun _ => ?_)
  ·intro y0 y1 y2 y3 y4 y5 y6 y7
   unfold redpenlaw20_Tidied.j2
   repeat' first
   | (with_reducible exact ih0 _ _ _ _ _ _ _)
   | (with_reducible exact ih1 _ _ _ _ _ _ _ _ _ _ _)
   | (with_reducible exact ih2 _ _ _ _ _ _ _ _)
   | (with_reducible exact LeO.refl _)
   | (with_reducible exact LeO.none _)
   | (with_reducible refine LeO.ite ?_ ?_)
   | (with_reducible refine LeO.bind ?_ (fun _ => ?_))
   | exact ih0 _ _ _ _ _ _ _
   | exact ih1 _ _ _ _ _ _ _ _ _ _ _
   | exact ih2 _ _ _ _ _ _ _ _
   | exact LeO.none _
   | refine LeO.ite ?_ ?_
   | refine LeO.bind ?_ (fun _ => ?_)
theorem redpenlaw20_Tidied.mono : ∀ a0 a1 a2 a3 a4 a5 k, LeO (redpenlaw20_Tidied.f k a0 a1 a2 a3 a4 a5) (redpenlaw20_Tidied.f (k + 1) a0 a1 a2 a3 a4 a5) := by
 intro a0 a1 a2 a3 a4 a5 k
 obtain ⟨ih0, ih1, ih2⟩ := redpenlaw20_Tidied.mono_l k
 unfold redpenlaw20_Tidied.f
 repeat' first
   | (with_reducible exact ih0 _ _ _ _ _ _ _)
   | (with_reducible exact ih1 _ _ _ _ _ _ _ _ _ _ _)
   | (with_reducible exact ih2 _ _ _ _ _ _ _ _)
   | (with_reducible exact LeO.refl _)
   | (with_reducible exact LeO.none _)
   | (with_reducible refine LeO.ite ?_ ?_)
   | (with_reducible refine LeO.bind ?_ (fun _ => ?_))
   | exact ih0 _ _ _ _ _ _ _
   | exact ih1 _ _ _ _ _ _ _ _ _ _ _
   | exact ih2 _ _ _ _ _ _ _ _
   | exact LeO.none _
   | refine LeO.ite ?_ ?_
   | refine LeO.bind ?_ (fun _ => ?_)
set_option maxHeartbeats 8000000 in
set_option maxRecDepth 100000 in
theorem redpenlaw20_Tidied.calls (k : Nat) (a0_0 : Int) (a0_1 : Int) (a0_2 : Int) (a0_3 : Int) (A0_4 : Option Addr) (c0_4 : Nat) (l0_4 : List (S42)) (a1 : Bool) (r1 : Int) (r2 : Int) (r3 : Int) (r4 : Int) (r5 : List (S42)) (w : World) (hr0_4 : Kd.C k42 w A0_4 l0_4.length l0_4) (hc0_4 : l0_4.length ≤ c0_4) (h : redpenlaw20_Tidied.f k a0_0 a0_1 a0_2 a0_3 l0_4 a1 = some (r1, r2, r3, r4, r5)) :
  Calls Tryd.prog 11 #[.agg #[.int .i64 a0_0, .int .i64 a0_1, .int .i64 a0_2, .int .i64 a0_3, .slice A0_4 l0_4.length c0_4], .bool a1] w fun e w' => ∃ v4_ : Value, e = .returned (.agg #[.int .i64 r1, .int .i64 r2, .int .i64 r3, .int .i64 r4, v4_]) ∧ Kd.R k42 42 w' w.heap.size (fun _ => True) v4_ r5 ∧ Below w.heap.size w w' := by
 have hu26 := Tryd.underlying26
 have HR0_4 := Aside0.mk hr0_4
 have HC0_4 := Aside0.mk hc0_4
 clear hr0_4 hc0_4
 have HB := Aside0.mk (Below.refl w.heap.size w)
 have H : ((some (([] : List (S42)) : List (S42))).bind fun y156 => (if 0 ≤ (mn (l0_4.length : Int) 12) then (if (mn (l0_4.length : Int) 12) ≤ (l0_4.length : Int) then ((some (l0_4.take ((mn (l0_4.length : Int) 12) : Int).toNat : List (S42))).bind fun y159 => (if y156.length + y159.length < 4398046511104 then ((some (y156 ++ y159 : List (S42))).bind fun y163 => (if a1 = true then (redpenlaw20_Tidied.l0 k (y163.length : Int) 0 (wrap64 (Int.tmod (IntKind.u64.wrap (a0_0)) 50)) 0 (wrap64 (Int.tmod (IntKind.u64.wrap (a0_2)) 50)) 0 y163) else (some (a0_0, a0_1, a0_2, a0_3, y163)))) else (none))) else (none)) else (none))) = some (r1, r2, r3, r4, r5) := h
 clear h
 obtain ⟨y156, hy156⟩ : ∃ y_ : List (S42), y_ = (([] : List (S42))) := ⟨_, rfl⟩
 replace H : (if 0 ≤ (mn (l0_4.length : Int) 12) then (if (mn (l0_4.length : Int) 12) ≤ (l0_4.length : Int) then ((some (l0_4.take ((mn (l0_4.length : Int) 12) : Int).toNat : List (S42))).bind fun y159 => (if y156.length + y159.length < 4398046511104 then ((some (y156 ++ y159 : List (S42))).bind fun y163 => (if a1 = true then (redpenlaw20_Tidied.l0 k (y163.length : Int) 0 (wrap64 (Int.tmod (IntKind.u64.wrap (a0_0)) 50)) 0 (wrap64 (Int.tmod (IntKind.u64.wrap (a0_2)) 50)) 0 y163) else (some (a0_0, a0_1, a0_2, a0_3, y163)))) else (none))) else (none)) else (none)) = some (r1, r2, r3, r4, r5) := by first | (rw [hy156]; with_reducible exact H) | (have H2_ := (Option.bind_some _ _).symm.trans H; rw [hy156]; with_reducible exact H2_) | (have H2_ := (Option.bind_some _ _).symm.trans H; with_reducible exact H2_) | with_reducible exact H | (rw [hy156]; exact H) | exact H
 have Ny156 := Aside0.mk hy156
 clear hy156
 obtain ⟨ji3, hji3⟩ : ∃ j_ : Int, (mn (l0_4.length : Int) 12) = j_ := ⟨_, rfl⟩
 replace H : (if 0 ≤ (ji3) then (if (ji3) ≤ (l0_4.length : Int) then ((some (l0_4.take ((ji3) : Int).toNat : List (S42))).bind fun y159 => (if y156.length + y159.length < 4398046511104 then ((some (y156 ++ y159 : List (S42))).bind fun y163 => (if a1 = true then (redpenlaw20_Tidied.l0 k (y163.length : Int) 0 (wrap64 (Int.tmod (IntKind.u64.wrap (a0_0)) 50)) 0 (wrap64 (Int.tmod (IntKind.u64.wrap (a0_2)) 50)) 0 y163) else (some (a0_0, a0_1, a0_2, a0_3, y163)))) else (none))) else (none)) else (none)) = some (r1, r2, r3, r4, r5) := by first | (rw [hji3] at H; exact H) | (simp only [hji3] at H ⊢; exact H)
 (try (have hji3h : ji3 ≤ 12 := by (rw [← hji3]; unfold mn; (repeat' split) <;> omega)))
 (try (have hji3g : ji3 ≤ 64 := by omega))
 (try (have hji3l : 0 ≤ ji3 := by (rw [← hji3]; unfold mn; (repeat' split) <;> omega)))
 (try (have hji3m : 0 ≤ ji3 := by omega))
 have hji3_ : (if 12 < (l0_4.length : Int) then 12 else (l0_4.length : Int)) = ji3 := hji3
 by_cases c4 : 0 ≤ (ji3)
 ·rw [if_pos c4] at H
  have c4b0 := eq_true c4
  have c4b1 : decide (0 ≤ (ji3)) = true := decide_eq_true c4
  clear c4
  by_cases c5 : (ji3) ≤ (l0_4.length : Int)
  ·rw [if_pos c5] at H
   have c5b0 := eq_true c5
   have c5b1 : decide ((ji3) ≤ (l0_4.length : Int)) = true := decide_eq_true c5
   clear c5
   obtain ⟨y159, hy159⟩ : ∃ y_ : List (S42), y_ = (l0_4.take ((ji3) : Int).toNat) := ⟨_, rfl⟩
   replace H : (if y156.length + y159.length < 4398046511104 then ((some (y156 ++ y159 : List (S42))).bind fun y163 => (if a1 = true then (redpenlaw20_Tidied.l0 k (y163.length : Int) 0 (wrap64 (Int.tmod (IntKind.u64.wrap (a0_0)) 50)) 0 (wrap64 (Int.tmod (IntKind.u64.wrap (a0_2)) 50)) 0 y163) else (some (a0_0, a0_1, a0_2, a0_3, y163)))) else (none)) = some (r1, r2, r3, r4, r5) := by first | (rw [hy159]; with_reducible exact H) | (have H2_ := (Option.bind_some _ _).symm.trans H; rw [hy159]; with_reducible exact H2_) | (have H2_ := (Option.bind_some _ _).symm.trans H; with_reducible exact H2_) | with_reducible exact H | (rw [hy159]; exact H) | exact H
   have Ny159 := Aside0.mk hy159
   clear hy159
   by_cases c6 : y156.length + y159.length < 4398046511104
   ·rw [if_pos c6] at H
    have LMc6 := Aside0.mk c6
    clear c6
    obtain ⟨y163, hy163⟩ : ∃ y_ : List (S42), y_ = (y156 ++ y159) := ⟨_, rfl⟩
    replace H : (if a1 = true then (redpenlaw20_Tidied.l0 k (y163.length : Int) 0 (wrap64 (Int.tmod (IntKind.u64.wrap (a0_0)) 50)) 0 (wrap64 (Int.tmod (IntKind.u64.wrap (a0_2)) 50)) 0 y163) else (some (a0_0, a0_1, a0_2, a0_3, y163))) = some (r1, r2, r3, r4, r5) := by first | (rw [hy163]; with_reducible exact H) | (have H2_ := (Option.bind_some _ _).symm.trans H; rw [hy163]; with_reducible exact H2_) | (have H2_ := (Option.bind_some _ _).symm.trans H; with_reducible exact H2_) | with_reducible exact H | (rw [hy163]; exact H) | exact H
    have Ny163 := Aside0.mk hy163
    clear hy163
    by_cases c7 : a1 = true
    ·subst c7
     have H1 : (redpenlaw20_Tidied.l0 k (y163.length : Int) 0 (wrap64 (Int.tmod (IntKind.u64.wrap (a0_0)) 50)) 0 (wrap64 (Int.tmod (IntKind.u64.wrap (a0_2)) 50)) 0 y163) = some (r1, r2, r3, r4, r5) := by rw [if_pos rfl] at H; exact H
     clear H
     have H := H1
     clear H1
     have H' := Aside0.mk H
     clear H
     go_enter Tryd.func11, Tryd.ntmps11
     go_wp2_with (first | ((with_reducible refine gate_dst (N := 2) rfl ?_); (try (refine gate_guard (by rfl) ?_; dsimp only)); refine box_event ?hg (N := 2) ?hd (cs := #[.int .i64 a0_0, .int .i64 a0_1, .int .i64 a0_2, .int .i64 a0_3, .slice A0_4 l0_4.length c0_4]) (t := 26) ?hr ?_; (case hd => rfl); (case hg => rfl); (case hr => first | (go_simp; done) | (go_simp; rfl)); intro gb154 hg w8 hbox hb; have n0_ := Aside0.mk (below_step (by repeat (first | (with_reducible first | exact HB.out | apply below_alloc | apply pw_below_drewN | apply below_drew1) | exact HB.out)) hb); have n1_ := Aside0.mk (hbox); have n2_ := Aside0.mk ((by rw [hg]; exact (below_size (by repeat (first | (with_reducible first | exact HB.out | apply below_alloc | apply pw_below_drewN | apply below_drew1) | exact HB.out))) : w.heap.size ≤ gb154)); have n3_ := Aside0.mk ((by rw [hg]; exact (below_size (by repeat (first | (with_reducible first | exact HB.out | apply below_alloc | apply pw_below_drewN | apply below_drew1) | exact HB.out))) : w.heap.size ≤ gb154)); clear HB; have HB := n0_; have BK154 := n1_; have GW154 := n2_; have GE154 := n3_; clear n0_ n1_ n2_ n3_; clear hb hbox hg) | ((with_reducible refine gate_dst (N := 4) rfl ?_); (try (refine gate_guard (by rfl) ?_; dsimp only)); refine box_event ?hg (N := 4) ?hd (cs := #[.int .i64 0, .int .i64 0, .int .i64 0, .int .i64 0, .slice none 0 0]) (t := 26) ?hr ?_; (case hd => rfl); (case hg => rfl); (case hr => first | (go_simp; done) | (go_simp; rfl)); intro gb155 hg w9 hbox hb; have n0_ := Aside0.mk (blk_below (g := gb154) (o := .cells #[.int .i64 a0_0, .int .i64 a0_1, .int .i64 a0_2, .int .i64 a0_3, .slice A0_4 l0_4.length c0_4] 26 (0, 0)) (by (with_reducible repeat (first | refine blk_drewN ?_ _ | refine blk_drew ?_ | refine blk_alloc ?_ _)); exact BK154.out) hb); have n1_ := Aside0.mk (below_step (by repeat (first | (with_reducible first | exact HB.out | apply below_alloc | apply pw_below_drewN | apply below_drew1 | refine below_set ?_ GE154.out) | exact HB.out)) hb); have n2_ := Aside0.mk (hbox); have n3_ := Aside0.mk ((by rw [hg]; exact (below_size (by repeat (first | (with_reducible first | exact HB.out | apply below_alloc | apply pw_below_drewN | apply below_drew1 | refine below_set ?_ GE154.out) | exact HB.out))) : w.heap.size ≤ gb155)); have n4_ := Aside0.mk ((by rw [hg]; exact (below_size (by repeat (first | (with_reducible first | exact HB.out | apply below_alloc | apply pw_below_drewN | apply below_drew1 | refine below_set ?_ GE154.out) | exact HB.out))) : w.heap.size ≤ gb155)); have n5_ := Aside0.mk ((by rw [hg]; exact Nat.ne_of_lt (blk_lt (g := gb154) (o := .cells #[.int .i64 a0_0, .int .i64 a0_1, .int .i64 a0_2, .int .i64 a0_3, .slice A0_4 l0_4.length c0_4] 26 (0, 0)) (by (with_reducible repeat (first | refine blk_drewN ?_ _ | refine blk_drew ?_ | refine blk_alloc ?_ _)); exact BK154.out)) : gb154 ≠ gb155)); have n6_ := Aside0.mk ((by rw [hg]; exact Nat.ne_of_gt (blk_lt (g := gb154) (o := .cells #[.int .i64 a0_0, .int .i64 a0_1, .int .i64 a0_2, .int .i64 a0_3, .slice A0_4 l0_4.length c0_4] 26 (0, 0)) (by (with_reducible repeat (first | refine blk_drewN ?_ _ | refine blk_drew ?_ | refine blk_alloc ?_ _)); exact BK154.out)) : gb155 ≠ gb154)); clear BK154; clear HB; have BK154 := n0_; have HB := n1_; have BK155 := n2_; have GW155 := n3_; have GE155 := n4_; have NB154_155 := n5_; have NB155_154 := n6_; clear n0_ n1_ n2_ n3_ n4_ n5_ n6_; clear hb hbox hg) | ((with_reducible refine gate_dst (N := 9) rfl ?_); (try (refine gate_guard (by rfl) ?_; dsimp only)); refine Kd.R_lit k42 _ 42 ?hg (N := 9) ?hd (xs := ([] : List (S42))) (inner := []) (ok := fun _ => True) (okp := fun _ => True) ?hr ?hp (fun _ hk => hk) trivial (Below.refl _ _) (Nat.le_refl _) (by simp) ?_; (case hd => rfl); (case hg => rfl); (case hr => first | (go_simp; done) | (go_simp; rfl)); (case hp => exact (Reps.none _ _)); intro v157 w10 ho11 hb hg_ hnew_; clear hg_ hnew_; (first | rw [← Ny156.out] at ho11 | (simp only [Int.reduceToNat] at ho11; rw [← Ny156.out] at ho11)); have n0_ := Aside0.mk (Kd.R_lower ho11 (below_size (by repeat (first | (with_reducible first | exact HB.out | apply below_alloc | apply pw_below_drewN | apply below_drew1 | refine below_set ?_ GE154.out | refine below_set ?_ GE155.out) | exact HB.out)))); have n1_ := Aside0.mk (blk_below (g := gb154) (o := .cells #[.int .i64 a0_0, .int .i64 a0_1, .int .i64 a0_2, .int .i64 a0_3, .slice A0_4 l0_4.length c0_4] 26 (0, 0)) (by (with_reducible repeat (first | refine blk_drewN ?_ _ | refine blk_drew ?_ | refine blk_alloc ?_ _)); exact BK154.out) hb); have n2_ := Aside0.mk (blk_below (g := gb155) (o := .cells #[.int .i64 0, .int .i64 0, .int .i64 0, .int .i64 0, .slice none 0 0] 26 (0, 0)) (by (with_reducible repeat (first | refine blk_drewN ?_ _ | refine blk_drew ?_ | refine blk_alloc ?_ _)); exact BK155.out) hb); have n3_ := Aside0.mk (below_step (by repeat (first | (with_reducible first | exact HB.out | apply below_alloc | apply pw_below_drewN | apply below_drew1 | refine below_set ?_ GE154.out | refine below_set ?_ GE155.out) | exact HB.out)) hb); clear BK154; clear BK155; clear HB; have HO158 := n0_; have BK154 := n1_; have BK155 := n2_; have HB := n3_; clear n0_ n1_ n2_ n3_; clear hb ho11; have hnb12 := NB154_155.out; have hnc12 := NB155_154.out; have hcz13_0 : w10.cell? ⟨gb154, 0, none⟩ = some (.int .i64 a0_0) := (blk_cell BK154.out 0).trans rfl; have hcz13_1 : w10.cell? ⟨gb154, 1, none⟩ = some (.int .i64 a0_1) := (blk_cell BK154.out 1).trans rfl; have hcz13_2 : w10.cell? ⟨gb154, 2, none⟩ = some (.int .i64 a0_2) := (blk_cell BK154.out 2).trans rfl; have hcz13_3 : w10.cell? ⟨gb154, 3, none⟩ = some (.int .i64 a0_3) := (blk_cell BK154.out 3).trans rfl; have hcz13_4 : w10.cell? ⟨gb154, 4, none⟩ = some (.slice A0_4 l0_4.length c0_4) := (blk_cell BK154.out 4).trans rfl; have hfz13_0 := blk_frozen BK154.out 0; have hfz13_1 := blk_frozen BK154.out 1; have hfz13_2 := blk_frozen BK154.out 2; have hfz13_3 := blk_frozen BK154.out 3; have hfz13_4 := blk_frozen BK154.out 4; have q14 : ((ji3) : Int) ≤ ((l0_4.length : Int) : Int) := of_decide_eq_true (by first | (with_reducible assumption) | assumption); obtain ⟨i014, hi014, _, hsz14, _⟩ := info_parts info42; have hroom14 : l0_4.length ≤ c0_4 := HC0_4.out; have hC14 : Kd.C k42 _ A0_4 l0_4.length l0_4 := HR0_4.out; have hcut14 := cut_to (P := Tryd.prog) 24 42 .i64 Tryd.underlying24 hi014 A0_4 l0_4.length c0_4 (ji3) (of_decide_eq_true (by first | (with_reducible assumption) | assumption)) q14 hroom14; have hr14 := Kd.C_take (m := ((ji3) : Int).toNat) hC14 (by omega); have hy14 : y159.length = ((ji3) : Int).toNat := (by rw [Ny159.out, List.length_take]; omega); rw [← Ny159.out] at hr14; rw [← hy14] at hcut14; have HR162 := Aside0.mk hr14; have HC162 := Aside0.mk (show y159.length ≤ c0_4 from by omega); clear hr14 hC14 hroom14 hi014 hsz14; have KY14 := Aside0.mk hy14; clear hy14; replace q14 := eq_true q14) | ((with_reducible refine gate_builtin (b := .append) (xs := #[.tmp 9, .tmp 16]) rfl ?_); (try (refine gate_guard (by rfl) ?_; dsimp only)); at_builtin; refine Kd.R_append_rows k42 (w0 := w) w.heap.size rfl (.tmp 9) (.tmp 16) 24 42 (.agg #[(.int .u8 0), (.string ⟨#[]⟩), (.bool false)]) 32 rfl Tryd.underlying24 info42 rfl (by decide) (by omega) v157 y156 y159 _ _ _ (fun _ => True) (fun _ => False) rfl rfl ?aO ?aR (fun _ _ h => h) (fun _ h => h.elim) ?aF ?aB ?aS ?aL ?_; (case aR => repeat (first | exact (Kd.C_below HR162.out HB.out) | (with_reducible refine Kd.C_alloc ?_ _) | (with_reducible refine Kd.C_drewN ?_ _) | (with_reducible refine Kd.C_drew ?_))); (case aB => exact (by repeat (first | (with_reducible first | exact HB.out | apply below_alloc | apply pw_below_drewN | apply below_drew1 | refine below_set ?_ GE154.out | refine below_set ?_ GE155.out) | exact HB.out))); (case aF => exact (fun _ _ => trivial)); (case aO => exact (by (with_reducible repeat (first | apply Kd.R_alloc | apply Kd.R_drewN | apply Kd.R_drew)); exact HO158.out)); (case aS => exact (below_size (by repeat (first | (with_reducible first | exact HB.out | apply below_alloc | apply pw_below_drewN | apply below_drew1 | refine below_set ?_ GE154.out | refine below_set ?_ GE155.out) | exact HB.out)))); (case aL => have := LMc6.out; omega); intro v164 w15 ho hb hg hat; rw [← Ny163.out] at ho; have n0_ := Aside0.mk (blk_grown (g := gb154) (o := .cells #[.int .i64 a0_0, .int .i64 a0_1, .int .i64 a0_2, .int .i64 a0_3, .slice A0_4 l0_4.length c0_4] 26 (0, 0)) (by (with_reducible repeat (first | refine blk_drewN ?_ _ | refine blk_drew ?_ | refine blk_alloc ?_ _)); exact BK154.out) hg (Kd.R_ne HO158.out BK154.out (by decide))); have n1_ := Aside0.mk (blk_grown (g := gb155) (o := .cells #[.int .i64 0, .int .i64 0, .int .i64 0, .int .i64 0, .slice none 0 0] 26 (0, 0)) (by (with_reducible repeat (first | refine blk_drewN ?_ _ | refine blk_drew ?_ | refine blk_alloc ?_ _)); exact BK155.out) hg (Kd.R_ne HO158.out BK155.out (by decide))); have n2_ := Aside0.mk (hb); have n3_ := Aside0.mk (ho); clear BK154; clear BK155; clear HB; clear HO158; have BK154 := n0_; have BK155 := n1_; have HB := n2_; have HO165 := n3_; clear n0_ n1_ n2_ n3_; clear ho hb hg hat; obtain ⟨Ao16, co16, eo16⟩ := Kd.R_slice HO165.out; subst eo16; have hcz17_0 : w15.cell? ⟨gb154, 0, none⟩ = some (.int .i64 a0_0) := (blk_cell BK154.out 0).trans rfl; have hcz17_1 : w15.cell? ⟨gb154, 1, none⟩ = some (.int .i64 a0_1) := (blk_cell BK154.out 1).trans rfl; have hcz17_2 : w15.cell? ⟨gb154, 2, none⟩ = some (.int .i64 a0_2) := (blk_cell BK154.out 2).trans rfl; have hcz17_3 : w15.cell? ⟨gb154, 3, none⟩ = some (.int .i64 a0_3) := (blk_cell BK154.out 3).trans rfl; have hcz17_4 : w15.cell? ⟨gb154, 4, none⟩ = some (.slice A0_4 l0_4.length c0_4) := (blk_cell BK154.out 4).trans rfl; have hfz17_0 := blk_frozen BK154.out 0; have hfz17_1 := blk_frozen BK154.out 1; have hfz17_2 := blk_frozen BK154.out 2; have hfz17_3 := blk_frozen BK154.out 3; have hfz17_4 := blk_frozen BK154.out 4))
     go_loopg [39] k (fun kq v39 w' => ∃ (x39_1 : Int) (x155001_1 : Int) (x155003_1 : Int) (x155004_1 : List (S42)), v39 = .int .i64 x39_1 ∧ Aside0 (redpenlaw20_Tidied.l0 kq (y163.length : Int) x39_1 (wrap64 (Int.tmod (IntKind.u64.wrap (a0_0)) 50)) x155001_1 (wrap64 (Int.tmod (IntKind.u64.wrap (a0_2)) 50)) x155003_1 x155004_1 = some (r1, r2, r3, r4, r5)) ∧ Aside0 (kq ≤ k) ∧ Aside0 (Kd.R k42 42 w' w.heap.size (fun _ => True) (.slice Ao16 y163.length co16) x155004_1) ∧ Aside0 (w'.heap[gb154]? = some (.cells #[.int .i64 (wrap64 (Int.tmod (IntKind.u64.wrap (a0_0)) 50)), .int .i64 x155001_1, .int .i64 (wrap64 (Int.tmod (IntKind.u64.wrap (a0_2)) 50)), .int .i64 x155003_1, (.slice Ao16 y163.length co16)] 26 (0, 0))) ∧ Aside0 (w'.heap[gb155]? = some (.cells #[.int .i64 0, .int .i64 0, .int .i64 0, .int .i64 0, (.slice none 0 0)] 26 (0, 0))) ∧ Aside0 (Below w.heap.size w w'))
     case atStart => exact ⟨(0), (0), (0), (y163), (by first | rfl | (simp; done) | (simp [*]; done)), H', ⟨Nat.le_refl _⟩, ⟨by (with_reducible repeat (first | apply Kd.R_alloc | apply Kd.R_drewN | apply Kd.R_drew)); exact Kd.R_mono (Kd.R_far (p := ⟨gb154, 2, none⟩) (Kd.R_far (p := ⟨gb154, 0, none⟩) (Kd.R_far (p := ⟨gb154, 3, none⟩) (Kd.R_far (p := ⟨gb154, 1, none⟩) (Kd.R_far (p := ⟨gb154, 4, none⟩) (Kd.R_types HO165.out BK154.out (by decide)) (fun _ hk => hk.2) (.slice Ao16 y163.length co16)) (fun _ hk => hk.2) (.int .i64 0)) (fun _ hk => hk.2) (.int .i64 0)) (fun _ hk => hk.2) (.int .i64 (wrap64 (Int.tmod (IntKind.u64.wrap (a0_0)) 50)))) (fun _ hk => hk.2) (.int .i64 (wrap64 (Int.tmod (IntKind.u64.wrap (a0_2)) 50)))) (fun _ hk => trivial)⟩, ⟨by (with_reducible repeat (first | refine blk_drewN ?_ _ | refine blk_drew ?_ | refine blk_alloc ?_ _)); refine blk_put (cs := #[.int .i64 (wrap64 (Int.tmod (IntKind.u64.wrap (a0_0)) 50)), .int .i64 0, .int .i64 a0_2, .int .i64 0, .slice Ao16 y163.length co16]) ?_ 2 _ rfl; (with_reducible repeat (first | refine blk_drewN ?_ _ | refine blk_drew ?_ | refine blk_alloc ?_ _)); refine blk_put (cs := #[.int .i64 a0_0, .int .i64 0, .int .i64 a0_2, .int .i64 0, .slice Ao16 y163.length co16]) ?_ 0 _ rfl; (with_reducible repeat (first | refine blk_drewN ?_ _ | refine blk_drew ?_ | refine blk_alloc ?_ _)); refine blk_put (cs := #[.int .i64 a0_0, .int .i64 0, .int .i64 a0_2, .int .i64 a0_3, .slice Ao16 y163.length co16]) ?_ 3 _ rfl; (with_reducible repeat (first | refine blk_drewN ?_ _ | refine blk_drew ?_ | refine blk_alloc ?_ _)); refine blk_put (cs := #[.int .i64 a0_0, .int .i64 a0_1, .int .i64 a0_2, .int .i64 a0_3, .slice Ao16 y163.length co16]) ?_ 1 _ rfl; (with_reducible repeat (first | refine blk_drewN ?_ _ | refine blk_drew ?_ | refine blk_alloc ?_ _)); refine blk_put (cs := #[.int .i64 a0_0, .int .i64 a0_1, .int .i64 a0_2, .int .i64 a0_3, .slice A0_4 l0_4.length c0_4]) ?_ 4 _ rfl; (with_reducible repeat (first | refine blk_drewN ?_ _ | refine blk_drew ?_ | refine blk_alloc ?_ _)); exact BK154.out⟩, ⟨by (with_reducible repeat (first | refine blk_drewN ?_ _ | refine blk_drew ?_ | refine blk_alloc ?_ _)); refine blk_far ?_ NB155_154.out _; (with_reducible repeat (first | refine blk_drewN ?_ _ | refine blk_drew ?_ | refine blk_alloc ?_ _)); refine blk_far ?_ NB155_154.out _; (with_reducible repeat (first | refine blk_drewN ?_ _ | refine blk_drew ?_ | refine blk_alloc ?_ _)); refine blk_far ?_ NB155_154.out _; (with_reducible repeat (first | refine blk_drewN ?_ _ | refine blk_drew ?_ | refine blk_alloc ?_ _)); refine blk_far ?_ NB155_154.out _; (with_reducible repeat (first | refine blk_drewN ?_ _ | refine blk_drew ?_ | refine blk_alloc ?_ _)); refine blk_far ?_ NB155_154.out _; (with_reducible repeat (first | refine blk_drewN ?_ _ | refine blk_drew ?_ | refine blk_alloc ?_ _)); exact BK155.out⟩, ⟨by repeat (first | (with_reducible first | exact HB.out | apply below_alloc | apply pw_below_drewN | apply below_drew1 | refine below_set ?_ GE154.out | refine below_set ?_ GE155.out) | exact HB.out)⟩⟩
     case round =>
      clear H'
      try clear c1
      try clear q1
      try clear p2
      try clear c4
      try clear c4b0
      try clear c4b1
      try clear c5
      try clear c5b0
      try clear c5b1
      try clear c6
      try clear p6
      try clear c7
      try clear c11
      try clear c12
      try clear q14
      try clear hcz13_0
      try clear hcz13_1
      try clear hcz13_2
      try clear hcz13_3
      try clear hcz13_4
      try clear hcz17_0
      try clear hcz17_1
      try clear hcz17_2
      try clear hcz17_3
      try clear hcz17_4
      try clear hfz13_0
      try clear hfz13_1
      try clear hfz13_2
      try clear hfz13_3
      try clear hfz13_4
      try clear hfz17_0
      try clear hfz17_1
      try clear hfz17_2
      try clear hfz17_3
      try clear hfz17_4
      try clear q14
      obtain ⟨x39_1, x155001_1, x155003_1, x155004_1, rfl, HA, HK1, HO_155004, BK154, BK155, HB⟩ := hrel
      have hl155004_1 := (Kd.R_reads' HO_155004.out).1
      rw [hl155004_1] at HO_155004
      (try simp only [hl155004_1])
      (try simp only [hl155004_1] at BK154)
      (try simp only [hl155004_1] at BK155)
      cases gk with
      | zero => exact absurd HA.out (by simp [redpenlaw20_Tidied.l0])
      | succ k1 =>
       have H := HA.out
       clear HA
       simp only [redpenlaw20_Tidied.l0] at H
       by_cases c18 : x39_1 < (y163.length : Int)
       ·rw [if_pos c18] at H
        have c18b0 : decide (x39_1 < (y163.length : Int)) = true := decide_eq_true c18
        clear c18
        try (have c18h0 := c18b0; simp only [hl155004_1] at c18h0)
        by_cases c19 : 0 ≤ x39_1
        ·rw [if_pos c19] at H
         have c19b0 : decide (0 ≤ x39_1) = true := decide_eq_true c19
         clear c19
         try (have c19h0 := c19b0; simp only [hl155004_1] at c19h0)
         by_cases c20 : x39_1 < (x155004_1.length : Int)
         ·rw [if_pos c20] at H
          have c20b0 : decide (x39_1 < (x155004_1.length : Int)) = true := decide_eq_true c20
          clear c20
          try (have c20h0 := c20b0; simp only [hl155004_1] at c20h0)
          obtain ⟨ji21, hji21⟩ : ∃ j_ : Int, (Int.tmod ((rd_T42 x155004_1 x39_1).f0) 3) = j_ := ⟨_, rfl⟩
          replace H : (if 0 ≤ (ji21) then (if (ji21) < 3 then ((some (x155004_1.set (x39_1 : Int).toNat (⟨bt (⟨#[32, 45, 43]⟩ : ByteArray) (ji21), (rd_T42 x155004_1 x39_1).f1, (rd_T42 x155004_1 x39_1).f2⟩ : S42) : List (S42))).bind fun y168 => (redpenlaw20_Tidied.l1 k1 x39_1 ([] : List Int) (y163.length : Int) x39_1 (mn (((rd_T42 y168 x39_1).f1).size : Int) 9) 0 (wrap64 (Int.tmod (IntKind.u64.wrap (a0_0)) 50)) x155001_1 (wrap64 (Int.tmod (IntKind.u64.wrap (a0_2)) 50)) x155003_1 y168)) else (none)) else (none)) = some (r1, r2, r3, r4, r5) := by first | (rw [hji21] at H; exact H) | (simp only [hji21] at H ⊢; exact H)
          by_cases c22 : 0 ≤ (ji21)
          ·rw [if_pos c22] at H
           have c22b0 : decide (0 ≤ (ji21)) = true := decide_eq_true c22
           clear c22
           try (have c22h0 := c22b0; simp only [hl155004_1] at c22h0)
           by_cases c23 : (ji21) < 3
           ·rw [if_pos c23] at H
            have c23b0 : decide ((ji21) < 3) = true := decide_eq_true c23
            clear c23
            try (have c23h0 := c23b0; simp only [hl155004_1] at c23h0)
            obtain ⟨y168, hy168⟩ : ∃ y_ : List (S42), y_ = (x155004_1.set (x39_1 : Int).toNat (⟨bt (⟨#[32, 45, 43]⟩ : ByteArray) (ji21), (rd_T42 x155004_1 x39_1).f1, (rd_T42 x155004_1 x39_1).f2⟩ : S42)) := ⟨_, rfl⟩
            replace H : (redpenlaw20_Tidied.l1 k1 x39_1 ([] : List Int) (y163.length : Int) x39_1 (mn (((rd_T42 y168 x39_1).f1).size : Int) 9) 0 (wrap64 (Int.tmod (IntKind.u64.wrap (a0_0)) 50)) x155001_1 (wrap64 (Int.tmod (IntKind.u64.wrap (a0_2)) 50)) x155003_1 y168) = some (r1, r2, r3, r4, r5) := by first | (rw [hy168]; with_reducible exact H) | (have H2_ := (Option.bind_some _ _).symm.trans H; rw [hy168]; with_reducible exact H2_) | (have H2_ := (Option.bind_some _ _).symm.trans H; with_reducible exact H2_) | with_reducible exact H | (rw [hy168]; exact H) | exact H
            have Ny168 := Aside0.mk hy168
            clear hy168
            obtain ⟨ji26, hji26⟩ : ∃ j_ : Int, (mn (((rd_T42 y168 x39_1).f1).size : Int) 9) = j_ := ⟨_, rfl⟩
            replace H : (redpenlaw20_Tidied.l1 k1 x39_1 ([] : List Int) (y163.length : Int) x39_1 ji26 0 (wrap64 (Int.tmod (IntKind.u64.wrap (a0_0)) 50)) x155001_1 (wrap64 (Int.tmod (IntKind.u64.wrap (a0_2)) 50)) x155003_1 y168) = some (r1, r2, r3, r4, r5) := by first | (rw [hji26] at H; exact H) | (simp only [hji26] at H ⊢; exact H)
            have hji26_ : (if 9 < (((rd_T42 y168 x39_1).f1).size : Int) then 9 else (((rd_T42 y168 x39_1).f1).size : Int)) = ji26 := hji26
            have H' := Aside0.mk H
            clear H
            have hnb27 := NB154_155.out
            have hnc27 := NB155_154.out
            have hcz28_0 : wr.cell? ⟨gb154, 0, none⟩ = some (.int .i64 (wrap64 (Int.tmod (IntKind.u64.wrap (a0_0)) 50))) := (blk_cell BK154.out 0).trans rfl
            have hcz28_1 : wr.cell? ⟨gb154, 1, none⟩ = some (.int .i64 x155001_1) := (blk_cell BK154.out 1).trans rfl
            have hcz28_2 : wr.cell? ⟨gb154, 2, none⟩ = some (.int .i64 (wrap64 (Int.tmod (IntKind.u64.wrap (a0_2)) 50))) := (blk_cell BK154.out 2).trans rfl
            have hcz28_3 : wr.cell? ⟨gb154, 3, none⟩ = some (.int .i64 x155003_1) := (blk_cell BK154.out 3).trans rfl
            have hcz28_4 : wr.cell? ⟨gb154, 4, none⟩ = some (.slice Ao16 x155004_1.length co16) := (blk_cell BK154.out 4).trans rfl
            have hfz28_0 := blk_frozen BK154.out 0
            have hfz28_1 := blk_frozen BK154.out 1
            have hfz28_2 := blk_frozen BK154.out 2
            have hfz28_3 := blk_frozen BK154.out 3
            have hfz28_4 := blk_frozen BK154.out 4
            have p166 : 0 ≤ (x39_1 : Int) := of_decide_eq_true (by first | (with_reducible assumption) | assumption)
            have q166 : x39_1 < (x155004_1.length : Int) := of_decide_eq_true (by first | (with_reducible assumption) | assumption)
            obtain ⟨ad166, e166, hx166_0, hx166_1, hx166_2⟩ := at_T42 (Kd.R_reads' HO_155004.out).2.2 x39_1 p166 q166
            cases e166
            replace p166 := eq_true p166
            replace q166 := eq_true q166
            have p167 : 0 ≤ (x39_1 : Int) := of_decide_eq_true (by first | (with_reducible assumption) | assumption)
            have q167 : x39_1 < (x155004_1.length : Int) := of_decide_eq_true (by first | (with_reducible assumption) | assumption)
            obtain ⟨ad167, e167, hx167_0, hx167_1, hx167_2⟩ := at_T42 (Kd.R_reads' HO_155004.out).2.2 x39_1 p167 q167
            obtain rfl : ad166 = ad167 := (by injection e167)
            replace p167 := eq_true p167
            replace q167 := eq_true q167
            have p24 : 0 ≤ ((ji21) : Int) := of_decide_eq_true (by first | (with_reducible assumption) | assumption)
            have q24 : (ji21) < (3 : Int) := of_decide_eq_true (by first | (with_reducible assumption) | assumption)
            have hx24 := bt_at (⟨#[32, 45, 43]⟩ : ByteArray) (ji21)
            replace p24 := eq_true p24
            replace q24 := eq_true q24
            have p25 : 0 ≤ (x39_1 : Int) := of_decide_eq_true (by first | (with_reducible assumption) | assumption)
            have q25 : (x39_1 : Int) < ((x155004_1.length : Int) : Int) := of_decide_eq_true (by first | (with_reducible assumption) | assumption)
            obtain ⟨go25, co25, eo25, gb25, gl25, cl25, HG25⟩ := Kd.R_form HO_155004.out (by omega)
            (first | cases eo25 | (injection eo25 with ea_ en_ ec_; (first | subst ea_ | (injection ea_ with ea_; subst ea_)); subst ec_; clear en_))
            have GB25 := Aside0.mk gb25
            have GG25 := Aside0.mk HG25
            clear gb25 gl25 HG25
            (first | simp only [add_plain] at hx166_0 | skip)
            (first | simp only [add_plain] at hx166_1 | skip)
            (first | simp only [add_plain] at hx166_2 | skip)
            (first | simp only [add_plain] at hx167_0 | skip)
            (first | simp only [add_plain] at hx167_1 | skip)
            (first | simp only [add_plain] at hx167_2 | skip)
            obtain ⟨ce25, hcl25, hM25, hcc25, hfr25⟩ := Kd.R_elem HO_155004.out z42 (x39_1 : Int) p25 q25
            obtain rfl := k42_openM hM25
            have hx25_0 : wr.cell? ⟨go25, (x39_1 : Int).toNat * 3, none⟩ = some (.int .u8 ((rd_T42 x155004_1 x39_1).f0)) := hcc25 0 _ rfl
            have hx25_1 : wr.cell? ⟨go25, (x39_1 : Int).toNat * 3 + 1, none⟩ = some (.string ((rd_T42 x155004_1 x39_1).f1)) := hcc25 1 _ rfl
            have hx25_2 : wr.cell? ⟨go25, (x39_1 : Int).toNat * 3 + 2, none⟩ = some (.bool ((rd_T42 x155004_1 x39_1).f2)) := hcc25 2 _ rfl
            have hf25_0 : wr.frozen? ⟨go25, (x39_1 : Int).toNat * 3, none⟩ = false := hfr25 0
            have hf25_1 : wr.frozen? ⟨go25, (x39_1 : Int).toNat * 3 + 1, none⟩ = false := hfr25 1
            have hf25_2 : wr.frozen? ⟨go25, (x39_1 : Int).toNat * 3 + 2, none⟩ = false := hfr25 2
            clear hcl25 hcc25 hfr25 hM25
            replace p25 := eq_true p25
            replace q25 := eq_true q25
            have HX29 := Aside0.mk (show Kd.R k42 42 wr w.heap.size (fun _ => True) (.slice (some ⟨go25, 0, none⟩) x155004_1.length co16) x155004_1 from (by (with_reducible repeat (first | apply Kd.R_alloc | apply Kd.R_drewN | apply Kd.R_drew)); exact HO_155004.out))
            obtain ⟨ce29, hcl29, hM29, hcc29, hfr29⟩ := Kd.R_elem HX29.out z42 (x39_1 : Int) (of_decide_eq_true (by first | (with_reducible assumption) | assumption)) (by have h_ : (x39_1 : Int) < ((x155004_1.length : Int) : Int) := of_decide_eq_true (by first | (with_reducible assumption) | assumption); first | exact h_ | (have e_ := (Kd.R_reads' HO_155004.out).1; omega) | simpa using h_)
            obtain rfl := k42_openM hM29
            have HP29 := Kd.R_seg HX29.out (x39_1 : Int) (of_decide_eq_true (by first | (with_reducible assumption) | assumption)) (by have h_ : (x39_1 : Int) < ((x155004_1.length : Int) : Int) := of_decide_eq_true (by first | (with_reducible assumption) | assumption); first | exact h_ | (have e_ := (Kd.R_reads' HO_155004.out).1; omega) | simpa using h_) (seg := [.int .u8 (bt (⟨#[32, 45, 43]⟩ : ByteArray) (ji21))]) (j := 0) hcl29 hcc29 (show 1 ≤ 3 from by decide) (x' := (⟨bt (⟨#[32, 45, 43]⟩ : ByteArray) (ji21), (rd_T42 x155004_1 x39_1).f1, (rd_T42 x155004_1 x39_1).f2⟩ : S42)) (k42_mkM _ _ _ (⟨bt (⟨#[32, 45, 43]⟩ : ByteArray) (ji21), (rd_T42 x155004_1 x39_1).f1, (rd_T42 x155004_1 x39_1).f2⟩ : S42) ) (fun _ hk => hk)
            have hx29_0 := hcc29 0 _ rfl
            (try simp only [show (k42).sz = 3 from rfl, Nat.mul_one, Nat.add_zero] at hx29_0)
            have hf29_0 := hfr29 0
            (try simp only [show (k42).sz = 3 from rfl, Nat.mul_one, Nat.add_zero] at hf29_0)
            clear hcl29 hcc29 hfr29 hM29
            go_wp2_with (first | ((with_reducible refine gate_store (t := 5) (p := 54) rfl ?_); refine store_event (t := 5) (p := 54) (v := ?vo_w30) (w1 := (wr.setCell ⟨go25, (x39_1 : Int).toNat * 3, none⟩ (.int .u8 (bt (⟨#[32, 45, 43]⟩ : ByteArray) (ji21))))) ?hg ?ho ?hn ?hr ?_; (case ho => rfl); (case hg => rfl); (case hn => rfl); (case hr => first | (go_simp; done) | (go_simp; rfl)); intro w30 hw; have hg : wr.grownBy w30 (some go25) := (by rw [hw]; exact HP29.2); have hp_ : Kd.R k42 42 w30 w.heap.size (fun _ => True) (.slice (some ⟨go25, 0, none⟩) x155004_1.length co16) y168 := (by rw [hw, Ny168.out]; exact HP29.1); clear HP29; have n0_ := Aside0.mk (hp_); have n1_ := Aside0.mk (blk_grown (g := gb154) (o := .cells #[.int .i64 (wrap64 (Int.tmod (IntKind.u64.wrap (a0_0)) 50)), .int .i64 x155001_1, .int .i64 (wrap64 (Int.tmod (IntKind.u64.wrap (a0_2)) 50)), .int .i64 x155003_1, .slice (some ⟨go25, 0, none⟩) x155004_1.length co16] 26 (0, 0)) (by (with_reducible repeat (first | refine blk_drewN ?_ _ | refine blk_drew ?_ | refine blk_alloc ?_ _)); exact BK154.out) hg (Kd.R_ne HO_155004.out BK154.out (by decide))); have n2_ := Aside0.mk (blk_grown (g := gb155) (o := .cells #[.int .i64 0, .int .i64 0, .int .i64 0, .int .i64 0, .slice none 0 0] 26 (0, 0)) (by (with_reducible repeat (first | refine blk_drewN ?_ _ | refine blk_drew ?_ | refine blk_alloc ?_ _)); exact BK155.out) hg (Kd.R_ne HO_155004.out BK155.out (by decide))); have n3_ := Aside0.mk ((by rw [hw]; exact below_set (HB.out) GB25.out : Below w.heap.size w w30)); clear HO_155004; clear BK154; clear BK155; clear HB; have HO_155004 := n0_; have BK154 := n1_; have BK155 := n2_; have HB := n3_; clear n0_ n1_ n2_ n3_; clear hg hw hp_; have p169 : 0 ≤ (x39_1 : Int) := of_decide_eq_true (by first | (with_reducible assumption) | assumption); have q169 : x39_1 < (y168.length : Int) := (by have h_ : (x39_1 : Int) < ((x155004_1.length : Int) : Int) := of_decide_eq_true (by first | (with_reducible assumption) | assumption); first | (have e_ := (Kd.R_reads' HO_155004.out).1; omega) | simpa only [Ny168.out, List.length_set] using h_); have ql169 : ((x39_1 : Int) < ((x155004_1.length : Int) : Int)) = True := eq_true (of_decide_eq_true (by first | (with_reducible assumption) | assumption)); obtain ⟨ad169, e169, hx169_0, hx169_1, hx169_2⟩ := at_T42 (Kd.R_reads' HO_155004.out).2.2 x39_1 p169 q169; obtain rfl : (⟨go25, 0, none⟩ : Addr) = ad169 := (by injection e169); (first | simp only [add_plain] at hx169_0 | simp only [add_at] at hx169_0 | simp only [Addr.add, Nat.zero_add] at hx169_0 | skip); (first | simp only [add_plain] at hx169_1 | simp only [add_at] at hx169_1 | simp only [Addr.add, Nat.zero_add] at hx169_1 | skip); (first | simp only [add_plain] at hx169_2 | simp only [add_at] at hx169_2 | simp only [Addr.add, Nat.zero_add] at hx169_2 | skip); replace p169 := eq_true p169; replace q169 := eq_true q169))
            go_loopg [7, 61] k1 (fun kq v7 v61 w' => ∃ (x7_2 : List Int) (x61_2 : Int), v61 = .int .i64 x61_2 ∧ Aside0 (redpenlaw20_Tidied.l1 kq x39_1 x7_2 (y163.length : Int) x39_1 ji26 x61_2 (wrap64 (Int.tmod (IntKind.u64.wrap (a0_0)) 50)) x155001_1 (wrap64 (Int.tmod (IntKind.u64.wrap (a0_2)) 50)) x155003_1 y168 = some (r1, r2, r3, r4, r5)) ∧ Aside0 (kq ≤ k1) ∧ Aside0 (Kd.R (Kd.int .u8) 5 w' w.heap.size (fun _ => True) v7 x7_2) ∧ Aside0 (Kd.R k42 42 w' w.heap.size (fun _ => True) (.slice (some ⟨go25, 0, none⟩) x155004_1.length co16) y168) ∧ Aside0 (w'.heap[gb154]? = some (.cells #[.int .i64 (wrap64 (Int.tmod (IntKind.u64.wrap (a0_0)) 50)), .int .i64 x155001_1, .int .i64 (wrap64 (Int.tmod (IntKind.u64.wrap (a0_2)) 50)), .int .i64 x155003_1, (.slice (some ⟨go25, 0, none⟩) x155004_1.length co16)] 26 (0, 0))) ∧ Aside0 (w'.heap[gb155]? = some (.cells #[.int .i64 0, .int .i64 0, .int .i64 0, .int .i64 0, (.slice none 0 0)] 26 (0, 0))) ∧ Aside0 (Below w.heap.size w w'))
            case atStart => exact ⟨(([] : List Int)), (0), (by first | rfl | (simp; done) | (simp [*]; done)), H', ⟨Nat.le_refl _⟩, ⟨by (try simp only [hl155004_1]); first | exact Kd.R_nil _ _ _ _ _ | exact Kd.N_nil _ _ _ _ _ | exact Kd.V_nil _ _ _ _ _ | exact Kd.Q_nil _ _ _ _ _ | exact Kd.S_nil _ _ _ _ _⟩, ⟨by (try simp only [hl155004_1]); (with_reducible repeat (first | apply Kd.R_alloc | apply Kd.R_drewN | apply Kd.R_drew)); exact HO_155004.out⟩, ⟨by (try simp only [hl155004_1]); (with_reducible repeat (first | refine blk_drewN ?_ _ | refine blk_drew ?_ | refine blk_alloc ?_ _)); exact BK154.out⟩, ⟨by (try simp only [hl155004_1]); (with_reducible repeat (first | refine blk_drewN ?_ _ | refine blk_drew ?_ | refine blk_alloc ?_ _)); exact BK155.out⟩, ⟨by repeat (first | (with_reducible first | exact HB.out | apply below_alloc | apply pw_below_drewN | apply below_drew1 | refine below_set ?_ GE154.out | refine below_set ?_ GE155.out) | exact HB.out)⟩⟩
            case round =>
             clear H'
             try clear c1
             try clear p1
             try clear q1
             try clear hx1
             try clear c2
             try clear p2
             try clear q2
             try clear hx2
             try clear hf2
             try clear c4
             try clear c4b0
             try clear c4b1
             try clear c5
             try clear c5b0
             try clear c5b1
             try clear c6
             try clear p6
             try clear c7
             try clear c11
             try clear c12
             try clear q14
             try clear p16
             try clear q16
             try clear hx16
             try clear c18
             try clear c18b0
             try clear c19
             try clear c19b0
             try clear c20
             try clear c20b0
             try clear c22
             try clear c22b0
             try clear c23
             try clear c23b0
             try clear p24
             try clear q24
             try clear hx24
             try clear c25
             try clear p25
             try clear q25
             try clear hx25
             try clear hf25
             try clear c27
             try clear c29
             try clear hx29
             try clear hf29
             try clear hcz13_0
             try clear hcz13_1
             try clear hcz13_2
             try clear hcz13_3
             try clear hcz13_4
             try clear hcz17_0
             try clear hcz17_1
             try clear hcz17_2
             try clear hcz17_3
             try clear hcz17_4
             try clear hcz28_0
             try clear hcz28_1
             try clear hcz28_2
             try clear hcz28_3
             try clear hcz28_4
             try clear hfz13_0
             try clear hfz13_1
             try clear hfz13_2
             try clear hfz13_3
             try clear hfz13_4
             try clear hfz17_0
             try clear hfz17_1
             try clear hfz17_2
             try clear hfz17_3
             try clear hfz17_4
             try clear hfz28_0
             try clear hfz28_1
             try clear hfz28_2
             try clear hfz28_3
             try clear hfz28_4
             try clear hx166_0
             try clear hx166_1
             try clear hx166_2
             try clear hx167_0
             try clear hx167_1
             try clear hx167_2
             try clear hx169_0
             try clear hx169_1
             try clear hx169_2
             try clear hx25_0
             try clear hx25_1
             try clear hx25_2
             try clear hx29_0
             try clear p166
             try clear p167
             try clear p169
             try clear p2
             try clear p24
             try clear p25
             try clear p6
             try clear q1
             try clear q14
             try clear q166
             try clear q167
             try clear q169
             try clear q24
             try clear q25
             obtain ⟨x7_2, x61_2, rfl, HA, HK2, HO_7, HO_155004, BK154, BK155, HB⟩ := hrel
             have hl155004_2 := (Kd.R_reads' HO_155004.out).1
             rw [hl155004_2] at HO_155004
             (try simp only [hl155004_2])
             (try simp only [hl155004_2] at BK154)
             (try simp only [hl155004_2] at BK155)
             (try simp only [hl155004_2] at HO_7)
             cases gk with
             | zero => exact absurd HA.out (by simp [redpenlaw20_Tidied.l1])
             | succ k2 =>
              have H := HA.out
              clear HA
              simp only [redpenlaw20_Tidied.l1] at H
              by_cases c31 : x61_2 < ji26
              ·rw [if_pos c31] at H
               have c31b0 : decide (x61_2 < ji26) = true := decide_eq_true c31
               clear c31
               try (have c31h0 := c31b0; simp only [hl155004_1, hl155004_2] at c31h0)
               by_cases c32 : 0 ≤ x39_1
               ·rw [if_pos c32] at H
                have c32b0 : decide (0 ≤ x39_1) = true := decide_eq_true c32
                clear c32
                try (have c32h0 := c32b0; simp only [hl155004_1, hl155004_2] at c32h0)
                by_cases c33 : x39_1 < (y168.length : Int)
                ·rw [if_pos c33] at H
                 have c33b0 : decide (x39_1 < (y168.length : Int)) = true := decide_eq_true c33
                 clear c33
                 try (have c33h0 := c33b0; simp only [hl155004_1, hl155004_2] at c33h0)
                 by_cases c34 : 0 ≤ x61_2
                 ·rw [if_pos c34] at H
                  have c34b0 : decide (0 ≤ x61_2) = true := decide_eq_true c34
                  clear c34
                  try (have c34h0 := c34b0; simp only [hl155004_1, hl155004_2] at c34h0)
                  by_cases c35 : x61_2 < (((rd_T42 y168 x39_1).f1).size : Int)
                  ·rw [if_pos c35] at H
                   have c35b0 : decide (x61_2 < (((rd_T42 y168 x39_1).f1).size : Int)) = true := decide_eq_true c35
                   clear c35
                   try (have c35h0 := c35b0; simp only [hl155004_1, hl155004_2] at c35h0)
                   by_cases c37 : (bt ((rd_T42 y168 x39_1).f1) x61_2) = 10
                   ·rw [if_pos c37] at H
                    have c37b0 : ((bt ((rd_T42 y168 x39_1).f1) x61_2) == 10) = true := beq_iff_eq.mpr c37
                    have c37b1 : ((bt ((rd_T42 y168 x39_1).f1) x61_2) != 10) = false := bne_eq_false_iff_eq.mpr c37
                    clear c37
                    try (have c37h0 := c37b0; simp only [hl155004_1, hl155004_2] at c37h0)
                    try (have c37h1 := c37b1; simp only [hl155004_1, hl155004_2] at c37h1)
                    have H' := Aside0.mk H
                    clear H
                    have p170 : 0 ≤ (x39_1 : Int) := of_decide_eq_true (by first | (with_reducible assumption) | assumption)
                    have q170 : x39_1 < (y168.length : Int) := of_decide_eq_true (by first | (with_reducible assumption) | assumption)
                    obtain ⟨ad170, e170, hx170_0, hx170_1, hx170_2⟩ := at_T42 (Kd.R_reads' HO_155004.out).2.2 x39_1 p170 q170
                    obtain rfl : (⟨go25, 0, none⟩ : Addr) = ad170 := (by injection e170)
                    (first | simp only [add_plain] at hx170_0 | simp only [add_at] at hx170_0 | simp only [Addr.add, Nat.zero_add] at hx170_0 | skip)
                    (first | simp only [add_plain] at hx170_1 | simp only [add_at] at hx170_1 | simp only [Addr.add, Nat.zero_add] at hx170_1 | skip)
                    (first | simp only [add_plain] at hx170_2 | simp only [add_at] at hx170_2 | simp only [Addr.add, Nat.zero_add] at hx170_2 | skip)
                    replace p170 := eq_true p170
                    replace q170 := eq_true q170
                    have p36 : 0 ≤ (x61_2 : Int) := of_decide_eq_true (by first | (with_reducible assumption) | assumption)
                    have q36 : x61_2 < (((rd_T42 y168 x39_1).f1).size : Int) := of_decide_eq_true (by first | (with_reducible assumption) | assumption)
                    have hx36 := bt_at ((rd_T42 y168 x39_1).f1) x61_2
                    replace p36 := eq_true p36
                    replace q36 := eq_true q36
                    go_wp2
                    (try simp only [← hl155004_2])
                    go_roundg k2
                    case measure => have := HK1.out; have := HK2.out; omega
                    case rel => exact ⟨(x7_2), (wrap64 (x61_2 + 1)), (by first | rfl | (simp; done) | (simp [*]; done)), H', ⟨by have := HK1.out; have := HK2.out; omega⟩, ⟨by (try simp only [hl155004_1]); (try simp only [hl155004_2]); (with_reducible repeat (first | apply Kd.R_alloc | apply Kd.R_drewN | apply Kd.R_drew)); exact HO_7.out⟩, ⟨by (try simp only [hl155004_1]); (try simp only [hl155004_2]); (with_reducible repeat (first | apply Kd.R_alloc | apply Kd.R_drewN | apply Kd.R_drew)); exact HO_155004.out⟩, ⟨by (try simp only [hl155004_1]); (try simp only [hl155004_2]); (with_reducible repeat (first | refine blk_drewN ?_ _ | refine blk_drew ?_ | refine blk_alloc ?_ _)); exact BK154.out⟩, ⟨by (try simp only [hl155004_1]); (try simp only [hl155004_2]); (with_reducible repeat (first | refine blk_drewN ?_ _ | refine blk_drew ?_ | refine blk_alloc ?_ _)); exact BK155.out⟩, ⟨by repeat (first | (with_reducible first | exact HB.out | apply below_alloc | apply pw_below_drewN | apply below_drew1 | refine below_set ?_ GE154.out | refine below_set ?_ GE155.out) | exact HB.out)⟩⟩
                   ·rw [if_neg c37] at H
                    have c37b0 : ((bt ((rd_T42 y168 x39_1).f1) x61_2) == 10) = false := beq_eq_false_iff_ne.mpr c37
                    have c37b1 : ((bt ((rd_T42 y168 x39_1).f1) x61_2) != 10) = true := bne_iff_ne.mpr c37
                    try (have c37h0 := c37b0; simp only [hl155004_1, hl155004_2] at c37h0)
                    try (have c37h1 := c37b1; simp only [hl155004_1, hl155004_2] at c37h1)
                    by_cases c39 : x7_2.length < 140737488355328
                    ·rw [if_pos c39] at H
                     have LMc39 := Aside0.mk c39
                     clear c39
                     obtain ⟨y172, hy172⟩ : ∃ y_ : List Int, y_ = (x7_2 ++ [bt ((rd_T42 y168 x39_1).f1) x61_2]) := ⟨_, rfl⟩
                     replace H : (redpenlaw20_Tidied.l1 k2 x39_1 y172 (y163.length : Int) x39_1 ji26 (wrap64 (x61_2 + 1)) (wrap64 (Int.tmod (IntKind.u64.wrap (a0_0)) 50)) x155001_1 (wrap64 (Int.tmod (IntKind.u64.wrap (a0_2)) 50)) x155003_1 y168) = some (r1, r2, r3, r4, r5) := by first | (rw [hy172]; with_reducible exact H) | (have H2_ := (Option.bind_some _ _).symm.trans H; rw [hy172]; with_reducible exact H2_) | (have H2_ := (Option.bind_some _ _).symm.trans H; with_reducible exact H2_) | with_reducible exact H | (rw [hy172]; exact H) | exact H
                     have Ny172 := Aside0.mk hy172
                     clear hy172
                     have H' := Aside0.mk H
                     clear H
                     have p170 : 0 ≤ (x39_1 : Int) := of_decide_eq_true (by first | (with_reducible assumption) | assumption)
                     have q170 : x39_1 < (y168.length : Int) := of_decide_eq_true (by first | (with_reducible assumption) | assumption)
                     obtain ⟨ad170, e170, hx170_0, hx170_1, hx170_2⟩ := at_T42 (Kd.R_reads' HO_155004.out).2.2 x39_1 p170 q170
                     obtain rfl : (⟨go25, 0, none⟩ : Addr) = ad170 := (by injection e170)
                     (first | simp only [add_plain] at hx170_0 | simp only [add_at] at hx170_0 | simp only [Addr.add, Nat.zero_add] at hx170_0 | skip)
                     (first | simp only [add_plain] at hx170_1 | simp only [add_at] at hx170_1 | simp only [Addr.add, Nat.zero_add] at hx170_1 | skip)
                     (first | simp only [add_plain] at hx170_2 | simp only [add_at] at hx170_2 | simp only [Addr.add, Nat.zero_add] at hx170_2 | skip)
                     replace p170 := eq_true p170
                     replace q170 := eq_true q170
                     have p36 : 0 ≤ (x61_2 : Int) := of_decide_eq_true (by first | (with_reducible assumption) | assumption)
                     have q36 : x61_2 < (((rd_T42 y168 x39_1).f1).size : Int) := of_decide_eq_true (by first | (with_reducible assumption) | assumption)
                     have hx36 := bt_at ((rd_T42 y168 x39_1).f1) x61_2
                     replace p36 := eq_true p36
                     replace q36 := eq_true q36
                     have p171 : 0 ≤ (x39_1 : Int) := of_decide_eq_true (by first | (with_reducible assumption) | assumption)
                     have q171 : x39_1 < (y168.length : Int) := of_decide_eq_true (by first | (with_reducible assumption) | assumption)
                     obtain ⟨ad171, e171, hx171_0, hx171_1, hx171_2⟩ := at_T42 (Kd.R_reads' HO_155004.out).2.2 x39_1 p171 q171
                     obtain rfl : (⟨go25, 0, none⟩ : Addr) = ad171 := (by injection e171)
                     (first | simp only [add_plain] at hx171_0 | simp only [add_at] at hx171_0 | simp only [Addr.add, Nat.zero_add] at hx171_0 | skip)
                     (first | simp only [add_plain] at hx171_1 | simp only [add_at] at hx171_1 | simp only [Addr.add, Nat.zero_add] at hx171_1 | skip)
                     (first | simp only [add_plain] at hx171_2 | simp only [add_at] at hx171_2 | simp only [Addr.add, Nat.zero_add] at hx171_2 | skip)
                     replace p171 := eq_true p171
                     replace q171 := eq_true q171
                     have p38 : 0 ≤ (x61_2 : Int) := of_decide_eq_true (by first | (with_reducible assumption) | assumption)
                     have q38 : x61_2 < (((rd_T42 y168 x39_1).f1).size : Int) := of_decide_eq_true (by first | (with_reducible assumption) | assumption)
                     have hx38 := bt_at ((rd_T42 y168 x39_1).f1) x61_2
                     replace p38 := eq_true p38
                     replace q38 := eq_true q38
                     go_wp2_with (first | ((with_reducible refine gate_builtin (b := .append) (xs := #[.tmp 71, .tmp 78]) rfl ?_); (try (refine gate_guard (by rfl) ?_; dsimp only)); at_builtin; refine Kd.R_append (Kd.int .u8) (w0 := w) w.heap.size rfl (.tmp 71) (.tmp 78) 34 5 (.int .u8 0) 1 rfl Tryd.underlying34 info5 rfl (by decide) (by omega) u7 x7_2 (bt ((rd_T42 y168 x39_1).f1) x61_2) [.int .u8 (bt ((rd_T42 y168 x39_1).f1) x61_2)] (fun _ => True) (fun _ => False) rfl rfl ?aP (fun _ hk => hk.elim) ?aF ?aO ?aB ?aS ?aL ?_; (case aP => exact rfl); (case aB => exact (by repeat (first | (with_reducible first | exact HB.out | apply below_alloc | apply pw_below_drewN | apply below_drew1 | refine below_set ?_ GE154.out | refine below_set ?_ GE155.out) | exact HB.out))); (case aF => exact (fun _ _ => trivial)); (case aO => exact (by (with_reducible repeat (first | apply Kd.R_alloc | apply Kd.R_drewN | apply Kd.R_drew)); exact HO_7.out)); (case aS => exact (below_size (by repeat (first | (with_reducible first | exact HB.out | apply below_alloc | apply pw_below_drewN | apply below_drew1 | refine below_set ?_ GE154.out | refine below_set ?_ GE155.out) | exact HB.out)))); (case aL => have := LMc39.out; omega); intro v173 w40 ho hb hg hat; rw [← Ny172.out] at ho; have n0_ := Aside0.mk (Kd.R_over' (by (with_reducible repeat (first | apply Kd.R_alloc | apply Kd.R_drewN | apply Kd.R_drew)); exact HO_155004.out) (Kd.R_typed (by (with_reducible repeat (first | apply Kd.R_alloc | apply Kd.R_drewN | apply Kd.R_drew)); exact HO_7.out)) (by decide) hg); have n1_ := Aside0.mk (blk_grown (g := gb154) (o := .cells #[.int .i64 (wrap64 (Int.tmod (IntKind.u64.wrap (a0_0)) 50)), .int .i64 x155001_1, .int .i64 (wrap64 (Int.tmod (IntKind.u64.wrap (a0_2)) 50)), .int .i64 x155003_1, .slice (some ⟨go25, 0, none⟩) y168.length co16] 26 (0, 0)) (by (with_reducible repeat (first | refine blk_drewN ?_ _ | refine blk_drew ?_ | refine blk_alloc ?_ _)); exact BK154.out) hg (Kd.R_ne HO_7.out BK154.out (by decide))); have n2_ := Aside0.mk (blk_grown (g := gb155) (o := .cells #[.int .i64 0, .int .i64 0, .int .i64 0, .int .i64 0, .slice none 0 0] 26 (0, 0)) (by (with_reducible repeat (first | refine blk_drewN ?_ _ | refine blk_drew ?_ | refine blk_alloc ?_ _)); exact BK155.out) hg (Kd.R_ne HO_7.out BK155.out (by decide))); have n3_ := Aside0.mk (hb); have n4_ := Aside0.mk (ho); clear HO_155004; clear BK154; clear BK155; clear HB; clear HO_7; have HO_155004 := n0_; have BK154 := n1_; have BK155 := n2_; have HB := n3_; have HO174 := n4_; clear n0_ n1_ n2_ n3_ n4_; clear ho hb hg hat))
                     (try simp only [← hl155004_2])
                     go_roundg k2
                     case measure => have := HK1.out; have := HK2.out; omega
                     case rel => exact ⟨(y172), (wrap64 (x61_2 + 1)), (by first | rfl | (simp; done) | (simp [*]; done)), H', ⟨by have := HK1.out; have := HK2.out; omega⟩, ⟨by (try simp only [hl155004_1]); (try simp only [hl155004_2]); (with_reducible repeat (first | apply Kd.R_alloc | apply Kd.R_drewN | apply Kd.R_drew)); exact HO174.out⟩, ⟨by (try simp only [hl155004_1]); (try simp only [hl155004_2]); (with_reducible repeat (first | apply Kd.R_alloc | apply Kd.R_drewN | apply Kd.R_drew)); exact HO_155004.out⟩, ⟨by (try simp only [hl155004_1]); (try simp only [hl155004_2]); (with_reducible repeat (first | refine blk_drewN ?_ _ | refine blk_drew ?_ | refine blk_alloc ?_ _)); exact BK154.out⟩, ⟨by (try simp only [hl155004_1]); (try simp only [hl155004_2]); (with_reducible repeat (first | refine blk_drewN ?_ _ | refine blk_drew ?_ | refine blk_alloc ?_ _)); exact BK155.out⟩, ⟨by repeat (first | (with_reducible first | exact HB.out | apply below_alloc | apply pw_below_drewN | apply below_drew1 | refine below_set ?_ GE154.out | refine below_set ?_ GE155.out) | exact HB.out)⟩⟩
                    ·rw [if_neg c39] at H
                     exact absurd H (by simp)
                  ·rw [if_neg c35] at H
                   exact absurd H (by simp)
                 ·rw [if_neg c34] at H
                  exact absurd H (by simp)
                ·rw [if_neg c33] at H
                 exact absurd H (by simp)
               ·rw [if_neg c32] at H
                exact absurd H (by simp)
              ·rw [if_neg c31] at H
               have c31b0 : decide (x61_2 < ji26) = false := decide_eq_false c31
               clear c31
               try (have c31h0 := c31b0; simp only [hl155004_1, hl155004_2] at c31h0)
               by_cases c41 : 0 ≤ x39_1
               ·rw [if_pos c41] at H
                have c41b0 : decide (0 ≤ x39_1) = true := decide_eq_true c41
                clear c41
                try (have c41h0 := c41b0; simp only [hl155004_1, hl155004_2] at c41h0)
                by_cases c42 : x39_1 < (y168.length : Int)
                ·rw [if_pos c42] at H
                 have c42b0 : decide (x39_1 < (y168.length : Int)) = true := decide_eq_true c42
                 clear c42
                 try (have c42h0 := c42b0; simp only [hl155004_1, hl155004_2] at c42h0)
                 obtain ⟨y175, hy175⟩ : ∃ y_ : List (S42), y_ = (y168.set (x39_1 : Int).toNat (⟨(rd_T42 y168 x39_1).f0, strOfNums x7_2, (rd_T42 y168 x39_1).f2⟩ : S42)) := ⟨_, rfl⟩
                 replace H : (if (rd_T42 y175 x39_1).f2 = true then (redpenlaw20_Tidied.j2 k2 x39_1 (y163.length : Int) x39_1 (wrap64 (Int.tmod (IntKind.u64.wrap (a0_0)) 50)) x155001_1 (wrap64 (Int.tmod (IntKind.u64.wrap (a0_2)) 50)) x155003_1 (y175.set (x39_1 : Int).toNat (⟨(rd_T42 y175 x39_1).f0, (rd_T42 y175 x39_1).f1, decide ((wrap64 (x39_1 + 2)) ≥ (y168.length : Int))⟩ : S42))) else (redpenlaw20_Tidied.j2 k2 x39_1 (y163.length : Int) x39_1 (wrap64 (Int.tmod (IntKind.u64.wrap (a0_0)) 50)) x155001_1 (wrap64 (Int.tmod (IntKind.u64.wrap (a0_2)) 50)) x155003_1 (y175.set (x39_1 : Int).toNat (⟨(rd_T42 y175 x39_1).f0, (rd_T42 y175 x39_1).f1, false⟩ : S42)))) = some (r1, r2, r3, r4, r5) := by first | (rw [hy175]; with_reducible exact H) | (have H2_ := (Option.bind_some _ _).symm.trans H; rw [hy175]; with_reducible exact H2_) | (have H2_ := (Option.bind_some _ _).symm.trans H; with_reducible exact H2_) | with_reducible exact H | (rw [hy175]; exact H) | exact H
                 have Ny175 := Aside0.mk hy175
                 clear hy175
                 have HC44 := Aside0.mk H
                 clear H
                 have hcv45 := own_string (P := Tryd.prog) Tryd.underlying34 Tryd.underlying5 Tryd.underlying9 (Kd.own_of_R HO_7.out)
                 have p43 : 0 ≤ (x39_1 : Int) := of_decide_eq_true (by first | (with_reducible assumption) | assumption)
                 have q43 : (x39_1 : Int) < ((y168.length : Int) : Int) := of_decide_eq_true (by first | (with_reducible assumption) | assumption)
                 obtain ⟨ce43, hcl43, hM43, hcc43, hfr43⟩ := Kd.R_elem HO_155004.out z42 (x39_1 : Int) p43 q43
                 obtain rfl := k42_openM hM43
                 have hx43_0 : wr.cell? ⟨go25, (x39_1 : Int).toNat * 3, none⟩ = some (.int .u8 ((rd_T42 y168 x39_1).f0)) := hcc43 0 _ rfl
                 have hx43_1 : wr.cell? ⟨go25, (x39_1 : Int).toNat * 3 + 1, none⟩ = some (.string ((rd_T42 y168 x39_1).f1)) := hcc43 1 _ rfl
                 have hx43_2 : wr.cell? ⟨go25, (x39_1 : Int).toNat * 3 + 2, none⟩ = some (.bool ((rd_T42 y168 x39_1).f2)) := hcc43 2 _ rfl
                 have hf43_0 : wr.frozen? ⟨go25, (x39_1 : Int).toNat * 3, none⟩ = false := hfr43 0
                 have hf43_1 : wr.frozen? ⟨go25, (x39_1 : Int).toNat * 3 + 1, none⟩ = false := hfr43 1
                 have hf43_2 : wr.frozen? ⟨go25, (x39_1 : Int).toNat * 3 + 2, none⟩ = false := hfr43 2
                 clear hcl43 hcc43 hfr43 hM43
                 replace p43 := eq_true p43
                 replace q43 := eq_true q43
                 have HX46 := Aside0.mk (show Kd.R k42 42 wr w.heap.size (fun _ => True) (.slice (some ⟨go25, 0, none⟩) y168.length co16) y168 from (by (with_reducible repeat (first | apply Kd.R_alloc | apply Kd.R_drewN | apply Kd.R_drew)); exact HO_155004.out))
                 obtain ⟨ce46, hcl46, hM46, hcc46, hfr46⟩ := Kd.R_elem HX46.out z42 (x39_1 : Int) (of_decide_eq_true (by first | (with_reducible assumption) | assumption)) (by have h_ : (x39_1 : Int) < ((y168.length : Int) : Int) := of_decide_eq_true (by first | (with_reducible assumption) | assumption); first | exact h_ | (have e_ := (Kd.R_reads' HO_155004.out).1; omega) | simpa using h_)
                 obtain rfl := k42_openM hM46
                 have HP46 := Kd.R_seg HX46.out (x39_1 : Int) (of_decide_eq_true (by first | (with_reducible assumption) | assumption)) (by have h_ : (x39_1 : Int) < ((y168.length : Int) : Int) := of_decide_eq_true (by first | (with_reducible assumption) | assumption); first | exact h_ | (have e_ := (Kd.R_reads' HO_155004.out).1; omega) | simpa using h_) (seg := [.string (strOfNums x7_2)]) (j := 1) hcl46 hcc46 (show 2 ≤ 3 from by decide) (x' := (⟨(rd_T42 y168 x39_1).f0, strOfNums x7_2, (rd_T42 y168 x39_1).f2⟩ : S42)) (k42_mkM _ _ _ (⟨(rd_T42 y168 x39_1).f0, strOfNums x7_2, (rd_T42 y168 x39_1).f2⟩ : S42) ) (fun _ hk => hk)
                 have hx46_1 := hcc46 1 _ rfl
                 (try simp only [show (k42).sz = 3 from rfl, Nat.mul_one, Nat.add_zero] at hx46_1)
                 have hf46_1 := hfr46 1
                 (try simp only [show (k42).sz = 3 from rfl, Nat.mul_one, Nat.add_zero] at hf46_1)
                 clear hcl46 hcc46 hfr46 hM46
                 go_upto_region 19 with (first | ((with_reducible refine gate_store (t := 9) (p := 85) rfl ?_); refine store_event (t := 9) (p := 85) (v := ?vo_w47) (w1 := (wr.setCell ⟨go25, (x39_1 : Int).toNat * 3 + 1, none⟩ (.string (strOfNums x7_2)))) ?hg ?ho ?hn ?hr ?_; (case ho => rfl); (case hg => rfl); (case hn => rfl); (case hr => first | (go_simp; done) | (go_simp; rfl)); intro w47 hw; have hg : wr.grownBy w47 (some go25) := (by rw [hw]; exact HP46.2); have hp_ : Kd.R k42 42 w47 w.heap.size (fun _ => True) (.slice (some ⟨go25, 0, none⟩) y168.length co16) y175 := (by rw [hw, Ny175.out]; exact HP46.1); clear HP46; have n0_ := Aside0.mk (Kd.R_over' (v := (.slice (some ⟨go25, 0, none⟩) y168.length co16)) (by (with_reducible repeat (first | apply Kd.R_alloc | apply Kd.R_drewN | apply Kd.R_drew)); exact HO_7.out) (Kd.R_typed HO_155004.out) (by decide) hg); have n1_ := Aside0.mk (hp_); have n2_ := Aside0.mk (blk_grown (g := gb154) (o := .cells #[.int .i64 (wrap64 (Int.tmod (IntKind.u64.wrap (a0_0)) 50)), .int .i64 x155001_1, .int .i64 (wrap64 (Int.tmod (IntKind.u64.wrap (a0_2)) 50)), .int .i64 x155003_1, .slice (some ⟨go25, 0, none⟩) y168.length co16] 26 (0, 0)) (by (with_reducible repeat (first | refine blk_drewN ?_ _ | refine blk_drew ?_ | refine blk_alloc ?_ _)); exact BK154.out) hg (Kd.R_ne HO_155004.out BK154.out (by decide))); have n3_ := Aside0.mk (blk_grown (g := gb155) (o := .cells #[.int .i64 0, .int .i64 0, .int .i64 0, .int .i64 0, .slice none 0 0] 26 (0, 0)) (by (with_reducible repeat (first | refine blk_drewN ?_ _ | refine blk_drew ?_ | refine blk_alloc ?_ _)); exact BK155.out) hg (Kd.R_ne HO_155004.out BK155.out (by decide))); have n4_ := Aside0.mk ((by rw [hw]; exact below_set (HB.out) GB25.out : Below w.heap.size w w47)); clear HO_7; clear HO_155004; clear BK154; clear BK155; clear HB; have HO_7 := n0_; have HO_155004 := n1_; have BK154 := n2_; have BK155 := n3_; have HB := n4_; clear n0_ n1_ n2_ n3_ n4_; clear hg hw hp_))
                 (try simp only [Act.put, List.setIfInBounds_toArray, List.set_cons_zero, List.set_cons_succ])
                 go_cut [] (fun wc => ∃ (kq : Nat) (x155004_43 : List (S42)), Aside0 (redpenlaw20_Tidied.j2 kq x39_1 (y163.length : Int) x39_1 (wrap64 (Int.tmod (IntKind.u64.wrap (a0_0)) 50)) x155001_1 (wrap64 (Int.tmod (IntKind.u64.wrap (a0_2)) 50)) x155003_1 x155004_43 = some (r1, r2, r3, r4, r5)) ∧ Aside0 (kq ≤ k2) ∧ Aside0 (Kd.R k42 42 wc w.heap.size (fun _ => True) (.slice (some ⟨go25, 0, none⟩) y168.length co16) x155004_43) ∧ Aside0 (wc.heap[gb154]? = some (.cells #[.int .i64 (wrap64 (Int.tmod (IntKind.u64.wrap (a0_0)) 50)), .int .i64 x155001_1, .int .i64 (wrap64 (Int.tmod (IntKind.u64.wrap (a0_2)) 50)), .int .i64 x155003_1, (.slice (some ⟨go25, 0, none⟩) y168.length co16)] 26 (0, 0))) ∧ Aside0 (wc.heap[gb155]? = some (.cells #[.int .i64 0, .int .i64 0, .int .i64 0, .int .i64 0, (.slice none 0 0)] 26 (0, 0))) ∧ Aside0 (Below w.heap.size w wc))
                 case first =>
                  have H := HC44.out
                  clear HC44
                  obtain ⟨bq48, hbq48⟩ : ∃ b_ : Bool, b_ = ((rd_T42 y175 x39_1).f2) := ⟨_, rfl⟩
                  replace H : (if bq48 = true then (redpenlaw20_Tidied.j2 k2 x39_1 (y163.length : Int) x39_1 (wrap64 (Int.tmod (IntKind.u64.wrap (a0_0)) 50)) x155001_1 (wrap64 (Int.tmod (IntKind.u64.wrap (a0_2)) 50)) x155003_1 (y175.set (x39_1 : Int).toNat (⟨(rd_T42 y175 x39_1).f0, (rd_T42 y175 x39_1).f1, decide ((wrap64 (x39_1 + 2)) ≥ (y168.length : Int))⟩ : S42))) else (redpenlaw20_Tidied.j2 k2 x39_1 (y163.length : Int) x39_1 (wrap64 (Int.tmod (IntKind.u64.wrap (a0_0)) 50)) x155001_1 (wrap64 (Int.tmod (IntKind.u64.wrap (a0_2)) 50)) x155003_1 (y175.set (x39_1 : Int).toNat (⟨(rd_T42 y175 x39_1).f0, (rd_T42 y175 x39_1).f1, false⟩ : S42)))) = some (r1, r2, r3, r4, r5) := by rw [← hbq48] at H; exact H
                  have Nbq48 := Aside0.mk hbq48
                  clear hbq48
                  (try rw [← Nbq48.out])
                  by_cases c49 : bq48 = true
                  ·subst c49
                   have H1 : (redpenlaw20_Tidied.j2 k2 x39_1 (y163.length : Int) x39_1 (wrap64 (Int.tmod (IntKind.u64.wrap (a0_0)) 50)) x155001_1 (wrap64 (Int.tmod (IntKind.u64.wrap (a0_2)) 50)) x155003_1 (y175.set (x39_1 : Int).toNat (⟨(rd_T42 y175 x39_1).f0, (rd_T42 y175 x39_1).f1, decide ((wrap64 (x39_1 + 2)) ≥ (y168.length : Int))⟩ : S42))) = some (r1, r2, r3, r4, r5) := by rw [if_pos rfl] at H; exact H
                   clear H
                   have H := H1
                   clear H1
                   obtain ⟨y177, hy177⟩ : ∃ y_ : List (S42), y_ = (y175.set (x39_1 : Int).toNat (⟨(rd_T42 y175 x39_1).f0, (rd_T42 y175 x39_1).f1, decide ((wrap64 (x39_1 + 2)) ≥ (y168.length : Int))⟩ : S42)) := ⟨_, rfl⟩
                   replace H : (redpenlaw20_Tidied.j2 k2 x39_1 (y163.length : Int) x39_1 (wrap64 (Int.tmod (IntKind.u64.wrap (a0_0)) 50)) x155001_1 (wrap64 (Int.tmod (IntKind.u64.wrap (a0_2)) 50)) x155003_1 y177) = some (r1, r2, r3, r4, r5) := by first | (rw [hy177]; with_reducible exact H) | (have H2_ := (Option.bind_some _ _).symm.trans H; rw [hy177]; with_reducible exact H2_) | (have H2_ := (Option.bind_some _ _).symm.trans H; with_reducible exact H2_) | with_reducible exact H | (rw [hy177]; exact H) | exact H
                   have Ny177 := Aside0.mk hy177
                   clear hy177
                   have H' := Aside0.mk H
                   clear H
                   have p176 : 0 ≤ (x39_1 : Int) := of_decide_eq_true (by first | (with_reducible assumption) | assumption)
                   have q176 : x39_1 < (y175.length : Int) := (by have h_ : (x39_1 : Int) < ((y168.length : Int) : Int) := of_decide_eq_true (by first | (with_reducible assumption) | assumption); first | (have e_ := (Kd.R_reads' HO_155004.out).1; omega) | simpa only [Ny175.out, List.length_set] using h_)
                   have ql176 : ((x39_1 : Int) < ((y168.length : Int) : Int)) = True := eq_true (of_decide_eq_true (by first | (with_reducible assumption) | assumption))
                   obtain ⟨ad176, e176, hx176_0, hx176_1, hx176_2⟩ := at_T42 (Kd.R_reads' HO_155004.out).2.2 x39_1 p176 q176
                   (try rw [← Nbq48.out] at hx176_2)
                   obtain rfl : (⟨go25, 0, none⟩ : Addr) = ad176 := (by injection e176)
                   (first | simp only [add_plain] at hx176_0 | simp only [add_at] at hx176_0 | simp only [Addr.add, Nat.zero_add] at hx176_0 | skip)
                   (first | simp only [add_plain] at hx176_1 | simp only [add_at] at hx176_1 | simp only [Addr.add, Nat.zero_add] at hx176_1 | skip)
                   (first | simp only [add_plain] at hx176_2 | simp only [add_at] at hx176_2 | simp only [Addr.add, Nat.zero_add] at hx176_2 | skip)
                   replace p176 := eq_true p176
                   replace q176 := eq_true q176
                   have hnb51 := NB154_155.out
                   have hnc51 := NB155_154.out
                   have hcz52_0 : w47.cell? ⟨gb154, 0, none⟩ = some (.int .i64 (wrap64 (Int.tmod (IntKind.u64.wrap (a0_0)) 50))) := (blk_cell BK154.out 0).trans rfl
                   have hcz52_1 : w47.cell? ⟨gb154, 1, none⟩ = some (.int .i64 x155001_1) := (blk_cell BK154.out 1).trans rfl
                   have hcz52_2 : w47.cell? ⟨gb154, 2, none⟩ = some (.int .i64 (wrap64 (Int.tmod (IntKind.u64.wrap (a0_2)) 50))) := (blk_cell BK154.out 2).trans rfl
                   have hcz52_3 : w47.cell? ⟨gb154, 3, none⟩ = some (.int .i64 x155003_1) := (blk_cell BK154.out 3).trans rfl
                   have hcz52_4 : w47.cell? ⟨gb154, 4, none⟩ = some (.slice (some ⟨go25, 0, none⟩) y168.length co16) := (blk_cell BK154.out 4).trans rfl
                   have hfz52_0 := blk_frozen BK154.out 0
                   have hfz52_1 := blk_frozen BK154.out 1
                   have hfz52_2 := blk_frozen BK154.out 2
                   have hfz52_3 := blk_frozen BK154.out 3
                   have hfz52_4 := blk_frozen BK154.out 4
                   have p50 : 0 ≤ (x39_1 : Int) := of_decide_eq_true (by first | (with_reducible assumption) | assumption)
                   have q50 : (x39_1 : Int) < ((y168.length : Int) : Int) := of_decide_eq_true (by first | (with_reducible assumption) | assumption)
                   obtain ⟨ce50, hcl50, hM50, hcc50, hfr50⟩ := Kd.R_elem HO_155004.out z42 (x39_1 : Int) p50 q50
                   obtain rfl := k42_openM hM50
                   have hx50_0 : w47.cell? ⟨go25, (x39_1 : Int).toNat * 3, none⟩ = some (.int .u8 ((rd_T42 y175 x39_1).f0)) := hcc50 0 _ rfl
                   have hx50_1 : w47.cell? ⟨go25, (x39_1 : Int).toNat * 3 + 1, none⟩ = some (.string ((rd_T42 y175 x39_1).f1)) := hcc50 1 _ rfl
                   have hx50_2 : w47.cell? ⟨go25, (x39_1 : Int).toNat * 3 + 2, none⟩ = some (.bool ((rd_T42 y175 x39_1).f2)) := hcc50 2 _ rfl
                   have hf50_0 : w47.frozen? ⟨go25, (x39_1 : Int).toNat * 3, none⟩ = false := hfr50 0
                   have hf50_1 : w47.frozen? ⟨go25, (x39_1 : Int).toNat * 3 + 1, none⟩ = false := hfr50 1
                   have hf50_2 : w47.frozen? ⟨go25, (x39_1 : Int).toNat * 3 + 2, none⟩ = false := hfr50 2
                   clear hcl50 hcc50 hfr50 hM50
                   replace p50 := eq_true p50
                   replace q50 := eq_true q50
                   have HX53 := Aside0.mk (show Kd.R k42 42 w47 w.heap.size (fun _ => True) (.slice (some ⟨go25, 0, none⟩) y168.length co16) y175 from (by (with_reducible repeat (first | apply Kd.R_alloc | apply Kd.R_drewN | apply Kd.R_drew)); exact HO_155004.out))
                   obtain ⟨ce53, hcl53, hM53, hcc53, hfr53⟩ := Kd.R_elem HX53.out z42 (x39_1 : Int) (of_decide_eq_true (by first | (with_reducible assumption) | assumption)) (by have h_ : (x39_1 : Int) < ((y168.length : Int) : Int) := of_decide_eq_true (by first | (with_reducible assumption) | assumption); first | exact h_ | (have e_ := (Kd.R_reads' HO_155004.out).1; omega) | simpa using h_)
                   obtain rfl := k42_openM hM53
                   have HP53 := Kd.R_seg HX53.out (x39_1 : Int) (of_decide_eq_true (by first | (with_reducible assumption) | assumption)) (by have h_ : (x39_1 : Int) < ((y168.length : Int) : Int) := of_decide_eq_true (by first | (with_reducible assumption) | assumption); first | exact h_ | (have e_ := (Kd.R_reads' HO_155004.out).1; omega) | simpa using h_) (seg := [.bool (decide ((wrap64 (x39_1 + 2)) ≥ (y168.length : Int)))]) (j := 2) hcl53 hcc53 (show 3 ≤ 3 from by decide) (x' := (⟨(rd_T42 y175 x39_1).f0, (rd_T42 y175 x39_1).f1, decide ((wrap64 (x39_1 + 2)) ≥ (y168.length : Int))⟩ : S42)) (k42_mkM _ _ _ (⟨(rd_T42 y175 x39_1).f0, (rd_T42 y175 x39_1).f1, decide ((wrap64 (x39_1 + 2)) ≥ (y168.length : Int))⟩ : S42) ) (fun _ hk => hk)
                   have hx53_2 := hcc53 2 _ rfl
                   (try simp only [show (k42).sz = 3 from rfl, Nat.mul_one, Nat.add_zero] at hx53_2)
                   have hf53_2 := hfr53 2
                   (try simp only [show (k42).sz = 3 from rfl, Nat.mul_one, Nat.add_zero] at hf53_2)
                   clear hcl53 hcc53 hfr53 hM53
                   go_wp2_with (first | ((with_reducible refine gate_store (t := 4) (p := 100) rfl ?_); refine store_event (t := 4) (p := 100) (v := ?vo_w54) (w1 := (w47.setCell ⟨go25, (x39_1 : Int).toNat * 3 + 2, none⟩ (.bool (decide ((wrap64 (x39_1 + 2)) ≥ (y168.length : Int)))))) ?hg ?ho ?hn ?hr ?_; (case ho => rfl); (case hg => rfl); (case hn => rfl); (case hr => first | (go_simp; done) | (go_simp; rfl)); intro w54 hw; have hg : w47.grownBy w54 (some go25) := (by rw [hw]; exact HP53.2); have hp_ : Kd.R k42 42 w54 w.heap.size (fun _ => True) (.slice (some ⟨go25, 0, none⟩) y168.length co16) y177 := (by rw [hw, Ny177.out]; exact HP53.1); clear HP53; have n0_ := Aside0.mk (Kd.R_over' (v := (.slice (some ⟨go25, 0, none⟩) y168.length co16)) (by (with_reducible repeat (first | apply Kd.R_alloc | apply Kd.R_drewN | apply Kd.R_drew)); exact HO_7.out) (Kd.R_typed HO_155004.out) (by decide) hg); have n1_ := Aside0.mk (hp_); have n2_ := Aside0.mk (blk_grown (g := gb154) (o := .cells #[.int .i64 (wrap64 (Int.tmod (IntKind.u64.wrap (a0_0)) 50)), .int .i64 x155001_1, .int .i64 (wrap64 (Int.tmod (IntKind.u64.wrap (a0_2)) 50)), .int .i64 x155003_1, .slice (some ⟨go25, 0, none⟩) y168.length co16] 26 (0, 0)) (by (with_reducible repeat (first | refine blk_drewN ?_ _ | refine blk_drew ?_ | refine blk_alloc ?_ _)); exact BK154.out) hg (Kd.R_ne HO_155004.out BK154.out (by decide))); have n3_ := Aside0.mk (blk_grown (g := gb155) (o := .cells #[.int .i64 0, .int .i64 0, .int .i64 0, .int .i64 0, .slice none 0 0] 26 (0, 0)) (by (with_reducible repeat (first | refine blk_drewN ?_ _ | refine blk_drew ?_ | refine blk_alloc ?_ _)); exact BK155.out) hg (Kd.R_ne HO_155004.out BK155.out (by decide))); have n4_ := Aside0.mk ((by rw [hw]; exact below_set (HB.out) GB25.out : Below w.heap.size w w54)); clear HO_7; clear HO_155004; clear BK154; clear BK155; clear HB; have HO_7 := n0_; have HO_155004 := n1_; have BK154 := n2_; have BK155 := n3_; have HB := n4_; clear n0_ n1_ n2_ n3_ n4_; clear hg hw hp_))
                   go_meet
                   case rel => exact ⟨_, (y177), H', ⟨by have := HK1.out; have := HK2.out; first | omega | exact Nat.le_refl _⟩, ⟨by (try simp only [hl155004_1]); (try simp only [hl155004_2]); (with_reducible repeat (first | apply Kd.R_alloc | apply Kd.R_drewN | apply Kd.R_drew)); exact HO_155004.out⟩, ⟨by (try simp only [hl155004_1]); (try simp only [hl155004_2]); (with_reducible repeat (first | refine blk_drewN ?_ _ | refine blk_drew ?_ | refine blk_alloc ?_ _)); exact BK154.out⟩, ⟨by (try simp only [hl155004_1]); (try simp only [hl155004_2]); (with_reducible repeat (first | refine blk_drewN ?_ _ | refine blk_drew ?_ | refine blk_alloc ?_ _)); exact BK155.out⟩, ⟨by repeat (first | (with_reducible first | exact HB.out | apply below_alloc | apply pw_below_drewN | apply below_drew1 | refine below_set ?_ GE154.out | refine below_set ?_ GE155.out) | exact HB.out)⟩⟩
                  ·replace c49 := Bool.eq_false_iff.mpr c49
                   subst c49
                   have H1 : (redpenlaw20_Tidied.j2 k2 x39_1 (y163.length : Int) x39_1 (wrap64 (Int.tmod (IntKind.u64.wrap (a0_0)) 50)) x155001_1 (wrap64 (Int.tmod (IntKind.u64.wrap (a0_2)) 50)) x155003_1 (y175.set (x39_1 : Int).toNat (⟨(rd_T42 y175 x39_1).f0, (rd_T42 y175 x39_1).f1, false⟩ : S42))) = some (r1, r2, r3, r4, r5) := by rw [if_neg (show ¬ (false = true) by decide)] at H; exact H
                   clear H
                   have H := H1
                   clear H1
                   obtain ⟨y178, hy178⟩ : ∃ y_ : List (S42), y_ = (y175.set (x39_1 : Int).toNat (⟨(rd_T42 y175 x39_1).f0, (rd_T42 y175 x39_1).f1, false⟩ : S42)) := ⟨_, rfl⟩
                   replace H : (redpenlaw20_Tidied.j2 k2 x39_1 (y163.length : Int) x39_1 (wrap64 (Int.tmod (IntKind.u64.wrap (a0_0)) 50)) x155001_1 (wrap64 (Int.tmod (IntKind.u64.wrap (a0_2)) 50)) x155003_1 y178) = some (r1, r2, r3, r4, r5) := by first | (rw [hy178]; with_reducible exact H) | (have H2_ := (Option.bind_some _ _).symm.trans H; rw [hy178]; with_reducible exact H2_) | (have H2_ := (Option.bind_some _ _).symm.trans H; with_reducible exact H2_) | with_reducible exact H | (rw [hy178]; exact H) | exact H
                   have Ny178 := Aside0.mk hy178
                   clear hy178
                   have H' := Aside0.mk H
                   clear H
                   have p176 : 0 ≤ (x39_1 : Int) := of_decide_eq_true (by first | (with_reducible assumption) | assumption)
                   have q176 : x39_1 < (y175.length : Int) := (by have h_ : (x39_1 : Int) < ((y168.length : Int) : Int) := of_decide_eq_true (by first | (with_reducible assumption) | assumption); first | (have e_ := (Kd.R_reads' HO_155004.out).1; omega) | simpa only [Ny175.out, List.length_set] using h_)
                   have ql176 : ((x39_1 : Int) < ((y168.length : Int) : Int)) = True := eq_true (of_decide_eq_true (by first | (with_reducible assumption) | assumption))
                   obtain ⟨ad176, e176, hx176_0, hx176_1, hx176_2⟩ := at_T42 (Kd.R_reads' HO_155004.out).2.2 x39_1 p176 q176
                   (try rw [← Nbq48.out] at hx176_2)
                   obtain rfl : (⟨go25, 0, none⟩ : Addr) = ad176 := (by injection e176)
                   (first | simp only [add_plain] at hx176_0 | simp only [add_at] at hx176_0 | simp only [Addr.add, Nat.zero_add] at hx176_0 | skip)
                   (first | simp only [add_plain] at hx176_1 | simp only [add_at] at hx176_1 | simp only [Addr.add, Nat.zero_add] at hx176_1 | skip)
                   (first | simp only [add_plain] at hx176_2 | simp only [add_at] at hx176_2 | simp only [Addr.add, Nat.zero_add] at hx176_2 | skip)
                   replace p176 := eq_true p176
                   replace q176 := eq_true q176
                   have p55 : 0 ≤ (x39_1 : Int) := of_decide_eq_true (by first | (with_reducible assumption) | assumption)
                   have q55 : (x39_1 : Int) < ((y168.length : Int) : Int) := of_decide_eq_true (by first | (with_reducible assumption) | assumption)
                   obtain ⟨ce55, hcl55, hM55, hcc55, hfr55⟩ := Kd.R_elem HO_155004.out z42 (x39_1 : Int) p55 q55
                   obtain rfl := k42_openM hM55
                   have hx55_0 : w47.cell? ⟨go25, (x39_1 : Int).toNat * 3, none⟩ = some (.int .u8 ((rd_T42 y175 x39_1).f0)) := hcc55 0 _ rfl
                   have hx55_1 : w47.cell? ⟨go25, (x39_1 : Int).toNat * 3 + 1, none⟩ = some (.string ((rd_T42 y175 x39_1).f1)) := hcc55 1 _ rfl
                   have hx55_2 : w47.cell? ⟨go25, (x39_1 : Int).toNat * 3 + 2, none⟩ = some (.bool ((rd_T42 y175 x39_1).f2)) := hcc55 2 _ rfl
                   have hf55_0 : w47.frozen? ⟨go25, (x39_1 : Int).toNat * 3, none⟩ = false := hfr55 0
                   have hf55_1 : w47.frozen? ⟨go25, (x39_1 : Int).toNat * 3 + 1, none⟩ = false := hfr55 1
                   have hf55_2 : w47.frozen? ⟨go25, (x39_1 : Int).toNat * 3 + 2, none⟩ = false := hfr55 2
                   clear hcl55 hcc55 hfr55 hM55
                   replace p55 := eq_true p55
                   replace q55 := eq_true q55
                   have HX56 := Aside0.mk (show Kd.R k42 42 w47 w.heap.size (fun _ => True) (.slice (some ⟨go25, 0, none⟩) y168.length co16) y175 from (by (with_reducible repeat (first | apply Kd.R_alloc | apply Kd.R_drewN | apply Kd.R_drew)); exact HO_155004.out))
                   obtain ⟨ce56, hcl56, hM56, hcc56, hfr56⟩ := Kd.R_elem HX56.out z42 (x39_1 : Int) (of_decide_eq_true (by first | (with_reducible assumption) | assumption)) (by have h_ : (x39_1 : Int) < ((y168.length : Int) : Int) := of_decide_eq_true (by first | (with_reducible assumption) | assumption); first | exact h_ | (have e_ := (Kd.R_reads' HO_155004.out).1; omega) | simpa using h_)
                   obtain rfl := k42_openM hM56
                   have HP56 := Kd.R_seg HX56.out (x39_1 : Int) (of_decide_eq_true (by first | (with_reducible assumption) | assumption)) (by have h_ : (x39_1 : Int) < ((y168.length : Int) : Int) := of_decide_eq_true (by first | (with_reducible assumption) | assumption); first | exact h_ | (have e_ := (Kd.R_reads' HO_155004.out).1; omega) | simpa using h_) (seg := [.bool false]) (j := 2) hcl56 hcc56 (show 3 ≤ 3 from by decide) (x' := (⟨(rd_T42 y175 x39_1).f0, (rd_T42 y175 x39_1).f1, false⟩ : S42)) (k42_mkM _ _ _ (⟨(rd_T42 y175 x39_1).f0, (rd_T42 y175 x39_1).f1, false⟩ : S42) ) (fun _ hk => hk)
                   have hx56_2 := hcc56 2 _ rfl
                   (try simp only [show (k42).sz = 3 from rfl, Nat.mul_one, Nat.add_zero] at hx56_2)
                   have hf56_2 := hfr56 2
                   (try simp only [show (k42).sz = 3 from rfl, Nat.mul_one, Nat.add_zero] at hf56_2)
                   clear hcl56 hcc56 hfr56 hM56
                   go_wp2_with (first | ((with_reducible refine gate_store (t := 4) (p := 100) rfl ?_); refine store_event (t := 4) (p := 100) (v := ?vo_w57) (w1 := (w47.setCell ⟨go25, (x39_1 : Int).toNat * 3 + 2, none⟩ (.bool false))) ?hg ?ho ?hn ?hr ?_; (case ho => rfl); (case hg => rfl); (case hn => rfl); (case hr => first | (go_simp; done) | (go_simp; rfl)); intro w57 hw; have hg : w47.grownBy w57 (some go25) := (by rw [hw]; exact HP56.2); have hp_ : Kd.R k42 42 w57 w.heap.size (fun _ => True) (.slice (some ⟨go25, 0, none⟩) y168.length co16) y178 := (by rw [hw, Ny178.out]; exact HP56.1); clear HP56; have n0_ := Aside0.mk (Kd.R_over' (v := (.slice (some ⟨go25, 0, none⟩) y168.length co16)) (by (with_reducible repeat (first | apply Kd.R_alloc | apply Kd.R_drewN | apply Kd.R_drew)); exact HO_7.out) (Kd.R_typed HO_155004.out) (by decide) hg); have n1_ := Aside0.mk (hp_); have n2_ := Aside0.mk (blk_grown (g := gb154) (o := .cells #[.int .i64 (wrap64 (Int.tmod (IntKind.u64.wrap (a0_0)) 50)), .int .i64 x155001_1, .int .i64 (wrap64 (Int.tmod (IntKind.u64.wrap (a0_2)) 50)), .int .i64 x155003_1, .slice (some ⟨go25, 0, none⟩) y168.length co16] 26 (0, 0)) (by (with_reducible repeat (first | refine blk_drewN ?_ _ | refine blk_drew ?_ | refine blk_alloc ?_ _)); exact BK154.out) hg (Kd.R_ne HO_155004.out BK154.out (by decide))); have n3_ := Aside0.mk (blk_grown (g := gb155) (o := .cells #[.int .i64 0, .int .i64 0, .int .i64 0, .int .i64 0, .slice none 0 0] 26 (0, 0)) (by (with_reducible repeat (first | refine blk_drewN ?_ _ | refine blk_drew ?_ | refine blk_alloc ?_ _)); exact BK155.out) hg (Kd.R_ne HO_155004.out BK155.out (by decide))); have n4_ := Aside0.mk ((by rw [hw]; exact below_set (HB.out) GB25.out : Below w.heap.size w w57)); clear HO_7; clear HO_155004; clear BK154; clear BK155; clear HB; have HO_7 := n0_; have HO_155004 := n1_; have BK154 := n2_; have BK155 := n3_; have HB := n4_; clear n0_ n1_ n2_ n3_ n4_; clear hg hw hp_))
                   go_meet
                   case rel => exact ⟨_, (y178), H', ⟨by have := HK1.out; have := HK2.out; first | omega | exact Nat.le_refl _⟩, ⟨by (try simp only [hl155004_1]); (try simp only [hl155004_2]); (with_reducible repeat (first | apply Kd.R_alloc | apply Kd.R_drewN | apply Kd.R_drew)); exact HO_155004.out⟩, ⟨by (try simp only [hl155004_1]); (try simp only [hl155004_2]); (with_reducible repeat (first | refine blk_drewN ?_ _ | refine blk_drew ?_ | refine blk_alloc ?_ _)); exact BK154.out⟩, ⟨by (try simp only [hl155004_1]); (try simp only [hl155004_2]); (with_reducible repeat (first | refine blk_drewN ?_ _ | refine blk_drew ?_ | refine blk_alloc ?_ _)); exact BK155.out⟩, ⟨by repeat (first | (with_reducible first | exact HB.out | apply below_alloc | apply pw_below_drewN | apply below_drew1 | refine below_set ?_ GE154.out | refine below_set ?_ GE155.out) | exact HB.out)⟩⟩
                 case rest =>
                  clear HC44
                  try clear c1
                  try clear p1
                  try clear q1
                  try clear hx1
                  try clear c2
                  try clear p2
                  try clear q2
                  try clear hx2
                  try clear hf2
                  try clear c3
                  try clear p3
                  try clear q3
                  try clear hx3
                  try clear c4
                  try clear c4b0
                  try clear c4b1
                  try clear p4
                  try clear q4
                  try clear hx4
                  try clear hcv4
                  try clear hf4
                  try clear c5
                  try clear c5b0
                  try clear c5b1
                  try clear p5
                  try clear q5
                  try clear hx5
                  try clear hf5
                  try clear c6
                  try clear p6
                  try clear c7
                  try clear c11
                  try clear c12
                  try clear q14
                  try clear p16
                  try clear q16
                  try clear hx16
                  try clear p17
                  try clear q17
                  try clear hx17
                  try clear c18
                  try clear c18b0
                  try clear c19
                  try clear c19b0
                  try clear c20
                  try clear c20b0
                  try clear c22
                  try clear c22b0
                  try clear c23
                  try clear c23b0
                  try clear p24
                  try clear q24
                  try clear hx24
                  try clear c25
                  try clear p25
                  try clear q25
                  try clear hx25
                  try clear hf25
                  try clear c27
                  try clear c29
                  try clear hx29
                  try clear hf29
                  try clear c31
                  try clear c31b0
                  try clear c32
                  try clear c32b0
                  try clear c33
                  try clear c33b0
                  try clear c34
                  try clear c34b0
                  try clear c35
                  try clear c35b0
                  try clear p36
                  try clear q36
                  try clear hx36
                  try clear c37
                  try clear c37b0
                  try clear c37b1
                  try clear p38
                  try clear q38
                  try clear hx38
                  try clear c39
                  try clear c41
                  try clear c41b0
                  try clear c42
                  try clear c42b0
                  try clear c43
                  try clear p43
                  try clear q43
                  try clear hx43
                  try clear hf43
                  try clear hcv45
                  try clear c46
                  try clear hx46
                  try clear hf46
                  try clear q48
                  try clear c49
                  try clear c50
                  try clear p50
                  try clear q50
                  try clear hx50
                  try clear hf50
                  try clear c51
                  try clear c53
                  try clear hx53
                  try clear hf53
                  try clear c55
                  try clear p55
                  try clear q55
                  try clear hx55
                  try clear hf55
                  try clear c56
                  try clear hx56
                  try clear hf56
                  try clear hcz13_0
                  try clear hcz13_1
                  try clear hcz13_2
                  try clear hcz13_3
                  try clear hcz13_4
                  try clear hcz17_0
                  try clear hcz17_1
                  try clear hcz17_2
                  try clear hcz17_3
                  try clear hcz17_4
                  try clear hcz28_0
                  try clear hcz28_1
                  try clear hcz28_2
                  try clear hcz28_3
                  try clear hcz28_4
                  try clear hcz52_0
                  try clear hcz52_1
                  try clear hcz52_2
                  try clear hcz52_3
                  try clear hcz52_4
                  try clear hfz13_0
                  try clear hfz13_1
                  try clear hfz13_2
                  try clear hfz13_3
                  try clear hfz13_4
                  try clear hfz17_0
                  try clear hfz17_1
                  try clear hfz17_2
                  try clear hfz17_3
                  try clear hfz17_4
                  try clear hfz28_0
                  try clear hfz28_1
                  try clear hfz28_2
                  try clear hfz28_3
                  try clear hfz28_4
                  try clear hfz52_0
                  try clear hfz52_1
                  try clear hfz52_2
                  try clear hfz52_3
                  try clear hfz52_4
                  try clear hx166_0
                  try clear hx166_1
                  try clear hx166_2
                  try clear hx167_0
                  try clear hx167_1
                  try clear hx167_2
                  try clear hx169_0
                  try clear hx169_1
                  try clear hx169_2
                  try clear hx170_0
                  try clear hx170_1
                  try clear hx170_2
                  try clear hx171_0
                  try clear hx171_1
                  try clear hx171_2
                  try clear hx176_0
                  try clear hx176_1
                  try clear hx176_2
                  try clear hx25_0
                  try clear hx25_1
                  try clear hx25_2
                  try clear hx29_0
                  try clear hx43_0
                  try clear hx43_1
                  try clear hx43_2
                  try clear hx46_1
                  try clear hx50_0
                  try clear hx50_1
                  try clear hx50_2
                  try clear hx53_2
                  try clear hx55_0
                  try clear hx55_1
                  try clear hx55_2
                  try clear hx56_2
                  try clear p1
                  try clear p16
                  try clear p166
                  try clear p167
                  try clear p169
                  try clear p170
                  try clear p171
                  try clear p176
                  try clear p2
                  try clear p24
                  try clear p25
                  try clear p36
                  try clear p38
                  try clear p43
                  try clear p50
                  try clear p55
                  try clear p6
                  try clear q1
                  try clear q14
                  try clear q16
                  try clear q166
                  try clear q167
                  try clear q169
                  try clear q170
                  try clear q171
                  try clear q176
                  try clear q2
                  try clear q24
                  try clear q25
                  try clear q36
                  try clear q38
                  try clear q43
                  try clear q50
                  try clear q55
                  obtain ⟨kq, x155004_43, HA, HJ43, HO_155004, BK154, BK155, HB⟩ := hcut
                  have hl155004_43 := (Kd.R_reads' HO_155004.out).1
                  rw [hl155004_43] at HO_155004
                  (try simp only [hl155004_43])
                  (try simp only [hl155004_43] at BK154)
                  (try simp only [hl155004_43] at BK155)
                  cases kq with
                  | zero => exact absurd HA.out (by simp [redpenlaw20_Tidied.j2])
                  | succ kj43 =>
                   have H := HA.out
                   clear HA
                   simp only [redpenlaw20_Tidied.j2] at H
                   by_cases c58 : 0 ≤ x39_1
                   ·rw [if_pos c58] at H
                    have c58b0 : decide (0 ≤ x39_1) = true := decide_eq_true c58
                    clear c58
                    try (have c58h0 := c58b0; simp only [hl155004_1, hl155004_2, hl155004_43] at c58h0)
                    by_cases c59 : x39_1 < (x155004_43.length : Int)
                    ·rw [if_pos c59] at H
                     have c59b0 : decide (x39_1 < (x155004_43.length : Int)) = true := decide_eq_true c59
                     clear c59
                     try (have c59h0 := c59b0; simp only [hl155004_1, hl155004_2, hl155004_43] at c59h0)
                     by_cases c60 : ((rd_T42 x155004_43 x39_1).f0) = 43
                     ·rw [if_pos c60] at H
                      have c60b0 : (((rd_T42 x155004_43 x39_1).f0) == 43) = true := beq_iff_eq.mpr c60
                      have c60b1 : (((rd_T42 x155004_43 x39_1).f0) != 43) = false := bne_eq_false_iff_eq.mpr c60
                      clear c60
                      try (have c60h0 := c60b0; simp only [hl155004_1, hl155004_2, hl155004_43] at c60h0)
                      try (have c60h1 := c60b1; simp only [hl155004_1, hl155004_2, hl155004_43] at c60h1)
                      by_cases c61 : ((rd_T42 x155004_43 x39_1).f0) = 45
                      ·rw [if_pos c61] at H
                       have c61b0 : (((rd_T42 x155004_43 x39_1).f0) == 45) = true := beq_iff_eq.mpr c61
                       have c61b1 : (((rd_T42 x155004_43 x39_1).f0) != 45) = false := bne_eq_false_iff_eq.mpr c61
                       clear c61
                       try (have c61h0 := c61b0; simp only [hl155004_1, hl155004_2, hl155004_43] at c61h0)
                       try (have c61h1 := c61b1; simp only [hl155004_1, hl155004_2, hl155004_43] at c61h1)
                       have H' := Aside0.mk H
                       clear H
                       have p179 : 0 ≤ (x39_1 : Int) := of_decide_eq_true (by first | (with_reducible assumption) | assumption)
                       have q179 : x39_1 < (x155004_43.length : Int) := of_decide_eq_true (by first | (with_reducible assumption) | assumption)
                       obtain ⟨ad179, e179, hx179_0, hx179_1, hx179_2⟩ := at_T42 (Kd.R_reads' HO_155004.out).2.2 x39_1 p179 q179
                       obtain rfl : (⟨go25, 0, none⟩ : Addr) = ad179 := (by injection e179)
                       (first | simp only [add_plain] at hx179_0 | simp only [add_at] at hx179_0 | simp only [Addr.add, Nat.zero_add] at hx179_0 | skip)
                       (first | simp only [add_plain] at hx179_1 | simp only [add_at] at hx179_1 | simp only [Addr.add, Nat.zero_add] at hx179_1 | skip)
                       (first | simp only [add_plain] at hx179_2 | simp only [add_at] at hx179_2 | simp only [Addr.add, Nat.zero_add] at hx179_2 | skip)
                       replace p179 := eq_true p179
                       replace q179 := eq_true q179
                       have p180 : 0 ≤ (x39_1 : Int) := of_decide_eq_true (by first | (with_reducible assumption) | assumption)
                       have q180 : x39_1 < (x155004_43.length : Int) := of_decide_eq_true (by first | (with_reducible assumption) | assumption)
                       obtain ⟨ad180, e180, hx180_0, hx180_1, hx180_2⟩ := at_T42 (Kd.R_reads' HO_155004.out).2.2 x39_1 p180 q180
                       obtain rfl : (⟨go25, 0, none⟩ : Addr) = ad180 := (by injection e180)
                       (first | simp only [add_plain] at hx180_0 | simp only [add_at] at hx180_0 | simp only [Addr.add, Nat.zero_add] at hx180_0 | skip)
                       (first | simp only [add_plain] at hx180_1 | simp only [add_at] at hx180_1 | simp only [Addr.add, Nat.zero_add] at hx180_1 | skip)
                       (first | simp only [add_plain] at hx180_2 | simp only [add_at] at hx180_2 | simp only [Addr.add, Nat.zero_add] at hx180_2 | skip)
                       replace p180 := eq_true p180
                       replace q180 := eq_true q180
                       go_wp2
                       (try simp only [← hl155004_1, ← hl155004_2, ← hl155004_43])
                       go_roundg kj43
                       case measure => have := HK1.out; have := HK2.out; have := HJ43.out; omega
                       case rel => exact ⟨(wrap64 (x39_1 + 1)), (x155001_1), (x155003_1), (x155004_43), (by first | rfl | (simp; done) | (simp [*]; done)), H', ⟨by have := HK1.out; have := HK2.out; have := HJ43.out; omega⟩, ⟨by (try simp only [hl155004_1]); (try simp only [hl155004_2]); (try simp only [hl155004_43]); (with_reducible repeat (first | apply Kd.R_alloc | apply Kd.R_drewN | apply Kd.R_drew)); exact HO_155004.out⟩, ⟨by (try simp only [hl155004_1]); (try simp only [hl155004_2]); (try simp only [hl155004_43]); (with_reducible repeat (first | refine blk_drewN ?_ _ | refine blk_drew ?_ | refine blk_alloc ?_ _)); exact BK154.out⟩, ⟨by (try simp only [hl155004_1]); (try simp only [hl155004_2]); (try simp only [hl155004_43]); (with_reducible repeat (first | refine blk_drewN ?_ _ | refine blk_drew ?_ | refine blk_alloc ?_ _)); exact BK155.out⟩, ⟨by repeat (first | (with_reducible first | exact HB.out | apply below_alloc | apply pw_below_drewN | apply below_drew1 | refine below_set ?_ GE154.out | refine below_set ?_ GE155.out) | exact HB.out)⟩⟩
                      ·rw [if_neg c61] at H
                       have c61b0 : (((rd_T42 x155004_43 x39_1).f0) == 45) = false := beq_eq_false_iff_ne.mpr c61
                       have c61b1 : (((rd_T42 x155004_43 x39_1).f0) != 45) = true := bne_iff_ne.mpr c61
                       try (have c61h0 := c61b0; simp only [hl155004_1, hl155004_2, hl155004_43] at c61h0)
                       try (have c61h1 := c61b1; simp only [hl155004_1, hl155004_2, hl155004_43] at c61h1)
                       have H' := Aside0.mk H
                       clear H
                       have p179 : 0 ≤ (x39_1 : Int) := of_decide_eq_true (by first | (with_reducible assumption) | assumption)
                       have q179 : x39_1 < (x155004_43.length : Int) := of_decide_eq_true (by first | (with_reducible assumption) | assumption)
                       obtain ⟨ad179, e179, hx179_0, hx179_1, hx179_2⟩ := at_T42 (Kd.R_reads' HO_155004.out).2.2 x39_1 p179 q179
                       obtain rfl : (⟨go25, 0, none⟩ : Addr) = ad179 := (by injection e179)
                       (first | simp only [add_plain] at hx179_0 | simp only [add_at] at hx179_0 | simp only [Addr.add, Nat.zero_add] at hx179_0 | skip)
                       (first | simp only [add_plain] at hx179_1 | simp only [add_at] at hx179_1 | simp only [Addr.add, Nat.zero_add] at hx179_1 | skip)
                       (first | simp only [add_plain] at hx179_2 | simp only [add_at] at hx179_2 | simp only [Addr.add, Nat.zero_add] at hx179_2 | skip)
                       replace p179 := eq_true p179
                       replace q179 := eq_true q179
                       have p180 : 0 ≤ (x39_1 : Int) := of_decide_eq_true (by first | (with_reducible assumption) | assumption)
                       have q180 : x39_1 < (x155004_43.length : Int) := of_decide_eq_true (by first | (with_reducible assumption) | assumption)
                       obtain ⟨ad180, e180, hx180_0, hx180_1, hx180_2⟩ := at_T42 (Kd.R_reads' HO_155004.out).2.2 x39_1 p180 q180
                       obtain rfl : (⟨go25, 0, none⟩ : Addr) = ad180 := (by injection e180)
                       (first | simp only [add_plain] at hx180_0 | simp only [add_at] at hx180_0 | simp only [Addr.add, Nat.zero_add] at hx180_0 | skip)
                       (first | simp only [add_plain] at hx180_1 | simp only [add_at] at hx180_1 | simp only [Addr.add, Nat.zero_add] at hx180_1 | skip)
                       (first | simp only [add_plain] at hx180_2 | simp only [add_at] at hx180_2 | simp only [Addr.add, Nat.zero_add] at hx180_2 | skip)
                       replace p180 := eq_true p180
                       replace q180 := eq_true q180
                       have hnb62 := NB154_155.out
                       have hnc62 := NB155_154.out
                       have hcz63_0 : wc.cell? ⟨gb154, 0, none⟩ = some (.int .i64 (wrap64 (Int.tmod (IntKind.u64.wrap (a0_0)) 50))) := (blk_cell BK154.out 0).trans rfl
                       have hcz63_1 : wc.cell? ⟨gb154, 1, none⟩ = some (.int .i64 x155001_1) := (blk_cell BK154.out 1).trans rfl
                       have hcz63_2 : wc.cell? ⟨gb154, 2, none⟩ = some (.int .i64 (wrap64 (Int.tmod (IntKind.u64.wrap (a0_2)) 50))) := (blk_cell BK154.out 2).trans rfl
                       have hcz63_3 : wc.cell? ⟨gb154, 3, none⟩ = some (.int .i64 x155003_1) := (blk_cell BK154.out 3).trans rfl
                       have hcz63_4 : wc.cell? ⟨gb154, 4, none⟩ = some (.slice (some ⟨go25, 0, none⟩) x155004_43.length co16) := (blk_cell BK154.out 4).trans rfl
                       have hfz63_0 := blk_frozen BK154.out 0
                       have hfz63_1 := blk_frozen BK154.out 1
                       have hfz63_2 := blk_frozen BK154.out 2
                       have hfz63_3 := blk_frozen BK154.out 3
                       have hfz63_4 := blk_frozen BK154.out 4
                       go_wp2
                       (try simp only [← hl155004_1, ← hl155004_2, ← hl155004_43])
                       go_roundg kj43
                       case measure => have := HK1.out; have := HK2.out; have := HJ43.out; omega
                       case rel => exact ⟨(wrap64 (x39_1 + 1)), (x155001_1), (wrap64 (x155003_1 + 1)), (x155004_43), (by first | rfl | (simp; done) | (simp [*]; done)), H', ⟨by have := HK1.out; have := HK2.out; have := HJ43.out; omega⟩, ⟨by (try simp only [hl155004_1]); (try simp only [hl155004_2]); (try simp only [hl155004_43]); (with_reducible repeat (first | apply Kd.R_alloc | apply Kd.R_drewN | apply Kd.R_drew)); exact Kd.R_mono (Kd.R_far (p := ⟨gb154, 3, none⟩) (Kd.R_types HO_155004.out BK154.out (by decide)) (fun _ hk => hk.2) (.int .i64 (wrap64 (x155003_1 + 1)))) (fun _ hk => trivial)⟩, ⟨by (try simp only [hl155004_1]); (try simp only [hl155004_2]); (try simp only [hl155004_43]); (with_reducible repeat (first | refine blk_drewN ?_ _ | refine blk_drew ?_ | refine blk_alloc ?_ _)); refine blk_put (cs := #[.int .i64 (wrap64 (Int.tmod (IntKind.u64.wrap (a0_0)) 50)), .int .i64 x155001_1, .int .i64 (wrap64 (Int.tmod (IntKind.u64.wrap (a0_2)) 50)), .int .i64 x155003_1, .slice (some ⟨go25, 0, none⟩) x155004_43.length co16]) ?_ 3 _ rfl; (with_reducible repeat (first | refine blk_drewN ?_ _ | refine blk_drew ?_ | refine blk_alloc ?_ _)); exact BK154.out⟩, ⟨by (try simp only [hl155004_1]); (try simp only [hl155004_2]); (try simp only [hl155004_43]); (with_reducible repeat (first | refine blk_drewN ?_ _ | refine blk_drew ?_ | refine blk_alloc ?_ _)); refine blk_far ?_ NB155_154.out _; (with_reducible repeat (first | refine blk_drewN ?_ _ | refine blk_drew ?_ | refine blk_alloc ?_ _)); exact BK155.out⟩, ⟨by repeat (first | (with_reducible first | exact HB.out | apply below_alloc | apply pw_below_drewN | apply below_drew1 | refine below_set ?_ GE154.out | refine below_set ?_ GE155.out) | exact HB.out)⟩⟩
                     ·rw [if_neg c60] at H
                      have c60b0 : (((rd_T42 x155004_43 x39_1).f0) == 43) = false := beq_eq_false_iff_ne.mpr c60
                      have c60b1 : (((rd_T42 x155004_43 x39_1).f0) != 43) = true := bne_iff_ne.mpr c60
                      try (have c60h0 := c60b0; simp only [hl155004_1, hl155004_2, hl155004_43] at c60h0)
                      try (have c60h1 := c60b1; simp only [hl155004_1, hl155004_2, hl155004_43] at c60h1)
                      by_cases c64 : ((rd_T42 x155004_43 x39_1).f0) = 45
                      ·rw [if_pos c64] at H
                       have c64b0 : (((rd_T42 x155004_43 x39_1).f0) == 45) = true := beq_iff_eq.mpr c64
                       have c64b1 : (((rd_T42 x155004_43 x39_1).f0) != 45) = false := bne_eq_false_iff_eq.mpr c64
                       clear c64
                       try (have c64h0 := c64b0; simp only [hl155004_1, hl155004_2, hl155004_43] at c64h0)
                       try (have c64h1 := c64b1; simp only [hl155004_1, hl155004_2, hl155004_43] at c64h1)
                       have H' := Aside0.mk H
                       clear H
                       have p179 : 0 ≤ (x39_1 : Int) := of_decide_eq_true (by first | (with_reducible assumption) | assumption)
                       have q179 : x39_1 < (x155004_43.length : Int) := of_decide_eq_true (by first | (with_reducible assumption) | assumption)
                       obtain ⟨ad179, e179, hx179_0, hx179_1, hx179_2⟩ := at_T42 (Kd.R_reads' HO_155004.out).2.2 x39_1 p179 q179
                       obtain rfl : (⟨go25, 0, none⟩ : Addr) = ad179 := (by injection e179)
                       (first | simp only [add_plain] at hx179_0 | simp only [add_at] at hx179_0 | simp only [Addr.add, Nat.zero_add] at hx179_0 | skip)
                       (first | simp only [add_plain] at hx179_1 | simp only [add_at] at hx179_1 | simp only [Addr.add, Nat.zero_add] at hx179_1 | skip)
                       (first | simp only [add_plain] at hx179_2 | simp only [add_at] at hx179_2 | simp only [Addr.add, Nat.zero_add] at hx179_2 | skip)
                       replace p179 := eq_true p179
                       replace q179 := eq_true q179
                       have hnb65 := NB154_155.out
                       have hnc65 := NB155_154.out
                       have hcz66_0 : wc.cell? ⟨gb154, 0, none⟩ = some (.int .i64 (wrap64 (Int.tmod (IntKind.u64.wrap (a0_0)) 50))) := (blk_cell BK154.out 0).trans rfl
                       have hcz66_1 : wc.cell? ⟨gb154, 1, none⟩ = some (.int .i64 x155001_1) := (blk_cell BK154.out 1).trans rfl
                       have hcz66_2 : wc.cell? ⟨gb154, 2, none⟩ = some (.int .i64 (wrap64 (Int.tmod (IntKind.u64.wrap (a0_2)) 50))) := (blk_cell BK154.out 2).trans rfl
                       have hcz66_3 : wc.cell? ⟨gb154, 3, none⟩ = some (.int .i64 x155003_1) := (blk_cell BK154.out 3).trans rfl
                       have hcz66_4 : wc.cell? ⟨gb154, 4, none⟩ = some (.slice (some ⟨go25, 0, none⟩) x155004_43.length co16) := (blk_cell BK154.out 4).trans rfl
                       have hfz66_0 := blk_frozen BK154.out 0
                       have hfz66_1 := blk_frozen BK154.out 1
                       have hfz66_2 := blk_frozen BK154.out 2
                       have hfz66_3 := blk_frozen BK154.out 3
                       have hfz66_4 := blk_frozen BK154.out 4
                       have p181 : 0 ≤ (x39_1 : Int) := of_decide_eq_true (by first | (with_reducible assumption) | assumption)
                       have q181 : x39_1 < (x155004_43.length : Int) := of_decide_eq_true (by first | (with_reducible assumption) | assumption)
                       obtain ⟨ad181, e181, hx181_0, hx181_1, hx181_2⟩ := at_T42 (Kd.R_reads' HO_155004.out).2.2 x39_1 p181 q181
                       obtain rfl : (⟨go25, 0, none⟩ : Addr) = ad181 := (by injection e181)
                       (first | simp only [add_plain] at hx181_0 | simp only [add_at] at hx181_0 | simp only [Addr.add, Nat.zero_add] at hx181_0 | skip)
                       (first | simp only [add_plain] at hx181_1 | simp only [add_at] at hx181_1 | simp only [Addr.add, Nat.zero_add] at hx181_1 | skip)
                       (first | simp only [add_plain] at hx181_2 | simp only [add_at] at hx181_2 | simp only [Addr.add, Nat.zero_add] at hx181_2 | skip)
                       have hn181_0 : (⟨go25, 0, none⟩ : Addr).block ≠ gb154 := Kd.own_blk (Kd.R_ne HO_155004.out BK154.out (by decide))
                       replace hx181_0 := (cell_far (p := ⟨gb154, 1, none⟩) (by first | (rw [add_block]; exact hn181_0) | (show (Addr.add _ _).block ≠ _; rw [add_block]; exact hn181_0) | exact hn181_0) (.int .i64 (wrap64 (x155001_1 + 1)))).trans hx181_0
                       replace hx181_1 := (cell_far (p := ⟨gb154, 1, none⟩) (by first | (rw [add_block]; exact hn181_0) | (show (Addr.add _ _).block ≠ _; rw [add_block]; exact hn181_0) | exact hn181_0) (.int .i64 (wrap64 (x155001_1 + 1)))).trans hx181_1
                       replace hx181_2 := (cell_far (p := ⟨gb154, 1, none⟩) (by first | (rw [add_block]; exact hn181_0) | (show (Addr.add _ _).block ≠ _; rw [add_block]; exact hn181_0) | exact hn181_0) (.int .i64 (wrap64 (x155001_1 + 1)))).trans hx181_2
                       clear hn181_0
                       replace p181 := eq_true p181
                       replace q181 := eq_true q181
                       go_wp2
                       (try simp only [← hl155004_1, ← hl155004_2, ← hl155004_43])
                       go_roundg kj43
                       case measure => have := HK1.out; have := HK2.out; have := HJ43.out; omega
                       case rel => exact ⟨(wrap64 (x39_1 + 1)), (wrap64 (x155001_1 + 1)), (x155003_1), (x155004_43), (by first | rfl | (simp; done) | (simp [*]; done)), H', ⟨by have := HK1.out; have := HK2.out; have := HJ43.out; omega⟩, ⟨by (try simp only [hl155004_1]); (try simp only [hl155004_2]); (try simp only [hl155004_43]); (with_reducible repeat (first | apply Kd.R_alloc | apply Kd.R_drewN | apply Kd.R_drew)); exact Kd.R_mono (Kd.R_far (p := ⟨gb154, 1, none⟩) (Kd.R_types HO_155004.out BK154.out (by decide)) (fun _ hk => hk.2) (.int .i64 (wrap64 (x155001_1 + 1)))) (fun _ hk => trivial)⟩, ⟨by (try simp only [hl155004_1]); (try simp only [hl155004_2]); (try simp only [hl155004_43]); (with_reducible repeat (first | refine blk_drewN ?_ _ | refine blk_drew ?_ | refine blk_alloc ?_ _)); refine blk_put (cs := #[.int .i64 (wrap64 (Int.tmod (IntKind.u64.wrap (a0_0)) 50)), .int .i64 x155001_1, .int .i64 (wrap64 (Int.tmod (IntKind.u64.wrap (a0_2)) 50)), .int .i64 x155003_1, .slice (some ⟨go25, 0, none⟩) x155004_43.length co16]) ?_ 1 _ rfl; (with_reducible repeat (first | refine blk_drewN ?_ _ | refine blk_drew ?_ | refine blk_alloc ?_ _)); exact BK154.out⟩, ⟨by (try simp only [hl155004_1]); (try simp only [hl155004_2]); (try simp only [hl155004_43]); (with_reducible repeat (first | refine blk_drewN ?_ _ | refine blk_drew ?_ | refine blk_alloc ?_ _)); refine blk_far ?_ NB155_154.out _; (with_reducible repeat (first | refine blk_drewN ?_ _ | refine blk_drew ?_ | refine blk_alloc ?_ _)); exact BK155.out⟩, ⟨by repeat (first | (with_reducible first | exact HB.out | apply below_alloc | apply pw_below_drewN | apply below_drew1 | refine below_set ?_ GE154.out | refine below_set ?_ GE155.out) | exact HB.out)⟩⟩
                      ·rw [if_neg c64] at H
                       have c64b0 : (((rd_T42 x155004_43 x39_1).f0) == 45) = false := beq_eq_false_iff_ne.mpr c64
                       have c64b1 : (((rd_T42 x155004_43 x39_1).f0) != 45) = true := bne_iff_ne.mpr c64
                       try (have c64h0 := c64b0; simp only [hl155004_1, hl155004_2, hl155004_43] at c64h0)
                       try (have c64h1 := c64b1; simp only [hl155004_1, hl155004_2, hl155004_43] at c64h1)
                       have H' := Aside0.mk H
                       clear H
                       have p179 : 0 ≤ (x39_1 : Int) := of_decide_eq_true (by first | (with_reducible assumption) | assumption)
                       have q179 : x39_1 < (x155004_43.length : Int) := of_decide_eq_true (by first | (with_reducible assumption) | assumption)
                       obtain ⟨ad179, e179, hx179_0, hx179_1, hx179_2⟩ := at_T42 (Kd.R_reads' HO_155004.out).2.2 x39_1 p179 q179
                       obtain rfl : (⟨go25, 0, none⟩ : Addr) = ad179 := (by injection e179)
                       (first | simp only [add_plain] at hx179_0 | simp only [add_at] at hx179_0 | simp only [Addr.add, Nat.zero_add] at hx179_0 | skip)
                       (first | simp only [add_plain] at hx179_1 | simp only [add_at] at hx179_1 | simp only [Addr.add, Nat.zero_add] at hx179_1 | skip)
                       (first | simp only [add_plain] at hx179_2 | simp only [add_at] at hx179_2 | simp only [Addr.add, Nat.zero_add] at hx179_2 | skip)
                       replace p179 := eq_true p179
                       replace q179 := eq_true q179
                       have hnb67 := NB154_155.out
                       have hnc67 := NB155_154.out
                       have hcz68_0 : wc.cell? ⟨gb154, 0, none⟩ = some (.int .i64 (wrap64 (Int.tmod (IntKind.u64.wrap (a0_0)) 50))) := (blk_cell BK154.out 0).trans rfl
                       have hcz68_1 : wc.cell? ⟨gb154, 1, none⟩ = some (.int .i64 x155001_1) := (blk_cell BK154.out 1).trans rfl
                       have hcz68_2 : wc.cell? ⟨gb154, 2, none⟩ = some (.int .i64 (wrap64 (Int.tmod (IntKind.u64.wrap (a0_2)) 50))) := (blk_cell BK154.out 2).trans rfl
                       have hcz68_3 : wc.cell? ⟨gb154, 3, none⟩ = some (.int .i64 x155003_1) := (blk_cell BK154.out 3).trans rfl
                       have hcz68_4 : wc.cell? ⟨gb154, 4, none⟩ = some (.slice (some ⟨go25, 0, none⟩) x155004_43.length co16) := (blk_cell BK154.out 4).trans rfl
                       have hfz68_0 := blk_frozen BK154.out 0
                       have hfz68_1 := blk_frozen BK154.out 1
                       have hfz68_2 := blk_frozen BK154.out 2
                       have hfz68_3 := blk_frozen BK154.out 3
                       have hfz68_4 := blk_frozen BK154.out 4
                       have p181 : 0 ≤ (x39_1 : Int) := of_decide_eq_true (by first | (with_reducible assumption) | assumption)
                       have q181 : x39_1 < (x155004_43.length : Int) := of_decide_eq_true (by first | (with_reducible assumption) | assumption)
                       obtain ⟨ad181, e181, hx181_0, hx181_1, hx181_2⟩ := at_T42 (Kd.R_reads' HO_155004.out).2.2 x39_1 p181 q181
                       obtain rfl : (⟨go25, 0, none⟩ : Addr) = ad181 := (by injection e181)
                       (first | simp only [add_plain] at hx181_0 | simp only [add_at] at hx181_0 | simp only [Addr.add, Nat.zero_add] at hx181_0 | skip)
                       (first | simp only [add_plain] at hx181_1 | simp only [add_at] at hx181_1 | simp only [Addr.add, Nat.zero_add] at hx181_1 | skip)
                       (first | simp only [add_plain] at hx181_2 | simp only [add_at] at hx181_2 | simp only [Addr.add, Nat.zero_add] at hx181_2 | skip)
                       have hn181_0 : (⟨go25, 0, none⟩ : Addr).block ≠ gb154 := Kd.own_blk (Kd.R_ne HO_155004.out BK154.out (by decide))
                       replace hx181_0 := (cell_far (p := ⟨gb154, 1, none⟩) (by first | (rw [add_block]; exact hn181_0) | (show (Addr.add _ _).block ≠ _; rw [add_block]; exact hn181_0) | exact hn181_0) (.int .i64 (wrap64 (x155001_1 + 1)))).trans hx181_0
                       replace hx181_1 := (cell_far (p := ⟨gb154, 1, none⟩) (by first | (rw [add_block]; exact hn181_0) | (show (Addr.add _ _).block ≠ _; rw [add_block]; exact hn181_0) | exact hn181_0) (.int .i64 (wrap64 (x155001_1 + 1)))).trans hx181_1
                       replace hx181_2 := (cell_far (p := ⟨gb154, 1, none⟩) (by first | (rw [add_block]; exact hn181_0) | (show (Addr.add _ _).block ≠ _; rw [add_block]; exact hn181_0) | exact hn181_0) (.int .i64 (wrap64 (x155001_1 + 1)))).trans hx181_2
                       clear hn181_0
                       replace p181 := eq_true p181
                       replace q181 := eq_true q181
                       go_wp2
                       (try simp only [← hl155004_1, ← hl155004_2, ← hl155004_43])
                       go_roundg kj43
                       case measure => have := HK1.out; have := HK2.out; have := HJ43.out; omega
                       case rel => exact ⟨(wrap64 (x39_1 + 1)), (wrap64 (x155001_1 + 1)), (wrap64 (x155003_1 + 1)), (x155004_43), (by first | rfl | (simp; done) | (simp [*]; done)), H', ⟨by have := HK1.out; have := HK2.out; have := HJ43.out; omega⟩, ⟨by (try simp only [hl155004_1]); (try simp only [hl155004_2]); (try simp only [hl155004_43]); (with_reducible repeat (first | apply Kd.R_alloc | apply Kd.R_drewN | apply Kd.R_drew)); exact Kd.R_mono (Kd.R_far (p := ⟨gb154, 3, none⟩) (Kd.R_far (p := ⟨gb154, 1, none⟩) (Kd.R_types HO_155004.out BK154.out (by decide)) (fun _ hk => hk.2) (.int .i64 (wrap64 (x155001_1 + 1)))) (fun _ hk => hk.2) (.int .i64 (wrap64 (x155003_1 + 1)))) (fun _ hk => trivial)⟩, ⟨by (try simp only [hl155004_1]); (try simp only [hl155004_2]); (try simp only [hl155004_43]); (with_reducible repeat (first | refine blk_drewN ?_ _ | refine blk_drew ?_ | refine blk_alloc ?_ _)); refine blk_put (cs := #[.int .i64 (wrap64 (Int.tmod (IntKind.u64.wrap (a0_0)) 50)), .int .i64 (wrap64 (x155001_1 + 1)), .int .i64 (wrap64 (Int.tmod (IntKind.u64.wrap (a0_2)) 50)), .int .i64 x155003_1, .slice (some ⟨go25, 0, none⟩) x155004_43.length co16]) ?_ 3 _ rfl; (with_reducible repeat (first | refine blk_drewN ?_ _ | refine blk_drew ?_ | refine blk_alloc ?_ _)); refine blk_put (cs := #[.int .i64 (wrap64 (Int.tmod (IntKind.u64.wrap (a0_0)) 50)), .int .i64 x155001_1, .int .i64 (wrap64 (Int.tmod (IntKind.u64.wrap (a0_2)) 50)), .int .i64 x155003_1, .slice (some ⟨go25, 0, none⟩) x155004_43.length co16]) ?_ 1 _ rfl; (with_reducible repeat (first | refine blk_drewN ?_ _ | refine blk_drew ?_ | refine blk_alloc ?_ _)); exact BK154.out⟩, ⟨by (try simp only [hl155004_1]); (try simp only [hl155004_2]); (try simp only [hl155004_43]); (with_reducible repeat (first | refine blk_drewN ?_ _ | refine blk_drew ?_ | refine blk_alloc ?_ _)); refine blk_far ?_ NB155_154.out _; (with_reducible repeat (first | refine blk_drewN ?_ _ | refine blk_drew ?_ | refine blk_alloc ?_ _)); refine blk_far ?_ NB155_154.out _; (with_reducible repeat (first | refine blk_drewN ?_ _ | refine blk_drew ?_ | refine blk_alloc ?_ _)); exact BK155.out⟩, ⟨by repeat (first | (with_reducible first | exact HB.out | apply below_alloc | apply pw_below_drewN | apply below_drew1 | refine below_set ?_ GE154.out | refine below_set ?_ GE155.out) | exact HB.out)⟩⟩
                    ·rw [if_neg c59] at H
                     exact absurd H (by simp)
                   ·rw [if_neg c58] at H
                    exact absurd H (by simp)
                ·rw [if_neg c42] at H
                 exact absurd H (by simp)
               ·rw [if_neg c41] at H
                exact absurd H (by simp)
           ·rw [if_neg c23] at H
            exact absurd H (by simp)
          ·rw [if_neg c22] at H
           exact absurd H (by simp)
         ·rw [if_neg c20] at H
          exact absurd H (by simp)
        ·rw [if_neg c19] at H
         exact absurd H (by simp)
       ·rw [if_neg c18] at H
        have c18b0 : decide (x39_1 < (y163.length : Int)) = false := decide_eq_false c18
        clear c18
        try (have c18h0 := c18b0; simp only [hl155004_1] at c18h0)
        simp only [Option.some.injEq, Prod.mk.injEq] at H
        obtain ⟨rfl, rfl, rfl, rfl, rfl⟩ := H
        have hnb69 := NB154_155.out
        have hnc69 := NB155_154.out
        have hcz70_0 : wr.cell? ⟨gb154, 0, none⟩ = some (.int .i64 (wrap64 (Int.tmod (IntKind.u64.wrap (a0_0)) 50))) := (blk_cell BK154.out 0).trans rfl
        have hcz70_1 : wr.cell? ⟨gb154, 1, none⟩ = some (.int .i64 x155001_1) := (blk_cell BK154.out 1).trans rfl
        have hcz70_2 : wr.cell? ⟨gb154, 2, none⟩ = some (.int .i64 (wrap64 (Int.tmod (IntKind.u64.wrap (a0_2)) 50))) := (blk_cell BK154.out 2).trans rfl
        have hcz70_3 : wr.cell? ⟨gb154, 3, none⟩ = some (.int .i64 x155003_1) := (blk_cell BK154.out 3).trans rfl
        have hcz70_4 : wr.cell? ⟨gb154, 4, none⟩ = some (.slice Ao16 x155004_1.length co16) := (blk_cell BK154.out 4).trans rfl
        have hfz70_0 := blk_frozen BK154.out 0
        have hfz70_1 := blk_frozen BK154.out 1
        have hfz70_2 := blk_frozen BK154.out 2
        have hfz70_3 := blk_frozen BK154.out 3
        have hfz70_4 := blk_frozen BK154.out 4
        have hcz71_0 : wr.cell? ⟨gb155, 0, none⟩ = some (.int .i64 0) := (blk_cell BK155.out 0).trans rfl
        have hcz71_1 : wr.cell? ⟨gb155, 1, none⟩ = some (.int .i64 0) := (blk_cell BK155.out 1).trans rfl
        have hcz71_2 : wr.cell? ⟨gb155, 2, none⟩ = some (.int .i64 0) := (blk_cell BK155.out 2).trans rfl
        have hcz71_3 : wr.cell? ⟨gb155, 3, none⟩ = some (.int .i64 0) := (blk_cell BK155.out 3).trans rfl
        have hcz71_4 : wr.cell? ⟨gb155, 4, none⟩ = some (.slice none 0 0) := (blk_cell BK155.out 4).trans rfl
        have hfz71_0 := blk_frozen BK155.out 0
        have hfz71_1 := blk_frozen BK155.out 1
        have hfz71_2 := blk_frozen BK155.out 2
        have hfz71_3 := blk_frozen BK155.out 3
        have hfz71_4 := blk_frozen BK155.out 4
        go_wp2
        refine bodyPost_ret (results_cell_row rfl _ _ gb155 26 #[.int .i64 (wrap64 (Int.tmod (IntKind.u64.wrap (a0_0)) 50)), .int .i64 x155001_1, .int .i64 (wrap64 (Int.tmod (IntKind.u64.wrap (a0_2)) 50)), .int .i64 x155003_1, .slice Ao16 x155004_1.length co16] (0, 0) _ rfl (by (with_reducible repeat (first | refine blk_drewN ?_ _ | refine blk_drew ?_ | refine blk_alloc ?_ _)); refine blk_put (cs := #[.int .i64 (wrap64 (Int.tmod (IntKind.u64.wrap (a0_0)) 50)), .int .i64 x155001_1, .int .i64 (wrap64 (Int.tmod (IntKind.u64.wrap (a0_2)) 50)), .int .i64 x155003_1, .slice none 0 0]) ?_ 4 _ rfl; (with_reducible repeat (first | refine blk_drewN ?_ _ | refine blk_drew ?_ | refine blk_alloc ?_ _)); refine blk_put (cs := #[.int .i64 (wrap64 (Int.tmod (IntKind.u64.wrap (a0_0)) 50)), .int .i64 x155001_1, .int .i64 (wrap64 (Int.tmod (IntKind.u64.wrap (a0_2)) 50)), .int .i64 0, .slice none 0 0]) ?_ 3 _ rfl; (with_reducible repeat (first | refine blk_drewN ?_ _ | refine blk_drew ?_ | refine blk_alloc ?_ _)); refine blk_put (cs := #[.int .i64 (wrap64 (Int.tmod (IntKind.u64.wrap (a0_0)) 50)), .int .i64 x155001_1, .int .i64 0, .int .i64 0, .slice none 0 0]) ?_ 2 _ rfl; (with_reducible repeat (first | refine blk_drewN ?_ _ | refine blk_drew ?_ | refine blk_alloc ?_ _)); refine blk_put (cs := #[.int .i64 (wrap64 (Int.tmod (IntKind.u64.wrap (a0_0)) 50)), .int .i64 0, .int .i64 0, .int .i64 0, .slice none 0 0]) ?_ 1 _ rfl; (with_reducible repeat (first | refine blk_drewN ?_ _ | refine blk_drew ?_ | refine blk_alloc ?_ _)); refine blk_put (cs := #[.int .i64 0, .int .i64 0, .int .i64 0, .int .i64 0, .slice none 0 0]) ?_ 0 _ rfl; (with_reducible repeat (first | refine blk_drewN ?_ _ | refine blk_drew ?_ | refine blk_alloc ?_ _)); exact BK155.out) Tryd.underlying26 rfl (by kernel_rfl)) rfl ?_
        exact ⟨_, by first | rfl | (simp [errW_none, errW_some] <;> rfl) | (simp only [← hji3]; first | rfl | (simp [errW_none, errW_some] <;> rfl)) | (simp [*, errW_none, errW_some] <;> rfl), by (with_reducible repeat (first | apply Kd.R_alloc | apply Kd.R_drewN | apply Kd.R_drew)); exact Kd.R_mono (Kd.R_far (p := ⟨gb155, 4, none⟩) (Kd.R_far (p := ⟨gb155, 3, none⟩) (Kd.R_far (p := ⟨gb155, 2, none⟩) (Kd.R_far (p := ⟨gb155, 1, none⟩) (Kd.R_far (p := ⟨gb155, 0, none⟩) (Kd.R_types HO_155004.out BK155.out (by decide)) (fun _ hk => hk.2) (.int .i64 (wrap64 (Int.tmod (IntKind.u64.wrap (a0_0)) 50)))) (fun _ hk => hk.2) (.int .i64 x155001_1)) (fun _ hk => hk.2) (.int .i64 (wrap64 (Int.tmod (IntKind.u64.wrap (a0_2)) 50)))) (fun _ hk => hk.2) (.int .i64 x155003_1)) (fun _ hk => hk.2) (.slice Ao16 x155004_1.length co16)) (fun _ hk => trivial), by repeat (first | (with_reducible first | exact HB.out | apply below_alloc | apply pw_below_drewN | apply below_drew1 | refine below_set ?_ GE154.out | refine below_set ?_ GE155.out) | exact HB.out)⟩
    ·replace c7 := Bool.eq_false_iff.mpr c7
     subst c7
     have H1 : (some (a0_0, a0_1, a0_2, a0_3, y163)) = some (r1, r2, r3, r4, r5) := by rw [if_neg (show ¬ (false = true) by decide)] at H; exact H
     clear H
     have H := H1
     clear H1
     simp only [Option.some.injEq, Prod.mk.injEq] at H
     obtain ⟨rfl, rfl, rfl, rfl, rfl⟩ := H
     go_enter Tryd.func11, Tryd.ntmps11
     go_wp2_with (first | ((with_reducible refine gate_dst (N := 2) rfl ?_); (try (refine gate_guard (by rfl) ?_; dsimp only)); refine box_event ?hg (N := 2) ?hd (cs := #[.int .i64 a0_0, .int .i64 a0_1, .int .i64 a0_2, .int .i64 a0_3, .slice A0_4 l0_4.length c0_4]) (t := 26) ?hr ?_; (case hd => rfl); (case hg => rfl); (case hr => first | (go_simp; done) | (go_simp; rfl)); intro gb154 hg w72 hbox hb; have n0_ := Aside0.mk (below_step (by repeat (first | (with_reducible first | exact HB.out | apply below_alloc | apply pw_below_drewN | apply below_drew1) | exact HB.out)) hb); have n1_ := Aside0.mk (hbox); have n2_ := Aside0.mk ((by rw [hg]; exact (below_size (by repeat (first | (with_reducible first | exact HB.out | apply below_alloc | apply pw_below_drewN | apply below_drew1) | exact HB.out))) : w.heap.size ≤ gb154)); have n3_ := Aside0.mk ((by rw [hg]; exact (below_size (by repeat (first | (with_reducible first | exact HB.out | apply below_alloc | apply pw_below_drewN | apply below_drew1) | exact HB.out))) : w.heap.size ≤ gb154)); clear HB; have HB := n0_; have BK154 := n1_; have GW154 := n2_; have GE154 := n3_; clear n0_ n1_ n2_ n3_; clear hb hbox hg) | ((with_reducible refine gate_dst (N := 4) rfl ?_); (try (refine gate_guard (by rfl) ?_; dsimp only)); refine box_event ?hg (N := 4) ?hd (cs := #[.int .i64 0, .int .i64 0, .int .i64 0, .int .i64 0, .slice none 0 0]) (t := 26) ?hr ?_; (case hd => rfl); (case hg => rfl); (case hr => first | (go_simp; done) | (go_simp; rfl)); intro gb155 hg w73 hbox hb; have n0_ := Aside0.mk (blk_below (g := gb154) (o := .cells #[.int .i64 a0_0, .int .i64 a0_1, .int .i64 a0_2, .int .i64 a0_3, .slice A0_4 l0_4.length c0_4] 26 (0, 0)) (by (with_reducible repeat (first | refine blk_drewN ?_ _ | refine blk_drew ?_ | refine blk_alloc ?_ _)); exact BK154.out) hb); have n1_ := Aside0.mk (below_step (by repeat (first | (with_reducible first | exact HB.out | apply below_alloc | apply pw_below_drewN | apply below_drew1 | refine below_set ?_ GE154.out) | exact HB.out)) hb); have n2_ := Aside0.mk (hbox); have n3_ := Aside0.mk ((by rw [hg]; exact (below_size (by repeat (first | (with_reducible first | exact HB.out | apply below_alloc | apply pw_below_drewN | apply below_drew1 | refine below_set ?_ GE154.out) | exact HB.out))) : w.heap.size ≤ gb155)); have n4_ := Aside0.mk ((by rw [hg]; exact (below_size (by repeat (first | (with_reducible first | exact HB.out | apply below_alloc | apply pw_below_drewN | apply below_drew1 | refine below_set ?_ GE154.out) | exact HB.out))) : w.heap.size ≤ gb155)); have n5_ := Aside0.mk ((by rw [hg]; exact Nat.ne_of_lt (blk_lt (g := gb154) (o := .cells #[.int .i64 a0_0, .int .i64 a0_1, .int .i64 a0_2, .int .i64 a0_3, .slice A0_4 l0_4.length c0_4] 26 (0, 0)) (by (with_reducible repeat (first | refine blk_drewN ?_ _ | refine blk_drew ?_ | refine blk_alloc ?_ _)); exact BK154.out)) : gb154 ≠ gb155)); have n6_ := Aside0.mk ((by rw [hg]; exact Nat.ne_of_gt (blk_lt (g := gb154) (o := .cells #[.int .i64 a0_0, .int .i64 a0_1, .int .i64 a0_2, .int .i64 a0_3, .slice A0_4 l0_4.length c0_4] 26 (0, 0)) (by (with_reducible repeat (first | refine blk_drewN ?_ _ | refine blk_drew ?_ | refine blk_alloc ?_ _)); exact BK154.out)) : gb155 ≠ gb154)); clear BK154; clear HB; have BK154 := n0_; have HB := n1_; have BK155 := n2_; have GW155 := n3_; have GE155 := n4_; have NB154_155 := n5_; have NB155_154 := n6_; clear n0_ n1_ n2_ n3_ n4_ n5_ n6_; clear hb hbox hg) | ((with_reducible refine gate_dst (N := 9) rfl ?_); (try (refine gate_guard (by rfl) ?_; dsimp only)); refine Kd.R_lit k42 _ 42 ?hg (N := 9) ?hd (xs := ([] : List (S42))) (inner := []) (ok := fun _ => True) (okp := fun _ => True) ?hr ?hp (fun _ hk => hk) trivial (Below.refl _ _) (Nat.le_refl _) (by simp) ?_; (case hd => rfl); (case hg => rfl); (case hr => first | (go_simp; done) | (go_simp; rfl)); (case hp => exact (Reps.none _ _)); intro v157 w74 ho75 hb hg_ hnew_; clear hg_ hnew_; (first | rw [← Ny156.out] at ho75 | (simp only [Int.reduceToNat] at ho75; rw [← Ny156.out] at ho75)); have n0_ := Aside0.mk (Kd.R_lower ho75 (below_size (by repeat (first | (with_reducible first | exact HB.out | apply below_alloc | apply pw_below_drewN | apply below_drew1 | refine below_set ?_ GE154.out | refine below_set ?_ GE155.out) | exact HB.out)))); have n1_ := Aside0.mk (blk_below (g := gb154) (o := .cells #[.int .i64 a0_0, .int .i64 a0_1, .int .i64 a0_2, .int .i64 a0_3, .slice A0_4 l0_4.length c0_4] 26 (0, 0)) (by (with_reducible repeat (first | refine blk_drewN ?_ _ | refine blk_drew ?_ | refine blk_alloc ?_ _)); exact BK154.out) hb); have n2_ := Aside0.mk (blk_below (g := gb155) (o := .cells #[.int .i64 0, .int .i64 0, .int .i64 0, .int .i64 0, .slice none 0 0] 26 (0, 0)) (by (with_reducible repeat (first | refine blk_drewN ?_ _ | refine blk_drew ?_ | refine blk_alloc ?_ _)); exact BK155.out) hb); have n3_ := Aside0.mk (below_step (by repeat (first | (with_reducible first | exact HB.out | apply below_alloc | apply pw_below_drewN | apply below_drew1 | refine below_set ?_ GE154.out | refine below_set ?_ GE155.out) | exact HB.out)) hb); clear BK154; clear BK155; clear HB; have HO158 := n0_; have BK154 := n1_; have BK155 := n2_; have HB := n3_; clear n0_ n1_ n2_ n3_; clear hb ho75; have hnb76 := NB154_155.out; have hnc76 := NB155_154.out; have hcz77_0 : w74.cell? ⟨gb154, 0, none⟩ = some (.int .i64 a0_0) := (blk_cell BK154.out 0).trans rfl; have hcz77_1 : w74.cell? ⟨gb154, 1, none⟩ = some (.int .i64 a0_1) := (blk_cell BK154.out 1).trans rfl; have hcz77_2 : w74.cell? ⟨gb154, 2, none⟩ = some (.int .i64 a0_2) := (blk_cell BK154.out 2).trans rfl; have hcz77_3 : w74.cell? ⟨gb154, 3, none⟩ = some (.int .i64 a0_3) := (blk_cell BK154.out 3).trans rfl; have hcz77_4 : w74.cell? ⟨gb154, 4, none⟩ = some (.slice A0_4 l0_4.length c0_4) := (blk_cell BK154.out 4).trans rfl; have hfz77_0 := blk_frozen BK154.out 0; have hfz77_1 := blk_frozen BK154.out 1; have hfz77_2 := blk_frozen BK154.out 2; have hfz77_3 := blk_frozen BK154.out 3; have hfz77_4 := blk_frozen BK154.out 4; have q78 : ((ji3) : Int) ≤ ((l0_4.length : Int) : Int) := of_decide_eq_true (by first | (with_reducible assumption) | assumption); obtain ⟨i078, hi078, _, hsz78, _⟩ := info_parts info42; have hroom78 : l0_4.length ≤ c0_4 := HC0_4.out; have hC78 : Kd.C k42 _ A0_4 l0_4.length l0_4 := HR0_4.out; have hcut78 := cut_to (P := Tryd.prog) 24 42 .i64 Tryd.underlying24 hi078 A0_4 l0_4.length c0_4 (ji3) (of_decide_eq_true (by first | (with_reducible assumption) | assumption)) q78 hroom78; have hr78 := Kd.C_take (m := ((ji3) : Int).toNat) hC78 (by omega); have hy78 : y159.length = ((ji3) : Int).toNat := (by rw [Ny159.out, List.length_take]; omega); rw [← Ny159.out] at hr78; rw [← hy78] at hcut78; have HR162 := Aside0.mk hr78; have HC162 := Aside0.mk (show y159.length ≤ c0_4 from by omega); clear hr78 hC78 hroom78 hi078 hsz78; have KY78 := Aside0.mk hy78; clear hy78; replace q78 := eq_true q78) | ((with_reducible refine gate_builtin (b := .append) (xs := #[.tmp 9, .tmp 16]) rfl ?_); (try (refine gate_guard (by rfl) ?_; dsimp only)); at_builtin; refine Kd.R_append_rows k42 (w0 := w) w.heap.size rfl (.tmp 9) (.tmp 16) 24 42 (.agg #[(.int .u8 0), (.string ⟨#[]⟩), (.bool false)]) 32 rfl Tryd.underlying24 info42 rfl (by decide) (by omega) v157 y156 y159 _ _ _ (fun _ => True) (fun _ => False) rfl rfl ?aO ?aR (fun _ _ h => h) (fun _ h => h.elim) ?aF ?aB ?aS ?aL ?_; (case aR => repeat (first | exact (Kd.C_below HR162.out HB.out) | (with_reducible refine Kd.C_alloc ?_ _) | (with_reducible refine Kd.C_drewN ?_ _) | (with_reducible refine Kd.C_drew ?_))); (case aB => exact (by repeat (first | (with_reducible first | exact HB.out | apply below_alloc | apply pw_below_drewN | apply below_drew1 | refine below_set ?_ GE154.out | refine below_set ?_ GE155.out) | exact HB.out))); (case aF => exact (fun _ _ => trivial)); (case aO => exact (by (with_reducible repeat (first | apply Kd.R_alloc | apply Kd.R_drewN | apply Kd.R_drew)); exact HO158.out)); (case aS => exact (below_size (by repeat (first | (with_reducible first | exact HB.out | apply below_alloc | apply pw_below_drewN | apply below_drew1 | refine below_set ?_ GE154.out | refine below_set ?_ GE155.out) | exact HB.out)))); (case aL => have := LMc6.out; omega); intro v164 w79 ho hb hg hat; rw [← Ny163.out] at ho; have n0_ := Aside0.mk (blk_grown (g := gb154) (o := .cells #[.int .i64 a0_0, .int .i64 a0_1, .int .i64 a0_2, .int .i64 a0_3, .slice A0_4 l0_4.length c0_4] 26 (0, 0)) (by (with_reducible repeat (first | refine blk_drewN ?_ _ | refine blk_drew ?_ | refine blk_alloc ?_ _)); exact BK154.out) hg (Kd.R_ne HO158.out BK154.out (by decide))); have n1_ := Aside0.mk (blk_grown (g := gb155) (o := .cells #[.int .i64 0, .int .i64 0, .int .i64 0, .int .i64 0, .slice none 0 0] 26 (0, 0)) (by (with_reducible repeat (first | refine blk_drewN ?_ _ | refine blk_drew ?_ | refine blk_alloc ?_ _)); exact BK155.out) hg (Kd.R_ne HO158.out BK155.out (by decide))); have n2_ := Aside0.mk (hb); have n3_ := Aside0.mk (ho); clear BK154; clear BK155; clear HB; clear HO158; have BK154 := n0_; have BK155 := n1_; have HB := n2_; have HO165 := n3_; clear n0_ n1_ n2_ n3_; clear ho hb hg hat; obtain ⟨Ao80, co80, eo80⟩ := Kd.R_slice HO165.out; subst eo80; have hcz81_0 : w79.cell? ⟨gb154, 0, none⟩ = some (.int .i64 a0_0) := (blk_cell BK154.out 0).trans rfl; have hcz81_1 : w79.cell? ⟨gb154, 1, none⟩ = some (.int .i64 a0_1) := (blk_cell BK154.out 1).trans rfl; have hcz81_2 : w79.cell? ⟨gb154, 2, none⟩ = some (.int .i64 a0_2) := (blk_cell BK154.out 2).trans rfl; have hcz81_3 : w79.cell? ⟨gb154, 3, none⟩ = some (.int .i64 a0_3) := (blk_cell BK154.out 3).trans rfl; have hcz81_4 : w79.cell? ⟨gb154, 4, none⟩ = some (.slice A0_4 l0_4.length c0_4) := (blk_cell BK154.out 4).trans rfl; have hfz81_0 := blk_frozen BK154.out 0; have hfz81_1 := blk_frozen BK154.out 1; have hfz81_2 := blk_frozen BK154.out 2; have hfz81_3 := blk_frozen BK154.out 3; have hfz81_4 := blk_frozen BK154.out 4; have hcz82_0 : w79.cell? ⟨gb155, 0, none⟩ = some (.int .i64 0) := (blk_cell BK155.out 0).trans rfl; have hcz82_1 : w79.cell? ⟨gb155, 1, none⟩ = some (.int .i64 0) := (blk_cell BK155.out 1).trans rfl; have hcz82_2 : w79.cell? ⟨gb155, 2, none⟩ = some (.int .i64 0) := (blk_cell BK155.out 2).trans rfl; have hcz82_3 : w79.cell? ⟨gb155, 3, none⟩ = some (.int .i64 0) := (blk_cell BK155.out 3).trans rfl; have hcz82_4 : w79.cell? ⟨gb155, 4, none⟩ = some (.slice none 0 0) := (blk_cell BK155.out 4).trans rfl; have hfz82_0 := blk_frozen BK155.out 0; have hfz82_1 := blk_frozen BK155.out 1; have hfz82_2 := blk_frozen BK155.out 2; have hfz82_3 := blk_frozen BK155.out 3; have hfz82_4 := blk_frozen BK155.out 4))
     refine bodyPost_ret (results_cell_row rfl _ _ gb155 26 #[.int .i64 a0_0, .int .i64 a0_1, .int .i64 a0_2, .int .i64 a0_3, .slice Ao80 y163.length co80] (0, 0) _ rfl (by (with_reducible repeat (first | refine blk_drewN ?_ _ | refine blk_drew ?_ | refine blk_alloc ?_ _)); refine blk_put (cs := #[.int .i64 a0_0, .int .i64 a0_1, .int .i64 a0_2, .int .i64 a0_3, .slice none 0 0]) ?_ 4 _ rfl; (with_reducible repeat (first | refine blk_drewN ?_ _ | refine blk_drew ?_ | refine blk_alloc ?_ _)); refine blk_put (cs := #[.int .i64 a0_0, .int .i64 a0_1, .int .i64 a0_2, .int .i64 0, .slice none 0 0]) ?_ 3 _ rfl; (with_reducible repeat (first | refine blk_drewN ?_ _ | refine blk_drew ?_ | refine blk_alloc ?_ _)); refine blk_put (cs := #[.int .i64 a0_0, .int .i64 a0_1, .int .i64 0, .int .i64 0, .slice none 0 0]) ?_ 2 _ rfl; (with_reducible repeat (first | refine blk_drewN ?_ _ | refine blk_drew ?_ | refine blk_alloc ?_ _)); refine blk_put (cs := #[.int .i64 a0_0, .int .i64 0, .int .i64 0, .int .i64 0, .slice none 0 0]) ?_ 1 _ rfl; (with_reducible repeat (first | refine blk_drewN ?_ _ | refine blk_drew ?_ | refine blk_alloc ?_ _)); refine blk_put (cs := #[.int .i64 0, .int .i64 0, .int .i64 0, .int .i64 0, .slice none 0 0]) ?_ 0 _ rfl; (with_reducible repeat (first | refine blk_drewN ?_ _ | refine blk_drew ?_ | refine blk_alloc ?_ _)); refine blk_far ?_ NB155_154.out _; (with_reducible repeat (first | refine blk_drewN ?_ _ | refine blk_drew ?_ | refine blk_alloc ?_ _)); exact BK155.out) Tryd.underlying26 rfl (by kernel_rfl)) rfl ?_
     exact ⟨_, by first | rfl | (simp [errW_none, errW_some] <;> rfl) | (simp only [← hji3]; first | rfl | (simp [errW_none, errW_some] <;> rfl)) | (simp [*, errW_none, errW_some] <;> rfl), by (with_reducible repeat (first | apply Kd.R_alloc | apply Kd.R_drewN | apply Kd.R_drew)); exact Kd.R_mono (Kd.R_far (p := ⟨gb155, 4, none⟩) (Kd.R_far (p := ⟨gb155, 3, none⟩) (Kd.R_far (p := ⟨gb155, 2, none⟩) (Kd.R_far (p := ⟨gb155, 1, none⟩) (Kd.R_far (p := ⟨gb155, 0, none⟩) (Kd.R_far (p := ⟨gb154, 4, none⟩) (Kd.R_types (Kd.R_types HO165.out BK154.out (by decide)) BK155.out (by decide)) (fun _ hk => hk.1.2) (.slice Ao80 y163.length co80)) (fun _ hk => hk.2) (.int .i64 a0_0)) (fun _ hk => hk.2) (.int .i64 a0_1)) (fun _ hk => hk.2) (.int .i64 a0_2)) (fun _ hk => hk.2) (.int .i64 a0_3)) (fun _ hk => hk.2) (.slice Ao80 y163.length co80)) (fun _ hk => trivial), by repeat (first | (with_reducible first | exact HB.out | apply below_alloc | apply pw_below_drewN | apply below_drew1 | refine below_set ?_ GE154.out | refine below_set ?_ GE155.out) | exact HB.out)⟩
   ·rw [if_neg c6] at H
    exact absurd H (by simp)
  ·rw [if_neg c5] at H
   exact absurd H (by simp)
 ·rw [if_neg c4] at H
  exact absurd H (by simp)

end Go.Proofs.YthkcghiagnddiaaDoor.X
