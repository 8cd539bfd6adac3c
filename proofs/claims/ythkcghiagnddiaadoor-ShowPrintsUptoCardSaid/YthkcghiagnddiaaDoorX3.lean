-- Printed by px.sh (a patched copy of the kit's print): the walks of Go functions, out of the translation.
import Derived.Test.YthkcghiagnddiaaDoorX0
namespace Go.Proofs.YthkcghiagnddiaaDoor.X
open Go.RowKit Go.Proofs.YthkcghiagnddiaaDoorW.PrintWords Go.Proofs.YthkcghiagnddiaaDoorW.PrintLast Go.Proofs.YthkcghiagnddiaaDoorW.PrintMore
attribute [local go_sem] max2_int min2_int max_two min_two max_three min_three max_four min_four   -- for this text's walks alone
set_option linter.unusedVariables false
set_option linter.unusedSimpArgs false

/-! ### strconv_Itoa: function 74 -/
def strconv_Itoa.f (a0 : Int) : Option (ByteArray) := if -9223372036854775808 ≤ a0 ∧ a0 ≤ 9223372036854775807 then some ⟨(Lib.itoa a0).toArray⟩ else none
theorem strconv_Itoa.calls (a0 : Int) (r : ByteArray) (w : World) (hG_GPow : GPow w) (h : strconv_Itoa.f a0 = some r) : Calls Tryd.prog 74 #[.int .i64 a0] w fun e w' => e = .returned (.string r) ∧ Below w.heap.size w w' := by
 unfold strconv_Itoa.f at h
 split at h
 ·rename_i hb
  have h' := Option.some.inj h
  subst h'
  exact (Tryd.strconv_Itoa a0 hb.1 hb.2 w hG_GPow).mono fun e w' ⟨he, k, os, hw⟩ => ⟨he, by rw [hw]; exact Lib.below_grow _ _ (Nat.le_refl _) _ _⟩
 ·simp at h

/-! ### show_side: function 51 -/
def show_side.f (a0 : ByteArray) (a1 : Int) (a2 : Int) : Option (ByteArray) := if a2 > 0 then ((strconv_Itoa.f (wrap64 (a1 + 1))).bind fun t114 => (if a0.size + t114.size ≤ 9223372036854775807 then (if (a0 ++ t114).size + 1 ≤ 9223372036854775807 then ((strconv_Itoa.f a2).bind fun t115 => (if ((a0 ++ t114) ++ (⟨#[44]⟩ : ByteArray)).size + t115.size ≤ 9223372036854775807 then (some (((a0 ++ t114) ++ (⟨#[44]⟩ : ByteArray)) ++ t115)) else (none))) else (none)) else (none))) else ((strconv_Itoa.f a1).bind fun t116 => (if a0.size + t116.size ≤ 9223372036854775807 then (if (a0 ++ t116).size + 1 ≤ 9223372036854775807 then ((strconv_Itoa.f a2).bind fun t117 => (if ((a0 ++ t116) ++ (⟨#[44]⟩ : ByteArray)).size + t117.size ≤ 9223372036854775807 then (some (((a0 ++ t116) ++ (⟨#[44]⟩ : ByteArray)) ++ t117)) else (none))) else (none)) else (none)))
set_option maxHeartbeats 8000000 in
set_option maxRecDepth 100000 in
theorem show_side.calls (a0 : ByteArray) (a1 : Int) (a2 : Int) (r : ByteArray) (w : World) (hG_GPow : GPow w) (h : show_side.f a0 a1 a2 = some r) :
  Calls Tryd.prog 51 #[.string a0, .int .i64 a1, .int .i64 a2] w fun e w' => e = .returned (.string r) ∧ Below w.heap.size w w' := by
 have HG_GPow := Aside0.mk hG_GPow
 clear hG_GPow
 have HB := Aside0.mk (Below.refl w.heap.size w)
 have H : (if a2 > 0 then ((strconv_Itoa.f (wrap64 (a1 + 1))).bind fun t114 => (if a0.size + t114.size ≤ 9223372036854775807 then (if (a0 ++ t114).size + 1 ≤ 9223372036854775807 then ((strconv_Itoa.f a2).bind fun t115 => (if ((a0 ++ t114) ++ (⟨#[44]⟩ : ByteArray)).size + t115.size ≤ 9223372036854775807 then (some (((a0 ++ t114) ++ (⟨#[44]⟩ : ByteArray)) ++ t115)) else (none))) else (none)) else (none))) else ((strconv_Itoa.f a1).bind fun t116 => (if a0.size + t116.size ≤ 9223372036854775807 then (if (a0 ++ t116).size + 1 ≤ 9223372036854775807 then ((strconv_Itoa.f a2).bind fun t117 => (if ((a0 ++ t116) ++ (⟨#[44]⟩ : ByteArray)).size + t117.size ≤ 9223372036854775807 then (some (((a0 ++ t116) ++ (⟨#[44]⟩ : ByteArray)) ++ t117)) else (none))) else (none)) else (none)))) = some r := h
 clear h
 by_cases c4 : a2 > 0
 ·rw [if_pos c4] at H
  have c4b0 : decide (0 < a2) = true := decide_eq_true c4
  clear c4
  replace H := Option.bind_eq_some_iff.mp H
  obtain ⟨t114, A50, H⟩ := H
  replace H : (if a0.size + t114.size ≤ 9223372036854775807 then (if (a0 ++ t114).size + 1 ≤ 9223372036854775807 then ((strconv_Itoa.f a2).bind fun t115 => (if ((a0 ++ t114) ++ (⟨#[44]⟩ : ByteArray)).size + t115.size ≤ 9223372036854775807 then (some (((a0 ++ t114) ++ (⟨#[44]⟩ : ByteArray)) ++ t115)) else (none))) else (none)) else (none)) = some r := H
  have A5 := Aside0.mk A50
  clear A50
  by_cases c6 : a0.size + t114.size ≤ 9223372036854775807
  ·rw [if_pos c6] at H
   have c6b0 := eq_true c6
   have c6b1 : decide (a0.size + t114.size ≤ 9223372036854775807) = true := decide_eq_true c6
   try have c6b2 : (9223372036854775807 < a0.size + t114.size) = False := eq_false (Nat.not_lt.2 c6)
   by_cases c7 : (a0 ++ t114).size + 1 ≤ 9223372036854775807
   ·rw [if_pos c7] at H
    have c7b0 := eq_true c7
    have c7b1 : decide ((a0 ++ t114).size + 1 ≤ 9223372036854775807) = true := decide_eq_true c7
    try have c7b2 : (9223372036854775807 < (a0 ++ t114).size + 1) = False := eq_false (Nat.not_lt.2 c7)
    try have c7b3 : (9223372036854775807 < a0.size + t114.size + 1) = False := eq_false (fun h_ => by have z_ := c7; simp only [ByteArray.size_append', ] at z_; omega)
    replace H := Option.bind_eq_some_iff.mp H
    obtain ⟨t115, A80, H⟩ := H
    replace H : (if ((a0 ++ t114) ++ (⟨#[44]⟩ : ByteArray)).size + t115.size ≤ 9223372036854775807 then (some (((a0 ++ t114) ++ (⟨#[44]⟩ : ByteArray)) ++ t115)) else (none)) = some r := H
    have A8 := Aside0.mk A80
    clear A80
    by_cases c9 : ((a0 ++ t114) ++ (⟨#[44]⟩ : ByteArray)).size + t115.size ≤ 9223372036854775807
    ·rw [if_pos c9] at H
     have c9b0 := eq_true c9
     have c9b1 : decide (((a0 ++ t114) ++ (⟨#[44]⟩ : ByteArray)).size + t115.size ≤ 9223372036854775807) = true := decide_eq_true c9
     try have c9b2 : (9223372036854775807 < ((a0 ++ t114) ++ (⟨#[44]⟩ : ByteArray)).size + t115.size) = False := eq_false (Nat.not_lt.2 c9)
     try have c9b3 : (9223372036854775807 < a0.size + t114.size + 1 + t115.size) = False := eq_false (fun h_ => by have z_ := c9; simp only [ByteArray.size_append', (show (⟨#[44]⟩ : ByteArray).size = 1 from rfl)] at z_; omega)
     obtain rfl := Option.some.inj H
     go_enter Tryd.func51, Tryd.ntmps51
     go_wp2_with (first | ((with_reducible refine gate_callee (f := 74) rfl ?_); refine goesL_ (some 13) rfl rfl Tryd.func74 (by kernel_rfl) rfl #[.int .i64 (wrap64 (a1 + 1))] rfl (by (try simp only [List.map_toArray, List.map_cons, List.map_nil]); first | done | rfl | (simp only [List.length_drop, List.length_take]; rfl)) ?_; (with_reducible refine (strconv_Itoa.calls (wrap64 (a1 + 1)) t114 _ ?side1 A5.out).mono ?_); (case side1 => exact GPow.below HG_GPow.out (by repeat (first | (with_reducible first | exact HB.out | apply below_alloc | apply pw_below_drewN | apply below_drew1) | exact HB.out))); rintro e w10 ⟨rfl, hb⟩; refine ⟨_, rfl, ?_⟩; have n0_ := Aside0.mk (below_step (by repeat (first | (with_reducible first | exact HB.out | apply below_alloc | apply pw_below_drewN | apply below_drew1) | exact HB.out)) hb); clear HB; have HB := n0_; clear n0_; (try clear hb); (try clear hb2); (try clear hk); (try clear hi)) | ((with_reducible refine gate_callee (f := 74) rfl ?_); refine goesL_ (some 17) rfl rfl Tryd.func74 (by kernel_rfl) rfl #[.int .i64 a2] rfl (by (try simp only [List.map_toArray, List.map_cons, List.map_nil]); first | done | rfl | (simp only [List.length_drop, List.length_take]; rfl)) ?_; (with_reducible refine (strconv_Itoa.calls a2 t115 _ ?side1 A8.out).mono ?_); (case side1 => exact GPow.below HG_GPow.out (by repeat (first | (with_reducible first | exact HB.out | apply below_alloc | apply pw_below_drewN | apply below_drew1) | exact HB.out))); rintro e w11 ⟨rfl, hb⟩; refine ⟨_, rfl, ?_⟩; have n0_ := Aside0.mk (below_step (by repeat (first | (with_reducible first | exact HB.out | apply below_alloc | apply pw_below_drewN | apply below_drew1) | exact HB.out)) hb); clear HB; have HB := n0_; clear n0_; (try clear hb); (try clear hb2); (try clear hk); (try clear hi)))
     go_ret
     exact ⟨by first | rfl | (simp [errW_none, errW_some] <;> rfl) | (simp [*, errW_none, errW_some] <;> rfl), by repeat (first | (with_reducible first | exact HB.out | apply below_alloc | apply pw_below_drewN | apply below_drew1) | exact HB.out)⟩
    ·rw [if_neg c9] at H
     exact absurd H (by simp)
   ·rw [if_neg c7] at H
    exact absurd H (by simp)
  ·rw [if_neg c6] at H
   exact absurd H (by simp)
 ·rw [if_neg c4] at H
  have c4b0 : decide (0 < a2) = false := decide_eq_false c4
  clear c4
  replace H := Option.bind_eq_some_iff.mp H
  obtain ⟨t116, A120, H⟩ := H
  replace H : (if a0.size + t116.size ≤ 9223372036854775807 then (if (a0 ++ t116).size + 1 ≤ 9223372036854775807 then ((strconv_Itoa.f a2).bind fun t117 => (if ((a0 ++ t116) ++ (⟨#[44]⟩ : ByteArray)).size + t117.size ≤ 9223372036854775807 then (some (((a0 ++ t116) ++ (⟨#[44]⟩ : ByteArray)) ++ t117)) else (none))) else (none)) else (none)) = some r := H
  have A12 := Aside0.mk A120
  clear A120
  by_cases c13 : a0.size + t116.size ≤ 9223372036854775807
  ·rw [if_pos c13] at H
   have c13b0 := eq_true c13
   have c13b1 : decide (a0.size + t116.size ≤ 9223372036854775807) = true := decide_eq_true c13
   try have c13b2 : (9223372036854775807 < a0.size + t116.size) = False := eq_false (Nat.not_lt.2 c13)
   by_cases c14 : (a0 ++ t116).size + 1 ≤ 9223372036854775807
   ·rw [if_pos c14] at H
    have c14b0 := eq_true c14
    have c14b1 : decide ((a0 ++ t116).size + 1 ≤ 9223372036854775807) = true := decide_eq_true c14
    try have c14b2 : (9223372036854775807 < (a0 ++ t116).size + 1) = False := eq_false (Nat.not_lt.2 c14)
    try have c14b3 : (9223372036854775807 < a0.size + t116.size + 1) = False := eq_false (fun h_ => by have z_ := c14; simp only [ByteArray.size_append', ] at z_; omega)
    replace H := Option.bind_eq_some_iff.mp H
    obtain ⟨t117, A150, H⟩ := H
    replace H : (if ((a0 ++ t116) ++ (⟨#[44]⟩ : ByteArray)).size + t117.size ≤ 9223372036854775807 then (some (((a0 ++ t116) ++ (⟨#[44]⟩ : ByteArray)) ++ t117)) else (none)) = some r := H
    have A15 := Aside0.mk A150
    clear A150
    by_cases c16 : ((a0 ++ t116) ++ (⟨#[44]⟩ : ByteArray)).size + t117.size ≤ 9223372036854775807
    ·rw [if_pos c16] at H
     have c16b0 := eq_true c16
     have c16b1 : decide (((a0 ++ t116) ++ (⟨#[44]⟩ : ByteArray)).size + t117.size ≤ 9223372036854775807) = true := decide_eq_true c16
     try have c16b2 : (9223372036854775807 < ((a0 ++ t116) ++ (⟨#[44]⟩ : ByteArray)).size + t117.size) = False := eq_false (Nat.not_lt.2 c16)
     try have c16b3 : (9223372036854775807 < a0.size + t116.size + 1 + t117.size) = False := eq_false (fun h_ => by have z_ := c16; simp only [ByteArray.size_append', (show (⟨#[44]⟩ : ByteArray).size = 1 from rfl)] at z_; omega)
     obtain rfl := Option.some.inj H
     go_enter Tryd.func51, Tryd.ntmps51
     go_wp2_with (first | ((with_reducible refine gate_callee (f := 74) rfl ?_); refine goesL_ (some 13) rfl rfl Tryd.func74 (by kernel_rfl) rfl #[.int .i64 a1] rfl (by (try simp only [List.map_toArray, List.map_cons, List.map_nil]); first | done | rfl | (simp only [List.length_drop, List.length_take]; rfl)) ?_; (with_reducible refine (strconv_Itoa.calls a1 t116 _ ?side1 A12.out).mono ?_); (case side1 => exact GPow.below HG_GPow.out (by repeat (first | (with_reducible first | exact HB.out | apply below_alloc | apply pw_below_drewN | apply below_drew1) | exact HB.out))); rintro e w17 ⟨rfl, hb⟩; refine ⟨_, rfl, ?_⟩; have n0_ := Aside0.mk (below_step (by repeat (first | (with_reducible first | exact HB.out | apply below_alloc | apply pw_below_drewN | apply below_drew1) | exact HB.out)) hb); clear HB; have HB := n0_; clear n0_; (try clear hb); (try clear hb2); (try clear hk); (try clear hi)) | ((with_reducible refine gate_callee (f := 74) rfl ?_); refine goesL_ (some 17) rfl rfl Tryd.func74 (by kernel_rfl) rfl #[.int .i64 a2] rfl (by (try simp only [List.map_toArray, List.map_cons, List.map_nil]); first | done | rfl | (simp only [List.length_drop, List.length_take]; rfl)) ?_; (with_reducible refine (strconv_Itoa.calls a2 t117 _ ?side1 A15.out).mono ?_); (case side1 => exact GPow.below HG_GPow.out (by repeat (first | (with_reducible first | exact HB.out | apply below_alloc | apply pw_below_drewN | apply below_drew1) | exact HB.out))); rintro e w18 ⟨rfl, hb⟩; refine ⟨_, rfl, ?_⟩; have n0_ := Aside0.mk (below_step (by repeat (first | (with_reducible first | exact HB.out | apply below_alloc | apply pw_below_drewN | apply below_drew1) | exact HB.out)) hb); clear HB; have HB := n0_; clear n0_; (try clear hb); (try clear hb2); (try clear hk); (try clear hi)))
     go_ret
     exact ⟨by first | rfl | (simp [errW_none, errW_some] <;> rfl) | (simp [*, errW_none, errW_some] <;> rfl), by repeat (first | (with_reducible first | exact HB.out | apply below_alloc | apply pw_below_drewN | apply below_drew1) | exact HB.out)⟩
    ·rw [if_neg c16] at H
     exact absurd H (by simp)
   ·rw [if_neg c14] at H
    exact absurd H (by simp)
  ·rw [if_neg c13] at H
   exact absurd H (by simp)

/-! ### show_Head: function 24 -/
def show_Head.f (a0_0 : Int) (a0_1 : Int) (a0_2 : Int) (a0_3 : Int) (l0_4 : List (S42)) : Option (ByteArray) := (show_side.f (⟨#[45]⟩ : ByteArray) a0_0 a0_1).bind fun t119 => (if 3 + t119.size ≤ 9223372036854775807 then (if ((⟨#[64, 64, 32]⟩ : ByteArray) ++ t119).size + 1 ≤ 9223372036854775807 then ((show_side.f (⟨#[43]⟩ : ByteArray) a0_2 a0_3).bind fun t120 => (if (((⟨#[64, 64, 32]⟩ : ByteArray) ++ t119) ++ (⟨#[32]⟩ : ByteArray)).size + t120.size ≤ 9223372036854775807 then (if ((((⟨#[64, 64, 32]⟩ : ByteArray) ++ t119) ++ (⟨#[32]⟩ : ByteArray)) ++ t120).size + 4 ≤ 9223372036854775807 then (some (((((⟨#[64, 64, 32]⟩ : ByteArray) ++ t119) ++ (⟨#[32]⟩ : ByteArray)) ++ t120) ++ (⟨#[32, 64, 64, 10]⟩ : ByteArray))) else (none)) else (none))) else (none)) else (none))
def show_Head.T1 : Bool × List (List Nat × List Nat) := (true, [([], []), ([0], [0]), ([], []), ([2], [2]), ([1, 3], [1, 3]), ([4], [4]), ([5], [5]), ([], []), ([7], [7]), ([], []), ([9], [9]), ([8, 10, 4], [8, 10]), ([6, 11], [6, 11]), ([12], [12]), ([13, 11, 0, 1, 2, 3, 4, 5, 6, 7, 8, 9, 10, 11, 12, 13], [13])])
def show_Head.B1 : List Nat := [0, 1, 0, 4, 15, 31, 63, 0, 128, 0, 512, 1951, 4095, 8191, 16383]
theorem show_Head.tab1 : rtab .any (opsOf Tryd.f24 1) = show_Head.T1 := by kernel_rfl
theorem show_Head.bits1 : waitsOk show_Head.T1.2 show_Head.B1 = true := by kernel_rfl
set_option maxHeartbeats 8000000 in
set_option maxRecDepth 100000 in
theorem show_Head.calls (a0_0 : Int) (a0_1 : Int) (a0_2 : Int) (a0_3 : Int) (A0_4 : Option Addr) (c0_4 : Nat) (l0_4 : List (S42)) (r : ByteArray) (w : World) (hr0_4 : Kd.C k42 w A0_4 l0_4.length l0_4) (hc0_4 : l0_4.length ≤ c0_4) (hG_GPow : GPow w) (h : show_Head.f a0_0 a0_1 a0_2 a0_3 l0_4 = some r) :
  Calls Tryd.prog 24 #[.agg #[.int .i64 a0_0, .int .i64 a0_1, .int .i64 a0_2, .int .i64 a0_3, .slice A0_4 l0_4.length c0_4]] w fun e w' => e = .returned (.string r) ∧ Below w.heap.size w w' := by
 have hu26 := Tryd.underlying26
 have HG_GPow := Aside0.mk hG_GPow
 clear hG_GPow
 have HR0_4 := Aside0.mk hr0_4
 have HC0_4 := Aside0.mk hc0_4
 clear hr0_4 hc0_4
 have HB := Aside0.mk (Below.refl w.heap.size w)
 have H : ((show_side.f (⟨#[45]⟩ : ByteArray) a0_0 a0_1).bind fun t119 => (if 3 + t119.size ≤ 9223372036854775807 then (if ((⟨#[64, 64, 32]⟩ : ByteArray) ++ t119).size + 1 ≤ 9223372036854775807 then ((show_side.f (⟨#[43]⟩ : ByteArray) a0_2 a0_3).bind fun t120 => (if (((⟨#[64, 64, 32]⟩ : ByteArray) ++ t119) ++ (⟨#[32]⟩ : ByteArray)).size + t120.size ≤ 9223372036854775807 then (if ((((⟨#[64, 64, 32]⟩ : ByteArray) ++ t119) ++ (⟨#[32]⟩ : ByteArray)) ++ t120).size + 4 ≤ 9223372036854775807 then (some (((((⟨#[64, 64, 32]⟩ : ByteArray) ++ t119) ++ (⟨#[32]⟩ : ByteArray)) ++ t120) ++ (⟨#[32, 64, 64, 10]⟩ : ByteArray))) else (none)) else (none))) else (none)) else (none))) = some r := h
 clear h
 replace H := Option.bind_eq_some_iff.mp H
 obtain ⟨t119, A20, H⟩ := H
 replace H : (if 3 + t119.size ≤ 9223372036854775807 then (if ((⟨#[64, 64, 32]⟩ : ByteArray) ++ t119).size + 1 ≤ 9223372036854775807 then ((show_side.f (⟨#[43]⟩ : ByteArray) a0_2 a0_3).bind fun t120 => (if (((⟨#[64, 64, 32]⟩ : ByteArray) ++ t119) ++ (⟨#[32]⟩ : ByteArray)).size + t120.size ≤ 9223372036854775807 then (if ((((⟨#[64, 64, 32]⟩ : ByteArray) ++ t119) ++ (⟨#[32]⟩ : ByteArray)) ++ t120).size + 4 ≤ 9223372036854775807 then (some (((((⟨#[64, 64, 32]⟩ : ByteArray) ++ t119) ++ (⟨#[32]⟩ : ByteArray)) ++ t120) ++ (⟨#[32, 64, 64, 10]⟩ : ByteArray))) else (none)) else (none))) else (none)) else (none)) = some r := H
 have A2 := Aside0.mk A20
 clear A20
 by_cases c3 : 3 + t119.size ≤ 9223372036854775807
 ·rw [if_pos c3] at H
  have c3b0 := eq_true c3
  have c3b1 : decide (3 + t119.size ≤ 9223372036854775807) = true := decide_eq_true c3
  try have c3b2 : (9223372036854775807 < 3 + t119.size) = False := eq_false (Nat.not_lt.2 c3)
  by_cases c4 : ((⟨#[64, 64, 32]⟩ : ByteArray) ++ t119).size + 1 ≤ 9223372036854775807
  ·rw [if_pos c4] at H
   have c4b0 := eq_true c4
   have c4b1 : decide (((⟨#[64, 64, 32]⟩ : ByteArray) ++ t119).size + 1 ≤ 9223372036854775807) = true := decide_eq_true c4
   try have c4b2 : (9223372036854775807 < ((⟨#[64, 64, 32]⟩ : ByteArray) ++ t119).size + 1) = False := eq_false (Nat.not_lt.2 c4)
   try have c4b3 : (9223372036854775807 < 3 + t119.size + 1) = False := eq_false (fun h_ => by have z_ := c4; simp only [ByteArray.size_append', (show (⟨#[64, 64, 32]⟩ : ByteArray).size = 3 from rfl)] at z_; omega)
   replace H := Option.bind_eq_some_iff.mp H
   obtain ⟨t120, A50, H⟩ := H
   replace H : (if (((⟨#[64, 64, 32]⟩ : ByteArray) ++ t119) ++ (⟨#[32]⟩ : ByteArray)).size + t120.size ≤ 9223372036854775807 then (if ((((⟨#[64, 64, 32]⟩ : ByteArray) ++ t119) ++ (⟨#[32]⟩ : ByteArray)) ++ t120).size + 4 ≤ 9223372036854775807 then (some (((((⟨#[64, 64, 32]⟩ : ByteArray) ++ t119) ++ (⟨#[32]⟩ : ByteArray)) ++ t120) ++ (⟨#[32, 64, 64, 10]⟩ : ByteArray))) else (none)) else (none)) = some r := H
   have A5 := Aside0.mk A50
   clear A50
   by_cases c6 : (((⟨#[64, 64, 32]⟩ : ByteArray) ++ t119) ++ (⟨#[32]⟩ : ByteArray)).size + t120.size ≤ 9223372036854775807
   ·rw [if_pos c6] at H
    have c6b0 := eq_true c6
    have c6b1 : decide ((((⟨#[64, 64, 32]⟩ : ByteArray) ++ t119) ++ (⟨#[32]⟩ : ByteArray)).size + t120.size ≤ 9223372036854775807) = true := decide_eq_true c6
    try have c6b2 : (9223372036854775807 < (((⟨#[64, 64, 32]⟩ : ByteArray) ++ t119) ++ (⟨#[32]⟩ : ByteArray)).size + t120.size) = False := eq_false (Nat.not_lt.2 c6)
    try have c6b3 : (9223372036854775807 < 3 + t119.size + 1 + t120.size) = False := eq_false (fun h_ => by have z_ := c6; simp only [ByteArray.size_append', (show (⟨#[64, 64, 32]⟩ : ByteArray).size = 3 from rfl), (show (⟨#[32]⟩ : ByteArray).size = 1 from rfl)] at z_; omega)
    by_cases c7 : ((((⟨#[64, 64, 32]⟩ : ByteArray) ++ t119) ++ (⟨#[32]⟩ : ByteArray)) ++ t120).size + 4 ≤ 9223372036854775807
    ·rw [if_pos c7] at H
     have c7b0 := eq_true c7
     have c7b1 : decide (((((⟨#[64, 64, 32]⟩ : ByteArray) ++ t119) ++ (⟨#[32]⟩ : ByteArray)) ++ t120).size + 4 ≤ 9223372036854775807) = true := decide_eq_true c7
     try have c7b2 : (9223372036854775807 < ((((⟨#[64, 64, 32]⟩ : ByteArray) ++ t119) ++ (⟨#[32]⟩ : ByteArray)) ++ t120).size + 4) = False := eq_false (Nat.not_lt.2 c7)
     try have c7b3 : (9223372036854775807 < 3 + t119.size + 1 + t120.size + 4) = False := eq_false (fun h_ => by have z_ := c7; simp only [ByteArray.size_append', (show (⟨#[64, 64, 32]⟩ : ByteArray).size = 3 from rfl), (show (⟨#[32]⟩ : ByteArray).size = 1 from rfl)] at z_; omega)
     obtain rfl := Option.some.inj H
     go_enter Tryd.func24, Tryd.ntmps24
     try go_wp2_with (first | ((with_reducible refine gate_dst (N := 1) rfl ?_); refine box_event ?hg (N := 1) ?hd (cs := #[.int .i64 a0_0, .int .i64 a0_1, .int .i64 a0_2, .int .i64 a0_3, .slice A0_4 l0_4.length c0_4]) (t := 26) ?hr ?_; (case hd => rfl); (case hg => rfl); (case hr => first | (go_simp; done) | (go_simp; rfl)); intro gb118 hg w8 hbox hb; have n0_ := Aside0.mk (below_step (by repeat (first | (with_reducible first | exact HB.out | apply below_alloc | apply pw_below_drewN | apply below_drew1) | exact HB.out)) hb); have n1_ := Aside0.mk (hbox); have n2_ := Aside0.mk ((by rw [hg]; exact (below_size (by repeat (first | (with_reducible first | exact HB.out | apply below_alloc | apply pw_below_drewN | apply below_drew1) | exact HB.out))) : w.heap.size ≤ gb118)); have n3_ := Aside0.mk ((by rw [hg]; exact (below_size (by repeat (first | (with_reducible first | exact HB.out | apply below_alloc | apply pw_below_drewN | apply below_drew1) | exact HB.out))) : w.heap.size ≤ gb118)); clear HB; have HB := n0_; have BK118 := n1_; have GW118 := n2_; have GE118 := n3_; clear n0_ n1_ n2_ n3_; clear hb hbox hg))
     have n0_ := Aside0.mk (blk_drew BK118.out)
     have n1_ := Aside0.mk (below_drew1 HB.out)
     clear BK118
     clear HB
     have BK118 := n0_
     have HB := n1_
     clear n0_ n1_
     refine start_ (n := 15) (S := fun w' => w'.cell? ⟨gb118, 0, none⟩ = some (.int .i64 a0_0) ∧ w'.cell? ⟨gb118, 1, none⟩ = some (.int .i64 a0_1) ∧ w'.cell? ⟨gb118, 2, none⟩ = some (.int .i64 a0_2) ∧ w'.cell? ⟨gb118, 3, none⟩ = some (.int .i64 a0_3) ∧ w'.cell? ⟨gb118, 4, none⟩ = some (.slice A0_4 l0_4.length c0_4)) (ds := []) #[false, false, false, false, false, false, false, false, false, false, false, false, false, false, false] (by kernel_rfl) rfl rfl ⟨(blk_cell BK118.out 0).trans rfl, (blk_cell BK118.out 1).trans rfl, (blk_cell BK118.out 2).trans rfl, (blk_cell BK118.out 3).trans rfl, (blk_cell BK118.out 4).trans rfl⟩ (fun hHeld => ?_); refine with_tabW show_Head.tab1 show_Head.bits1 (fun HT_ HW_ => ?_)
     generalize w8.drew = w9 at BK118 HB hHeld ⊢
     refine pure_ (i := 0) (N := some 3) (v := ?_) (a' := ?_) #[true, false, false, false, false, false, false, false, false, false, false, false, false, false, false] rfl rfl (any_of HT_.out (by kernel_rfl)) (fun _ _ _ h => h) (Or.inl ⟨by rfl, ?_⟩) ?_ ?_
     rotate_left
     ·intro w'
      go_simp
      with_reducible rfl
     rotate_left
     ·simp only [Act.put, List.setIfInBounds_toArray, List.set_cons_zero, List.set_cons_succ, i64_w, i32_w]
      rfl
     refine pure_ (i := 2) (N := some 5) (v := ?_) (a' := ?_) #[true, false, true, false, false, false, false, false, false, false, false, false, false, false, false] rfl rfl (any_of HT_.out (by kernel_rfl)) (fun _ _ _ h => h) (Or.inl ⟨by rfl, ?_⟩) ?_ ?_
     rotate_left
     ·intro w'
      go_simp
      with_reducible rfl
     rotate_left
     ·simp only [Act.put, List.setIfInBounds_toArray, List.set_cons_zero, List.set_cons_succ, i64_w, i32_w]
      rfl
     refine pure_ (i := 7) (N := some 10) (v := ?_) (a' := ?_) #[true, false, true, false, false, false, false, true, false, false, false, false, false, false, false] rfl rfl (any_of HT_.out (by kernel_rfl)) (fun _ _ _ h => h) (Or.inl ⟨by rfl, ?_⟩) ?_ ?_
     rotate_left
     ·intro w'
      go_simp
      with_reducible rfl
     rotate_left
     ·simp only [Act.put, List.setIfInBounds_toArray, List.set_cons_zero, List.set_cons_succ, i64_w, i32_w]
      rfl
     refine pure_ (i := 9) (N := some 12) (v := ?_) (a' := ?_) #[true, false, true, false, false, false, false, true, false, true, false, false, false, false, false] rfl rfl (any_of HT_.out (by kernel_rfl)) (fun _ _ _ h => h) (Or.inl ⟨by rfl, ?_⟩) ?_ ?_
     rotate_left
     ·intro w'
      go_simp
      with_reducible rfl
     rotate_left
     ·simp only [Act.put, List.setIfInBounds_toArray, List.set_cons_zero, List.set_cons_succ, i64_w, i32_w]
      rfl
     refine take_ (i := 1) (N := some 4) (v := ?_) (a' := ?_) #[true, true, true, false, false, false, false, true, false, true, false, false, false, false, false] rfl rfl (take_ofW HT_.out HW_.out (by kernel_rfl)) (fun _ _ _ h => h) (Or.inl ⟨by rfl, ?_⟩) hHeld ?_ ?_
     rotate_left
     ·rintro w' ⟨s0, s1, s2, s3, s4⟩
      go_simp
      with_reducible rfl
     rotate_left
     ·simp only [Act.put, List.setIfInBounds_toArray, List.set_cons_zero, List.set_cons_succ, i64_w, i32_w]
      rfl
     refine take_ (i := 3) (N := some 6) (v := ?_) (a' := ?_) #[true, true, true, true, false, false, false, true, false, true, false, false, false, false, false] rfl rfl (take_ofW HT_.out HW_.out (by kernel_rfl)) (fun _ _ _ h => h) (Or.inl ⟨by rfl, ?_⟩) hHeld ?_ ?_
     rotate_left
     ·rintro w' ⟨s0, s1, s2, s3, s4⟩
      go_simp
      with_reducible rfl
     rotate_left
     ·simp only [Act.put, List.setIfInBounds_toArray, List.set_cons_zero, List.set_cons_succ, i64_w, i32_w]
      rfl
     refine take_ (i := 8) (N := some 11) (v := ?_) (a' := ?_) #[true, true, true, true, false, false, false, true, true, true, false, false, false, false, false] rfl rfl (take_ofW HT_.out HW_.out (by kernel_rfl)) (fun _ _ _ h => h) (Or.inl ⟨by rfl, ?_⟩) hHeld ?_ ?_
     rotate_left
     ·rintro w' ⟨s0, s1, s2, s3, s4⟩
      go_simp
      with_reducible rfl
     rotate_left
     ·simp only [Act.put, List.setIfInBounds_toArray, List.set_cons_zero, List.set_cons_succ, i64_w, i32_w]
      rfl
     refine take_ (i := 10) (N := some 13) (v := ?_) (a' := ?_) #[true, true, true, true, false, false, false, true, true, true, true, false, false, false, false] rfl rfl (take_ofW HT_.out HW_.out (by kernel_rfl)) (fun _ _ _ h => h) (Or.inl ⟨by rfl, ?_⟩) hHeld ?_ ?_
     rotate_left
     ·rintro w' ⟨s0, s1, s2, s3, s4⟩
      go_simp
      with_reducible rfl
     rotate_left
     ·simp only [Act.put, List.setIfInBounds_toArray, List.set_cons_zero, List.set_cons_succ, i64_w, i32_w]
      rfl
     refine one_ (i := 4) (N := some 7) #[true, true, true, true, true, false, false, true, true, true, true, false, false, false, false] rfl rfl (one_of HT_.out (by kernel_rfl)) (by decide) (fun K hK => ?_)
     refine goes_ Tryd.func51 (by kernel_rfl) rfl #[.string (⟨#[45]⟩ : ByteArray), .int .i64 a0_0, .int .i64 a0_1] (by rfl) rfl rfl (by (try simp only [List.map_toArray, List.map_cons, List.map_nil]); first | done | rfl | (simp only [List.length_drop, List.length_take]; rfl)) ?_
     with_reducible refine (show_side.calls (⟨#[45]⟩ : ByteArray) a0_0 a0_1 t119 _ ?side1 A2.out).mono ?_
     (case side1 => exact GPow.below HG_GPow.out (by repeat (first | (with_reducible first | exact HB.out | apply below_alloc | apply pw_below_drewN | apply below_drew1 | refine below_set ?_ GE118.out) | exact HB.out)))
     rintro e w10 ⟨rfl, hb⟩
     refine ⟨_, rfl, ?_⟩
     have n0_ := Aside0.mk (blk_below (g := gb118) (o := .cells #[.int .i64 a0_0, .int .i64 a0_1, .int .i64 a0_2, .int .i64 a0_3, .slice A0_4 l0_4.length c0_4] 26 (0, 0)) (by (with_reducible repeat (first | refine blk_drewN ?_ _ | refine blk_drew ?_ | refine blk_alloc ?_ _)); exact BK118.out) hb)
     have n1_ := Aside0.mk (below_step (by repeat (first | (with_reducible first | exact HB.out | apply below_alloc | apply pw_below_drewN | apply below_drew1 | refine below_set ?_ GE118.out) | exact HB.out)) hb)
     clear BK118
     clear HB
     have BK118 := n0_
     have HB := n1_
     clear n0_ n1_
     (try clear hb)
     (try clear hb2)
     (try clear hk)
     (try clear hi)
     refine hK.out _ _ ⟨(blk_cell BK118.out 0).trans rfl, (blk_cell BK118.out 1).trans rfl, (blk_cell BK118.out 2).trans rfl, (blk_cell BK118.out 3).trans rfl, (blk_cell BK118.out 4).trans rfl⟩ (fun hHeld => ?_)
     clear hK K
     refine norm_ (a' := ?_) ?_ ?_
     rotate_left
     ·show Act.put _ (some 7) _ = _
      simp only [Act.put, List.setIfInBounds_toArray, List.set_cons_zero, List.set_cons_succ, i64_w, i32_w]
      rfl
     refine pure_ (i := 5) (N := some 8) (v := ?_) (a' := ?_) #[true, true, true, true, true, true, false, true, true, true, true, false, false, false, false] rfl rfl (any_of HT_.out (by kernel_rfl)) (fun _ _ _ h => h) (Or.inl ⟨by rfl, ?_⟩) ?_ ?_
     rotate_left
     ·intro w'
      go_simp
      with_reducible rfl
     rotate_left
     ·simp only [Act.put, List.setIfInBounds_toArray, List.set_cons_zero, List.set_cons_succ, i64_w, i32_w]
      rfl
     refine pure_ (i := 6) (N := some 9) (v := ?_) (a' := ?_) #[true, true, true, true, true, true, true, true, true, true, true, false, false, false, false] rfl rfl (any_of HT_.out (by kernel_rfl)) (fun _ _ _ h => h) (Or.inl ⟨by rfl, ?_⟩) ?_ ?_
     rotate_left
     ·intro w'
      go_simp
      with_reducible rfl
     rotate_left
     ·simp only [Act.put, List.setIfInBounds_toArray, List.set_cons_zero, List.set_cons_succ, i64_w, i32_w]
      rfl
     refine one_ (i := 11) (N := some 14) #[true, true, true, true, true, true, true, true, true, true, true, true, false, false, false] rfl rfl (one_of HT_.out (by kernel_rfl)) (by decide) (fun K hK => ?_)
     refine goes_ Tryd.func51 (by kernel_rfl) rfl #[.string (⟨#[43]⟩ : ByteArray), .int .i64 a0_2, .int .i64 a0_3] (by rfl) rfl rfl (by (try simp only [List.map_toArray, List.map_cons, List.map_nil]); first | done | rfl | (simp only [List.length_drop, List.length_take]; rfl)) ?_
     with_reducible refine (show_side.calls (⟨#[43]⟩ : ByteArray) a0_2 a0_3 t120 _ ?side1 A5.out).mono ?_
     (case side1 => exact GPow.below HG_GPow.out (by repeat (first | (with_reducible first | exact HB.out | apply below_alloc | apply pw_below_drewN | apply below_drew1 | refine below_set ?_ GE118.out) | exact HB.out)))
     rintro e w11 ⟨rfl, hb⟩
     refine ⟨_, rfl, ?_⟩
     have n0_ := Aside0.mk (blk_below (g := gb118) (o := .cells #[.int .i64 a0_0, .int .i64 a0_1, .int .i64 a0_2, .int .i64 a0_3, .slice A0_4 l0_4.length c0_4] 26 (0, 0)) (by (with_reducible repeat (first | refine blk_drewN ?_ _ | refine blk_drew ?_ | refine blk_alloc ?_ _)); exact BK118.out) hb)
     have n1_ := Aside0.mk (below_step (by repeat (first | (with_reducible first | exact HB.out | apply below_alloc | apply pw_below_drewN | apply below_drew1 | refine below_set ?_ GE118.out) | exact HB.out)) hb)
     clear BK118
     clear HB
     have BK118 := n0_
     have HB := n1_
     clear n0_ n1_
     (try clear hb)
     (try clear hb2)
     (try clear hk)
     (try clear hi)
     refine hK.out _ _ ⟨(blk_cell BK118.out 0).trans rfl, (blk_cell BK118.out 1).trans rfl, (blk_cell BK118.out 2).trans rfl, (blk_cell BK118.out 3).trans rfl, (blk_cell BK118.out 4).trans rfl⟩ (fun hHeld => ?_)
     clear hK K
     refine norm_ (a' := ?_) ?_ ?_
     rotate_left
     ·show Act.put _ (some 14) _ = _
      simp only [Act.put, List.setIfInBounds_toArray, List.set_cons_zero, List.set_cons_succ, i64_w, i32_w]
      rfl
     refine pure_ (i := 12) (N := some 15) (v := ?_) (a' := ?_) #[true, true, true, true, true, true, true, true, true, true, true, true, true, false, false] rfl rfl (any_of HT_.out (by kernel_rfl)) (fun _ _ _ h => h) (Or.inl ⟨by rfl, ?_⟩) ?_ ?_
     rotate_left
     ·intro w'
      go_simp
      with_reducible rfl
     rotate_left
     ·simp only [Act.put, List.setIfInBounds_toArray, List.set_cons_zero, List.set_cons_succ, i64_w, i32_w]
      rfl
     refine pure_ (i := 13) (N := some 16) (v := ?_) (a' := ?_) #[true, true, true, true, true, true, true, true, true, true, true, true, true, true, false] rfl rfl (any_of HT_.out (by kernel_rfl)) (fun _ _ _ h => h) (Or.inl ⟨by rfl, ?_⟩) ?_ ?_
     rotate_left
     ·intro w'
      go_simp
      with_reducible rfl
     rotate_left
     ·simp only [Act.put, List.setIfInBounds_toArray, List.set_cons_zero, List.set_cons_succ, i64_w, i32_w]
      rfl
     refine pure_ (i := 14) (N := some 2) (v := ?_) (a' := ?_) #[true, true, true, true, true, true, true, true, true, true, true, true, true, true, true] rfl rfl (any_of HT_.out (by kernel_rfl)) (fun _ _ _ h => h) (Or.inl ⟨by rfl, ?_⟩) ?_ ?_
     rotate_left
     ·intro w'
      go_simp
      with_reducible rfl
     rotate_left
     ·simp only [Act.put, List.setIfInBounds_toArray, List.set_cons_zero, List.set_cons_succ, i64_w, i32_w]
      rfl
     refine done_ (done_of HT_.out (by kernel_rfl)) ?_
     try go_wp2
     go_ret
     exact ⟨by first | rfl | (simp [errW_none, errW_some] <;> rfl) | (simp [*, errW_none, errW_some] <;> rfl), by repeat (first | (with_reducible first | exact HB.out | apply below_alloc | apply pw_below_drewN | apply below_drew1 | refine below_set ?_ GE118.out) | exact HB.out)⟩
    ·rw [if_neg c7] at H
     exact absurd H (by simp)
   ·rw [if_neg c6] at H
    exact absurd H (by simp)
  ·rw [if_neg c4] at H
   exact absurd H (by simp)
 ·rw [if_neg c3] at H
  exact absurd H (by simp)

/-! ### redpenref18_has: function 53 -/
def redpenref18_has.l0 : Nat → ByteArray → Int → Int → Option (Bool)
 | 0, _, _, _ => none
 | k + 1, x0, x1, x5 => if x5 < (x0.size : Int) then (if 0 ≤ x5 then (if (bt x0 x5) = x1 then (some true) else (redpenref18_has.l0 k x0 x1 (wrap64 (x5 + 1)))) else (none)) else (some false)
def redpenref18_has.f (k : Nat) (a0 : ByteArray) (a1 : Int) : Option (Bool) := redpenref18_has.l0 k a0 a1 0
theorem redpenref18_has.mono_l : ∀ k, (∀ y0 y1 y2, LeO (redpenref18_has.l0 k y0 y1 y2) (redpenref18_has.l0 (k + 1) y0 y1 y2))
 | 0 => fun _ _ _ r h => by simp [redpenref18_has.l0] at h
 | k + 1 => by
  have ih0 := redpenref18_has.mono_l k
  ·intro y0 y1 y2
   unfold redpenref18_has.l0
   repeat' first
   | (with_reducible exact ih0 _ _ _)
   | (with_reducible exact LeO.refl _)
   | (with_reducible exact LeO.none _)
   | (with_reducible refine LeO.ite ?_ ?_)
   | (with_reducible refine LeO.bind ?_ (fun _ => ?_))
   | exact ih0 _ _ _
   | exact LeO.none _
   | refine LeO.ite ?_ ?_
   | refine LeO.bind ?_ (fun _ => ?_)
theorem redpenref18_has.mono : ∀ a0 a1 k, LeO (redpenref18_has.f k a0 a1) (redpenref18_has.f (k + 1) a0 a1) := by
 intro a0 a1 k
 have ih0 := redpenref18_has.mono_l k
 unfold redpenref18_has.f
 repeat' first
   | (with_reducible exact ih0 _ _ _)
   | (with_reducible exact LeO.refl _)
   | (with_reducible exact LeO.none _)
   | (with_reducible refine LeO.ite ?_ ?_)
   | (with_reducible refine LeO.bind ?_ (fun _ => ?_))
   | exact ih0 _ _ _
   | exact LeO.none _
   | refine LeO.ite ?_ ?_
   | refine LeO.bind ?_ (fun _ => ?_)
set_option maxHeartbeats 8000000 in
set_option maxRecDepth 100000 in
theorem redpenref18_has.calls (k : Nat) (a0 : ByteArray) (a1 : Int) (r : Bool) (w : World) (h : redpenref18_has.f k a0 a1 = some r) :
  Calls Tryd.prog 53 #[.string a0, .int .u8 a1] w fun e w' => e = .returned (.bool r) ∧ Drawn0 w w' := by
 have H : (redpenref18_has.l0 k a0 a1 0) = some r := h
 clear h
 have H' := Aside0.mk H
 clear H
 go_enter Tryd.func53, Tryd.ntmps53
 go_wp2
 go_loopg [5] k (fun kq v5 w' => ∃ (x5_1 : Int), v5 = .int .i64 x5_1 ∧ Aside0 (redpenref18_has.l0 kq a0 a1 x5_1 = some r) ∧ Aside0 (kq ≤ k) ∧ Drawn0 w w')
 case atStart => exact ⟨(0), (by first | rfl | (simp; done) | (simp [*]; done)), H', ⟨Nat.le_refl _⟩, by repeat (first | exact Drawn0.refl _ | apply Drawn0.step)⟩
 case round =>
  clear H'
  try clear p2
  obtain ⟨x5_1, rfl, HA, HK1, ⟨m1, rfl⟩⟩ := hrel
  cases gk with
  | zero => exact absurd HA.out (by simp [redpenref18_has.l0])
  | succ k1 =>
   have H := HA.out
   clear HA
   simp only [redpenref18_has.l0] at H
   by_cases c3 : x5_1 < (a0.size : Int)
   ·rw [if_pos c3] at H
    have c3b0 : decide (x5_1 < (a0.size : Int)) = true := decide_eq_true c3
    clear c3
    by_cases c4 : 0 ≤ x5_1
    ·rw [if_pos c4] at H
     have c4b0 : decide (0 ≤ x5_1) = true := decide_eq_true c4
     clear c4
     by_cases c6 : (bt a0 x5_1) = a1
     ·rw [if_pos c6] at H
      have c6b0 : ((bt a0 x5_1) == a1) = true := beq_iff_eq.mpr c6
      have c6b1 : ((bt a0 x5_1) != a1) = false := bne_eq_false_iff_eq.mpr c6
      clear c6
      obtain rfl := Option.some.inj H
      have p5 : 0 ≤ (x5_1 : Int) := of_decide_eq_true (by first | (with_reducible assumption) | assumption)
      have q5 : x5_1 < (a0.size : Int) := of_decide_eq_true (by first | (with_reducible assumption) | assumption)
      have hx5 := bt_at a0 x5_1
      replace p5 := eq_true p5
      replace q5 := eq_true q5
      go_wp2
      go_ret
      exact ⟨by first | rfl | (simp; done) | (simp [*]; done), by repeat (first | exact Drawn0.refl _ | apply Drawn0.step)⟩
     ·rw [if_neg c6] at H
      have c6b0 : ((bt a0 x5_1) == a1) = false := beq_eq_false_iff_ne.mpr c6
      have c6b1 : ((bt a0 x5_1) != a1) = true := bne_iff_ne.mpr c6
      have H' := Aside0.mk H
      clear H
      have p5 : 0 ≤ (x5_1 : Int) := of_decide_eq_true (by first | (with_reducible assumption) | assumption)
      have q5 : x5_1 < (a0.size : Int) := of_decide_eq_true (by first | (with_reducible assumption) | assumption)
      have hx5 := bt_at a0 x5_1
      replace p5 := eq_true p5
      replace q5 := eq_true q5
      go_wp2
      go_roundg k1
      case measure => have := HK1.out; omega
      case rel => exact ⟨(wrap64 (x5_1 + 1)), (by first | rfl | (simp; done) | (simp [*]; done)), H', ⟨by have := HK1.out; omega⟩, by repeat (first | exact Drawn0.refl _ | apply Drawn0.step)⟩
    ·rw [if_neg c4] at H
     exact absurd H (by simp)
   ·rw [if_neg c3] at H
    have c3b0 : decide (x5_1 < (a0.size : Int)) = false := decide_eq_false c3
    clear c3
    obtain rfl := Option.some.inj H
    go_wp2
    go_ret
    exact ⟨by first | rfl | (simp; done) | (simp [*]; done), by repeat (first | exact Drawn0.refl _ | apply Drawn0.step)⟩

/-! ### redpenref18_Name: function 28 -/
def redpenref18_Name.f (k : Nat) (a0 : ByteArray) : Option (Bool) := if (a0.size : Int) ≥ 1 then (if (a0.size : Int) ≤ 64 then ((redpenref18_has.f k a0 10).bind fun t121 => (if t121 = true then (some false) else ((redpenref18_has.f k a0 13).bind fun t122 => (some (!t122))))) else (some false)) else (some false)
theorem redpenref18_Name.mono : ∀ a0 k, LeO (redpenref18_Name.f k a0) (redpenref18_Name.f (k + 1) a0) := by
 intro a0 k
 unfold redpenref18_Name.f
 repeat' first
   | (with_reducible exact redpenref18_has.mono _ _ _)
   | (with_reducible exact LeO.refl _)
   | (with_reducible exact LeO.none _)
   | (with_reducible refine LeO.ite ?_ ?_)
   | (with_reducible refine LeO.bind ?_ (fun _ => ?_))
   | exact redpenref18_has.mono _ _ _
   | exact LeO.none _
   | refine LeO.ite ?_ ?_
   | refine LeO.bind ?_ (fun _ => ?_)
set_option maxHeartbeats 8000000 in
set_option maxRecDepth 100000 in
theorem redpenref18_Name.calls (k : Nat) (a0 : ByteArray) (r : Bool) (w : World) (h : redpenref18_Name.f k a0 = some r) :
  Calls Tryd.prog 28 #[.string a0] w fun e w' => e = .returned (.bool r) ∧ Drawn0 w w' := by
 have H : (if (a0.size : Int) ≥ 1 then (if (a0.size : Int) ≤ 64 then ((redpenref18_has.f k a0 10).bind fun t121 => (if t121 = true then (some false) else ((redpenref18_has.f k a0 13).bind fun t122 => (some (!t122))))) else (some false)) else (some false)) = some r := h
 clear h
 by_cases c2 : (a0.size : Int) ≥ 1
 ·rw [if_pos c2] at H
  have c2b0 : decide (1 ≤ (a0.size : Int)) = true := decide_eq_true c2
  have c2b1 : decide (1 ≤ a0.size) = true := decide_eq_true (by omega)
  clear c2
  by_cases c3 : (a0.size : Int) ≤ 64
  ·rw [if_pos c3] at H
   have c3b0 : decide ((a0.size : Int) ≤ 64) = true := decide_eq_true c3
   have c3b1 : decide (a0.size ≤ 64) = true := decide_eq_true (by omega)
   clear c3
   replace H := Option.bind_eq_some_iff.mp H
   obtain ⟨t121, A40, H⟩ := H
   replace H : (if t121 = true then (some false) else ((redpenref18_has.f k a0 13).bind fun t122 => (some (!t122)))) = some r := H
   have A4 := Aside0.mk A40
   clear A40
   by_cases c5 : t121 = true
   ·subst c5
    have H1 : (some false) = some r := by rw [if_pos rfl] at H; exact H
    clear H
    have H := H1
    clear H1
    obtain rfl := Option.some.inj H
    go_enter Tryd.func28, Tryd.ntmps28
    go_wp2_with (first | (go_at_call 53; (with_reducible refine (redpenref18_has.calls k a0 10 true _ A4.out).mono ?_); rintro e w' ⟨rfl, ⟨nd, rfl⟩⟩))
    go_ret
    exact ⟨by first | rfl | (simp; done) | (simp [*]; done), by repeat (first | exact Drawn0.refl _ | apply Drawn0.step)⟩
   ·replace c5 := Bool.eq_false_iff.mpr c5
    subst c5
    have H1 : ((redpenref18_has.f k a0 13).bind fun t122 => (some (!t122))) = some r := by rw [if_neg (show ¬ (false = true) by decide)] at H; exact H
    clear H
    have H := H1
    clear H1
    replace H := Option.bind_eq_some_iff.mp H
    obtain ⟨t122, A60, H⟩ := H
    replace H : (some (!t122)) = some r := H
    have A6 := Aside0.mk A60
    clear A60
    obtain rfl := Option.some.inj H
    go_enter Tryd.func28, Tryd.ntmps28
    go_wp2_with (first | (go_at_call 53; (with_reducible refine (redpenref18_has.calls k a0 10 false _ A4.out).mono ?_); rintro e w' ⟨rfl, ⟨nd, rfl⟩⟩) | (go_at_call 53; (with_reducible refine (redpenref18_has.calls k a0 13 t122 _ A6.out).mono ?_); rintro e w' ⟨rfl, ⟨nd, rfl⟩⟩))
    go_ret
    exact ⟨by first | rfl | (simp; done) | (simp [*]; done), by repeat (first | exact Drawn0.refl _ | apply Drawn0.step)⟩
  ·rw [if_neg c3] at H
   have c3b0 : decide ((a0.size : Int) ≤ 64) = false := decide_eq_false c3
   have c3b1 : decide (a0.size ≤ 64) = false := decide_eq_false (by omega)
   clear c3
   obtain rfl := Option.some.inj H
   go_enter Tryd.func28, Tryd.ntmps28
   go_wp2
   go_ret
   exact ⟨by first | rfl | (simp; done) | (simp [*]; done), by repeat (first | exact Drawn0.refl _ | apply Drawn0.step)⟩
 ·rw [if_neg c2] at H
  have c2b0 : decide (1 ≤ (a0.size : Int)) = false := decide_eq_false c2
  have c2b1 : decide (1 ≤ a0.size) = false := decide_eq_false (by omega)
  clear c2
  obtain rfl := Option.some.inj H
  go_enter Tryd.func28, Tryd.ntmps28
  go_wp2
  go_ret
  exact ⟨by first | rfl | (simp; done) | (simp [*]; done), by repeat (first | exact Drawn0.refl _ | apply Drawn0.step)⟩

end Go.Proofs.YthkcghiagnddiaaDoor.X
