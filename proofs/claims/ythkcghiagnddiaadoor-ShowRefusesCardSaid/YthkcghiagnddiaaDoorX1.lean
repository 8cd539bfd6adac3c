-- Printed by px.sh (a patched copy of the kit's print): the walks of Go functions, out of the translation.
import Derived.Test.YthkcghiagnddiaaDoorX0
import Derived.Test.YthkcghiagnddiaaDoorBase
namespace Go.Proofs.YthkcghiagnddiaaDoor.X
open Go.RowKit Go.Proofs.YthkcghiagnddiaaDoorW.PrintWords Go.Proofs.YthkcghiagnddiaaDoorW.PrintLast Go.Proofs.YthkcghiagnddiaaDoorW.PrintMore
attribute [local go_sem] max2_int min2_int max_two min_two max_three min_three max_four min_four   -- for this text's walks alone
set_option linter.unusedVariables false
set_option linter.unusedSimpArgs false

/-! ### strings_IndexByte: function 34 -/
def strings_IndexByte.f (a0 : ByteArray) (a1 : Int) : Option (Int) := some (Lib.indexByte a0.data.toList a1.toNat.toUInt8)
theorem strings_IndexByte.calls (a0 : ByteArray) (a1 : Int) (r : Int) (w : World) (h : strings_IndexByte.f a0 a1 = some r) : Calls Tryd.prog 34 #[.string a0, .int .u8 a1] w fun e w' => e = .returned (.int .i64 r) ∧ Drawn0 w w' := by
 have h' := Option.some.inj h
 subst h'
 exact (Tryd.strings_IndexByte a0 a1 w).mono fun e w' ⟨he, hw⟩ => ⟨he, by rw [hw]; exact Drawn0.refl w⟩

/-! ### show_last: function 35 -/
def show_last.l0 : Nat → Int → List (S42) → Int → Int → Option (Bool)
 | 0, _, _, _, _ => none
 | k + 1, x1, x7, x8, x9 => if x9 < x8 then (if 0 ≤ x9 then (if x9 < (x7.length : Int) then (if ((rd_T42 x7 x9).f0) = 32 then (some false) else (if x1 = 32 then (some false) else (if ((rd_T42 x7 x9).f0) = x1 then (some false) else (show_last.l0 k x1 x7 x8 (wrap64 (x9 + 1)))))) else (none)) else (none)) else (some true)
def show_last.f (k : Nat) (l0 : List (S42)) (a1 : Int) : Option (Bool) := show_last.l0 k a1 l0 (l0.length : Int) 0
theorem show_last.mono_l : ∀ k, (∀ y0 y1 y2 y3, LeO (show_last.l0 k y0 y1 y2 y3) (show_last.l0 (k + 1) y0 y1 y2 y3))
 | 0 => fun _ _ _ _ r h => by simp [show_last.l0] at h
 | k + 1 => by
  have ih0 := show_last.mono_l k
  ·intro y0 y1 y2 y3
   unfold show_last.l0
   repeat' first
   | (with_reducible exact ih0 _ _ _ _)
   | (with_reducible exact LeO.refl _)
   | (with_reducible exact LeO.none _)
   | (with_reducible refine LeO.ite ?_ ?_)
   | (with_reducible refine LeO.bind ?_ (fun _ => ?_))
   | exact ih0 _ _ _ _
   | exact LeO.none _
   | refine LeO.ite ?_ ?_
   | refine LeO.bind ?_ (fun _ => ?_)
theorem show_last.mono : ∀ a0 a1 k, LeO (show_last.f k a0 a1) (show_last.f (k + 1) a0 a1) := by
 intro a0 a1 k
 have ih0 := show_last.mono_l k
 unfold show_last.f
 repeat' first
   | (with_reducible exact ih0 _ _ _ _)
   | (with_reducible exact LeO.refl _)
   | (with_reducible exact LeO.none _)
   | (with_reducible refine LeO.ite ?_ ?_)
   | (with_reducible refine LeO.bind ?_ (fun _ => ?_))
   | exact ih0 _ _ _ _
   | exact LeO.none _
   | refine LeO.ite ?_ ?_
   | refine LeO.bind ?_ (fun _ => ?_)
set_option maxHeartbeats 8000000 in
set_option maxRecDepth 100000 in
theorem show_last.calls (k : Nat) (A0 : Option Addr) (c0 : Nat) (l0 : List (S42)) (a1 : Int) (r : Bool) (w : World) (hr0 : Kd.C k42 w A0 l0.length l0) (hc0 : l0.length ≤ c0) (h : show_last.f k l0 a1 = some r) :
  Calls Tryd.prog 35 #[.slice A0 l0.length c0, .int .u8 a1] w fun e w' => e = .returned (.bool r) ∧ Below w.heap.size w w' := by
 have hu42 := Tryd.underlying42
 have HR0 := Aside0.mk hr0
 have HC0 := Aside0.mk hc0
 clear hr0 hc0
 have HB := Aside0.mk (Below.refl w.heap.size w)
 have H : (show_last.l0 k a1 l0 (l0.length : Int) 0) = some r := h
 clear h
 have H' := Aside0.mk H
 clear H
 go_enter Tryd.func35, Tryd.ntmps35
 go_wp2
 go_loopg [9] k (fun kq v9 w' => ∃ (x9_1 : Int), v9 = .int .i64 x9_1 ∧ Aside0 (show_last.l0 kq a1 l0 (l0.length : Int) x9_1 = some r) ∧ Aside0 (kq ≤ k) ∧ Aside0 (Below w.heap.size w w'))
 case atStart => exact ⟨(0), (by first | rfl | (simp; done) | (simp [*]; done)), H', ⟨Nat.le_refl _⟩, ⟨by repeat (first | (with_reducible first | exact HB.out | apply below_alloc | apply pw_below_drewN | apply below_drew1) | exact HB.out)⟩⟩
 case round =>
  clear H'
  try clear p2
  obtain ⟨x9_1, rfl, HA, HK1, HB⟩ := hrel
  cases gk with
  | zero => exact absurd HA.out (by simp [show_last.l0])
  | succ k1 =>
   have H := HA.out
   clear HA
   simp only [show_last.l0] at H
   by_cases c3 : x9_1 < (l0.length : Int)
   ·rw [if_pos c3] at H
    have c3b0 : decide (x9_1 < (l0.length : Int)) = true := decide_eq_true c3
    clear c3
    by_cases c4 : 0 ≤ x9_1
    ·rw [if_pos c4] at H
     have c4b0 : decide (0 ≤ x9_1) = true := decide_eq_true c4
     clear c4
     by_cases c5 : x9_1 < (l0.length : Int)
     ·rw [if_pos c5] at H
      have c5b0 : decide (x9_1 < (l0.length : Int)) = true := decide_eq_true c5
      clear c5
      by_cases c6 : ((rd_T42 l0 x9_1).f0) = 32
      ·rw [if_pos c6] at H
       have c6b0 : (((rd_T42 l0 x9_1).f0) == 32) = true := beq_iff_eq.mpr c6
       have c6b1 : (((rd_T42 l0 x9_1).f0) != 32) = false := bne_eq_false_iff_eq.mpr c6
       clear c6
       obtain rfl := Option.some.inj H
       have p101 : 0 ≤ (x9_1 : Int) := of_decide_eq_true (by first | (with_reducible assumption) | assumption)
       have q101 : x9_1 < (l0.length : Int) := of_decide_eq_true (by first | (with_reducible assumption) | assumption)
       obtain ⟨ad101, e101, hx101_0, hx101_1, hx101_2⟩ := at_T42 HR0.out x9_1 p101 q101
       cases e101
       replace hx101_0 := (HB.out.cell (World.block_lt_of_cell? w _ hx101_0)).trans hx101_0
       replace hx101_1 := (HB.out.cell (World.block_lt_of_cell? w _ hx101_1)).trans hx101_1
       replace hx101_2 := (HB.out.cell (World.block_lt_of_cell? w _ hx101_2)).trans hx101_2
       replace p101 := eq_true p101
       replace q101 := eq_true q101
       go_wp2_with (first | ((with_reducible refine gate_dst (N := 6) rfl ?_); refine box_event ?hg (N := 6) ?hd (cs := #[.int .u8 0, .string (⟨#[]⟩ : ByteArray), .bool false]) (t := 42) ?hr ?_; (case hd => rfl); (case hg => rfl); (case hr => first | (go_simp; done) | (go_simp; rfl)); intro gb102 hg w7 hbox hb; have n0_ := Aside0.mk (below_step (by repeat (first | (with_reducible first | exact HB.out | apply below_alloc | apply pw_below_drewN | apply below_drew1) | exact HB.out)) hb); have n1_ := Aside0.mk (hbox); have n2_ := Aside0.mk ((by rw [hg]; exact (below_size (by repeat (first | (with_reducible first | exact HB.out | apply below_alloc | apply pw_below_drewN | apply below_drew1) | exact HB.out))) : w.heap.size ≤ gb102)); have n3_ := Aside0.mk ((by rw [hg]; exact (below_size (by repeat (first | (with_reducible first | exact HB.out | apply below_alloc | apply pw_below_drewN | apply below_drew1) | exact HB.out))) : w.heap.size ≤ gb102)); clear HB; have HB := n0_; have BK102 := n1_; have GW102 := n2_; have GE102 := n3_; clear n0_ n1_ n2_ n3_; clear hb hbox hg; have hcz8_0 : w7.cell? ⟨gb102, 0, none⟩ = some (.int .u8 0) := (blk_cell BK102.out 0).trans rfl; have hcz8_1 : w7.cell? ⟨gb102, 1, none⟩ = some (.string (⟨#[]⟩ : ByteArray)) := (blk_cell BK102.out 1).trans rfl; have hcz8_2 : w7.cell? ⟨gb102, 2, none⟩ = some (.bool false) := (blk_cell BK102.out 2).trans rfl; have hfz8_0 := blk_frozen BK102.out 0; have hfz8_1 := blk_frozen BK102.out 1; have hfz8_2 := blk_frozen BK102.out 2))
       go_ret
       exact ⟨by first | rfl | (simp [errW_none, errW_some] <;> rfl) | (simp [*, errW_none, errW_some] <;> rfl), by repeat (first | (with_reducible first | exact HB.out | apply below_alloc | apply pw_below_drewN | apply below_drew1 | refine below_set ?_ GE102.out) | exact HB.out)⟩
      ·rw [if_neg c6] at H
       have c6b0 : (((rd_T42 l0 x9_1).f0) == 32) = false := beq_eq_false_iff_ne.mpr c6
       have c6b1 : (((rd_T42 l0 x9_1).f0) != 32) = true := bne_iff_ne.mpr c6
       by_cases c9 : a1 = 32
       ·rw [if_pos c9] at H
        have c9b0 : (a1 == 32) = true := beq_iff_eq.mpr c9
        have c9b1 : (a1 != 32) = false := bne_eq_false_iff_eq.mpr c9
        clear c9
        obtain rfl := Option.some.inj H
        have p101 : 0 ≤ (x9_1 : Int) := of_decide_eq_true (by first | (with_reducible assumption) | assumption)
        have q101 : x9_1 < (l0.length : Int) := of_decide_eq_true (by first | (with_reducible assumption) | assumption)
        obtain ⟨ad101, e101, hx101_0, hx101_1, hx101_2⟩ := at_T42 HR0.out x9_1 p101 q101
        cases e101
        replace hx101_0 := (HB.out.cell (World.block_lt_of_cell? w _ hx101_0)).trans hx101_0
        replace hx101_1 := (HB.out.cell (World.block_lt_of_cell? w _ hx101_1)).trans hx101_1
        replace hx101_2 := (HB.out.cell (World.block_lt_of_cell? w _ hx101_2)).trans hx101_2
        replace p101 := eq_true p101
        replace q101 := eq_true q101
        go_wp2_with (first | ((with_reducible refine gate_dst (N := 6) rfl ?_); refine box_event ?hg (N := 6) ?hd (cs := #[.int .u8 0, .string (⟨#[]⟩ : ByteArray), .bool false]) (t := 42) ?hr ?_; (case hd => rfl); (case hg => rfl); (case hr => first | (go_simp; done) | (go_simp; rfl)); intro gb102 hg w10 hbox hb; have n0_ := Aside0.mk (below_step (by repeat (first | (with_reducible first | exact HB.out | apply below_alloc | apply pw_below_drewN | apply below_drew1) | exact HB.out)) hb); have n1_ := Aside0.mk (hbox); have n2_ := Aside0.mk ((by rw [hg]; exact (below_size (by repeat (first | (with_reducible first | exact HB.out | apply below_alloc | apply pw_below_drewN | apply below_drew1) | exact HB.out))) : w.heap.size ≤ gb102)); have n3_ := Aside0.mk ((by rw [hg]; exact (below_size (by repeat (first | (with_reducible first | exact HB.out | apply below_alloc | apply pw_below_drewN | apply below_drew1) | exact HB.out))) : w.heap.size ≤ gb102)); clear HB; have HB := n0_; have BK102 := n1_; have GW102 := n2_; have GE102 := n3_; clear n0_ n1_ n2_ n3_; clear hb hbox hg; have hcz11_0 : w10.cell? ⟨gb102, 0, none⟩ = some (.int .u8 0) := (blk_cell BK102.out 0).trans rfl; have hcz11_1 : w10.cell? ⟨gb102, 1, none⟩ = some (.string (⟨#[]⟩ : ByteArray)) := (blk_cell BK102.out 1).trans rfl; have hcz11_2 : w10.cell? ⟨gb102, 2, none⟩ = some (.bool false) := (blk_cell BK102.out 2).trans rfl; have hfz11_0 := blk_frozen BK102.out 0; have hfz11_1 := blk_frozen BK102.out 1; have hfz11_2 := blk_frozen BK102.out 2))
        go_ret
        exact ⟨by first | rfl | (simp [errW_none, errW_some] <;> rfl) | (simp [*, errW_none, errW_some] <;> rfl), by repeat (first | (with_reducible first | exact HB.out | apply below_alloc | apply pw_below_drewN | apply below_drew1 | refine below_set ?_ GE102.out) | exact HB.out)⟩
       ·rw [if_neg c9] at H
        have c9b0 : (a1 == 32) = false := beq_eq_false_iff_ne.mpr c9
        have c9b1 : (a1 != 32) = true := bne_iff_ne.mpr c9
        by_cases c12 : ((rd_T42 l0 x9_1).f0) = a1
        ·rw [if_pos c12] at H
         have c12b0 : (((rd_T42 l0 x9_1).f0) == a1) = true := beq_iff_eq.mpr c12
         have c12b1 : (((rd_T42 l0 x9_1).f0) != a1) = false := bne_eq_false_iff_eq.mpr c12
         clear c12
         obtain rfl := Option.some.inj H
         have p101 : 0 ≤ (x9_1 : Int) := of_decide_eq_true (by first | (with_reducible assumption) | assumption)
         have q101 : x9_1 < (l0.length : Int) := of_decide_eq_true (by first | (with_reducible assumption) | assumption)
         obtain ⟨ad101, e101, hx101_0, hx101_1, hx101_2⟩ := at_T42 HR0.out x9_1 p101 q101
         cases e101
         replace hx101_0 := (HB.out.cell (World.block_lt_of_cell? w _ hx101_0)).trans hx101_0
         replace hx101_1 := (HB.out.cell (World.block_lt_of_cell? w _ hx101_1)).trans hx101_1
         replace hx101_2 := (HB.out.cell (World.block_lt_of_cell? w _ hx101_2)).trans hx101_2
         replace p101 := eq_true p101
         replace q101 := eq_true q101
         go_wp2_with (first | ((with_reducible refine gate_dst (N := 6) rfl ?_); refine box_event ?hg (N := 6) ?hd (cs := #[.int .u8 0, .string (⟨#[]⟩ : ByteArray), .bool false]) (t := 42) ?hr ?_; (case hd => rfl); (case hg => rfl); (case hr => first | (go_simp; done) | (go_simp; rfl)); intro gb102 hg w13 hbox hb; have n0_ := Aside0.mk (below_step (by repeat (first | (with_reducible first | exact HB.out | apply below_alloc | apply pw_below_drewN | apply below_drew1) | exact HB.out)) hb); have n1_ := Aside0.mk (hbox); have n2_ := Aside0.mk ((by rw [hg]; exact (below_size (by repeat (first | (with_reducible first | exact HB.out | apply below_alloc | apply pw_below_drewN | apply below_drew1) | exact HB.out))) : w.heap.size ≤ gb102)); have n3_ := Aside0.mk ((by rw [hg]; exact (below_size (by repeat (first | (with_reducible first | exact HB.out | apply below_alloc | apply pw_below_drewN | apply below_drew1) | exact HB.out))) : w.heap.size ≤ gb102)); clear HB; have HB := n0_; have BK102 := n1_; have GW102 := n2_; have GE102 := n3_; clear n0_ n1_ n2_ n3_; clear hb hbox hg; have hcz14_0 : w13.cell? ⟨gb102, 0, none⟩ = some (.int .u8 0) := (blk_cell BK102.out 0).trans rfl; have hcz14_1 : w13.cell? ⟨gb102, 1, none⟩ = some (.string (⟨#[]⟩ : ByteArray)) := (blk_cell BK102.out 1).trans rfl; have hcz14_2 : w13.cell? ⟨gb102, 2, none⟩ = some (.bool false) := (blk_cell BK102.out 2).trans rfl; have hfz14_0 := blk_frozen BK102.out 0; have hfz14_1 := blk_frozen BK102.out 1; have hfz14_2 := blk_frozen BK102.out 2))
         go_ret
         exact ⟨by first | rfl | (simp [errW_none, errW_some] <;> rfl) | (simp [*, errW_none, errW_some] <;> rfl), by repeat (first | (with_reducible first | exact HB.out | apply below_alloc | apply pw_below_drewN | apply below_drew1 | refine below_set ?_ GE102.out) | exact HB.out)⟩
        ·rw [if_neg c12] at H
         have c12b0 : (((rd_T42 l0 x9_1).f0) == a1) = false := beq_eq_false_iff_ne.mpr c12
         have c12b1 : (((rd_T42 l0 x9_1).f0) != a1) = true := bne_iff_ne.mpr c12
         have H' := Aside0.mk H
         clear H
         have p101 : 0 ≤ (x9_1 : Int) := of_decide_eq_true (by first | (with_reducible assumption) | assumption)
         have q101 : x9_1 < (l0.length : Int) := of_decide_eq_true (by first | (with_reducible assumption) | assumption)
         obtain ⟨ad101, e101, hx101_0, hx101_1, hx101_2⟩ := at_T42 HR0.out x9_1 p101 q101
         cases e101
         replace hx101_0 := (HB.out.cell (World.block_lt_of_cell? w _ hx101_0)).trans hx101_0
         replace hx101_1 := (HB.out.cell (World.block_lt_of_cell? w _ hx101_1)).trans hx101_1
         replace hx101_2 := (HB.out.cell (World.block_lt_of_cell? w _ hx101_2)).trans hx101_2
         replace p101 := eq_true p101
         replace q101 := eq_true q101
         go_wp2_with (first | ((with_reducible refine gate_dst (N := 6) rfl ?_); refine box_event ?hg (N := 6) ?hd (cs := #[.int .u8 0, .string (⟨#[]⟩ : ByteArray), .bool false]) (t := 42) ?hr ?_; (case hd => rfl); (case hg => rfl); (case hr => first | (go_simp; done) | (go_simp; rfl)); intro gb102 hg w15 hbox hb; have n0_ := Aside0.mk (below_step (by repeat (first | (with_reducible first | exact HB.out | apply below_alloc | apply pw_below_drewN | apply below_drew1) | exact HB.out)) hb); have n1_ := Aside0.mk (hbox); have n2_ := Aside0.mk ((by rw [hg]; exact (below_size (by repeat (first | (with_reducible first | exact HB.out | apply below_alloc | apply pw_below_drewN | apply below_drew1) | exact HB.out))) : w.heap.size ≤ gb102)); have n3_ := Aside0.mk ((by rw [hg]; exact (below_size (by repeat (first | (with_reducible first | exact HB.out | apply below_alloc | apply pw_below_drewN | apply below_drew1) | exact HB.out))) : w.heap.size ≤ gb102)); clear HB; have HB := n0_; have BK102 := n1_; have GW102 := n2_; have GE102 := n3_; clear n0_ n1_ n2_ n3_; clear hb hbox hg; have hcz16_0 : w15.cell? ⟨gb102, 0, none⟩ = some (.int .u8 0) := (blk_cell BK102.out 0).trans rfl; have hcz16_1 : w15.cell? ⟨gb102, 1, none⟩ = some (.string (⟨#[]⟩ : ByteArray)) := (blk_cell BK102.out 1).trans rfl; have hcz16_2 : w15.cell? ⟨gb102, 2, none⟩ = some (.bool false) := (blk_cell BK102.out 2).trans rfl; have hfz16_0 := blk_frozen BK102.out 0; have hfz16_1 := blk_frozen BK102.out 1; have hfz16_2 := blk_frozen BK102.out 2))
         go_roundg k1
         case measure => have := HK1.out; omega
         case rel => exact ⟨(wrap64 (x9_1 + 1)), (by first | rfl | (simp; done) | (simp [*]; done)), H', ⟨by have := HK1.out; omega⟩, ⟨by repeat (first | (with_reducible first | exact HB.out | apply below_alloc | apply pw_below_drewN | apply below_drew1 | refine below_set ?_ GE102.out) | exact HB.out)⟩⟩
     ·rw [if_neg c5] at H
      exact absurd H (by simp)
    ·rw [if_neg c4] at H
     exact absurd H (by simp)
   ·rw [if_neg c3] at H
    have c3b0 : decide (x9_1 < (l0.length : Int)) = false := decide_eq_false c3
    clear c3
    obtain rfl := Option.some.inj H
    go_wp2
    go_ret
    exact ⟨by first | rfl | (simp [errW_none, errW_some] <;> rfl) | (simp [*, errW_none, errW_some] <;> rfl), by repeat (first | (with_reducible first | exact HB.out | apply below_alloc | apply pw_below_drewN | apply below_drew1) | exact HB.out)⟩

/-! ### show_Check: function 16 -/
mutual
def show_Check.l0 : Nat → Int → Int → List (S42) → Int → Int → Int → Int → Int → Int → List (S42) → Option (Int)
 | 0, _, _, _, _, _, _, _, _, _, _ => none
 | k + 1, x3, x4, x10, x11, x12, x104000, x104001, x104002, x104003, x104004 => if x12 < x11 then (if 0 ≤ x12 then (if x12 < (x10.length : Int) then ((strings_IndexByte.f ((rd_T42 x10 x12).f1) 10).bind fun t106 => (if t106 ≥ 0 then (some 14) else (if ((rd_T42 x10 x12).f0) = 32 then (show_Check.l0 k (wrap64 (x3 + 1)) (wrap64 (x4 + 1)) x10 x11 (wrap64 (x12 + 1)) x104000 x104001 x104002 x104003 x104004) else (if ((rd_T42 x10 x12).f0) = 43 then (show_Check.l0 k x3 (wrap64 (x4 + 1)) x10 x11 (wrap64 (x12 + 1)) x104000 x104001 x104002 x104003 x104004) else (if ((rd_T42 x10 x12).f0) = 45 then (show_Check.l0 k (wrap64 (x3 + 1)) x4 x10 x11 (wrap64 (x12 + 1)) x104000 x104001 x104002 x104003 x104004) else (some 7)))))) else (none)) else (none)) else (if x104000 < 0 then (show_Check.j1 k x3 x4 true x104000 x104001 x104002 x104003 x104004) else (if x104002 < 0 then (show_Check.j1 k x3 x4 true x104000 x104001 x104002 x104003 x104004) else (if x104000 > 65536 then (show_Check.j1 k x3 x4 true x104000 x104001 x104002 x104003 x104004) else (show_Check.j1 k x3 x4 (decide (x104002 > 65536)) x104000 x104001 x104002 x104003 x104004))))
def show_Check.j1 : Nat → Int → Int → Bool → Int → Int → Int → Int → List (S42) → Option (Int)
 | 0, _, _, _, _, _, _, _, _ => none
 | k + 1, x3, x4, x35, x104000, x104001, x104002, x104003, x104004 => if x35 = true then (some 2) else (if x3 = x104001 then (if x4 = x104003 then (if (wrap64 (x3 + x4)) = 0 then (some 13) else (show_Check.l1 k x104004 (x104004.length : Int) 0 x104000 x104001 x104002 x104003 x104004)) else (some 13)) else (some 13))
def show_Check.l1 : Nat → List (S42) → Int → Int → Int → Int → Int → Int → List (S42) → Option (Int)
 | 0, _, _, _, _, _, _, _, _ => none
 | k + 1, x72, x73, x74, x104000, x104001, x104002, x104003, x104004 => if x74 < x73 then (if 0 ≤ x74 then (if x74 < (x72.length : Int) then (if (rd_T42 x72 x74).f2 = true then (if 0 ≤ (wrap64 (x74 + 1)) then (if (wrap64 (x74 + 1)) ≤ (x104004.length : Int) then ((show_last.f k (x104004.drop ((wrap64 (x74 + 1)) : Int).toNat) ((rd_T42 x72 x74).f0)).bind fun t113 => (if t113 = true then (show_Check.l1 k x72 x73 (wrap64 (x74 + 1)) x104000 x104001 x104002 x104003 x104004) else (some 15))) else (none)) else (none)) else (show_Check.l1 k x72 x73 (wrap64 (x74 + 1)) x104000 x104001 x104002 x104003 x104004)) else (none)) else (none)) else (some 0)
end
def show_Check.f (k : Nat) (a0_0 : Int) (a0_1 : Int) (a0_2 : Int) (a0_3 : Int) (l0_4 : List (S42)) : Option (Int) := show_Check.l0 k 0 0 l0_4 (l0_4.length : Int) 0 a0_0 a0_1 a0_2 a0_3 l0_4
theorem show_Check.mono_l : ∀ k, (∀ y0 y1 y2 y3 y4 y5 y6 y7 y8 y9, LeO (show_Check.l0 k y0 y1 y2 y3 y4 y5 y6 y7 y8 y9) (show_Check.l0 (k + 1) y0 y1 y2 y3 y4 y5 y6 y7 y8 y9)) ∧ (∀ y0 y1 y2 y3 y4 y5 y6 y7, LeO (show_Check.j1 k y0 y1 y2 y3 y4 y5 y6 y7) (show_Check.j1 (k + 1) y0 y1 y2 y3 y4 y5 y6 y7)) ∧ (∀ y0 y1 y2 y3 y4 y5 y6 y7, LeO (show_Check.l1 k y0 y1 y2 y3 y4 y5 y6 y7) (show_Check.l1 (k + 1) y0 y1 y2 y3 y4 y5 y6 y7))
 | 0 => ⟨fun _ _ _ _ _ _ _ _ _ _ r h => by simp [show_Check.l0] at h, fun _ _ _ _ _ _ _ _ r h => by simp [show_Check.j1] at h, fun _ _ _ _ _ _ _ _ r h => by simp [show_Check.l1] at h⟩
 | k + 1 => by
  obtain ⟨ih0, ih1, ih2⟩ := show_Check.mono_l k
  refine ⟨?_, ?_, ?_⟩
  ·intro y0 y1 y2 y3 y4 y5 y6 y7 y8 y9
   unfold show_Check.l0
   repeat' first
   | (with_reducible exact ih0 _ _ _ _ _ _ _ _ _ _)
   | (with_reducible exact ih1 _ _ _ _ _ _ _ _)
   | (with_reducible exact ih2 _ _ _ _ _ _ _ _)
   | (with_reducible exact show_last.mono _ _ _)
   | (with_reducible exact LeO.refl _)
   | (with_reducible exact LeO.none _)
   | (with_reducible refine LeO.ite ?_ ?_)
   | (with_reducible refine LeO.bind ?_ (fun _ => ?_))
   | exact ih0 _ _ _ _ _ _ _ _ _ _
   | exact ih1 _ _ _ _ _ _ _ _
   | exact ih2 _ _ _ _ _ _ _ _
   | exact show_last.mono _ _ _
   | exact LeO.none _
   | refine LeO.ite ?_ ?_
   | refine LeO.bind ?_ (fun _ => ?_)
  ·intro y0 y1 y2 y3 y4 y5 y6 y7
   unfold show_Check.j1
   repeat' first
   | (with_reducible exact ih0 _ _ _ _ _ _ _ _ _ _)
   | (with_reducible exact ih1 _ _ _ _ _ _ _ _)
   | (with_reducible exact ih2 _ _ _ _ _ _ _ _)
   | (with_reducible exact show_last.mono _ _ _)
   | (with_reducible exact LeO.refl _)
   | (with_reducible exact LeO.none _)
   | (with_reducible refine LeO.ite ?_ ?_)
   | (with_reducible refine LeO.bind ?_ (fun _ => ?_))
   | exact ih0 _ _ _ _ _ _ _ _ _ _
   | exact ih1 _ _ _ _ _ _ _ _
   | exact ih2 _ _ _ _ _ _ _ _
   | exact show_last.mono _ _ _
   | exact LeO.none _
   | refine LeO.ite ?_ ?_
   | refine LeO.bind ?_ (fun _ => ?_)
  ·intro y0 y1 y2 y3 y4 y5 y6 y7
   unfold show_Check.l1
   repeat' first
   | (with_reducible exact ih0 _ _ _ _ _ _ _ _ _ _)
   | (with_reducible exact ih1 _ _ _ _ _ _ _ _)
   | (with_reducible exact ih2 _ _ _ _ _ _ _ _)
   | (with_reducible exact show_last.mono _ _ _)
   | (with_reducible exact LeO.refl _)
   | (with_reducible exact LeO.none _)
   | (with_reducible refine LeO.ite ?_ ?_)
   | (with_reducible refine LeO.bind ?_ (fun _ => ?_))
   | exact ih0 _ _ _ _ _ _ _ _ _ _
   | exact ih1 _ _ _ _ _ _ _ _
   | exact ih2 _ _ _ _ _ _ _ _
   | exact show_last.mono _ _ _
   | exact LeO.none _
   | refine LeO.ite ?_ ?_
   | refine LeO.bind ?_ (fun _ => ?_)
theorem show_Check.mono : ∀ a0 a1 a2 a3 a4 k, LeO (show_Check.f k a0 a1 a2 a3 a4) (show_Check.f (k + 1) a0 a1 a2 a3 a4) := by
 intro a0 a1 a2 a3 a4 k
 obtain ⟨ih0, ih1, ih2⟩ := show_Check.mono_l k
 unfold show_Check.f
 repeat' first
   | (with_reducible exact ih0 _ _ _ _ _ _ _ _ _ _)
   | (with_reducible exact ih1 _ _ _ _ _ _ _ _)
   | (with_reducible exact ih2 _ _ _ _ _ _ _ _)
   | (with_reducible exact show_last.mono _ _ _)
   | (with_reducible exact LeO.refl _)
   | (with_reducible exact LeO.none _)
   | (with_reducible refine LeO.ite ?_ ?_)
   | (with_reducible refine LeO.bind ?_ (fun _ => ?_))
   | exact ih0 _ _ _ _ _ _ _ _ _ _
   | exact ih1 _ _ _ _ _ _ _ _
   | exact ih2 _ _ _ _ _ _ _ _
   | exact show_last.mono _ _ _
   | exact LeO.none _
   | refine LeO.ite ?_ ?_
   | refine LeO.bind ?_ (fun _ => ?_)
def show_Check.T23 : Bool × List (List Nat × List Nat) := (true, [([], []), ([0], [0]), ([1], [1]), ([2], [2]), ([3, 2], [2, 3]), ([2], [2]), ([5, 2], [2, 5]), ([4, 6, 2], [2, 4, 6]), ([2], [2]), ([8, 2], [2, 8]), ([7, 9, 2, 2], [2, 7, 9]), ([10, 2], [2, 10]), ([2, 11], [2, 11])])
def show_Check.B23 : List Nat := [0, 1, 3, 7, 15, 7, 39, 127, 7, 263, 1023, 2047, 4095]
theorem show_Check.tab23 : rtab .any (opsOf Tryd.f16 23) = show_Check.T23 := by kernel_rfl
theorem show_Check.bits23 : waitsOk show_Check.T23.2 show_Check.B23 = true := by kernel_rfl
set_option maxHeartbeats 8000000 in
set_option maxRecDepth 100000 in
theorem show_Check.calls (k : Nat) (a0_0 : Int) (a0_1 : Int) (a0_2 : Int) (a0_3 : Int) (A0_4 : Option Addr) (c0_4 : Nat) (l0_4 : List (S42)) (r : Int) (w : World) (hr0_4 : Kd.C k42 w A0_4 l0_4.length l0_4) (hc0_4 : l0_4.length ≤ c0_4) (h : show_Check.f k a0_0 a0_1 a0_2 a0_3 l0_4 = some r) :
  Calls Tryd.prog 16 #[.agg #[.int .i64 a0_0, .int .i64 a0_1, .int .i64 a0_2, .int .i64 a0_3, .slice A0_4 l0_4.length c0_4]] w fun e w' => e = .returned (.int .i64 r) ∧ Below w.heap.size w w' := by
 have hu26 := Tryd.underlying26
 have hu42 := Tryd.underlying42
 have HR0_4 := Aside0.mk hr0_4
 have HC0_4 := Aside0.mk hc0_4
 clear hr0_4 hc0_4
 have HB := Aside0.mk (Below.refl w.heap.size w)
 have H : (show_Check.l0 k 0 0 l0_4 (l0_4.length : Int) 0 a0_0 a0_1 a0_2 a0_3 l0_4) = some r := h
 clear h
 have H' := Aside0.mk H
 clear H
 go_enter Tryd.func16, Tryd.ntmps16
 go_wp2_with (first | ((with_reducible refine gate_dst (N := 1) rfl ?_); refine box_event ?hg (N := 1) ?hd (cs := #[.int .i64 a0_0, .int .i64 a0_1, .int .i64 a0_2, .int .i64 a0_3, .slice A0_4 l0_4.length c0_4]) (t := 26) ?hr ?_; (case hd => rfl); (case hg => rfl); (case hr => first | (go_simp; done) | (go_simp; rfl)); intro gb103 hg w2 hbox hb; have n0_ := Aside0.mk (below_step (by repeat (first | (with_reducible first | exact HB.out | apply below_alloc | apply pw_below_drewN | apply below_drew1) | exact HB.out)) hb); have n1_ := Aside0.mk (hbox); have n2_ := Aside0.mk ((by rw [hg]; exact (below_size (by repeat (first | (with_reducible first | exact HB.out | apply below_alloc | apply pw_below_drewN | apply below_drew1) | exact HB.out))) : w.heap.size ≤ gb103)); have n3_ := Aside0.mk ((by rw [hg]; exact (below_size (by repeat (first | (with_reducible first | exact HB.out | apply below_alloc | apply pw_below_drewN | apply below_drew1) | exact HB.out))) : w.heap.size ≤ gb103)); clear HB; have HB := n0_; have BK103 := n1_; have GW103 := n2_; have GE103 := n3_; clear n0_ n1_ n2_ n3_; clear hb hbox hg; have hcz3_0 : w2.cell? ⟨gb103, 0, none⟩ = some (.int .i64 a0_0) := (blk_cell BK103.out 0).trans rfl; have hcz3_1 : w2.cell? ⟨gb103, 1, none⟩ = some (.int .i64 a0_1) := (blk_cell BK103.out 1).trans rfl; have hcz3_2 : w2.cell? ⟨gb103, 2, none⟩ = some (.int .i64 a0_2) := (blk_cell BK103.out 2).trans rfl; have hcz3_3 : w2.cell? ⟨gb103, 3, none⟩ = some (.int .i64 a0_3) := (blk_cell BK103.out 3).trans rfl; have hcz3_4 : w2.cell? ⟨gb103, 4, none⟩ = some (.slice A0_4 l0_4.length c0_4) := (blk_cell BK103.out 4).trans rfl; have hfz3_0 := blk_frozen BK103.out 0; have hfz3_1 := blk_frozen BK103.out 1; have hfz3_2 := blk_frozen BK103.out 2; have hfz3_3 := blk_frozen BK103.out 3; have hfz3_4 := blk_frozen BK103.out 4))
 go_loopg [3, 4, 12] k (fun kq v3 v4 v12 w' => ∃ (x3_1 : Int) (x4_1 : Int) (x12_1 : Int), v3 = .int .i64 x3_1 ∧ v4 = .int .i64 x4_1 ∧ v12 = .int .i64 x12_1 ∧ Aside0 (show_Check.l0 kq x3_1 x4_1 l0_4 (l0_4.length : Int) x12_1 a0_0 a0_1 a0_2 a0_3 l0_4 = some r) ∧ Aside0 (kq ≤ k) ∧ Aside0 (w'.heap[gb103]? = some (.cells #[.int .i64 a0_0, .int .i64 a0_1, .int .i64 a0_2, .int .i64 a0_3, (.slice A0_4 l0_4.length c0_4)] 26 (0, 0))) ∧ Aside0 (Below w.heap.size w w'))
 case atStart => exact ⟨(0), (0), (0), (by first | rfl | (simp; done) | (simp [*]; done)), (by first | rfl | (simp; done) | (simp [*]; done)), (by first | rfl | (simp; done) | (simp [*]; done)), H', ⟨Nat.le_refl _⟩, ⟨by (with_reducible repeat (first | refine blk_drewN ?_ _ | refine blk_drew ?_ | refine blk_alloc ?_ _)); exact BK103.out⟩, ⟨by repeat (first | (with_reducible first | exact HB.out | apply below_alloc | apply pw_below_drewN | apply below_drew1 | refine below_set ?_ GE103.out) | exact HB.out)⟩⟩
 case round =>
  clear H'
  try clear c1
  try clear p2
  try clear hcz3_0
  try clear hcz3_1
  try clear hcz3_2
  try clear hcz3_3
  try clear hcz3_4
  try clear hfz3_0
  try clear hfz3_1
  try clear hfz3_2
  try clear hfz3_3
  try clear hfz3_4
  obtain ⟨x3_1, x4_1, x12_1, rfl, rfl, rfl, HA, HK1, BK103, HB⟩ := hrel
  cases gk with
  | zero => exact absurd HA.out (by simp [show_Check.l0])
  | succ k1 =>
   have H := HA.out
   clear HA
   simp only [show_Check.l0] at H
   by_cases c4 : x12_1 < (l0_4.length : Int)
   ·rw [if_pos c4] at H
    have c4b0 : decide (x12_1 < (l0_4.length : Int)) = true := decide_eq_true c4
    clear c4
    by_cases c5 : 0 ≤ x12_1
    ·rw [if_pos c5] at H
     have c5b0 : decide (0 ≤ x12_1) = true := decide_eq_true c5
     clear c5
     by_cases c6 : x12_1 < (l0_4.length : Int)
     ·rw [if_pos c6] at H
      have c6b0 : decide (x12_1 < (l0_4.length : Int)) = true := decide_eq_true c6
      clear c6
      replace H := Option.bind_eq_some_iff.mp H
      obtain ⟨t106, A70, H⟩ := H
      replace H : (if t106 ≥ 0 then (some 14) else (if ((rd_T42 l0_4 x12_1).f0) = 32 then (show_Check.l0 k1 (wrap64 (x3_1 + 1)) (wrap64 (x4_1 + 1)) l0_4 (l0_4.length : Int) (wrap64 (x12_1 + 1)) a0_0 a0_1 a0_2 a0_3 l0_4) else (if ((rd_T42 l0_4 x12_1).f0) = 43 then (show_Check.l0 k1 x3_1 (wrap64 (x4_1 + 1)) l0_4 (l0_4.length : Int) (wrap64 (x12_1 + 1)) a0_0 a0_1 a0_2 a0_3 l0_4) else (if ((rd_T42 l0_4 x12_1).f0) = 45 then (show_Check.l0 k1 (wrap64 (x3_1 + 1)) x4_1 l0_4 (l0_4.length : Int) (wrap64 (x12_1 + 1)) a0_0 a0_1 a0_2 a0_3 l0_4) else (some 7))))) = some r := H
      have A7 := Aside0.mk A70
      clear A70
      by_cases c8 : t106 ≥ 0
      ·rw [if_pos c8] at H
       have c8b0 : decide (0 ≤ t106) = true := decide_eq_true c8
       clear c8
       obtain rfl := Option.some.inj H
       have p104 : 0 ≤ (x12_1 : Int) := of_decide_eq_true (by first | (with_reducible assumption) | assumption)
       have q104 : x12_1 < (l0_4.length : Int) := of_decide_eq_true (by first | (with_reducible assumption) | assumption)
       obtain ⟨ad104, e104, hx104_0, hx104_1, hx104_2⟩ := at_T42 HR0_4.out x12_1 p104 q104
       cases e104
       replace hx104_0 := (HB.out.cell (World.block_lt_of_cell? w _ hx104_0)).trans hx104_0
       replace hx104_1 := (HB.out.cell (World.block_lt_of_cell? w _ hx104_1)).trans hx104_1
       replace hx104_2 := (HB.out.cell (World.block_lt_of_cell? w _ hx104_2)).trans hx104_2
       replace p104 := eq_true p104
       replace q104 := eq_true q104
       go_wp2_with (first | ((with_reducible refine gate_dst (N := 6) rfl ?_); refine box_event ?hg (N := 6) ?hd (cs := #[.int .u8 0, .string (⟨#[]⟩ : ByteArray), .bool false]) (t := 42) ?hr ?_; (case hd => rfl); (case hg => rfl); (case hr => first | (go_simp; done) | (go_simp; rfl)); intro gb105 hg w9 hbox hb; have n0_ := Aside0.mk (blk_below (g := gb103) (o := .cells #[.int .i64 a0_0, .int .i64 a0_1, .int .i64 a0_2, .int .i64 a0_3, .slice (some ad104) l0_4.length c0_4] 26 (0, 0)) (by (with_reducible repeat (first | refine blk_drewN ?_ _ | refine blk_drew ?_ | refine blk_alloc ?_ _)); exact BK103.out) hb); have n1_ := Aside0.mk (below_step (by repeat (first | (with_reducible first | exact HB.out | apply below_alloc | apply pw_below_drewN | apply below_drew1 | refine below_set ?_ GE103.out) | exact HB.out)) hb); have n2_ := Aside0.mk (hbox); have n3_ := Aside0.mk ((by rw [hg]; exact (below_size (by repeat (first | (with_reducible first | exact HB.out | apply below_alloc | apply pw_below_drewN | apply below_drew1 | refine below_set ?_ GE103.out) | exact HB.out))) : w.heap.size ≤ gb105)); have n4_ := Aside0.mk ((by rw [hg]; exact (below_size (by repeat (first | (with_reducible first | exact HB.out | apply below_alloc | apply pw_below_drewN | apply below_drew1 | refine below_set ?_ GE103.out) | exact HB.out))) : w.heap.size ≤ gb105)); have n5_ := Aside0.mk ((by rw [hg]; exact Nat.ne_of_lt (blk_lt (g := gb103) (o := .cells #[.int .i64 a0_0, .int .i64 a0_1, .int .i64 a0_2, .int .i64 a0_3, .slice (some ad104) l0_4.length c0_4] 26 (0, 0)) (by (with_reducible repeat (first | refine blk_drewN ?_ _ | refine blk_drew ?_ | refine blk_alloc ?_ _)); exact BK103.out)) : gb103 ≠ gb105)); have n6_ := Aside0.mk ((by rw [hg]; exact Nat.ne_of_gt (blk_lt (g := gb103) (o := .cells #[.int .i64 a0_0, .int .i64 a0_1, .int .i64 a0_2, .int .i64 a0_3, .slice (some ad104) l0_4.length c0_4] 26 (0, 0)) (by (with_reducible repeat (first | refine blk_drewN ?_ _ | refine blk_drew ?_ | refine blk_alloc ?_ _)); exact BK103.out)) : gb105 ≠ gb103)); clear BK103; clear HB; have BK103 := n0_; have HB := n1_; have BK105 := n2_; have GW105 := n3_; have GE105 := n4_; have NB103_105 := n5_; have NB105_103 := n6_; clear n0_ n1_ n2_ n3_ n4_ n5_ n6_; clear hb hbox hg; have hnb10 := NB105_103.out; have hnc10 := NB103_105.out; have hcz11_0 : w9.cell? ⟨gb105, 0, none⟩ = some (.int .u8 0) := (blk_cell BK105.out 0).trans rfl; have hcz11_1 : w9.cell? ⟨gb105, 1, none⟩ = some (.string (⟨#[]⟩ : ByteArray)) := (blk_cell BK105.out 1).trans rfl; have hcz11_2 : w9.cell? ⟨gb105, 2, none⟩ = some (.bool false) := (blk_cell BK105.out 2).trans rfl; have hfz11_0 := blk_frozen BK105.out 0; have hfz11_1 := blk_frozen BK105.out 1; have hfz11_2 := blk_frozen BK105.out 2) | ((with_reducible refine gate_callee (f := 34) rfl ?_); refine goesL_ (some 18) rfl rfl Tryd.func34 (by kernel_rfl) rfl #[.string ((rd_T42 l0_4 x12_1).f1), .int .u8 10] rfl (by (try simp only [List.map_toArray, List.map_cons, List.map_nil]); first | done | rfl | (simp only [List.length_drop, List.length_take]; rfl)) ?_; (with_reducible refine (strings_IndexByte.calls ((rd_T42 l0_4 x12_1).f1) 10 t106 _ A7.out).mono ?_); rintro e w' ⟨rfl, ⟨nd, rfl⟩⟩; refine ⟨_, rfl, ?_⟩))
       go_ret
       exact ⟨by first | rfl | (simp [errW_none, errW_some] <;> rfl) | (simp [*, errW_none, errW_some] <;> rfl), by repeat (first | (with_reducible first | exact HB.out | apply below_alloc | apply pw_below_drewN | apply below_drew1 | refine below_set ?_ GE103.out | refine below_set ?_ GE105.out) | exact HB.out)⟩
      ·rw [if_neg c8] at H
       have c8b0 : decide (0 ≤ t106) = false := decide_eq_false c8
       clear c8
       by_cases c12 : ((rd_T42 l0_4 x12_1).f0) = 32
       ·rw [if_pos c12] at H
        have c12b0 : (((rd_T42 l0_4 x12_1).f0) == 32) = true := beq_iff_eq.mpr c12
        have c12b1 : (((rd_T42 l0_4 x12_1).f0) != 32) = false := bne_eq_false_iff_eq.mpr c12
        clear c12
        have H' := Aside0.mk H
        clear H
        have p104 : 0 ≤ (x12_1 : Int) := of_decide_eq_true (by first | (with_reducible assumption) | assumption)
        have q104 : x12_1 < (l0_4.length : Int) := of_decide_eq_true (by first | (with_reducible assumption) | assumption)
        obtain ⟨ad104, e104, hx104_0, hx104_1, hx104_2⟩ := at_T42 HR0_4.out x12_1 p104 q104
        cases e104
        replace hx104_0 := (HB.out.cell (World.block_lt_of_cell? w _ hx104_0)).trans hx104_0
        replace hx104_1 := (HB.out.cell (World.block_lt_of_cell? w _ hx104_1)).trans hx104_1
        replace hx104_2 := (HB.out.cell (World.block_lt_of_cell? w _ hx104_2)).trans hx104_2
        replace p104 := eq_true p104
        replace q104 := eq_true q104
        go_wp2_with (first | ((with_reducible refine gate_dst (N := 6) rfl ?_); refine box_event ?hg (N := 6) ?hd (cs := #[.int .u8 0, .string (⟨#[]⟩ : ByteArray), .bool false]) (t := 42) ?hr ?_; (case hd => rfl); (case hg => rfl); (case hr => first | (go_simp; done) | (go_simp; rfl)); intro gb105 hg w13 hbox hb; have n0_ := Aside0.mk (blk_below (g := gb103) (o := .cells #[.int .i64 a0_0, .int .i64 a0_1, .int .i64 a0_2, .int .i64 a0_3, .slice (some ad104) l0_4.length c0_4] 26 (0, 0)) (by (with_reducible repeat (first | refine blk_drewN ?_ _ | refine blk_drew ?_ | refine blk_alloc ?_ _)); exact BK103.out) hb); have n1_ := Aside0.mk (below_step (by repeat (first | (with_reducible first | exact HB.out | apply below_alloc | apply pw_below_drewN | apply below_drew1 | refine below_set ?_ GE103.out) | exact HB.out)) hb); have n2_ := Aside0.mk (hbox); have n3_ := Aside0.mk ((by rw [hg]; exact (below_size (by repeat (first | (with_reducible first | exact HB.out | apply below_alloc | apply pw_below_drewN | apply below_drew1 | refine below_set ?_ GE103.out) | exact HB.out))) : w.heap.size ≤ gb105)); have n4_ := Aside0.mk ((by rw [hg]; exact (below_size (by repeat (first | (with_reducible first | exact HB.out | apply below_alloc | apply pw_below_drewN | apply below_drew1 | refine below_set ?_ GE103.out) | exact HB.out))) : w.heap.size ≤ gb105)); have n5_ := Aside0.mk ((by rw [hg]; exact Nat.ne_of_lt (blk_lt (g := gb103) (o := .cells #[.int .i64 a0_0, .int .i64 a0_1, .int .i64 a0_2, .int .i64 a0_3, .slice (some ad104) l0_4.length c0_4] 26 (0, 0)) (by (with_reducible repeat (first | refine blk_drewN ?_ _ | refine blk_drew ?_ | refine blk_alloc ?_ _)); exact BK103.out)) : gb103 ≠ gb105)); have n6_ := Aside0.mk ((by rw [hg]; exact Nat.ne_of_gt (blk_lt (g := gb103) (o := .cells #[.int .i64 a0_0, .int .i64 a0_1, .int .i64 a0_2, .int .i64 a0_3, .slice (some ad104) l0_4.length c0_4] 26 (0, 0)) (by (with_reducible repeat (first | refine blk_drewN ?_ _ | refine blk_drew ?_ | refine blk_alloc ?_ _)); exact BK103.out)) : gb105 ≠ gb103)); clear BK103; clear HB; have BK103 := n0_; have HB := n1_; have BK105 := n2_; have GW105 := n3_; have GE105 := n4_; have NB103_105 := n5_; have NB105_103 := n6_; clear n0_ n1_ n2_ n3_ n4_ n5_ n6_; clear hb hbox hg; have hnb14 := NB105_103.out; have hnc14 := NB103_105.out; have hcz15_0 : w13.cell? ⟨gb105, 0, none⟩ = some (.int .u8 0) := (blk_cell BK105.out 0).trans rfl; have hcz15_1 : w13.cell? ⟨gb105, 1, none⟩ = some (.string (⟨#[]⟩ : ByteArray)) := (blk_cell BK105.out 1).trans rfl; have hcz15_2 : w13.cell? ⟨gb105, 2, none⟩ = some (.bool false) := (blk_cell BK105.out 2).trans rfl; have hfz15_0 := blk_frozen BK105.out 0; have hfz15_1 := blk_frozen BK105.out 1; have hfz15_2 := blk_frozen BK105.out 2) | ((with_reducible refine gate_callee (f := 34) rfl ?_); refine goesL_ (some 18) rfl rfl Tryd.func34 (by kernel_rfl) rfl #[.string ((rd_T42 l0_4 x12_1).f1), .int .u8 10] rfl (by (try simp only [List.map_toArray, List.map_cons, List.map_nil]); first | done | rfl | (simp only [List.length_drop, List.length_take]; rfl)) ?_; (with_reducible refine (strings_IndexByte.calls ((rd_T42 l0_4 x12_1).f1) 10 t106 _ A7.out).mono ?_); rintro e w' ⟨rfl, ⟨nd, rfl⟩⟩; refine ⟨_, rfl, ?_⟩))
        go_roundg k1
        case measure => have := HK1.out; omega
        case rel => exact ⟨(wrap64 (x3_1 + 1)), (wrap64 (x4_1 + 1)), (wrap64 (x12_1 + 1)), (by first | rfl | (simp; done) | (simp [*]; done)), (by first | rfl | (simp; done) | (simp [*]; done)), (by first | rfl | (simp; done) | (simp [*]; done)), H', ⟨by have := HK1.out; omega⟩, ⟨by (with_reducible repeat (first | refine blk_drewN ?_ _ | refine blk_drew ?_ | refine blk_alloc ?_ _)); refine blk_far ?_ NB103_105.out _; (with_reducible repeat (first | refine blk_drewN ?_ _ | refine blk_drew ?_ | refine blk_alloc ?_ _)); refine blk_far ?_ NB103_105.out _; (with_reducible repeat (first | refine blk_drewN ?_ _ | refine blk_drew ?_ | refine blk_alloc ?_ _)); refine blk_far ?_ NB103_105.out _; (with_reducible repeat (first | refine blk_drewN ?_ _ | refine blk_drew ?_ | refine blk_alloc ?_ _)); exact BK103.out⟩, ⟨by repeat (first | (with_reducible first | exact HB.out | apply below_alloc | apply pw_below_drewN | apply below_drew1 | refine below_set ?_ GE103.out | refine below_set ?_ GE105.out) | exact HB.out)⟩⟩
       ·rw [if_neg c12] at H
        have c12b0 : (((rd_T42 l0_4 x12_1).f0) == 32) = false := beq_eq_false_iff_ne.mpr c12
        have c12b1 : (((rd_T42 l0_4 x12_1).f0) != 32) = true := bne_iff_ne.mpr c12
        by_cases c16 : ((rd_T42 l0_4 x12_1).f0) = 43
        ·rw [if_pos c16] at H
         have c16b0 : (((rd_T42 l0_4 x12_1).f0) == 43) = true := beq_iff_eq.mpr c16
         have c16b1 : (((rd_T42 l0_4 x12_1).f0) != 43) = false := bne_eq_false_iff_eq.mpr c16
         clear c16
         have H' := Aside0.mk H
         clear H
         have p104 : 0 ≤ (x12_1 : Int) := of_decide_eq_true (by first | (with_reducible assumption) | assumption)
         have q104 : x12_1 < (l0_4.length : Int) := of_decide_eq_true (by first | (with_reducible assumption) | assumption)
         obtain ⟨ad104, e104, hx104_0, hx104_1, hx104_2⟩ := at_T42 HR0_4.out x12_1 p104 q104
         cases e104
         replace hx104_0 := (HB.out.cell (World.block_lt_of_cell? w _ hx104_0)).trans hx104_0
         replace hx104_1 := (HB.out.cell (World.block_lt_of_cell? w _ hx104_1)).trans hx104_1
         replace hx104_2 := (HB.out.cell (World.block_lt_of_cell? w _ hx104_2)).trans hx104_2
         replace p104 := eq_true p104
         replace q104 := eq_true q104
         go_wp2_with (first | ((with_reducible refine gate_dst (N := 6) rfl ?_); refine box_event ?hg (N := 6) ?hd (cs := #[.int .u8 0, .string (⟨#[]⟩ : ByteArray), .bool false]) (t := 42) ?hr ?_; (case hd => rfl); (case hg => rfl); (case hr => first | (go_simp; done) | (go_simp; rfl)); intro gb105 hg w17 hbox hb; have n0_ := Aside0.mk (blk_below (g := gb103) (o := .cells #[.int .i64 a0_0, .int .i64 a0_1, .int .i64 a0_2, .int .i64 a0_3, .slice (some ad104) l0_4.length c0_4] 26 (0, 0)) (by (with_reducible repeat (first | refine blk_drewN ?_ _ | refine blk_drew ?_ | refine blk_alloc ?_ _)); exact BK103.out) hb); have n1_ := Aside0.mk (below_step (by repeat (first | (with_reducible first | exact HB.out | apply below_alloc | apply pw_below_drewN | apply below_drew1 | refine below_set ?_ GE103.out) | exact HB.out)) hb); have n2_ := Aside0.mk (hbox); have n3_ := Aside0.mk ((by rw [hg]; exact (below_size (by repeat (first | (with_reducible first | exact HB.out | apply below_alloc | apply pw_below_drewN | apply below_drew1 | refine below_set ?_ GE103.out) | exact HB.out))) : w.heap.size ≤ gb105)); have n4_ := Aside0.mk ((by rw [hg]; exact (below_size (by repeat (first | (with_reducible first | exact HB.out | apply below_alloc | apply pw_below_drewN | apply below_drew1 | refine below_set ?_ GE103.out) | exact HB.out))) : w.heap.size ≤ gb105)); have n5_ := Aside0.mk ((by rw [hg]; exact Nat.ne_of_lt (blk_lt (g := gb103) (o := .cells #[.int .i64 a0_0, .int .i64 a0_1, .int .i64 a0_2, .int .i64 a0_3, .slice (some ad104) l0_4.length c0_4] 26 (0, 0)) (by (with_reducible repeat (first | refine blk_drewN ?_ _ | refine blk_drew ?_ | refine blk_alloc ?_ _)); exact BK103.out)) : gb103 ≠ gb105)); have n6_ := Aside0.mk ((by rw [hg]; exact Nat.ne_of_gt (blk_lt (g := gb103) (o := .cells #[.int .i64 a0_0, .int .i64 a0_1, .int .i64 a0_2, .int .i64 a0_3, .slice (some ad104) l0_4.length c0_4] 26 (0, 0)) (by (with_reducible repeat (first | refine blk_drewN ?_ _ | refine blk_drew ?_ | refine blk_alloc ?_ _)); exact BK103.out)) : gb105 ≠ gb103)); clear BK103; clear HB; have BK103 := n0_; have HB := n1_; have BK105 := n2_; have GW105 := n3_; have GE105 := n4_; have NB103_105 := n5_; have NB105_103 := n6_; clear n0_ n1_ n2_ n3_ n4_ n5_ n6_; clear hb hbox hg; have hnb18 := NB105_103.out; have hnc18 := NB103_105.out; have hcz19_0 : w17.cell? ⟨gb105, 0, none⟩ = some (.int .u8 0) := (blk_cell BK105.out 0).trans rfl; have hcz19_1 : w17.cell? ⟨gb105, 1, none⟩ = some (.string (⟨#[]⟩ : ByteArray)) := (blk_cell BK105.out 1).trans rfl; have hcz19_2 : w17.cell? ⟨gb105, 2, none⟩ = some (.bool false) := (blk_cell BK105.out 2).trans rfl; have hfz19_0 := blk_frozen BK105.out 0; have hfz19_1 := blk_frozen BK105.out 1; have hfz19_2 := blk_frozen BK105.out 2) | ((with_reducible refine gate_callee (f := 34) rfl ?_); refine goesL_ (some 18) rfl rfl Tryd.func34 (by kernel_rfl) rfl #[.string ((rd_T42 l0_4 x12_1).f1), .int .u8 10] rfl (by (try simp only [List.map_toArray, List.map_cons, List.map_nil]); first | done | rfl | (simp only [List.length_drop, List.length_take]; rfl)) ?_; (with_reducible refine (strings_IndexByte.calls ((rd_T42 l0_4 x12_1).f1) 10 t106 _ A7.out).mono ?_); rintro e w' ⟨rfl, ⟨nd, rfl⟩⟩; refine ⟨_, rfl, ?_⟩))
         go_roundg k1
         case measure => have := HK1.out; omega
         case rel => exact ⟨(x3_1), (wrap64 (x4_1 + 1)), (wrap64 (x12_1 + 1)), (by first | rfl | (simp; done) | (simp [*]; done)), (by first | rfl | (simp; done) | (simp [*]; done)), (by first | rfl | (simp; done) | (simp [*]; done)), H', ⟨by have := HK1.out; omega⟩, ⟨by (with_reducible repeat (first | refine blk_drewN ?_ _ | refine blk_drew ?_ | refine blk_alloc ?_ _)); refine blk_far ?_ NB103_105.out _; (with_reducible repeat (first | refine blk_drewN ?_ _ | refine blk_drew ?_ | refine blk_alloc ?_ _)); refine blk_far ?_ NB103_105.out _; (with_reducible repeat (first | refine blk_drewN ?_ _ | refine blk_drew ?_ | refine blk_alloc ?_ _)); refine blk_far ?_ NB103_105.out _; (with_reducible repeat (first | refine blk_drewN ?_ _ | refine blk_drew ?_ | refine blk_alloc ?_ _)); exact BK103.out⟩, ⟨by repeat (first | (with_reducible first | exact HB.out | apply below_alloc | apply pw_below_drewN | apply below_drew1 | refine below_set ?_ GE103.out | refine below_set ?_ GE105.out) | exact HB.out)⟩⟩
        ·rw [if_neg c16] at H
         have c16b0 : (((rd_T42 l0_4 x12_1).f0) == 43) = false := beq_eq_false_iff_ne.mpr c16
         have c16b1 : (((rd_T42 l0_4 x12_1).f0) != 43) = true := bne_iff_ne.mpr c16
         by_cases c20 : ((rd_T42 l0_4 x12_1).f0) = 45
         ·rw [if_pos c20] at H
          have c20b0 : (((rd_T42 l0_4 x12_1).f0) == 45) = true := beq_iff_eq.mpr c20
          have c20b1 : (((rd_T42 l0_4 x12_1).f0) != 45) = false := bne_eq_false_iff_eq.mpr c20
          clear c20
          have H' := Aside0.mk H
          clear H
          have p104 : 0 ≤ (x12_1 : Int) := of_decide_eq_true (by first | (with_reducible assumption) | assumption)
          have q104 : x12_1 < (l0_4.length : Int) := of_decide_eq_true (by first | (with_reducible assumption) | assumption)
          obtain ⟨ad104, e104, hx104_0, hx104_1, hx104_2⟩ := at_T42 HR0_4.out x12_1 p104 q104
          cases e104
          replace hx104_0 := (HB.out.cell (World.block_lt_of_cell? w _ hx104_0)).trans hx104_0
          replace hx104_1 := (HB.out.cell (World.block_lt_of_cell? w _ hx104_1)).trans hx104_1
          replace hx104_2 := (HB.out.cell (World.block_lt_of_cell? w _ hx104_2)).trans hx104_2
          replace p104 := eq_true p104
          replace q104 := eq_true q104
          go_wp2_with (first | ((with_reducible refine gate_dst (N := 6) rfl ?_); refine box_event ?hg (N := 6) ?hd (cs := #[.int .u8 0, .string (⟨#[]⟩ : ByteArray), .bool false]) (t := 42) ?hr ?_; (case hd => rfl); (case hg => rfl); (case hr => first | (go_simp; done) | (go_simp; rfl)); intro gb105 hg w21 hbox hb; have n0_ := Aside0.mk (blk_below (g := gb103) (o := .cells #[.int .i64 a0_0, .int .i64 a0_1, .int .i64 a0_2, .int .i64 a0_3, .slice (some ad104) l0_4.length c0_4] 26 (0, 0)) (by (with_reducible repeat (first | refine blk_drewN ?_ _ | refine blk_drew ?_ | refine blk_alloc ?_ _)); exact BK103.out) hb); have n1_ := Aside0.mk (below_step (by repeat (first | (with_reducible first | exact HB.out | apply below_alloc | apply pw_below_drewN | apply below_drew1 | refine below_set ?_ GE103.out) | exact HB.out)) hb); have n2_ := Aside0.mk (hbox); have n3_ := Aside0.mk ((by rw [hg]; exact (below_size (by repeat (first | (with_reducible first | exact HB.out | apply below_alloc | apply pw_below_drewN | apply below_drew1 | refine below_set ?_ GE103.out) | exact HB.out))) : w.heap.size ≤ gb105)); have n4_ := Aside0.mk ((by rw [hg]; exact (below_size (by repeat (first | (with_reducible first | exact HB.out | apply below_alloc | apply pw_below_drewN | apply below_drew1 | refine below_set ?_ GE103.out) | exact HB.out))) : w.heap.size ≤ gb105)); have n5_ := Aside0.mk ((by rw [hg]; exact Nat.ne_of_lt (blk_lt (g := gb103) (o := .cells #[.int .i64 a0_0, .int .i64 a0_1, .int .i64 a0_2, .int .i64 a0_3, .slice (some ad104) l0_4.length c0_4] 26 (0, 0)) (by (with_reducible repeat (first | refine blk_drewN ?_ _ | refine blk_drew ?_ | refine blk_alloc ?_ _)); exact BK103.out)) : gb103 ≠ gb105)); have n6_ := Aside0.mk ((by rw [hg]; exact Nat.ne_of_gt (blk_lt (g := gb103) (o := .cells #[.int .i64 a0_0, .int .i64 a0_1, .int .i64 a0_2, .int .i64 a0_3, .slice (some ad104) l0_4.length c0_4] 26 (0, 0)) (by (with_reducible repeat (first | refine blk_drewN ?_ _ | refine blk_drew ?_ | refine blk_alloc ?_ _)); exact BK103.out)) : gb105 ≠ gb103)); clear BK103; clear HB; have BK103 := n0_; have HB := n1_; have BK105 := n2_; have GW105 := n3_; have GE105 := n4_; have NB103_105 := n5_; have NB105_103 := n6_; clear n0_ n1_ n2_ n3_ n4_ n5_ n6_; clear hb hbox hg; have hnb22 := NB105_103.out; have hnc22 := NB103_105.out; have hcz23_0 : w21.cell? ⟨gb105, 0, none⟩ = some (.int .u8 0) := (blk_cell BK105.out 0).trans rfl; have hcz23_1 : w21.cell? ⟨gb105, 1, none⟩ = some (.string (⟨#[]⟩ : ByteArray)) := (blk_cell BK105.out 1).trans rfl; have hcz23_2 : w21.cell? ⟨gb105, 2, none⟩ = some (.bool false) := (blk_cell BK105.out 2).trans rfl; have hfz23_0 := blk_frozen BK105.out 0; have hfz23_1 := blk_frozen BK105.out 1; have hfz23_2 := blk_frozen BK105.out 2) | ((with_reducible refine gate_callee (f := 34) rfl ?_); refine goesL_ (some 18) rfl rfl Tryd.func34 (by kernel_rfl) rfl #[.string ((rd_T42 l0_4 x12_1).f1), .int .u8 10] rfl (by (try simp only [List.map_toArray, List.map_cons, List.map_nil]); first | done | rfl | (simp only [List.length_drop, List.length_take]; rfl)) ?_; (with_reducible refine (strings_IndexByte.calls ((rd_T42 l0_4 x12_1).f1) 10 t106 _ A7.out).mono ?_); rintro e w' ⟨rfl, ⟨nd, rfl⟩⟩; refine ⟨_, rfl, ?_⟩))
          go_roundg k1
          case measure => have := HK1.out; omega
          case rel => exact ⟨(wrap64 (x3_1 + 1)), (x4_1), (wrap64 (x12_1 + 1)), (by first | rfl | (simp; done) | (simp [*]; done)), (by first | rfl | (simp; done) | (simp [*]; done)), (by first | rfl | (simp; done) | (simp [*]; done)), H', ⟨by have := HK1.out; omega⟩, ⟨by (with_reducible repeat (first | refine blk_drewN ?_ _ | refine blk_drew ?_ | refine blk_alloc ?_ _)); refine blk_far ?_ NB103_105.out _; (with_reducible repeat (first | refine blk_drewN ?_ _ | refine blk_drew ?_ | refine blk_alloc ?_ _)); refine blk_far ?_ NB103_105.out _; (with_reducible repeat (first | refine blk_drewN ?_ _ | refine blk_drew ?_ | refine blk_alloc ?_ _)); refine blk_far ?_ NB103_105.out _; (with_reducible repeat (first | refine blk_drewN ?_ _ | refine blk_drew ?_ | refine blk_alloc ?_ _)); exact BK103.out⟩, ⟨by repeat (first | (with_reducible first | exact HB.out | apply below_alloc | apply pw_below_drewN | apply below_drew1 | refine below_set ?_ GE103.out | refine below_set ?_ GE105.out) | exact HB.out)⟩⟩
         ·rw [if_neg c20] at H
          have c20b0 : (((rd_T42 l0_4 x12_1).f0) == 45) = false := beq_eq_false_iff_ne.mpr c20
          have c20b1 : (((rd_T42 l0_4 x12_1).f0) != 45) = true := bne_iff_ne.mpr c20
          obtain rfl := Option.some.inj H
          have p104 : 0 ≤ (x12_1 : Int) := of_decide_eq_true (by first | (with_reducible assumption) | assumption)
          have q104 : x12_1 < (l0_4.length : Int) := of_decide_eq_true (by first | (with_reducible assumption) | assumption)
          obtain ⟨ad104, e104, hx104_0, hx104_1, hx104_2⟩ := at_T42 HR0_4.out x12_1 p104 q104
          cases e104
          replace hx104_0 := (HB.out.cell (World.block_lt_of_cell? w _ hx104_0)).trans hx104_0
          replace hx104_1 := (HB.out.cell (World.block_lt_of_cell? w _ hx104_1)).trans hx104_1
          replace hx104_2 := (HB.out.cell (World.block_lt_of_cell? w _ hx104_2)).trans hx104_2
          replace p104 := eq_true p104
          replace q104 := eq_true q104
          go_wp2_with (first | ((with_reducible refine gate_dst (N := 6) rfl ?_); refine box_event ?hg (N := 6) ?hd (cs := #[.int .u8 0, .string (⟨#[]⟩ : ByteArray), .bool false]) (t := 42) ?hr ?_; (case hd => rfl); (case hg => rfl); (case hr => first | (go_simp; done) | (go_simp; rfl)); intro gb105 hg w24 hbox hb; have n0_ := Aside0.mk (blk_below (g := gb103) (o := .cells #[.int .i64 a0_0, .int .i64 a0_1, .int .i64 a0_2, .int .i64 a0_3, .slice (some ad104) l0_4.length c0_4] 26 (0, 0)) (by (with_reducible repeat (first | refine blk_drewN ?_ _ | refine blk_drew ?_ | refine blk_alloc ?_ _)); exact BK103.out) hb); have n1_ := Aside0.mk (below_step (by repeat (first | (with_reducible first | exact HB.out | apply below_alloc | apply pw_below_drewN | apply below_drew1 | refine below_set ?_ GE103.out) | exact HB.out)) hb); have n2_ := Aside0.mk (hbox); have n3_ := Aside0.mk ((by rw [hg]; exact (below_size (by repeat (first | (with_reducible first | exact HB.out | apply below_alloc | apply pw_below_drewN | apply below_drew1 | refine below_set ?_ GE103.out) | exact HB.out))) : w.heap.size ≤ gb105)); have n4_ := Aside0.mk ((by rw [hg]; exact (below_size (by repeat (first | (with_reducible first | exact HB.out | apply below_alloc | apply pw_below_drewN | apply below_drew1 | refine below_set ?_ GE103.out) | exact HB.out))) : w.heap.size ≤ gb105)); have n5_ := Aside0.mk ((by rw [hg]; exact Nat.ne_of_lt (blk_lt (g := gb103) (o := .cells #[.int .i64 a0_0, .int .i64 a0_1, .int .i64 a0_2, .int .i64 a0_3, .slice (some ad104) l0_4.length c0_4] 26 (0, 0)) (by (with_reducible repeat (first | refine blk_drewN ?_ _ | refine blk_drew ?_ | refine blk_alloc ?_ _)); exact BK103.out)) : gb103 ≠ gb105)); have n6_ := Aside0.mk ((by rw [hg]; exact Nat.ne_of_gt (blk_lt (g := gb103) (o := .cells #[.int .i64 a0_0, .int .i64 a0_1, .int .i64 a0_2, .int .i64 a0_3, .slice (some ad104) l0_4.length c0_4] 26 (0, 0)) (by (with_reducible repeat (first | refine blk_drewN ?_ _ | refine blk_drew ?_ | refine blk_alloc ?_ _)); exact BK103.out)) : gb105 ≠ gb103)); clear BK103; clear HB; have BK103 := n0_; have HB := n1_; have BK105 := n2_; have GW105 := n3_; have GE105 := n4_; have NB103_105 := n5_; have NB105_103 := n6_; clear n0_ n1_ n2_ n3_ n4_ n5_ n6_; clear hb hbox hg; have hnb25 := NB105_103.out; have hnc25 := NB103_105.out; have hcz26_0 : w24.cell? ⟨gb105, 0, none⟩ = some (.int .u8 0) := (blk_cell BK105.out 0).trans rfl; have hcz26_1 : w24.cell? ⟨gb105, 1, none⟩ = some (.string (⟨#[]⟩ : ByteArray)) := (blk_cell BK105.out 1).trans rfl; have hcz26_2 : w24.cell? ⟨gb105, 2, none⟩ = some (.bool false) := (blk_cell BK105.out 2).trans rfl; have hfz26_0 := blk_frozen BK105.out 0; have hfz26_1 := blk_frozen BK105.out 1; have hfz26_2 := blk_frozen BK105.out 2) | ((with_reducible refine gate_callee (f := 34) rfl ?_); refine goesL_ (some 18) rfl rfl Tryd.func34 (by kernel_rfl) rfl #[.string ((rd_T42 l0_4 x12_1).f1), .int .u8 10] rfl (by (try simp only [List.map_toArray, List.map_cons, List.map_nil]); first | done | rfl | (simp only [List.length_drop, List.length_take]; rfl)) ?_; (with_reducible refine (strings_IndexByte.calls ((rd_T42 l0_4 x12_1).f1) 10 t106 _ A7.out).mono ?_); rintro e w' ⟨rfl, ⟨nd, rfl⟩⟩; refine ⟨_, rfl, ?_⟩))
          go_ret
          exact ⟨by first | rfl | (simp [errW_none, errW_some] <;> rfl) | (simp [*, errW_none, errW_some] <;> rfl), by repeat (first | (with_reducible first | exact HB.out | apply below_alloc | apply pw_below_drewN | apply below_drew1 | refine below_set ?_ GE103.out | refine below_set ?_ GE105.out) | exact HB.out)⟩
     ·rw [if_neg c6] at H
      exact absurd H (by simp)
    ·rw [if_neg c5] at H
     exact absurd H (by simp)
   ·rw [if_neg c4] at H
    have c4b0 : decide (x12_1 < (l0_4.length : Int)) = false := decide_eq_false c4
    clear c4
    have HC27 := Aside0.mk H
    clear H
    go_upto_region 16 with (fail)
    go_cut [35] (fun v35 wc => ∃ (kq : Nat) (x35_26 : Bool), v35 = .bool x35_26 ∧ Aside0 (show_Check.j1 kq x3_1 x4_1 x35_26 a0_0 a0_1 a0_2 a0_3 l0_4 = some r) ∧ Aside0 (kq ≤ k1) ∧ Aside0 (wc.heap[gb103]? = some (.cells #[.int .i64 a0_0, .int .i64 a0_1, .int .i64 a0_2, .int .i64 a0_3, (.slice A0_4 l0_4.length c0_4)] 26 (0, 0))) ∧ Aside0 (Below w.heap.size w wc))
    case first =>
     have H := HC27.out
     clear HC27
     by_cases c28 : a0_0 < 0
     ·rw [if_pos c28] at H
      have c28b0 : decide (a0_0 < 0) = true := decide_eq_true c28
      clear c28
      (first | rw [c28b0] | (simp only [i64_w, i32_w]; rw [c28b0]) | skip)
      have H' := Aside0.mk H
      clear H
      have hcz29_0 : wr.cell? ⟨gb103, 0, none⟩ = some (.int .i64 a0_0) := (blk_cell BK103.out 0).trans rfl
      have hcz29_1 : wr.cell? ⟨gb103, 1, none⟩ = some (.int .i64 a0_1) := (blk_cell BK103.out 1).trans rfl
      have hcz29_2 : wr.cell? ⟨gb103, 2, none⟩ = some (.int .i64 a0_2) := (blk_cell BK103.out 2).trans rfl
      have hcz29_3 : wr.cell? ⟨gb103, 3, none⟩ = some (.int .i64 a0_3) := (blk_cell BK103.out 3).trans rfl
      have hcz29_4 : wr.cell? ⟨gb103, 4, none⟩ = some (.slice A0_4 l0_4.length c0_4) := (blk_cell BK103.out 4).trans rfl
      have hfz29_0 := blk_frozen BK103.out 0
      have hfz29_1 := blk_frozen BK103.out 1
      have hfz29_2 := blk_frozen BK103.out 2
      have hfz29_3 := blk_frozen BK103.out 3
      have hfz29_4 := blk_frozen BK103.out 4
      go_wp2
      go_meet
      case rel => exact ⟨_, (true), (by first | rfl | (simp; done) | (simp [*]; done)), H', ⟨by have := HK1.out; first | omega | exact Nat.le_refl _⟩, ⟨by (with_reducible repeat (first | refine blk_drewN ?_ _ | refine blk_drew ?_ | refine blk_alloc ?_ _)); exact BK103.out⟩, ⟨by repeat (first | (with_reducible first | exact HB.out | apply below_alloc | apply pw_below_drewN | apply below_drew1 | refine below_set ?_ GE103.out) | exact HB.out)⟩⟩
     ·rw [if_neg c28] at H
      have c28b0 : decide (a0_0 < 0) = false := decide_eq_false c28
      clear c28
      (first | rw [c28b0] | (simp only [i64_w, i32_w]; rw [c28b0]) | skip)
      by_cases c30 : a0_2 < 0
      ·rw [if_pos c30] at H
       have c30b0 : decide (a0_2 < 0) = true := decide_eq_true c30
       clear c30
       have H' := Aside0.mk H
       clear H
       have hcz31_0 : wr.cell? ⟨gb103, 0, none⟩ = some (.int .i64 a0_0) := (blk_cell BK103.out 0).trans rfl
       have hcz31_1 : wr.cell? ⟨gb103, 1, none⟩ = some (.int .i64 a0_1) := (blk_cell BK103.out 1).trans rfl
       have hcz31_2 : wr.cell? ⟨gb103, 2, none⟩ = some (.int .i64 a0_2) := (blk_cell BK103.out 2).trans rfl
       have hcz31_3 : wr.cell? ⟨gb103, 3, none⟩ = some (.int .i64 a0_3) := (blk_cell BK103.out 3).trans rfl
       have hcz31_4 : wr.cell? ⟨gb103, 4, none⟩ = some (.slice A0_4 l0_4.length c0_4) := (blk_cell BK103.out 4).trans rfl
       have hfz31_0 := blk_frozen BK103.out 0
       have hfz31_1 := blk_frozen BK103.out 1
       have hfz31_2 := blk_frozen BK103.out 2
       have hfz31_3 := blk_frozen BK103.out 3
       have hfz31_4 := blk_frozen BK103.out 4
       go_wp2
       go_meet
       case rel => exact ⟨_, (true), (by first | rfl | (simp; done) | (simp [*]; done)), H', ⟨by have := HK1.out; first | omega | exact Nat.le_refl _⟩, ⟨by (with_reducible repeat (first | refine blk_drewN ?_ _ | refine blk_drew ?_ | refine blk_alloc ?_ _)); exact BK103.out⟩, ⟨by repeat (first | (with_reducible first | exact HB.out | apply below_alloc | apply pw_below_drewN | apply below_drew1 | refine below_set ?_ GE103.out) | exact HB.out)⟩⟩
      ·rw [if_neg c30] at H
       have c30b0 : decide (a0_2 < 0) = false := decide_eq_false c30
       clear c30
       by_cases c32 : a0_0 > 65536
       ·rw [if_pos c32] at H
        have c32b0 : decide (65536 < a0_0) = true := decide_eq_true c32
        clear c32
        have H' := Aside0.mk H
        clear H
        have hcz33_0 : wr.cell? ⟨gb103, 0, none⟩ = some (.int .i64 a0_0) := (blk_cell BK103.out 0).trans rfl
        have hcz33_1 : wr.cell? ⟨gb103, 1, none⟩ = some (.int .i64 a0_1) := (blk_cell BK103.out 1).trans rfl
        have hcz33_2 : wr.cell? ⟨gb103, 2, none⟩ = some (.int .i64 a0_2) := (blk_cell BK103.out 2).trans rfl
        have hcz33_3 : wr.cell? ⟨gb103, 3, none⟩ = some (.int .i64 a0_3) := (blk_cell BK103.out 3).trans rfl
        have hcz33_4 : wr.cell? ⟨gb103, 4, none⟩ = some (.slice A0_4 l0_4.length c0_4) := (blk_cell BK103.out 4).trans rfl
        have hfz33_0 := blk_frozen BK103.out 0
        have hfz33_1 := blk_frozen BK103.out 1
        have hfz33_2 := blk_frozen BK103.out 2
        have hfz33_3 := blk_frozen BK103.out 3
        have hfz33_4 := blk_frozen BK103.out 4
        go_wp2
        go_meet
        case rel => exact ⟨_, (true), (by first | rfl | (simp; done) | (simp [*]; done)), H', ⟨by have := HK1.out; first | omega | exact Nat.le_refl _⟩, ⟨by (with_reducible repeat (first | refine blk_drewN ?_ _ | refine blk_drew ?_ | refine blk_alloc ?_ _)); exact BK103.out⟩, ⟨by repeat (first | (with_reducible first | exact HB.out | apply below_alloc | apply pw_below_drewN | apply below_drew1 | refine below_set ?_ GE103.out) | exact HB.out)⟩⟩
       ·rw [if_neg c32] at H
        have c32b0 : decide (65536 < a0_0) = false := decide_eq_false c32
        clear c32
        have H' := Aside0.mk H
        clear H
        have hcz34_0 : wr.cell? ⟨gb103, 0, none⟩ = some (.int .i64 a0_0) := (blk_cell BK103.out 0).trans rfl
        have hcz34_1 : wr.cell? ⟨gb103, 1, none⟩ = some (.int .i64 a0_1) := (blk_cell BK103.out 1).trans rfl
        have hcz34_2 : wr.cell? ⟨gb103, 2, none⟩ = some (.int .i64 a0_2) := (blk_cell BK103.out 2).trans rfl
        have hcz34_3 : wr.cell? ⟨gb103, 3, none⟩ = some (.int .i64 a0_3) := (blk_cell BK103.out 3).trans rfl
        have hcz34_4 : wr.cell? ⟨gb103, 4, none⟩ = some (.slice A0_4 l0_4.length c0_4) := (blk_cell BK103.out 4).trans rfl
        have hfz34_0 := blk_frozen BK103.out 0
        have hfz34_1 := blk_frozen BK103.out 1
        have hfz34_2 := blk_frozen BK103.out 2
        have hfz34_3 := blk_frozen BK103.out 3
        have hfz34_4 := blk_frozen BK103.out 4
        go_wp2
        go_meet
        case rel => exact ⟨_, (decide (a0_2 > 65536)), (by first | rfl | (simp; done) | (simp [*]; done)), H', ⟨by have := HK1.out; first | omega | exact Nat.le_refl _⟩, ⟨by (with_reducible repeat (first | refine blk_drewN ?_ _ | refine blk_drew ?_ | refine blk_alloc ?_ _)); exact BK103.out⟩, ⟨by repeat (first | (with_reducible first | exact HB.out | apply below_alloc | apply pw_below_drewN | apply below_drew1 | refine below_set ?_ GE103.out) | exact HB.out)⟩⟩
    case rest =>
     clear HC27
     try clear c1
     try clear p1
     try clear q1
     try clear hx1
     try clear c2
     try clear p2
     try clear c3
     try clear c4
     try clear c4b0
     try clear c5
     try clear c5b0
     try clear c6
     try clear c6b0
     try clear p6
     try clear c8
     try clear c8b0
     try clear c10
     try clear p10
     try clear q10
     try clear hx10
     try clear c12
     try clear c12b0
     try clear c12b1
     try clear c14
     try clear c16
     try clear c16b0
     try clear c16b1
     try clear c18
     try clear c20
     try clear c20b0
     try clear c20b1
     try clear c22
     try clear c25
     try clear c28
     try clear c28b0
     try clear c30
     try clear c30b0
     try clear c32
     try clear c32b0
     try clear c34
     try clear hcz11_0
     try clear hcz11_1
     try clear hcz11_2
     try clear hcz15_0
     try clear hcz15_1
     try clear hcz15_2
     try clear hcz19_0
     try clear hcz19_1
     try clear hcz19_2
     try clear hcz23_0
     try clear hcz23_1
     try clear hcz23_2
     try clear hcz26_0
     try clear hcz26_1
     try clear hcz26_2
     try clear hcz29_0
     try clear hcz29_1
     try clear hcz29_2
     try clear hcz29_3
     try clear hcz29_4
     try clear hcz31_0
     try clear hcz31_1
     try clear hcz31_2
     try clear hcz31_3
     try clear hcz31_4
     try clear hcz33_0
     try clear hcz33_1
     try clear hcz33_2
     try clear hcz33_3
     try clear hcz33_4
     try clear hcz34_0
     try clear hcz34_1
     try clear hcz34_2
     try clear hcz34_3
     try clear hcz34_4
     try clear hcz3_0
     try clear hcz3_1
     try clear hcz3_2
     try clear hcz3_3
     try clear hcz3_4
     try clear hfz11_0
     try clear hfz11_1
     try clear hfz11_2
     try clear hfz15_0
     try clear hfz15_1
     try clear hfz15_2
     try clear hfz19_0
     try clear hfz19_1
     try clear hfz19_2
     try clear hfz23_0
     try clear hfz23_1
     try clear hfz23_2
     try clear hfz26_0
     try clear hfz26_1
     try clear hfz26_2
     try clear hfz29_0
     try clear hfz29_1
     try clear hfz29_2
     try clear hfz29_3
     try clear hfz29_4
     try clear hfz31_0
     try clear hfz31_1
     try clear hfz31_2
     try clear hfz31_3
     try clear hfz31_4
     try clear hfz33_0
     try clear hfz33_1
     try clear hfz33_2
     try clear hfz33_3
     try clear hfz33_4
     try clear hfz34_0
     try clear hfz34_1
     try clear hfz34_2
     try clear hfz34_3
     try clear hfz34_4
     try clear hfz3_0
     try clear hfz3_1
     try clear hfz3_2
     try clear hfz3_3
     try clear hfz3_4
     try clear hx104_0
     try clear hx104_1
     try clear hx104_2
     try clear p104
     try clear p2
     try clear q104
     obtain ⟨kq, x35_26, rfl, HA, HJ26, BK103, HB⟩ := hcut
     cases kq with
     | zero => exact absurd HA.out (by simp [show_Check.j1])
     | succ kj26 =>
      have H := HA.out
      clear HA
      simp only [show_Check.j1] at H
      by_cases c35 : x35_26 = true
      ·subst c35
       have H1 : (some 2) = some r := by rw [if_pos rfl] at H; exact H
       clear H
       have H := H1
       clear H1
       obtain rfl := Option.some.inj H
       go_wp2
       go_ret
       exact ⟨by first | rfl | (simp [errW_none, errW_some] <;> rfl) | (simp [*, errW_none, errW_some] <;> rfl), by repeat (first | (with_reducible first | exact HB.out | apply below_alloc | apply pw_below_drewN | apply below_drew1 | refine below_set ?_ GE103.out) | exact HB.out)⟩
      ·replace c35 := Bool.eq_false_iff.mpr c35
       subst c35
       have H1 : (if x3_1 = a0_1 then (if x4_1 = a0_3 then (if (wrap64 (x3_1 + x4_1)) = 0 then (some 13) else (show_Check.l1 kj26 l0_4 (l0_4.length : Int) 0 a0_0 a0_1 a0_2 a0_3 l0_4)) else (some 13)) else (some 13)) = some r := by rw [if_neg (show ¬ (false = true) by decide)] at H; exact H
       clear H
       have H := H1
       clear H1
       by_cases c36 : x3_1 = a0_1
       ·rw [if_pos c36] at H
        have c36b0 : (x3_1 == a0_1) = true := beq_iff_eq.mpr c36
        have c36b1 : (x3_1 != a0_1) = false := bne_eq_false_iff_eq.mpr c36
        clear c36
        by_cases c37 : x4_1 = a0_3
        ·rw [if_pos c37] at H
         have c37b0 : (x4_1 == a0_3) = true := beq_iff_eq.mpr c37
         have c37b1 : (x4_1 != a0_3) = false := bne_eq_false_iff_eq.mpr c37
         clear c37
         by_cases c38 : (wrap64 (x3_1 + x4_1)) = 0
         ·rw [if_pos c38] at H
          have c38b0 : ((wrap64 (x3_1 + x4_1)) == 0) = true := beq_iff_eq.mpr c38
          have c38b1 : ((wrap64 (x3_1 + x4_1)) != 0) = false := bne_eq_false_iff_eq.mpr c38
          clear c38
          obtain rfl := Option.some.inj H
          have hcz39_0 : wc.cell? ⟨gb103, 0, none⟩ = some (.int .i64 a0_0) := (blk_cell BK103.out 0).trans rfl
          have hcz39_1 : wc.cell? ⟨gb103, 1, none⟩ = some (.int .i64 a0_1) := (blk_cell BK103.out 1).trans rfl
          have hcz39_2 : wc.cell? ⟨gb103, 2, none⟩ = some (.int .i64 a0_2) := (blk_cell BK103.out 2).trans rfl
          have hcz39_3 : wc.cell? ⟨gb103, 3, none⟩ = some (.int .i64 a0_3) := (blk_cell BK103.out 3).trans rfl
          have hcz39_4 : wc.cell? ⟨gb103, 4, none⟩ = some (.slice A0_4 l0_4.length c0_4) := (blk_cell BK103.out 4).trans rfl
          have hfz39_0 := blk_frozen BK103.out 0
          have hfz39_1 := blk_frozen BK103.out 1
          have hfz39_2 := blk_frozen BK103.out 2
          have hfz39_3 := blk_frozen BK103.out 3
          have hfz39_4 := blk_frozen BK103.out 4
          go_wp2
          go_ret
          exact ⟨by first | rfl | (simp [errW_none, errW_some] <;> rfl) | (simp [*, errW_none, errW_some] <;> rfl), by repeat (first | (with_reducible first | exact HB.out | apply below_alloc | apply pw_below_drewN | apply below_drew1 | refine below_set ?_ GE103.out) | exact HB.out)⟩
         ·rw [if_neg c38] at H
          have c38b0 : ((wrap64 (x3_1 + x4_1)) == 0) = false := beq_eq_false_iff_ne.mpr c38
          have c38b1 : ((wrap64 (x3_1 + x4_1)) != 0) = true := bne_iff_ne.mpr c38
          have H' := Aside0.mk H
          clear H
          have hcz40_0 : wc.cell? ⟨gb103, 0, none⟩ = some (.int .i64 a0_0) := (blk_cell BK103.out 0).trans rfl
          have hcz40_1 : wc.cell? ⟨gb103, 1, none⟩ = some (.int .i64 a0_1) := (blk_cell BK103.out 1).trans rfl
          have hcz40_2 : wc.cell? ⟨gb103, 2, none⟩ = some (.int .i64 a0_2) := (blk_cell BK103.out 2).trans rfl
          have hcz40_3 : wc.cell? ⟨gb103, 3, none⟩ = some (.int .i64 a0_3) := (blk_cell BK103.out 3).trans rfl
          have hcz40_4 : wc.cell? ⟨gb103, 4, none⟩ = some (.slice A0_4 l0_4.length c0_4) := (blk_cell BK103.out 4).trans rfl
          have hfz40_0 := blk_frozen BK103.out 0
          have hfz40_1 := blk_frozen BK103.out 1
          have hfz40_2 := blk_frozen BK103.out 2
          have hfz40_3 := blk_frozen BK103.out 3
          have hfz40_4 := blk_frozen BK103.out 4
          go_wp2
          go_loopg [74] kj26 (fun kq v74 w' => ∃ (x74_3 : Int), v74 = .int .i64 x74_3 ∧ Aside0 (show_Check.l1 kq l0_4 (l0_4.length : Int) x74_3 a0_0 a0_1 a0_2 a0_3 l0_4 = some r) ∧ Aside0 (kq ≤ kj26) ∧ Aside0 (w'.heap[gb103]? = some (.cells #[.int .i64 a0_0, .int .i64 a0_1, .int .i64 a0_2, .int .i64 a0_3, (.slice A0_4 l0_4.length c0_4)] 26 (0, 0))) ∧ Aside0 (Below w.heap.size w w'))
          case atStart => exact ⟨(0), (by first | rfl | (simp; done) | (simp [*]; done)), H', ⟨Nat.le_refl _⟩, ⟨by (with_reducible repeat (first | refine blk_drewN ?_ _ | refine blk_drew ?_ | refine blk_alloc ?_ _)); exact BK103.out⟩, ⟨by repeat (first | (with_reducible first | exact HB.out | apply below_alloc | apply pw_below_drewN | apply below_drew1 | refine below_set ?_ GE103.out) | exact HB.out)⟩⟩
          case round =>
           clear H'
           try clear c1
           try clear p1
           try clear q1
           try clear hx1
           try clear c2
           try clear p2
           try clear c3
           try clear c4
           try clear c4b0
           try clear c5
           try clear c5b0
           try clear c6
           try clear c6b0
           try clear p6
           try clear c8
           try clear c8b0
           try clear c10
           try clear p10
           try clear q10
           try clear hx10
           try clear c12
           try clear c12b0
           try clear c12b1
           try clear c14
           try clear c16
           try clear c16b0
           try clear c16b1
           try clear c18
           try clear c20
           try clear c20b0
           try clear c20b1
           try clear c22
           try clear c25
           try clear c28
           try clear c28b0
           try clear c30
           try clear c30b0
           try clear c32
           try clear c32b0
           try clear c34
           try clear c35
           try clear c36
           try clear c36b0
           try clear c36b1
           try clear c37
           try clear c37b0
           try clear c37b1
           try clear c38
           try clear c38b0
           try clear c38b1
           try clear hcz11_0
           try clear hcz11_1
           try clear hcz11_2
           try clear hcz15_0
           try clear hcz15_1
           try clear hcz15_2
           try clear hcz19_0
           try clear hcz19_1
           try clear hcz19_2
           try clear hcz23_0
           try clear hcz23_1
           try clear hcz23_2
           try clear hcz26_0
           try clear hcz26_1
           try clear hcz26_2
           try clear hcz29_0
           try clear hcz29_1
           try clear hcz29_2
           try clear hcz29_3
           try clear hcz29_4
           try clear hcz31_0
           try clear hcz31_1
           try clear hcz31_2
           try clear hcz31_3
           try clear hcz31_4
           try clear hcz33_0
           try clear hcz33_1
           try clear hcz33_2
           try clear hcz33_3
           try clear hcz33_4
           try clear hcz34_0
           try clear hcz34_1
           try clear hcz34_2
           try clear hcz34_3
           try clear hcz34_4
           try clear hcz39_0
           try clear hcz39_1
           try clear hcz39_2
           try clear hcz39_3
           try clear hcz39_4
           try clear hcz3_0
           try clear hcz3_1
           try clear hcz3_2
           try clear hcz3_3
           try clear hcz3_4
           try clear hcz40_0
           try clear hcz40_1
           try clear hcz40_2
           try clear hcz40_3
           try clear hcz40_4
           try clear hfz11_0
           try clear hfz11_1
           try clear hfz11_2
           try clear hfz15_0
           try clear hfz15_1
           try clear hfz15_2
           try clear hfz19_0
           try clear hfz19_1
           try clear hfz19_2
           try clear hfz23_0
           try clear hfz23_1
           try clear hfz23_2
           try clear hfz26_0
           try clear hfz26_1
           try clear hfz26_2
           try clear hfz29_0
           try clear hfz29_1
           try clear hfz29_2
           try clear hfz29_3
           try clear hfz29_4
           try clear hfz31_0
           try clear hfz31_1
           try clear hfz31_2
           try clear hfz31_3
           try clear hfz31_4
           try clear hfz33_0
           try clear hfz33_1
           try clear hfz33_2
           try clear hfz33_3
           try clear hfz33_4
           try clear hfz34_0
           try clear hfz34_1
           try clear hfz34_2
           try clear hfz34_3
           try clear hfz34_4
           try clear hfz39_0
           try clear hfz39_1
           try clear hfz39_2
           try clear hfz39_3
           try clear hfz39_4
           try clear hfz3_0
           try clear hfz3_1
           try clear hfz3_2
           try clear hfz3_3
           try clear hfz3_4
           try clear hfz40_0
           try clear hfz40_1
           try clear hfz40_2
           try clear hfz40_3
           try clear hfz40_4
           try clear hx104_0
           try clear hx104_1
           try clear hx104_2
           try clear p1
           try clear p10
           try clear p104
           try clear p2
           try clear p6
           try clear q1
           try clear q10
           try clear q104
           obtain ⟨x74_3, rfl, HA, HK3, BK103, HB⟩ := hrel
           cases gk with
           | zero => exact absurd HA.out (by simp [show_Check.l1])
           | succ k3 =>
            have H := HA.out
            clear HA
            simp only [show_Check.l1] at H
            by_cases c41 : x74_3 < (l0_4.length : Int)
            ·rw [if_pos c41] at H
             have c41b0 : decide (x74_3 < (l0_4.length : Int)) = true := decide_eq_true c41
             clear c41
             by_cases c42 : 0 ≤ x74_3
             ·rw [if_pos c42] at H
              have c42b0 : decide (0 ≤ x74_3) = true := decide_eq_true c42
              clear c42
              by_cases c43 : x74_3 < (l0_4.length : Int)
              ·rw [if_pos c43] at H
               have c43b0 : decide (x74_3 < (l0_4.length : Int)) = true := decide_eq_true c43
               clear c43
               obtain ⟨bq44, hbq44⟩ : ∃ b_ : Bool, b_ = ((rd_T42 l0_4 x74_3).f2) := ⟨_, rfl⟩
               replace H : (if bq44 = true then (if 0 ≤ (wrap64 (x74_3 + 1)) then (if (wrap64 (x74_3 + 1)) ≤ (l0_4.length : Int) then ((show_last.f k3 (l0_4.drop ((wrap64 (x74_3 + 1)) : Int).toNat) ((rd_T42 l0_4 x74_3).f0)).bind fun t113 => (if t113 = true then (show_Check.l1 k3 l0_4 (l0_4.length : Int) (wrap64 (x74_3 + 1)) a0_0 a0_1 a0_2 a0_3 l0_4) else (some 15))) else (none)) else (none)) else (show_Check.l1 k3 l0_4 (l0_4.length : Int) (wrap64 (x74_3 + 1)) a0_0 a0_1 a0_2 a0_3 l0_4)) = some r := by rw [← hbq44] at H; exact H
               have Nbq44 := Aside0.mk hbq44
               clear hbq44
               by_cases c45 : bq44 = true
               ·subst c45
                have H1 : (if 0 ≤ (wrap64 (x74_3 + 1)) then (if (wrap64 (x74_3 + 1)) ≤ (l0_4.length : Int) then ((show_last.f k3 (l0_4.drop ((wrap64 (x74_3 + 1)) : Int).toNat) ((rd_T42 l0_4 x74_3).f0)).bind fun t113 => (if t113 = true then (show_Check.l1 k3 l0_4 (l0_4.length : Int) (wrap64 (x74_3 + 1)) a0_0 a0_1 a0_2 a0_3 l0_4) else (some 15))) else (none)) else (none)) = some r := by rw [if_pos rfl] at H; exact H
                clear H
                have H := H1
                clear H1
                obtain ⟨ji46, hji46⟩ : ∃ j_ : Int, (wrap64 (x74_3 + 1)) = j_ := ⟨_, rfl⟩
                replace H : (if 0 ≤ (ji46) then (if (ji46) ≤ (l0_4.length : Int) then ((show_last.f k3 (l0_4.drop ((ji46) : Int).toNat) ((rd_T42 l0_4 x74_3).f0)).bind fun t113 => (if t113 = true then (show_Check.l1 k3 l0_4 (l0_4.length : Int) ji46 a0_0 a0_1 a0_2 a0_3 l0_4) else (some 15))) else (none)) else (none)) = some r := by first | (rw [hji46] at H; exact H) | (simp only [hji46] at H ⊢; exact H)
                have hji46w : (IntKind.i64.wrap (x74_3 + 1)) = ji46 := (i64_w _).trans hji46
                by_cases c47 : 0 ≤ (ji46)
                ·rw [if_pos c47] at H
                 have c47b0 := eq_true c47
                 have c47b1 : decide (0 ≤ (ji46)) = true := decide_eq_true c47
                 clear c47
                 by_cases c48 : (ji46) ≤ (l0_4.length : Int)
                 ·rw [if_pos c48] at H
                  have c48b0 := eq_true c48
                  have c48b1 : decide ((ji46) ≤ (l0_4.length : Int)) = true := decide_eq_true c48
                  clear c48
                  obtain ⟨y109, hy109⟩ : ∃ y_ : List (S42), y_ = (l0_4.drop ((ji46) : Int).toNat) := ⟨_, rfl⟩
                  replace H : ((show_last.f k3 y109 ((rd_T42 l0_4 x74_3).f0)).bind fun t113 => (if t113 = true then (show_Check.l1 k3 l0_4 (l0_4.length : Int) ji46 a0_0 a0_1 a0_2 a0_3 l0_4) else (some 15))) = some r := by first | (rw [hy109]; with_reducible exact H) | (have H2_ := (Option.bind_some _ _).symm.trans H; rw [hy109]; with_reducible exact H2_) | (have H2_ := (Option.bind_some _ _).symm.trans H; with_reducible exact H2_) | with_reducible exact H | (rw [hy109]; exact H) | exact H
                  have Ny109 := Aside0.mk hy109
                  clear hy109
                  replace H := Option.bind_eq_some_iff.mp H
                  obtain ⟨t113, A490, H⟩ := H
                  replace H : (if t113 = true then (show_Check.l1 k3 l0_4 (l0_4.length : Int) ji46 a0_0 a0_1 a0_2 a0_3 l0_4) else (some 15)) = some r := H
                  have A49 := Aside0.mk A490
                  clear A490
                  by_cases c50 : t113 = true
                  ·subst c50
                   have H1 : (show_Check.l1 k3 l0_4 (l0_4.length : Int) ji46 a0_0 a0_1 a0_2 a0_3 l0_4) = some r := by rw [if_pos rfl] at H; exact H
                   clear H
                   have H := H1
                   clear H1
                   have H' := Aside0.mk H
                   clear H
                   have p107 : 0 ≤ (x74_3 : Int) := of_decide_eq_true (by first | (with_reducible assumption) | assumption)
                   have q107 : x74_3 < (l0_4.length : Int) := of_decide_eq_true (by first | (with_reducible assumption) | assumption)
                   obtain ⟨ad107, e107, hx107_0, hx107_1, hx107_2⟩ := at_T42 HR0_4.out x74_3 p107 q107
                   (try rw [← Nbq44.out] at hx107_2)
                   cases e107
                   replace hx107_0 := (HB.out.cell (World.block_lt_of_cell? w _ hx107_0)).trans hx107_0
                   replace hx107_1 := (HB.out.cell (World.block_lt_of_cell? w _ hx107_1)).trans hx107_1
                   replace hx107_2 := (HB.out.cell (World.block_lt_of_cell? w _ hx107_2)).trans hx107_2
                   replace p107 := eq_true p107
                   replace q107 := eq_true q107
                   try go_wp2_with (first | ((with_reducible refine gate_dst (N := 8) rfl ?_); refine box_event ?hg (N := 8) ?hd (cs := #[.int .u8 0, .string (⟨#[]⟩ : ByteArray), .bool false]) (t := 42) ?hr ?_; (case hd => rfl); (case hg => rfl); (case hr => first | (go_simp; done) | (go_simp; rfl)); intro gb108 hg w51 hbox hb; have n0_ := Aside0.mk (blk_below (g := gb103) (o := .cells #[.int .i64 a0_0, .int .i64 a0_1, .int .i64 a0_2, .int .i64 a0_3, .slice (some ad107) l0_4.length c0_4] 26 (0, 0)) (by (with_reducible repeat (first | refine blk_drewN ?_ _ | refine blk_drew ?_ | refine blk_alloc ?_ _)); exact BK103.out) hb); have n1_ := Aside0.mk (below_step (by repeat (first | (with_reducible first | exact HB.out | apply below_alloc | apply pw_below_drewN | apply below_drew1 | refine below_set ?_ GE103.out) | exact HB.out)) hb); have n2_ := Aside0.mk (hbox); have n3_ := Aside0.mk ((by rw [hg]; exact (below_size (by repeat (first | (with_reducible first | exact HB.out | apply below_alloc | apply pw_below_drewN | apply below_drew1 | refine below_set ?_ GE103.out) | exact HB.out))) : w.heap.size ≤ gb108)); have n4_ := Aside0.mk ((by rw [hg]; exact (below_size (by repeat (first | (with_reducible first | exact HB.out | apply below_alloc | apply pw_below_drewN | apply below_drew1 | refine below_set ?_ GE103.out) | exact HB.out))) : w.heap.size ≤ gb108)); have n5_ := Aside0.mk ((by rw [hg]; exact Nat.ne_of_lt (blk_lt (g := gb103) (o := .cells #[.int .i64 a0_0, .int .i64 a0_1, .int .i64 a0_2, .int .i64 a0_3, .slice (some ad107) l0_4.length c0_4] 26 (0, 0)) (by (with_reducible repeat (first | refine blk_drewN ?_ _ | refine blk_drew ?_ | refine blk_alloc ?_ _)); exact BK103.out)) : gb103 ≠ gb108)); have n6_ := Aside0.mk ((by rw [hg]; exact Nat.ne_of_gt (blk_lt (g := gb103) (o := .cells #[.int .i64 a0_0, .int .i64 a0_1, .int .i64 a0_2, .int .i64 a0_3, .slice (some ad107) l0_4.length c0_4] 26 (0, 0)) (by (with_reducible repeat (first | refine blk_drewN ?_ _ | refine blk_drew ?_ | refine blk_alloc ?_ _)); exact BK103.out)) : gb108 ≠ gb103)); clear BK103; clear HB; have BK103 := n0_; have HB := n1_; have BK108 := n2_; have GW108 := n3_; have GE108 := n4_; have NB103_108 := n5_; have NB108_103 := n6_; clear n0_ n1_ n2_ n3_ n4_ n5_ n6_; clear hb hbox hg; have hnb52 := NB108_103.out; have hnc52 := NB103_108.out; have hcz53_0 : w51.cell? ⟨gb108, 0, none⟩ = some (.int .u8 0) := (blk_cell BK108.out 0).trans rfl; have hcz53_1 : w51.cell? ⟨gb108, 1, none⟩ = some (.string (⟨#[]⟩ : ByteArray)) := (blk_cell BK108.out 1).trans rfl; have hcz53_2 : w51.cell? ⟨gb108, 2, none⟩ = some (.bool false) := (blk_cell BK108.out 2).trans rfl; have hfz53_0 := blk_frozen BK108.out 0; have hfz53_1 := blk_frozen BK108.out 1; have hfz53_2 := blk_frozen BK108.out 2))
                   have n0_ : Aside0 ((((w51.setCell ⟨gb108, 0, none⟩ (.int .u8 ((rd_T42 l0_4 x74_3).f0))).setCell ⟨gb108, 1, none⟩ (.string ((rd_T42 l0_4 x74_3).f1))).setCell ⟨gb108, 2, none⟩ (.bool true)).heap[gb103]? = some (.cells #[.int .i64 a0_0, .int .i64 a0_1, .int .i64 a0_2, .int .i64 a0_3, .slice (some ad107) l0_4.length c0_4] 26 (0, 0))) := ⟨by (with_reducible repeat (first | refine blk_drewN ?_ _ | refine blk_drew ?_ | refine blk_alloc ?_ _)); refine blk_far ?_ NB103_108.out _; (with_reducible repeat (first | refine blk_drewN ?_ _ | refine blk_drew ?_ | refine blk_alloc ?_ _)); refine blk_far ?_ NB103_108.out _; (with_reducible repeat (first | refine blk_drewN ?_ _ | refine blk_drew ?_ | refine blk_alloc ?_ _)); refine blk_far ?_ NB103_108.out _; (with_reducible repeat (first | refine blk_drewN ?_ _ | refine blk_drew ?_ | refine blk_alloc ?_ _)); exact BK103.out⟩
                   have n1_ : Aside0 ((((w51.setCell ⟨gb108, 0, none⟩ (.int .u8 ((rd_T42 l0_4 x74_3).f0))).setCell ⟨gb108, 1, none⟩ (.string ((rd_T42 l0_4 x74_3).f1))).setCell ⟨gb108, 2, none⟩ (.bool true)).heap[gb108]? = some (.cells #[.int .u8 ((rd_T42 l0_4 x74_3).f0), .string ((rd_T42 l0_4 x74_3).f1), .bool true] 42 (0, 0))) := ⟨by (with_reducible repeat (first | refine blk_drewN ?_ _ | refine blk_drew ?_ | refine blk_alloc ?_ _)); refine blk_put (cs := #[.int .u8 ((rd_T42 l0_4 x74_3).f0), .string ((rd_T42 l0_4 x74_3).f1), .bool false]) ?_ 2 _ rfl; (with_reducible repeat (first | refine blk_drewN ?_ _ | refine blk_drew ?_ | refine blk_alloc ?_ _)); refine blk_put (cs := #[.int .u8 ((rd_T42 l0_4 x74_3).f0), .string (⟨#[]⟩ : ByteArray), .bool false]) ?_ 1 _ rfl; (with_reducible repeat (first | refine blk_drewN ?_ _ | refine blk_drew ?_ | refine blk_alloc ?_ _)); refine blk_put (cs := #[.int .u8 0, .string (⟨#[]⟩ : ByteArray), .bool false]) ?_ 0 _ rfl; (with_reducible repeat (first | refine blk_drewN ?_ _ | refine blk_drew ?_ | refine blk_alloc ?_ _)); exact BK108.out⟩
                   have n2_ : Aside0 (Below w.heap.size w (((w51.setCell ⟨gb108, 0, none⟩ (.int .u8 ((rd_T42 l0_4 x74_3).f0))).setCell ⟨gb108, 1, none⟩ (.string ((rd_T42 l0_4 x74_3).f1))).setCell ⟨gb108, 2, none⟩ (.bool true))) := ⟨by repeat (first | (with_reducible first | exact HB.out | apply below_alloc | apply pw_below_drewN | apply below_drew1 | refine below_set ?_ GE103.out | refine below_set ?_ GE108.out) | exact HB.out)⟩
                   (try clear BK103)
                   (try clear BK108)
                   (try clear HB)
                   generalize (((w51.setCell ⟨gb108, 0, none⟩ (.int .u8 ((rd_T42 l0_4 x74_3).f0))).setCell ⟨gb108, 1, none⟩ (.string ((rd_T42 l0_4 x74_3).f1))).setCell ⟨gb108, 2, none⟩ (.bool true)) = w54 at n0_ n1_ n2_ ⊢
                   have BK103 := n0_
                   have BK108 := n1_
                   have HB := n2_
                   clear n0_ n1_ n2_
                   have n0_ := Aside0.mk (blk_drew BK103.out)
                   have n1_ := Aside0.mk (blk_drew BK108.out)
                   have n2_ := Aside0.mk (below_drew1 HB.out)
                   clear BK103
                   clear BK108
                   clear HB
                   have BK103 := n0_
                   have BK108 := n1_
                   have HB := n2_
                   clear n0_ n1_ n2_
                   have q56 : ((ji46) : Int) ≤ ((l0_4.length : Int) : Int) := of_decide_eq_true (by first | (with_reducible assumption) | assumption)
                   obtain ⟨i056, hi056, _, hsz56, _⟩ := info_parts info42
                   have hroom56 : l0_4.length ≤ c0_4 := HC0_4.out
                   have hC56 : Kd.C k42 _ (some ad107) l0_4.length l0_4 := HR0_4.out
                   have q056 : (0 : Int) ≤ ((ji46) : Int) := of_decide_eq_true (by first | (with_reducible assumption) | assumption)
                   have hcut56 := cut_from (P := Tryd.prog) 24 42 .i64 Tryd.underlying24 hi056 3 hsz56 (some ad107) l0_4.length c0_4 (ji46) q056 q56
                   have hr56 := Kd.C_drop (m := ((ji46) : Int).toNat) (c := c0_4) hC56 (by omega) hroom56
                   obtain ⟨A56, hA56⟩ : ∃ A1, A1 = (if c0_4 = ((ji46) : Int).toNat then (some ad107) else ((some ad107) : Option Addr).map (·.add (((ji46) : Int).toNat * 3))) := ⟨_, rfl⟩
                   obtain ⟨c56, hc56⟩ : ∃ c1, c1 = c0_4 - ((ji46) : Int).toNat := ⟨_, rfl⟩
                   have hy56 : y109.length = l0_4.length - ((ji46) : Int).toNat := (by rw [Ny109.out, List.length_drop] <;> omega)
                   rw [show (l0_4).drop ((ji46) : Int).toNat = y109 from Ny109.out.symm] at hr56
                   replace hr56 : Kd.C k42 _ A56 y109.length y109 := (by rw [hA56]; exact hr56)
                   rw [← hy56, ← hA56, ← hc56] at hcut56
                   have HR112 := Aside0.mk hr56
                   have HC112 := Aside0.mk (show y109.length ≤ c56 from by rw [hy56, hc56]; exact Nat.sub_le_sub_right hroom56 _)
                   clear hr56 hC56 hroom56 hi056 hsz56 hc56
                   have KY56 := Aside0.mk hy56
                   have KA56 := Aside0.mk hA56
                   clear hy56 hA56
                   replace q56 := eq_true q56
                   refine start_ (n := 13) (S := fun w' => w'.cell? ⟨gb108, 0, none⟩ = some (.int .u8 ((rd_T42 l0_4 x74_3).f0)) ∧ w'.cell? ⟨gb108, 1, none⟩ = some (.string ((rd_T42 l0_4 x74_3).f1)) ∧ w'.cell? ⟨gb108, 2, none⟩ = some (.bool true) ∧ w'.cell? ⟨gb103, 0, none⟩ = some (.int .i64 a0_0) ∧ w'.cell? ⟨gb103, 1, none⟩ = some (.int .i64 a0_1) ∧ w'.cell? ⟨gb103, 2, none⟩ = some (.int .i64 a0_2) ∧ w'.cell? ⟨gb103, 3, none⟩ = some (.int .i64 a0_3) ∧ w'.cell? ⟨gb103, 4, none⟩ = some (.slice (some ad107) l0_4.length c0_4)) (ds := []) #[false, false, false, false, false, false, false, false, false, false, false, false, false] (by kernel_rfl) rfl rfl ⟨(blk_cell BK108.out 0).trans rfl, (blk_cell BK108.out 1).trans rfl, (blk_cell BK108.out 2).trans rfl, (blk_cell BK103.out 0).trans rfl, (blk_cell BK103.out 1).trans rfl, (blk_cell BK103.out 2).trans rfl, (blk_cell BK103.out 3).trans rfl, (blk_cell BK103.out 4).trans rfl⟩ (fun hHeld => ?_); refine with_tabW show_Check.tab23 show_Check.bits23 (fun HT_ HW_ => ?_)
                   generalize w54.drew = w55 at BK103 BK108 HB HR112 hHeld ⊢
                   refine pure_ (i := 0) (N := some 79) (v := ?_) (a' := ?_) #[true, false, false, false, false, false, false, false, false, false, false, false, false] rfl rfl (any_of HT_.out (by kernel_rfl)) (fun _ _ _ h => h) (Or.inl ⟨by rfl, ?_⟩) ?_ ?_
                   rotate_left
                   ·intro w'
                    go_simp
                    with_reducible rfl
                   rotate_left
                   ·simp only [Act.put, List.setIfInBounds_toArray, List.set_cons_zero, List.set_cons_succ, i64_w, i32_w]
                    rfl
                   refine take_ (i := 1) (N := some 80) (v := ?_) (a' := ?_) #[true, true, false, false, false, false, false, false, false, false, false, false, false] rfl rfl (take_ofW HT_.out HW_.out (by kernel_rfl)) (fun _ _ _ h => h) (Or.inl ⟨by rfl, ?_⟩) hHeld ?_ ?_
                   rotate_left
                   ·rintro w' ⟨s0, s1, s2, s3, s4, s5, s6, s7⟩
                    go_simp
                    with_reducible rfl
                   rotate_left
                   ·simp only [Act.put, List.setIfInBounds_toArray, List.set_cons_zero, List.set_cons_succ, i64_w, i32_w]
                    rfl
                   refine pure_ (i := 2) (N := some 81) (v := ?_) (a' := ?_) #[true, true, true, false, false, false, false, false, false, false, false, false, false] rfl rfl (any_of HT_.out (by kernel_rfl)) (fun _ _ _ h => h) (Or.inl ⟨by rfl, ?_⟩) ?_ ?_
                   rotate_left
                   ·intro w'
                    go_simp
                    with_reducible rfl
                   rotate_left
                   ·simp only [Act.put, List.setIfInBounds_toArray, List.set_cons_zero, List.set_cons_succ, i64_w, i32_w]
                    rfl
                   refine pure_ (i := 3) (N := some 82) (v := ?_) (a' := ?_) #[true, true, true, true, false, false, false, false, false, false, false, false, false] rfl rfl (any_of HT_.out (by kernel_rfl)) (fun _ _ _ h => h) (Or.inl ⟨by rfl, ?_⟩) ?_ ?_
                   rotate_left
                   ·intro w'
                    go_simp
                    with_reducible rfl
                   rotate_left
                   ·simp only [Act.put, List.setIfInBounds_toArray, List.set_cons_zero, List.set_cons_succ, i64_w, i32_w]
                    rfl
                   refine pure_ (i := 5) (N := some 84) (v := ?_) (a' := ?_) #[true, true, true, true, false, true, false, false, false, false, false, false, false] rfl rfl (any_of HT_.out (by kernel_rfl)) (fun _ _ _ h => h) (Or.inl ⟨by rfl, ?_⟩) ?_ ?_
                   rotate_left
                   ·intro w'
                    go_simp
                    with_reducible rfl
                   rotate_left
                   ·simp only [Act.put, List.setIfInBounds_toArray, List.set_cons_zero, List.set_cons_succ, i64_w, i32_w]
                    rfl
                   refine pure_ (i := 6) (N := some 85) (v := ?_) (a' := ?_) #[true, true, true, true, false, true, true, false, false, false, false, false, false] rfl rfl (any_of HT_.out (by kernel_rfl)) (fun _ _ _ h => h) (Or.inl ⟨by rfl, ?_⟩) ?_ ?_
                   rotate_left
                   ·intro w'
                    go_simp
                    with_reducible rfl
                   rotate_left
                   ·simp only [Act.put, List.setIfInBounds_toArray, List.set_cons_zero, List.set_cons_succ, i64_w, i32_w]
                    rfl
                   refine pure_ (i := 8) (N := some 87) (v := ?_) (a' := ?_) #[true, true, true, true, false, true, true, false, true, false, false, false, false] rfl rfl (any_of HT_.out (by kernel_rfl)) (fun _ _ _ h => h) (Or.inl ⟨by rfl, ?_⟩) ?_ ?_
                   rotate_left
                   ·intro w'
                    go_simp
                    with_reducible rfl
                   rotate_left
                   ·simp only [Act.put, List.setIfInBounds_toArray, List.set_cons_zero, List.set_cons_succ, i64_w, i32_w]
                    rfl
                   refine take_ (i := 4) (N := some 83) (v := ?_) (a' := ?_) #[true, true, true, true, true, true, true, false, true, false, false, false, false] rfl rfl (take_ofW HT_.out HW_.out (by kernel_rfl)) (fun _ _ _ h => h) (Or.inl ⟨by rfl, ?_⟩) hHeld ?_ ?_
                   rotate_left
                   ·rintro w' ⟨s0, s1, s2, s3, s4, s5, s6, s7⟩
                    go_simp
                    with_reducible rfl
                   rotate_left
                   ·simp only [Act.put, List.setIfInBounds_toArray, List.set_cons_zero, List.set_cons_succ, i64_w, i32_w]
                    rfl
                   refine pure_ (i := 7) (N := some 86) (v := ?_) (a' := ?_) #[true, true, true, true, true, true, true, true, true, false, false, false, false] rfl rfl (any_of HT_.out (by kernel_rfl)) (fun _ _ _ h => h) (Or.inl ⟨by rfl, ?_⟩) ?_ ?_
                   rotate_left
                   ·intro w'
                    go_simp
                    with_reducible rfl
                   rotate_left
                   ·simp only [Act.put, List.setIfInBounds_toArray, List.set_cons_zero, List.set_cons_succ, i64_w, i32_w]
                    rfl
                   refine take_ (i := 9) (N := some 88) (v := ?_) (a' := ?_) #[true, true, true, true, true, true, true, true, true, true, false, false, false] rfl rfl (take_ofW HT_.out HW_.out (by kernel_rfl)) (fun _ _ _ h => h) (Or.inl ⟨by rfl, ?_⟩) hHeld ?_ ?_
                   rotate_left
                   ·rintro w' ⟨s0, s1, s2, s3, s4, s5, s6, s7⟩
                    go_simp
                    with_reducible rfl
                   rotate_left
                   ·simp only [Act.put, List.setIfInBounds_toArray, List.set_cons_zero, List.set_cons_succ, i64_w, i32_w]
                    rfl
                   refine one_ (i := 10) (N := some 89) #[true, true, true, true, true, true, true, true, true, true, true, false, false] rfl rfl (one_of HT_.out (by kernel_rfl)) (by decide) (fun K hK => ?_)
                   refine goes_ Tryd.func35 (by kernel_rfl) rfl #[.slice A56 y109.length c56, .int .u8 ((rd_T42 l0_4 x74_3).f0)] (by rfl) rfl rfl (by (try simp only [List.map_toArray, List.map_cons, List.map_nil]); first | done | rfl | (simp only [List.length_drop, List.length_take]; rfl)) ?_
                   with_reducible refine (show_last.calls k3 _ _ y109 ((rd_T42 l0_4 x74_3).f0) true _ ?side1 ?side2 A49.out).mono ?_
                   (case side1 => repeat (first | exact (Kd.C_below HR112.out HB.out) | (with_reducible refine Kd.C_alloc ?_ _) | (with_reducible refine Kd.C_drewN ?_ _) | (with_reducible refine Kd.C_drew ?_)))
                   (case side2 => exact HC112.out)
                   rintro e w57 ⟨rfl, hb⟩
                   refine ⟨_, rfl, ?_⟩
                   have n0_ := Aside0.mk (blk_below (g := gb103) (o := .cells #[.int .i64 a0_0, .int .i64 a0_1, .int .i64 a0_2, .int .i64 a0_3, .slice (some ad107) l0_4.length c0_4] 26 (0, 0)) (by (with_reducible repeat (first | refine blk_drewN ?_ _ | refine blk_drew ?_ | refine blk_alloc ?_ _)); exact BK103.out) hb)
                   have n1_ := Aside0.mk (blk_below (g := gb108) (o := .cells #[.int .u8 ((rd_T42 l0_4 x74_3).f0), .string ((rd_T42 l0_4 x74_3).f1), .bool true] 42 (0, 0)) (by (with_reducible repeat (first | refine blk_drewN ?_ _ | refine blk_drew ?_ | refine blk_alloc ?_ _)); exact BK108.out) hb)
                   have n2_ := Aside0.mk (below_step (by repeat (first | (with_reducible first | exact HB.out | apply below_alloc | apply pw_below_drewN | apply below_drew1 | refine below_set ?_ GE103.out | refine below_set ?_ GE108.out) | exact HB.out)) hb)
                   clear BK103
                   clear BK108
                   clear HB
                   have BK103 := n0_
                   have BK108 := n1_
                   have HB := n2_
                   clear n0_ n1_ n2_
                   (try clear hb)
                   (try clear hb2)
                   (try clear hk)
                   (try clear hi)
                   refine hK.out _ _ ⟨(blk_cell BK108.out 0).trans rfl, (blk_cell BK108.out 1).trans rfl, (blk_cell BK108.out 2).trans rfl, (blk_cell BK103.out 0).trans rfl, (blk_cell BK103.out 1).trans rfl, (blk_cell BK103.out 2).trans rfl, (blk_cell BK103.out 3).trans rfl, (blk_cell BK103.out 4).trans rfl⟩ (fun hHeld => ?_)
                   clear hK K
                   refine norm_ (a' := ?_) ?_ ?_
                   rotate_left
                   ·show Act.put _ (some 89) _ = _
                    simp only [Act.put, List.setIfInBounds_toArray, List.set_cons_zero, List.set_cons_succ, i64_w, i32_w]
                    rfl
                   refine pure_ (i := 11) (N := some 90) (v := ?_) (a' := ?_) #[true, true, true, true, true, true, true, true, true, true, true, true, false] rfl rfl (any_of HT_.out (by kernel_rfl)) (fun _ _ _ h => h) (Or.inl ⟨by rfl, ?_⟩) ?_ ?_
                   rotate_left
                   ·intro w'
                    go_simp
                    with_reducible rfl
                   rotate_left
                   ·simp only [Act.put, List.setIfInBounds_toArray, List.set_cons_zero, List.set_cons_succ, i64_w, i32_w]
                    rfl
                   refine pure_ (i := 12) (N := some 91) (v := ?_) (a' := ?_) #[true, true, true, true, true, true, true, true, true, true, true, true, true] rfl rfl (any_of HT_.out (by kernel_rfl)) (fun _ _ _ h => h) (Or.inl ⟨by rfl, ?_⟩) ?_ ?_
                   rotate_left
                   ·intro w'
                    go_simp
                    with_reducible rfl
                   rotate_left
                   ·simp only [Act.put, List.setIfInBounds_toArray, List.set_cons_zero, List.set_cons_succ, i64_w, i32_w]
                    rfl
                   refine done_ (done_of HT_.out (by kernel_rfl)) ?_
                   try go_wp2
                   go_roundg k3
                   case measure => have := HK1.out; have := HJ26.out; have := HK3.out; omega
                   case rel => exact ⟨(ji46), (by first | rfl | (simp; done) | (simp only [← hji46] <;> (first | rfl | simp)) | (simp [*]; done)), H', ⟨by have := HK1.out; have := HJ26.out; have := HK3.out; omega⟩, ⟨by (with_reducible repeat (first | refine blk_drewN ?_ _ | refine blk_drew ?_ | refine blk_alloc ?_ _)); exact BK103.out⟩, ⟨by repeat (first | (with_reducible first | exact HB.out | apply below_alloc | apply pw_below_drewN | apply below_drew1 | refine below_set ?_ GE103.out | refine below_set ?_ GE108.out) | exact HB.out)⟩⟩
                  ·replace c50 := Bool.eq_false_iff.mpr c50
                   subst c50
                   have H1 : (some 15) = some r := by rw [if_neg (show ¬ (false = true) by decide)] at H; exact H
                   clear H
                   have H := H1
                   clear H1
                   obtain rfl := Option.some.inj H
                   have p107 : 0 ≤ (x74_3 : Int) := of_decide_eq_true (by first | (with_reducible assumption) | assumption)
                   have q107 : x74_3 < (l0_4.length : Int) := of_decide_eq_true (by first | (with_reducible assumption) | assumption)
                   obtain ⟨ad107, e107, hx107_0, hx107_1, hx107_2⟩ := at_T42 HR0_4.out x74_3 p107 q107
                   (try rw [← Nbq44.out] at hx107_2)
                   cases e107
                   replace hx107_0 := (HB.out.cell (World.block_lt_of_cell? w _ hx107_0)).trans hx107_0
                   replace hx107_1 := (HB.out.cell (World.block_lt_of_cell? w _ hx107_1)).trans hx107_1
                   replace hx107_2 := (HB.out.cell (World.block_lt_of_cell? w _ hx107_2)).trans hx107_2
                   replace p107 := eq_true p107
                   replace q107 := eq_true q107
                   try go_wp2_with (first | ((with_reducible refine gate_dst (N := 8) rfl ?_); refine box_event ?hg (N := 8) ?hd (cs := #[.int .u8 0, .string (⟨#[]⟩ : ByteArray), .bool false]) (t := 42) ?hr ?_; (case hd => rfl); (case hg => rfl); (case hr => first | (go_simp; done) | (go_simp; rfl)); intro gb108 hg w58 hbox hb; have n0_ := Aside0.mk (blk_below (g := gb103) (o := .cells #[.int .i64 a0_0, .int .i64 a0_1, .int .i64 a0_2, .int .i64 a0_3, .slice (some ad107) l0_4.length c0_4] 26 (0, 0)) (by (with_reducible repeat (first | refine blk_drewN ?_ _ | refine blk_drew ?_ | refine blk_alloc ?_ _)); exact BK103.out) hb); have n1_ := Aside0.mk (below_step (by repeat (first | (with_reducible first | exact HB.out | apply below_alloc | apply pw_below_drewN | apply below_drew1 | refine below_set ?_ GE103.out) | exact HB.out)) hb); have n2_ := Aside0.mk (hbox); have n3_ := Aside0.mk ((by rw [hg]; exact (below_size (by repeat (first | (with_reducible first | exact HB.out | apply below_alloc | apply pw_below_drewN | apply below_drew1 | refine below_set ?_ GE103.out) | exact HB.out))) : w.heap.size ≤ gb108)); have n4_ := Aside0.mk ((by rw [hg]; exact (below_size (by repeat (first | (with_reducible first | exact HB.out | apply below_alloc | apply pw_below_drewN | apply below_drew1 | refine below_set ?_ GE103.out) | exact HB.out))) : w.heap.size ≤ gb108)); have n5_ := Aside0.mk ((by rw [hg]; exact Nat.ne_of_lt (blk_lt (g := gb103) (o := .cells #[.int .i64 a0_0, .int .i64 a0_1, .int .i64 a0_2, .int .i64 a0_3, .slice (some ad107) l0_4.length c0_4] 26 (0, 0)) (by (with_reducible repeat (first | refine blk_drewN ?_ _ | refine blk_drew ?_ | refine blk_alloc ?_ _)); exact BK103.out)) : gb103 ≠ gb108)); have n6_ := Aside0.mk ((by rw [hg]; exact Nat.ne_of_gt (blk_lt (g := gb103) (o := .cells #[.int .i64 a0_0, .int .i64 a0_1, .int .i64 a0_2, .int .i64 a0_3, .slice (some ad107) l0_4.length c0_4] 26 (0, 0)) (by (with_reducible repeat (first | refine blk_drewN ?_ _ | refine blk_drew ?_ | refine blk_alloc ?_ _)); exact BK103.out)) : gb108 ≠ gb103)); clear BK103; clear HB; have BK103 := n0_; have HB := n1_; have BK108 := n2_; have GW108 := n3_; have GE108 := n4_; have NB103_108 := n5_; have NB108_103 := n6_; clear n0_ n1_ n2_ n3_ n4_ n5_ n6_; clear hb hbox hg; have hnb59 := NB108_103.out; have hnc59 := NB103_108.out; have hcz60_0 : w58.cell? ⟨gb108, 0, none⟩ = some (.int .u8 0) := (blk_cell BK108.out 0).trans rfl; have hcz60_1 : w58.cell? ⟨gb108, 1, none⟩ = some (.string (⟨#[]⟩ : ByteArray)) := (blk_cell BK108.out 1).trans rfl; have hcz60_2 : w58.cell? ⟨gb108, 2, none⟩ = some (.bool false) := (blk_cell BK108.out 2).trans rfl; have hfz60_0 := blk_frozen BK108.out 0; have hfz60_1 := blk_frozen BK108.out 1; have hfz60_2 := blk_frozen BK108.out 2))
                   have n0_ : Aside0 ((((w58.setCell ⟨gb108, 0, none⟩ (.int .u8 ((rd_T42 l0_4 x74_3).f0))).setCell ⟨gb108, 1, none⟩ (.string ((rd_T42 l0_4 x74_3).f1))).setCell ⟨gb108, 2, none⟩ (.bool true)).heap[gb103]? = some (.cells #[.int .i64 a0_0, .int .i64 a0_1, .int .i64 a0_2, .int .i64 a0_3, .slice (some ad107) l0_4.length c0_4] 26 (0, 0))) := ⟨by (with_reducible repeat (first | refine blk_drewN ?_ _ | refine blk_drew ?_ | refine blk_alloc ?_ _)); refine blk_far ?_ NB103_108.out _; (with_reducible repeat (first | refine blk_drewN ?_ _ | refine blk_drew ?_ | refine blk_alloc ?_ _)); refine blk_far ?_ NB103_108.out _; (with_reducible repeat (first | refine blk_drewN ?_ _ | refine blk_drew ?_ | refine blk_alloc ?_ _)); refine blk_far ?_ NB103_108.out _; (with_reducible repeat (first | refine blk_drewN ?_ _ | refine blk_drew ?_ | refine blk_alloc ?_ _)); exact BK103.out⟩
                   have n1_ : Aside0 ((((w58.setCell ⟨gb108, 0, none⟩ (.int .u8 ((rd_T42 l0_4 x74_3).f0))).setCell ⟨gb108, 1, none⟩ (.string ((rd_T42 l0_4 x74_3).f1))).setCell ⟨gb108, 2, none⟩ (.bool true)).heap[gb108]? = some (.cells #[.int .u8 ((rd_T42 l0_4 x74_3).f0), .string ((rd_T42 l0_4 x74_3).f1), .bool true] 42 (0, 0))) := ⟨by (with_reducible repeat (first | refine blk_drewN ?_ _ | refine blk_drew ?_ | refine blk_alloc ?_ _)); refine blk_put (cs := #[.int .u8 ((rd_T42 l0_4 x74_3).f0), .string ((rd_T42 l0_4 x74_3).f1), .bool false]) ?_ 2 _ rfl; (with_reducible repeat (first | refine blk_drewN ?_ _ | refine blk_drew ?_ | refine blk_alloc ?_ _)); refine blk_put (cs := #[.int .u8 ((rd_T42 l0_4 x74_3).f0), .string (⟨#[]⟩ : ByteArray), .bool false]) ?_ 1 _ rfl; (with_reducible repeat (first | refine blk_drewN ?_ _ | refine blk_drew ?_ | refine blk_alloc ?_ _)); refine blk_put (cs := #[.int .u8 0, .string (⟨#[]⟩ : ByteArray), .bool false]) ?_ 0 _ rfl; (with_reducible repeat (first | refine blk_drewN ?_ _ | refine blk_drew ?_ | refine blk_alloc ?_ _)); exact BK108.out⟩
                   have n2_ : Aside0 (Below w.heap.size w (((w58.setCell ⟨gb108, 0, none⟩ (.int .u8 ((rd_T42 l0_4 x74_3).f0))).setCell ⟨gb108, 1, none⟩ (.string ((rd_T42 l0_4 x74_3).f1))).setCell ⟨gb108, 2, none⟩ (.bool true))) := ⟨by repeat (first | (with_reducible first | exact HB.out | apply below_alloc | apply pw_below_drewN | apply below_drew1 | refine below_set ?_ GE103.out | refine below_set ?_ GE108.out) | exact HB.out)⟩
                   (try clear BK103)
                   (try clear BK108)
                   (try clear HB)
                   generalize (((w58.setCell ⟨gb108, 0, none⟩ (.int .u8 ((rd_T42 l0_4 x74_3).f0))).setCell ⟨gb108, 1, none⟩ (.string ((rd_T42 l0_4 x74_3).f1))).setCell ⟨gb108, 2, none⟩ (.bool true)) = w61 at n0_ n1_ n2_ ⊢
                   have BK103 := n0_
                   have BK108 := n1_
                   have HB := n2_
                   clear n0_ n1_ n2_
                   have n0_ := Aside0.mk (blk_drew BK103.out)
                   have n1_ := Aside0.mk (blk_drew BK108.out)
                   have n2_ := Aside0.mk (below_drew1 HB.out)
                   clear BK103
                   clear BK108
                   clear HB
                   have BK103 := n0_
                   have BK108 := n1_
                   have HB := n2_
                   clear n0_ n1_ n2_
                   have q63 : ((ji46) : Int) ≤ ((l0_4.length : Int) : Int) := of_decide_eq_true (by first | (with_reducible assumption) | assumption)
                   obtain ⟨i063, hi063, _, hsz63, _⟩ := info_parts info42
                   have hroom63 : l0_4.length ≤ c0_4 := HC0_4.out
                   have hC63 : Kd.C k42 _ (some ad107) l0_4.length l0_4 := HR0_4.out
                   have q063 : (0 : Int) ≤ ((ji46) : Int) := of_decide_eq_true (by first | (with_reducible assumption) | assumption)
                   have hcut63 := cut_from (P := Tryd.prog) 24 42 .i64 Tryd.underlying24 hi063 3 hsz63 (some ad107) l0_4.length c0_4 (ji46) q063 q63
                   have hr63 := Kd.C_drop (m := ((ji46) : Int).toNat) (c := c0_4) hC63 (by omega) hroom63
                   obtain ⟨A63, hA63⟩ : ∃ A1, A1 = (if c0_4 = ((ji46) : Int).toNat then (some ad107) else ((some ad107) : Option Addr).map (·.add (((ji46) : Int).toNat * 3))) := ⟨_, rfl⟩
                   obtain ⟨c63, hc63⟩ : ∃ c1, c1 = c0_4 - ((ji46) : Int).toNat := ⟨_, rfl⟩
                   have hy63 : y109.length = l0_4.length - ((ji46) : Int).toNat := (by rw [Ny109.out, List.length_drop] <;> omega)
                   rw [show (l0_4).drop ((ji46) : Int).toNat = y109 from Ny109.out.symm] at hr63
                   replace hr63 : Kd.C k42 _ A63 y109.length y109 := (by rw [hA63]; exact hr63)
                   rw [← hy63, ← hA63, ← hc63] at hcut63
                   have HR112 := Aside0.mk hr63
                   have HC112 := Aside0.mk (show y109.length ≤ c63 from by rw [hy63, hc63]; exact Nat.sub_le_sub_right hroom63 _)
                   clear hr63 hC63 hroom63 hi063 hsz63 hc63
                   have KY63 := Aside0.mk hy63
                   have KA63 := Aside0.mk hA63
                   clear hy63 hA63
                   replace q63 := eq_true q63
                   refine start_ (n := 13) (S := fun w' => w'.cell? ⟨gb108, 0, none⟩ = some (.int .u8 ((rd_T42 l0_4 x74_3).f0)) ∧ w'.cell? ⟨gb108, 1, none⟩ = some (.string ((rd_T42 l0_4 x74_3).f1)) ∧ w'.cell? ⟨gb108, 2, none⟩ = some (.bool true) ∧ w'.cell? ⟨gb103, 0, none⟩ = some (.int .i64 a0_0) ∧ w'.cell? ⟨gb103, 1, none⟩ = some (.int .i64 a0_1) ∧ w'.cell? ⟨gb103, 2, none⟩ = some (.int .i64 a0_2) ∧ w'.cell? ⟨gb103, 3, none⟩ = some (.int .i64 a0_3) ∧ w'.cell? ⟨gb103, 4, none⟩ = some (.slice (some ad107) l0_4.length c0_4)) (ds := []) #[false, false, false, false, false, false, false, false, false, false, false, false, false] (by kernel_rfl) rfl rfl ⟨(blk_cell BK108.out 0).trans rfl, (blk_cell BK108.out 1).trans rfl, (blk_cell BK108.out 2).trans rfl, (blk_cell BK103.out 0).trans rfl, (blk_cell BK103.out 1).trans rfl, (blk_cell BK103.out 2).trans rfl, (blk_cell BK103.out 3).trans rfl, (blk_cell BK103.out 4).trans rfl⟩ (fun hHeld => ?_); refine with_tabW show_Check.tab23 show_Check.bits23 (fun HT_ HW_ => ?_)
                   generalize w61.drew = w62 at BK103 BK108 HB HR112 hHeld ⊢
                   refine pure_ (i := 0) (N := some 79) (v := ?_) (a' := ?_) #[true, false, false, false, false, false, false, false, false, false, false, false, false] rfl rfl (any_of HT_.out (by kernel_rfl)) (fun _ _ _ h => h) (Or.inl ⟨by rfl, ?_⟩) ?_ ?_
                   rotate_left
                   ·intro w'
                    go_simp
                    with_reducible rfl
                   rotate_left
                   ·simp only [Act.put, List.setIfInBounds_toArray, List.set_cons_zero, List.set_cons_succ, i64_w, i32_w]
                    rfl
                   refine take_ (i := 1) (N := some 80) (v := ?_) (a' := ?_) #[true, true, false, false, false, false, false, false, false, false, false, false, false] rfl rfl (take_ofW HT_.out HW_.out (by kernel_rfl)) (fun _ _ _ h => h) (Or.inl ⟨by rfl, ?_⟩) hHeld ?_ ?_
                   rotate_left
                   ·rintro w' ⟨s0, s1, s2, s3, s4, s5, s6, s7⟩
                    go_simp
                    with_reducible rfl
                   rotate_left
                   ·simp only [Act.put, List.setIfInBounds_toArray, List.set_cons_zero, List.set_cons_succ, i64_w, i32_w]
                    rfl
                   refine pure_ (i := 2) (N := some 81) (v := ?_) (a' := ?_) #[true, true, true, false, false, false, false, false, false, false, false, false, false] rfl rfl (any_of HT_.out (by kernel_rfl)) (fun _ _ _ h => h) (Or.inl ⟨by rfl, ?_⟩) ?_ ?_
                   rotate_left
                   ·intro w'
                    go_simp
                    with_reducible rfl
                   rotate_left
                   ·simp only [Act.put, List.setIfInBounds_toArray, List.set_cons_zero, List.set_cons_succ, i64_w, i32_w]
                    rfl
                   refine pure_ (i := 3) (N := some 82) (v := ?_) (a' := ?_) #[true, true, true, true, false, false, false, false, false, false, false, false, false] rfl rfl (any_of HT_.out (by kernel_rfl)) (fun _ _ _ h => h) (Or.inl ⟨by rfl, ?_⟩) ?_ ?_
                   rotate_left
                   ·intro w'
                    go_simp
                    with_reducible rfl
                   rotate_left
                   ·simp only [Act.put, List.setIfInBounds_toArray, List.set_cons_zero, List.set_cons_succ, i64_w, i32_w]
                    rfl
                   refine pure_ (i := 5) (N := some 84) (v := ?_) (a' := ?_) #[true, true, true, true, false, true, false, false, false, false, false, false, false] rfl rfl (any_of HT_.out (by kernel_rfl)) (fun _ _ _ h => h) (Or.inl ⟨by rfl, ?_⟩) ?_ ?_
                   rotate_left
                   ·intro w'
                    go_simp
                    with_reducible rfl
                   rotate_left
                   ·simp only [Act.put, List.setIfInBounds_toArray, List.set_cons_zero, List.set_cons_succ, i64_w, i32_w]
                    rfl
                   refine pure_ (i := 6) (N := some 85) (v := ?_) (a' := ?_) #[true, true, true, true, false, true, true, false, false, false, false, false, false] rfl rfl (any_of HT_.out (by kernel_rfl)) (fun _ _ _ h => h) (Or.inl ⟨by rfl, ?_⟩) ?_ ?_
                   rotate_left
                   ·intro w'
                    go_simp
                    with_reducible rfl
                   rotate_left
                   ·simp only [Act.put, List.setIfInBounds_toArray, List.set_cons_zero, List.set_cons_succ, i64_w, i32_w]
                    rfl
                   refine pure_ (i := 8) (N := some 87) (v := ?_) (a' := ?_) #[true, true, true, true, false, true, true, false, true, false, false, false, false] rfl rfl (any_of HT_.out (by kernel_rfl)) (fun _ _ _ h => h) (Or.inl ⟨by rfl, ?_⟩) ?_ ?_
                   rotate_left
                   ·intro w'
                    go_simp
                    with_reducible rfl
                   rotate_left
                   ·simp only [Act.put, List.setIfInBounds_toArray, List.set_cons_zero, List.set_cons_succ, i64_w, i32_w]
                    rfl
                   refine take_ (i := 4) (N := some 83) (v := ?_) (a' := ?_) #[true, true, true, true, true, true, true, false, true, false, false, false, false] rfl rfl (take_ofW HT_.out HW_.out (by kernel_rfl)) (fun _ _ _ h => h) (Or.inl ⟨by rfl, ?_⟩) hHeld ?_ ?_
                   rotate_left
                   ·rintro w' ⟨s0, s1, s2, s3, s4, s5, s6, s7⟩
                    go_simp
                    with_reducible rfl
                   rotate_left
                   ·simp only [Act.put, List.setIfInBounds_toArray, List.set_cons_zero, List.set_cons_succ, i64_w, i32_w]
                    rfl
                   refine pure_ (i := 7) (N := some 86) (v := ?_) (a' := ?_) #[true, true, true, true, true, true, true, true, true, false, false, false, false] rfl rfl (any_of HT_.out (by kernel_rfl)) (fun _ _ _ h => h) (Or.inl ⟨by rfl, ?_⟩) ?_ ?_
                   rotate_left
                   ·intro w'
                    go_simp
                    with_reducible rfl
                   rotate_left
                   ·simp only [Act.put, List.setIfInBounds_toArray, List.set_cons_zero, List.set_cons_succ, i64_w, i32_w]
                    rfl
                   refine take_ (i := 9) (N := some 88) (v := ?_) (a' := ?_) #[true, true, true, true, true, true, true, true, true, true, false, false, false] rfl rfl (take_ofW HT_.out HW_.out (by kernel_rfl)) (fun _ _ _ h => h) (Or.inl ⟨by rfl, ?_⟩) hHeld ?_ ?_
                   rotate_left
                   ·rintro w' ⟨s0, s1, s2, s3, s4, s5, s6, s7⟩
                    go_simp
                    with_reducible rfl
                   rotate_left
                   ·simp only [Act.put, List.setIfInBounds_toArray, List.set_cons_zero, List.set_cons_succ, i64_w, i32_w]
                    rfl
                   refine one_ (i := 10) (N := some 89) #[true, true, true, true, true, true, true, true, true, true, true, false, false] rfl rfl (one_of HT_.out (by kernel_rfl)) (by decide) (fun K hK => ?_)
                   refine goes_ Tryd.func35 (by kernel_rfl) rfl #[.slice A63 y109.length c63, .int .u8 ((rd_T42 l0_4 x74_3).f0)] (by rfl) rfl rfl (by (try simp only [List.map_toArray, List.map_cons, List.map_nil]); first | done | rfl | (simp only [List.length_drop, List.length_take]; rfl)) ?_
                   with_reducible refine (show_last.calls k3 _ _ y109 ((rd_T42 l0_4 x74_3).f0) false _ ?side1 ?side2 A49.out).mono ?_
                   (case side1 => repeat (first | exact (Kd.C_below HR112.out HB.out) | (with_reducible refine Kd.C_alloc ?_ _) | (with_reducible refine Kd.C_drewN ?_ _) | (with_reducible refine Kd.C_drew ?_)))
                   (case side2 => exact HC112.out)
                   rintro e w64 ⟨rfl, hb⟩
                   refine ⟨_, rfl, ?_⟩
                   have n0_ := Aside0.mk (blk_below (g := gb103) (o := .cells #[.int .i64 a0_0, .int .i64 a0_1, .int .i64 a0_2, .int .i64 a0_3, .slice (some ad107) l0_4.length c0_4] 26 (0, 0)) (by (with_reducible repeat (first | refine blk_drewN ?_ _ | refine blk_drew ?_ | refine blk_alloc ?_ _)); exact BK103.out) hb)
                   have n1_ := Aside0.mk (blk_below (g := gb108) (o := .cells #[.int .u8 ((rd_T42 l0_4 x74_3).f0), .string ((rd_T42 l0_4 x74_3).f1), .bool true] 42 (0, 0)) (by (with_reducible repeat (first | refine blk_drewN ?_ _ | refine blk_drew ?_ | refine blk_alloc ?_ _)); exact BK108.out) hb)
                   have n2_ := Aside0.mk (below_step (by repeat (first | (with_reducible first | exact HB.out | apply below_alloc | apply pw_below_drewN | apply below_drew1 | refine below_set ?_ GE103.out | refine below_set ?_ GE108.out) | exact HB.out)) hb)
                   clear BK103
                   clear BK108
                   clear HB
                   have BK103 := n0_
                   have BK108 := n1_
                   have HB := n2_
                   clear n0_ n1_ n2_
                   (try clear hb)
                   (try clear hb2)
                   (try clear hk)
                   (try clear hi)
                   refine hK.out _ _ ⟨(blk_cell BK108.out 0).trans rfl, (blk_cell BK108.out 1).trans rfl, (blk_cell BK108.out 2).trans rfl, (blk_cell BK103.out 0).trans rfl, (blk_cell BK103.out 1).trans rfl, (blk_cell BK103.out 2).trans rfl, (blk_cell BK103.out 3).trans rfl, (blk_cell BK103.out 4).trans rfl⟩ (fun hHeld => ?_)
                   clear hK K
                   refine norm_ (a' := ?_) ?_ ?_
                   rotate_left
                   ·show Act.put _ (some 89) _ = _
                    simp only [Act.put, List.setIfInBounds_toArray, List.set_cons_zero, List.set_cons_succ, i64_w, i32_w]
                    rfl
                   refine pure_ (i := 11) (N := some 90) (v := ?_) (a' := ?_) #[true, true, true, true, true, true, true, true, true, true, true, true, false] rfl rfl (any_of HT_.out (by kernel_rfl)) (fun _ _ _ h => h) (Or.inl ⟨by rfl, ?_⟩) ?_ ?_
                   rotate_left
                   ·intro w'
                    go_simp
                    with_reducible rfl
                   rotate_left
                   ·simp only [Act.put, List.setIfInBounds_toArray, List.set_cons_zero, List.set_cons_succ, i64_w, i32_w]
                    rfl
                   refine pure_ (i := 12) (N := some 91) (v := ?_) (a' := ?_) #[true, true, true, true, true, true, true, true, true, true, true, true, true] rfl rfl (any_of HT_.out (by kernel_rfl)) (fun _ _ _ h => h) (Or.inl ⟨by rfl, ?_⟩) ?_ ?_
                   rotate_left
                   ·intro w'
                    go_simp
                    with_reducible rfl
                   rotate_left
                   ·simp only [Act.put, List.setIfInBounds_toArray, List.set_cons_zero, List.set_cons_succ, i64_w, i32_w]
                    rfl
                   refine done_ (done_of HT_.out (by kernel_rfl)) ?_
                   try go_wp2
                   go_ret
                   exact ⟨by first | rfl | (simp [errW_none, errW_some] <;> rfl) | (simp only [← hji46]; first | rfl | (simp [errW_none, errW_some] <;> rfl)) | (simp [*, errW_none, errW_some] <;> rfl), by repeat (first | (with_reducible first | exact HB.out | apply below_alloc | apply pw_below_drewN | apply below_drew1 | refine below_set ?_ GE103.out | refine below_set ?_ GE108.out) | exact HB.out)⟩
                 ·rw [if_neg c48] at H
                  exact absurd H (by simp)
                ·rw [if_neg c47] at H
                 exact absurd H (by simp)
               ·replace c45 := Bool.eq_false_iff.mpr c45
                subst c45
                have H1 : (show_Check.l1 k3 l0_4 (l0_4.length : Int) (wrap64 (x74_3 + 1)) a0_0 a0_1 a0_2 a0_3 l0_4) = some r := by rw [if_neg (show ¬ (false = true) by decide)] at H; exact H
                clear H
                have H := H1
                clear H1
                have H' := Aside0.mk H
                clear H
                have p107 : 0 ≤ (x74_3 : Int) := of_decide_eq_true (by first | (with_reducible assumption) | assumption)
                have q107 : x74_3 < (l0_4.length : Int) := of_decide_eq_true (by first | (with_reducible assumption) | assumption)
                obtain ⟨ad107, e107, hx107_0, hx107_1, hx107_2⟩ := at_T42 HR0_4.out x74_3 p107 q107
                (try rw [← Nbq44.out] at hx107_2)
                cases e107
                replace hx107_0 := (HB.out.cell (World.block_lt_of_cell? w _ hx107_0)).trans hx107_0
                replace hx107_1 := (HB.out.cell (World.block_lt_of_cell? w _ hx107_1)).trans hx107_1
                replace hx107_2 := (HB.out.cell (World.block_lt_of_cell? w _ hx107_2)).trans hx107_2
                replace p107 := eq_true p107
                replace q107 := eq_true q107
                try go_wp2_with (first | ((with_reducible refine gate_dst (N := 8) rfl ?_); refine box_event ?hg (N := 8) ?hd (cs := #[.int .u8 0, .string (⟨#[]⟩ : ByteArray), .bool false]) (t := 42) ?hr ?_; (case hd => rfl); (case hg => rfl); (case hr => first | (go_simp; done) | (go_simp; rfl)); intro gb108 hg w65 hbox hb; have n0_ := Aside0.mk (blk_below (g := gb103) (o := .cells #[.int .i64 a0_0, .int .i64 a0_1, .int .i64 a0_2, .int .i64 a0_3, .slice (some ad107) l0_4.length c0_4] 26 (0, 0)) (by (with_reducible repeat (first | refine blk_drewN ?_ _ | refine blk_drew ?_ | refine blk_alloc ?_ _)); exact BK103.out) hb); have n1_ := Aside0.mk (below_step (by repeat (first | (with_reducible first | exact HB.out | apply below_alloc | apply pw_below_drewN | apply below_drew1 | refine below_set ?_ GE103.out) | exact HB.out)) hb); have n2_ := Aside0.mk (hbox); have n3_ := Aside0.mk ((by rw [hg]; exact (below_size (by repeat (first | (with_reducible first | exact HB.out | apply below_alloc | apply pw_below_drewN | apply below_drew1 | refine below_set ?_ GE103.out) | exact HB.out))) : w.heap.size ≤ gb108)); have n4_ := Aside0.mk ((by rw [hg]; exact (below_size (by repeat (first | (with_reducible first | exact HB.out | apply below_alloc | apply pw_below_drewN | apply below_drew1 | refine below_set ?_ GE103.out) | exact HB.out))) : w.heap.size ≤ gb108)); have n5_ := Aside0.mk ((by rw [hg]; exact Nat.ne_of_lt (blk_lt (g := gb103) (o := .cells #[.int .i64 a0_0, .int .i64 a0_1, .int .i64 a0_2, .int .i64 a0_3, .slice (some ad107) l0_4.length c0_4] 26 (0, 0)) (by (with_reducible repeat (first | refine blk_drewN ?_ _ | refine blk_drew ?_ | refine blk_alloc ?_ _)); exact BK103.out)) : gb103 ≠ gb108)); have n6_ := Aside0.mk ((by rw [hg]; exact Nat.ne_of_gt (blk_lt (g := gb103) (o := .cells #[.int .i64 a0_0, .int .i64 a0_1, .int .i64 a0_2, .int .i64 a0_3, .slice (some ad107) l0_4.length c0_4] 26 (0, 0)) (by (with_reducible repeat (first | refine blk_drewN ?_ _ | refine blk_drew ?_ | refine blk_alloc ?_ _)); exact BK103.out)) : gb108 ≠ gb103)); clear BK103; clear HB; have BK103 := n0_; have HB := n1_; have BK108 := n2_; have GW108 := n3_; have GE108 := n4_; have NB103_108 := n5_; have NB108_103 := n6_; clear n0_ n1_ n2_ n3_ n4_ n5_ n6_; clear hb hbox hg; have hnb66 := NB108_103.out; have hnc66 := NB103_108.out; have hcz67_0 : w65.cell? ⟨gb108, 0, none⟩ = some (.int .u8 0) := (blk_cell BK108.out 0).trans rfl; have hcz67_1 : w65.cell? ⟨gb108, 1, none⟩ = some (.string (⟨#[]⟩ : ByteArray)) := (blk_cell BK108.out 1).trans rfl; have hcz67_2 : w65.cell? ⟨gb108, 2, none⟩ = some (.bool false) := (blk_cell BK108.out 2).trans rfl; have hfz67_0 := blk_frozen BK108.out 0; have hfz67_1 := blk_frozen BK108.out 1; have hfz67_2 := blk_frozen BK108.out 2))
                have n0_ : Aside0 ((((w65.setCell ⟨gb108, 0, none⟩ (.int .u8 ((rd_T42 l0_4 x74_3).f0))).setCell ⟨gb108, 1, none⟩ (.string ((rd_T42 l0_4 x74_3).f1))).setCell ⟨gb108, 2, none⟩ (.bool false)).heap[gb103]? = some (.cells #[.int .i64 a0_0, .int .i64 a0_1, .int .i64 a0_2, .int .i64 a0_3, .slice (some ad107) l0_4.length c0_4] 26 (0, 0))) := ⟨by (with_reducible repeat (first | refine blk_drewN ?_ _ | refine blk_drew ?_ | refine blk_alloc ?_ _)); refine blk_far ?_ NB103_108.out _; (with_reducible repeat (first | refine blk_drewN ?_ _ | refine blk_drew ?_ | refine blk_alloc ?_ _)); refine blk_far ?_ NB103_108.out _; (with_reducible repeat (first | refine blk_drewN ?_ _ | refine blk_drew ?_ | refine blk_alloc ?_ _)); refine blk_far ?_ NB103_108.out _; (with_reducible repeat (first | refine blk_drewN ?_ _ | refine blk_drew ?_ | refine blk_alloc ?_ _)); exact BK103.out⟩
                have n1_ : Aside0 ((((w65.setCell ⟨gb108, 0, none⟩ (.int .u8 ((rd_T42 l0_4 x74_3).f0))).setCell ⟨gb108, 1, none⟩ (.string ((rd_T42 l0_4 x74_3).f1))).setCell ⟨gb108, 2, none⟩ (.bool false)).heap[gb108]? = some (.cells #[.int .u8 ((rd_T42 l0_4 x74_3).f0), .string ((rd_T42 l0_4 x74_3).f1), .bool false] 42 (0, 0))) := ⟨by (with_reducible repeat (first | refine blk_drewN ?_ _ | refine blk_drew ?_ | refine blk_alloc ?_ _)); refine blk_put (cs := #[.int .u8 ((rd_T42 l0_4 x74_3).f0), .string ((rd_T42 l0_4 x74_3).f1), .bool false]) ?_ 2 _ rfl; (with_reducible repeat (first | refine blk_drewN ?_ _ | refine blk_drew ?_ | refine blk_alloc ?_ _)); refine blk_put (cs := #[.int .u8 ((rd_T42 l0_4 x74_3).f0), .string (⟨#[]⟩ : ByteArray), .bool false]) ?_ 1 _ rfl; (with_reducible repeat (first | refine blk_drewN ?_ _ | refine blk_drew ?_ | refine blk_alloc ?_ _)); refine blk_put (cs := #[.int .u8 0, .string (⟨#[]⟩ : ByteArray), .bool false]) ?_ 0 _ rfl; (with_reducible repeat (first | refine blk_drewN ?_ _ | refine blk_drew ?_ | refine blk_alloc ?_ _)); exact BK108.out⟩
                have n2_ : Aside0 (Below w.heap.size w (((w65.setCell ⟨gb108, 0, none⟩ (.int .u8 ((rd_T42 l0_4 x74_3).f0))).setCell ⟨gb108, 1, none⟩ (.string ((rd_T42 l0_4 x74_3).f1))).setCell ⟨gb108, 2, none⟩ (.bool false))) := ⟨by repeat (first | (with_reducible first | exact HB.out | apply below_alloc | apply pw_below_drewN | apply below_drew1 | refine below_set ?_ GE103.out | refine below_set ?_ GE108.out) | exact HB.out)⟩
                (try clear BK103)
                (try clear BK108)
                (try clear HB)
                generalize (((w65.setCell ⟨gb108, 0, none⟩ (.int .u8 ((rd_T42 l0_4 x74_3).f0))).setCell ⟨gb108, 1, none⟩ (.string ((rd_T42 l0_4 x74_3).f1))).setCell ⟨gb108, 2, none⟩ (.bool false)) = w68 at n0_ n1_ n2_ ⊢
                have BK103 := n0_
                have BK108 := n1_
                have HB := n2_
                clear n0_ n1_ n2_
                have n0_ := Aside0.mk (blk_drew BK103.out)
                have n1_ := Aside0.mk (blk_drew BK108.out)
                have n2_ := Aside0.mk (below_drew1 HB.out)
                clear BK103
                clear BK108
                clear HB
                have BK103 := n0_
                have BK108 := n1_
                have HB := n2_
                clear n0_ n1_ n2_
                refine start_ (n := 13) (S := fun w' => w'.cell? ⟨gb108, 0, none⟩ = some (.int .u8 ((rd_T42 l0_4 x74_3).f0)) ∧ w'.cell? ⟨gb108, 1, none⟩ = some (.string ((rd_T42 l0_4 x74_3).f1)) ∧ w'.cell? ⟨gb108, 2, none⟩ = some (.bool false)) (ds := []) #[false, false, false, false, false, false, false, false, false, false, false, false, false] (by kernel_rfl) rfl rfl ⟨(blk_cell BK108.out 0).trans rfl, (blk_cell BK108.out 1).trans rfl, (blk_cell BK108.out 2).trans rfl⟩ (fun hHeld => ?_); refine with_tabW show_Check.tab23 show_Check.bits23 (fun HT_ HW_ => ?_)
                generalize w68.drew = w69 at BK103 BK108 HB hHeld ⊢
                refine pure_ (i := 0) (N := some 79) (v := ?_) (a' := ?_) #[true, false, false, false, false, false, false, false, false, false, false, false, false] rfl rfl (any_of HT_.out (by kernel_rfl)) (fun _ _ _ h => h) (Or.inl ⟨by rfl, ?_⟩) ?_ ?_
                rotate_left
                ·intro w'
                 go_simp
                 with_reducible rfl
                rotate_left
                ·simp only [Act.put, List.setIfInBounds_toArray, List.set_cons_zero, List.set_cons_succ, i64_w, i32_w]
                 rfl
                refine take_ (i := 1) (N := some 80) (v := ?_) (a' := ?_) #[true, true, false, false, false, false, false, false, false, false, false, false, false] rfl rfl (take_ofW HT_.out HW_.out (by kernel_rfl)) (fun _ _ _ h => h) (Or.inl ⟨by rfl, ?_⟩) hHeld ?_ ?_
                rotate_left
                ·rintro w' ⟨s0, s1, s2⟩
                 go_simp
                 with_reducible rfl
                rotate_left
                ·simp only [Act.put, List.setIfInBounds_toArray, List.set_cons_zero, List.set_cons_succ, i64_w, i32_w]
                 rfl
                refine pure_ (i := 2) (N := some 81) (v := ?_) (a' := ?_) #[true, true, true, false, false, false, false, false, false, false, false, false, false] rfl rfl (any_of HT_.out (by kernel_rfl)) (fun _ _ _ h => h) (Or.inl ⟨by rfl, ?_⟩) ?_ ?_
                rotate_left
                ·intro w'
                 go_simp
                 with_reducible rfl
                rotate_left
                ·simp only [Act.put, List.setIfInBounds_toArray, List.set_cons_zero, List.set_cons_succ, i64_w, i32_w]
                 rfl
                refine pure_ (i := 3) (N := some 82) (v := undef) (a' := ?_) #[true, true, true, true, false, false, false, false, false, false, false, false, false] rfl rfl (any_of HT_.out (by kernel_rfl)) (fun _ _ _ h => h) (Or.inr ⟨by rfl, rfl⟩) ?_ ?_
                rotate_left
                ·simp only [Act.put, List.setIfInBounds_toArray, List.set_cons_zero, List.set_cons_succ, i64_w, i32_w]
                 rfl
                refine pure_ (i := 4) (N := some 83) (v := undef) (a' := ?_) #[true, true, true, true, true, false, false, false, false, false, false, false, false] rfl rfl (any_of HT_.out (by kernel_rfl)) (fun _ _ _ h => h) (Or.inr ⟨by rfl, rfl⟩) ?_ ?_
                rotate_left
                ·simp only [Act.put, List.setIfInBounds_toArray, List.set_cons_zero, List.set_cons_succ, i64_w, i32_w]
                 rfl
                refine pure_ (i := 5) (N := some 84) (v := undef) (a' := ?_) #[true, true, true, true, true, true, false, false, false, false, false, false, false] rfl rfl (any_of HT_.out (by kernel_rfl)) (fun _ _ _ h => h) (Or.inr ⟨by rfl, rfl⟩) ?_ ?_
                rotate_left
                ·simp only [Act.put, List.setIfInBounds_toArray, List.set_cons_zero, List.set_cons_succ, i64_w, i32_w]
                 rfl
                refine pure_ (i := 6) (N := some 85) (v := undef) (a' := ?_) #[true, true, true, true, true, true, true, false, false, false, false, false, false] rfl rfl (any_of HT_.out (by kernel_rfl)) (fun _ _ _ h => h) (Or.inr ⟨by rfl, rfl⟩) ?_ ?_
                rotate_left
                ·simp only [Act.put, List.setIfInBounds_toArray, List.set_cons_zero, List.set_cons_succ, i64_w, i32_w]
                 rfl
                refine pure_ (i := 7) (N := some 86) (v := undef) (a' := ?_) #[true, true, true, true, true, true, true, true, false, false, false, false, false] rfl rfl (any_of HT_.out (by kernel_rfl)) (fun _ _ _ h => h) (Or.inr ⟨by rfl, rfl⟩) ?_ ?_
                rotate_left
                ·simp only [Act.put, List.setIfInBounds_toArray, List.set_cons_zero, List.set_cons_succ, i64_w, i32_w]
                 rfl
                refine pure_ (i := 8) (N := some 87) (v := undef) (a' := ?_) #[true, true, true, true, true, true, true, true, true, false, false, false, false] rfl rfl (any_of HT_.out (by kernel_rfl)) (fun _ _ _ h => h) (Or.inr ⟨by rfl, rfl⟩) ?_ ?_
                rotate_left
                ·simp only [Act.put, List.setIfInBounds_toArray, List.set_cons_zero, List.set_cons_succ, i64_w, i32_w]
                 rfl
                refine pure_ (i := 9) (N := some 88) (v := undef) (a' := ?_) #[true, true, true, true, true, true, true, true, true, true, false, false, false] rfl rfl (any_of HT_.out (by kernel_rfl)) (fun _ _ _ h => h) (Or.inr ⟨by rfl, rfl⟩) ?_ ?_
                rotate_left
                ·simp only [Act.put, List.setIfInBounds_toArray, List.set_cons_zero, List.set_cons_succ, i64_w, i32_w]
                 rfl
                refine pure_ (i := 10) (N := some 89) (v := undef) (a' := ?_) #[true, true, true, true, true, true, true, true, true, true, true, false, false] rfl rfl (any_of HT_.out (by kernel_rfl)) (fun _ _ _ h => h) (Or.inr ⟨by rfl, rfl⟩) ?_ ?_
                rotate_left
                ·simp only [Act.put, List.setIfInBounds_toArray, List.set_cons_zero, List.set_cons_succ, i64_w, i32_w]
                 rfl
                refine pure_ (i := 11) (N := some 90) (v := undef) (a' := ?_) #[true, true, true, true, true, true, true, true, true, true, true, true, false] rfl rfl (any_of HT_.out (by kernel_rfl)) (fun _ _ _ h => h) (Or.inr ⟨by rfl, rfl⟩) ?_ ?_
                rotate_left
                ·simp only [Act.put, List.setIfInBounds_toArray, List.set_cons_zero, List.set_cons_succ, i64_w, i32_w]
                 rfl
                refine pure_ (i := 12) (N := some 91) (v := ?_) (a' := ?_) #[true, true, true, true, true, true, true, true, true, true, true, true, true] rfl rfl (any_of HT_.out (by kernel_rfl)) (fun _ _ _ h => h) (Or.inl ⟨by rfl, ?_⟩) ?_ ?_
                rotate_left
                ·intro w'
                 go_simp
                 with_reducible rfl
                rotate_left
                ·simp only [Act.put, List.setIfInBounds_toArray, List.set_cons_zero, List.set_cons_succ, i64_w, i32_w]
                 rfl
                refine done_ (done_of HT_.out (by kernel_rfl)) ?_
                try go_wp2
                go_roundg k3
                case measure => have := HK1.out; have := HJ26.out; have := HK3.out; omega
                case rel => exact ⟨(wrap64 (x74_3 + 1)), (by first | rfl | (simp; done) | (simp [*]; done)), H', ⟨by have := HK1.out; have := HJ26.out; have := HK3.out; omega⟩, ⟨by (with_reducible repeat (first | refine blk_drewN ?_ _ | refine blk_drew ?_ | refine blk_alloc ?_ _)); exact BK103.out⟩, ⟨by repeat (first | (with_reducible first | exact HB.out | apply below_alloc | apply pw_below_drewN | apply below_drew1 | refine below_set ?_ GE103.out | refine below_set ?_ GE108.out) | exact HB.out)⟩⟩
              ·rw [if_neg c43] at H
               exact absurd H (by simp)
             ·rw [if_neg c42] at H
              exact absurd H (by simp)
            ·rw [if_neg c41] at H
             have c41b0 : decide (x74_3 < (l0_4.length : Int)) = false := decide_eq_false c41
             clear c41
             obtain rfl := Option.some.inj H
             go_wp2
             go_ret
             exact ⟨by first | rfl | (simp [errW_none, errW_some] <;> rfl) | (simp [*, errW_none, errW_some] <;> rfl), by repeat (first | (with_reducible first | exact HB.out | apply below_alloc | apply pw_below_drewN | apply below_drew1 | refine below_set ?_ GE103.out) | exact HB.out)⟩
        ·rw [if_neg c37] at H
         have c37b0 : (x4_1 == a0_3) = false := beq_eq_false_iff_ne.mpr c37
         have c37b1 : (x4_1 != a0_3) = true := bne_iff_ne.mpr c37
         obtain rfl := Option.some.inj H
         have hcz70_0 : wc.cell? ⟨gb103, 0, none⟩ = some (.int .i64 a0_0) := (blk_cell BK103.out 0).trans rfl
         have hcz70_1 : wc.cell? ⟨gb103, 1, none⟩ = some (.int .i64 a0_1) := (blk_cell BK103.out 1).trans rfl
         have hcz70_2 : wc.cell? ⟨gb103, 2, none⟩ = some (.int .i64 a0_2) := (blk_cell BK103.out 2).trans rfl
         have hcz70_3 : wc.cell? ⟨gb103, 3, none⟩ = some (.int .i64 a0_3) := (blk_cell BK103.out 3).trans rfl
         have hcz70_4 : wc.cell? ⟨gb103, 4, none⟩ = some (.slice A0_4 l0_4.length c0_4) := (blk_cell BK103.out 4).trans rfl
         have hfz70_0 := blk_frozen BK103.out 0
         have hfz70_1 := blk_frozen BK103.out 1
         have hfz70_2 := blk_frozen BK103.out 2
         have hfz70_3 := blk_frozen BK103.out 3
         have hfz70_4 := blk_frozen BK103.out 4
         go_wp2
         go_ret
         exact ⟨by first | rfl | (simp [errW_none, errW_some] <;> rfl) | (simp [*, errW_none, errW_some] <;> rfl), by repeat (first | (with_reducible first | exact HB.out | apply below_alloc | apply pw_below_drewN | apply below_drew1 | refine below_set ?_ GE103.out) | exact HB.out)⟩
       ·rw [if_neg c36] at H
        have c36b0 : (x3_1 == a0_1) = false := beq_eq_false_iff_ne.mpr c36
        have c36b1 : (x3_1 != a0_1) = true := bne_iff_ne.mpr c36
        obtain rfl := Option.some.inj H
        have hcz71_0 : wc.cell? ⟨gb103, 0, none⟩ = some (.int .i64 a0_0) := (blk_cell BK103.out 0).trans rfl
        have hcz71_1 : wc.cell? ⟨gb103, 1, none⟩ = some (.int .i64 a0_1) := (blk_cell BK103.out 1).trans rfl
        have hcz71_2 : wc.cell? ⟨gb103, 2, none⟩ = some (.int .i64 a0_2) := (blk_cell BK103.out 2).trans rfl
        have hcz71_3 : wc.cell? ⟨gb103, 3, none⟩ = some (.int .i64 a0_3) := (blk_cell BK103.out 3).trans rfl
        have hcz71_4 : wc.cell? ⟨gb103, 4, none⟩ = some (.slice A0_4 l0_4.length c0_4) := (blk_cell BK103.out 4).trans rfl
        have hfz71_0 := blk_frozen BK103.out 0
        have hfz71_1 := blk_frozen BK103.out 1
        have hfz71_2 := blk_frozen BK103.out 2
        have hfz71_3 := blk_frozen BK103.out 3
        have hfz71_4 := blk_frozen BK103.out 4
        go_wp2
        go_ret
        exact ⟨by first | rfl | (simp [errW_none, errW_some] <;> rfl) | (simp [*, errW_none, errW_some] <;> rfl), by repeat (first | (with_reducible first | exact HB.out | apply below_alloc | apply pw_below_drewN | apply below_drew1 | refine below_set ?_ GE103.out) | exact HB.out)⟩

/-! ### strconv_Itoa: function 74 -/
def strconv_Itoa.f (a0 : Int) : Option (ByteArray) := if -9223372036854775808 ≤ a0 ∧ a0 ≤ 9223372036854775807 then some ⟨(Lib.itoa a0).toArray⟩ else none
theorem strconv_Itoa.calls (a0 : Int) (r : ByteArray) (w : World) (hG_GPow : GPow w) (h : strconv_Itoa.f a0 = some r) : Calls Tryd.prog 74 #[.int .i64 a0] w fun e w' => e = .returned (.string r) ∧ Below w.heap.size w w' := by
 unfold strconv_Itoa.f at h
 split at h
 ·rename_i hb
  have h' := Option.some.inj h
  subst h'
  exact (Tryd.strconv_Itoa a0 hb.1 hb.2 w hG_GPow).mono fun e w' ⟨he, k, os, hw⟩ => ⟨he, by rw [hw]; exact Lib.below_grow _ _ (Nat.le_refl _) _ _⟩
 ·simp at h

/-! ### show_side: function 51 -/
def show_side.f (a0 : ByteArray) (a1 : Int) (a2 : Int) : Option (ByteArray) := if a2 > 0 then ((strconv_Itoa.f (wrap64 (a1 + 1))).bind fun t114 => (if a0.size + t114.size ≤ 9223372036854775807 then (if (a0 ++ t114).size + 1 ≤ 9223372036854775807 then ((strconv_Itoa.f a2).bind fun t115 => (if ((a0 ++ t114) ++ (⟨#[44]⟩ : ByteArray)).size + t115.size ≤ 9223372036854775807 then (some (((a0 ++ t114) ++ (⟨#[44]⟩ : ByteArray)) ++ t115)) else (none))) else (none)) else (none))) else ((strconv_Itoa.f a1).bind fun t116 => (if a0.size + t116.size ≤ 9223372036854775807 then (if (a0 ++ t116).size + 1 ≤ 9223372036854775807 then ((strconv_Itoa.f a2).bind fun t117 => (if ((a0 ++ t116) ++ (⟨#[44]⟩ : ByteArray)).size + t117.size ≤ 9223372036854775807 then (some (((a0 ++ t116) ++ (⟨#[44]⟩ : ByteArray)) ++ t117)) else (none))) else (none)) else (none)))
set_option maxHeartbeats 8000000 in
set_option maxRecDepth 100000 in
theorem show_side.calls (a0 : ByteArray) (a1 : Int) (a2 : Int) (r : ByteArray) (w : World) (hG_GPow : GPow w) (h : show_side.f a0 a1 a2 = some r) :
  Calls Tryd.prog 51 #[.string a0, .int .i64 a1, .int .i64 a2] w fun e w' => e = .returned (.string r) ∧ Below w.heap.size w w' := by
 have HG_GPow := Aside0.mk hG_GPow
 clear hG_GPow
 have HB := Aside0.mk (Below.refl w.heap.size w)
 have H : (if a2 > 0 then ((strconv_Itoa.f (wrap64 (a1 + 1))).bind fun t114 => (if a0.size + t114.size ≤ 9223372036854775807 then (if (a0 ++ t114).size + 1 ≤ 9223372036854775807 then ((strconv_Itoa.f a2).bind fun t115 => (if ((a0 ++ t114) ++ (⟨#[44]⟩ : ByteArray)).size + t115.size ≤ 9223372036854775807 then (some (((a0 ++ t114) ++ (⟨#[44]⟩ : ByteArray)) ++ t115)) else (none))) else (none)) else (none))) else ((strconv_Itoa.f a1).bind fun t116 => (if a0.size + t116.size ≤ 9223372036854775807 then (if (a0 ++ t116).size + 1 ≤ 9223372036854775807 then ((strconv_Itoa.f a2).bind fun t117 => (if ((a0 ++ t116) ++ (⟨#[44]⟩ : ByteArray)).size + t117.size ≤ 9223372036854775807 then (some (((a0 ++ t116) ++ (⟨#[44]⟩ : ByteArray)) ++ t117)) else (none))) else (none)) else (none)))) = some r := h
 clear h
 by_cases c4 : a2 > 0
 ·rw [if_pos c4] at H
  have c4b0 : decide (0 < a2) = true := decide_eq_true c4
  clear c4
  replace H := Option.bind_eq_some_iff.mp H
  obtain ⟨t114, A50, H⟩ := H
  replace H : (if a0.size + t114.size ≤ 9223372036854775807 then (if (a0 ++ t114).size + 1 ≤ 9223372036854775807 then ((strconv_Itoa.f a2).bind fun t115 => (if ((a0 ++ t114) ++ (⟨#[44]⟩ : ByteArray)).size + t115.size ≤ 9223372036854775807 then (some (((a0 ++ t114) ++ (⟨#[44]⟩ : ByteArray)) ++ t115)) else (none))) else (none)) else (none)) = some r := H
  have A5 := Aside0.mk A50
  clear A50
  by_cases c6 : a0.size + t114.size ≤ 9223372036854775807
  ·rw [if_pos c6] at H
   have c6b0 := eq_true c6
   have c6b1 : decide (a0.size + t114.size ≤ 9223372036854775807) = true := decide_eq_true c6
   try have c6b2 : (9223372036854775807 < a0.size + t114.size) = False := eq_false (Nat.not_lt.2 c6)
   by_cases c7 : (a0 ++ t114).size + 1 ≤ 9223372036854775807
   ·rw [if_pos c7] at H
    have c7b0 := eq_true c7
    have c7b1 : decide ((a0 ++ t114).size + 1 ≤ 9223372036854775807) = true := decide_eq_true c7
    try have c7b2 : (9223372036854775807 < (a0 ++ t114).size + 1) = False := eq_false (Nat.not_lt.2 c7)
    try have c7b3 : (9223372036854775807 < a0.size + t114.size + 1) = False := eq_false (fun h_ => by have z_ := c7; simp only [ByteArray.size_append', ] at z_; omega)
    replace H := Option.bind_eq_some_iff.mp H
    obtain ⟨t115, A80, H⟩ := H
    replace H : (if ((a0 ++ t114) ++ (⟨#[44]⟩ : ByteArray)).size + t115.size ≤ 9223372036854775807 then (some (((a0 ++ t114) ++ (⟨#[44]⟩ : ByteArray)) ++ t115)) else (none)) = some r := H
    have A8 := Aside0.mk A80
    clear A80
    by_cases c9 : ((a0 ++ t114) ++ (⟨#[44]⟩ : ByteArray)).size + t115.size ≤ 9223372036854775807
    ·rw [if_pos c9] at H
     have c9b0 := eq_true c9
     have c9b1 : decide (((a0 ++ t114) ++ (⟨#[44]⟩ : ByteArray)).size + t115.size ≤ 9223372036854775807) = true := decide_eq_true c9
     try have c9b2 : (9223372036854775807 < ((a0 ++ t114) ++ (⟨#[44]⟩ : ByteArray)).size + t115.size) = False := eq_false (Nat.not_lt.2 c9)
     try have c9b3 : (9223372036854775807 < a0.size + t114.size + 1 + t115.size) = False := eq_false (fun h_ => by have z_ := c9; simp only [ByteArray.size_append', (show (⟨#[44]⟩ : ByteArray).size = 1 from rfl)] at z_; omega)
     obtain rfl := Option.some.inj H
     go_enter Tryd.func51, Tryd.ntmps51
     go_wp2_with (first | ((with_reducible refine gate_callee (f := 74) rfl ?_); refine goesL_ (some 13) rfl rfl Tryd.func74 (by kernel_rfl) rfl #[.int .i64 (wrap64 (a1 + 1))] rfl (by (try simp only [List.map_toArray, List.map_cons, List.map_nil]); first | done | rfl | (simp only [List.length_drop, List.length_take]; rfl)) ?_; (with_reducible refine (strconv_Itoa.calls (wrap64 (a1 + 1)) t114 _ ?side1 A5.out).mono ?_); (case side1 => exact GPow.below HG_GPow.out (by repeat (first | (with_reducible first | exact HB.out | apply below_alloc | apply pw_below_drewN | apply below_drew1) | exact HB.out))); rintro e w10 ⟨rfl, hb⟩; refine ⟨_, rfl, ?_⟩; have n0_ := Aside0.mk (below_step (by repeat (first | (with_reducible first | exact HB.out | apply below_alloc | apply pw_below_drewN | apply below_drew1) | exact HB.out)) hb); clear HB; have HB := n0_; clear n0_; (try clear hb); (try clear hb2); (try clear hk); (try clear hi)) | ((with_reducible refine gate_callee (f := 74) rfl ?_); refine goesL_ (some 17) rfl rfl Tryd.func74 (by kernel_rfl) rfl #[.int .i64 a2] rfl (by (try simp only [List.map_toArray, List.map_cons, List.map_nil]); first | done | rfl | (simp only [List.length_drop, List.length_take]; rfl)) ?_; (with_reducible refine (strconv_Itoa.calls a2 t115 _ ?side1 A8.out).mono ?_); (case side1 => exact GPow.below HG_GPow.out (by repeat (first | (with_reducible first | exact HB.out | apply below_alloc | apply pw_below_drewN | apply below_drew1) | exact HB.out))); rintro e w11 ⟨rfl, hb⟩; refine ⟨_, rfl, ?_⟩; have n0_ := Aside0.mk (below_step (by repeat (first | (with_reducible first | exact HB.out | apply below_alloc | apply pw_below_drewN | apply below_drew1) | exact HB.out)) hb); clear HB; have HB := n0_; clear n0_; (try clear hb); (try clear hb2); (try clear hk); (try clear hi)))
     go_ret
     exact ⟨by first | rfl | (simp [errW_none, errW_some] <;> rfl) | (simp [*, errW_none, errW_some] <;> rfl), by repeat (first | (with_reducible first | exact HB.out | apply below_alloc | apply pw_below_drewN | apply below_drew1) | exact HB.out)⟩
    ·rw [if_neg c9] at H
     exact absurd H (by simp)
   ·rw [if_neg c7] at H
    exact absurd H (by simp)
  ·rw [if_neg c6] at H
   exact absurd H (by simp)
 ·rw [if_neg c4] at H
  have c4b0 : decide (0 < a2) = false := decide_eq_false c4
  clear c4
  replace H := Option.bind_eq_some_iff.mp H
  obtain ⟨t116, A120, H⟩ := H
  replace H : (if a0.size + t116.size ≤ 9223372036854775807 then (if (a0 ++ t116).size + 1 ≤ 9223372036854775807 then ((strconv_Itoa.f a2).bind fun t117 => (if ((a0 ++ t116) ++ (⟨#[44]⟩ : ByteArray)).size + t117.size ≤ 9223372036854775807 then (some (((a0 ++ t116) ++ (⟨#[44]⟩ : ByteArray)) ++ t117)) else (none))) else (none)) else (none)) = some r := H
  have A12 := Aside0.mk A120
  clear A120
  by_cases c13 : a0.size + t116.size ≤ 9223372036854775807
  ·rw [if_pos c13] at H
   have c13b0 := eq_true c13
   have c13b1 : decide (a0.size + t116.size ≤ 9223372036854775807) = true := decide_eq_true c13
   try have c13b2 : (9223372036854775807 < a0.size + t116.size) = False := eq_false (Nat.not_lt.2 c13)
   by_cases c14 : (a0 ++ t116).size + 1 ≤ 9223372036854775807
   ·rw [if_pos c14] at H
    have c14b0 := eq_true c14
    have c14b1 : decide ((a0 ++ t116).size + 1 ≤ 9223372036854775807) = true := decide_eq_true c14
    try have c14b2 : (9223372036854775807 < (a0 ++ t116).size + 1) = False := eq_false (Nat.not_lt.2 c14)
    try have c14b3 : (9223372036854775807 < a0.size + t116.size + 1) = False := eq_false (fun h_ => by have z_ := c14; simp only [ByteArray.size_append', ] at z_; omega)
    replace H := Option.bind_eq_some_iff.mp H
    obtain ⟨t117, A150, H⟩ := H
    replace H : (if ((a0 ++ t116) ++ (⟨#[44]⟩ : ByteArray)).size + t117.size ≤ 9223372036854775807 then (some (((a0 ++ t116) ++ (⟨#[44]⟩ : ByteArray)) ++ t117)) else (none)) = some r := H
    have A15 := Aside0.mk A150
    clear A150
    by_cases c16 : ((a0 ++ t116) ++ (⟨#[44]⟩ : ByteArray)).size + t117.size ≤ 9223372036854775807
    ·rw [if_pos c16] at H
     have c16b0 := eq_true c16
     have c16b1 : decide (((a0 ++ t116) ++ (⟨#[44]⟩ : ByteArray)).size + t117.size ≤ 9223372036854775807) = true := decide_eq_true c16
     try have c16b2 : (9223372036854775807 < ((a0 ++ t116) ++ (⟨#[44]⟩ : ByteArray)).size + t117.size) = False := eq_false (Nat.not_lt.2 c16)
     try have c16b3 : (9223372036854775807 < a0.size + t116.size + 1 + t117.size) = False := eq_false (fun h_ => by have z_ := c16; simp only [ByteArray.size_append', (show (⟨#[44]⟩ : ByteArray).size = 1 from rfl)] at z_; omega)
     obtain rfl := Option.some.inj H
     go_enter Tryd.func51, Tryd.ntmps51
     go_wp2_with (first | ((with_reducible refine gate_callee (f := 74) rfl ?_); refine goesL_ (some 13) rfl rfl Tryd.func74 (by kernel_rfl) rfl #[.int .i64 a1] rfl (by (try simp only [List.map_toArray, List.map_cons, List.map_nil]); first | done | rfl | (simp only [List.length_drop, List.length_take]; rfl)) ?_; (with_reducible refine (strconv_Itoa.calls a1 t116 _ ?side1 A12.out).mono ?_); (case side1 => exact GPow.below HG_GPow.out (by repeat (first | (with_reducible first | exact HB.out | apply below_alloc | apply pw_below_drewN | apply below_drew1) | exact HB.out))); rintro e w17 ⟨rfl, hb⟩; refine ⟨_, rfl, ?_⟩; have n0_ := Aside0.mk (below_step (by repeat (first | (with_reducible first | exact HB.out | apply below_alloc | apply pw_below_drewN | apply below_drew1) | exact HB.out)) hb); clear HB; have HB := n0_; clear n0_; (try clear hb); (try clear hb2); (try clear hk); (try clear hi)) | ((with_reducible refine gate_callee (f := 74) rfl ?_); refine goesL_ (some 17) rfl rfl Tryd.func74 (by kernel_rfl) rfl #[.int .i64 a2] rfl (by (try simp only [List.map_toArray, List.map_cons, List.map_nil]); first | done | rfl | (simp only [List.length_drop, List.length_take]; rfl)) ?_; (with_reducible refine (strconv_Itoa.calls a2 t117 _ ?side1 A15.out).mono ?_); (case side1 => exact GPow.below HG_GPow.out (by repeat (first | (with_reducible first | exact HB.out | apply below_alloc | apply pw_below_drewN | apply below_drew1) | exact HB.out))); rintro e w18 ⟨rfl, hb⟩; refine ⟨_, rfl, ?_⟩; have n0_ := Aside0.mk (below_step (by repeat (first | (with_reducible first | exact HB.out | apply below_alloc | apply pw_below_drewN | apply below_drew1) | exact HB.out)) hb); clear HB; have HB := n0_; clear n0_; (try clear hb); (try clear hb2); (try clear hk); (try clear hi)))
     go_ret
     exact ⟨by first | rfl | (simp [errW_none, errW_some] <;> rfl) | (simp [*, errW_none, errW_some] <;> rfl), by repeat (first | (with_reducible first | exact HB.out | apply below_alloc | apply pw_below_drewN | apply below_drew1) | exact HB.out)⟩
    ·rw [if_neg c16] at H
     exact absurd H (by simp)
   ·rw [if_neg c14] at H
    exact absurd H (by simp)
  ·rw [if_neg c13] at H
   exact absurd H (by simp)

/-! ### show_Head: function 24 -/
def show_Head.f (a0_0 : Int) (a0_1 : Int) (a0_2 : Int) (a0_3 : Int) (l0_4 : List (S42)) : Option (ByteArray) := (show_side.f (⟨#[45]⟩ : ByteArray) a0_0 a0_1).bind fun t119 => (if 3 + t119.size ≤ 9223372036854775807 then (if ((⟨#[64, 64, 32]⟩ : ByteArray) ++ t119).size + 1 ≤ 9223372036854775807 then ((show_side.f (⟨#[43]⟩ : ByteArray) a0_2 a0_3).bind fun t120 => (if (((⟨#[64, 64, 32]⟩ : ByteArray) ++ t119) ++ (⟨#[32]⟩ : ByteArray)).size + t120.size ≤ 9223372036854775807 then (if ((((⟨#[64, 64, 32]⟩ : ByteArray) ++ t119) ++ (⟨#[32]⟩ : ByteArray)) ++ t120).size + 4 ≤ 9223372036854775807 then (some (((((⟨#[64, 64, 32]⟩ : ByteArray) ++ t119) ++ (⟨#[32]⟩ : ByteArray)) ++ t120) ++ (⟨#[32, 64, 64, 10]⟩ : ByteArray))) else (none)) else (none))) else (none)) else (none))
def show_Head.T1 : Bool × List (List Nat × List Nat) := (true, [([], []), ([0], [0]), ([], []), ([2], [2]), ([1, 3], [1, 3]), ([4], [4]), ([5], [5]), ([], []), ([7], [7]), ([], []), ([9], [9]), ([8, 10, 4], [8, 10]), ([6, 11], [6, 11]), ([12], [12]), ([13, 11, 0, 1, 2, 3, 4, 5, 6, 7, 8, 9, 10, 11, 12, 13], [13])])
def show_Head.B1 : List Nat := [0, 1, 0, 4, 15, 31, 63, 0, 128, 0, 512, 1951, 4095, 8191, 16383]
theorem show_Head.tab1 : rtab .any (opsOf Tryd.f24 1) = show_Head.T1 := by kernel_rfl
theorem show_Head.bits1 : waitsOk show_Head.T1.2 show_Head.B1 = true := by kernel_rfl
set_option maxHeartbeats 8000000 in
set_option maxRecDepth 100000 in
theorem show_Head.calls (a0_0 : Int) (a0_1 : Int) (a0_2 : Int) (a0_3 : Int) (A0_4 : Option Addr) (c0_4 : Nat) (l0_4 : List (S42)) (r : ByteArray) (w : World) (hr0_4 : Kd.C k42 w A0_4 l0_4.length l0_4) (hc0_4 : l0_4.length ≤ c0_4) (hG_GPow : GPow w) (h : show_Head.f a0_0 a0_1 a0_2 a0_3 l0_4 = some r) :
  Calls Tryd.prog 24 #[.agg #[.int .i64 a0_0, .int .i64 a0_1, .int .i64 a0_2, .int .i64 a0_3, .slice A0_4 l0_4.length c0_4]] w fun e w' => e = .returned (.string r) ∧ Below w.heap.size w w' := by
 have hu26 := Tryd.underlying26
 have HG_GPow := Aside0.mk hG_GPow
 clear hG_GPow
 have HR0_4 := Aside0.mk hr0_4
 have HC0_4 := Aside0.mk hc0_4
 clear hr0_4 hc0_4
 have HB := Aside0.mk (Below.refl w.heap.size w)
 have H : ((show_side.f (⟨#[45]⟩ : ByteArray) a0_0 a0_1).bind fun t119 => (if 3 + t119.size ≤ 9223372036854775807 then (if ((⟨#[64, 64, 32]⟩ : ByteArray) ++ t119).size + 1 ≤ 9223372036854775807 then ((show_side.f (⟨#[43]⟩ : ByteArray) a0_2 a0_3).bind fun t120 => (if (((⟨#[64, 64, 32]⟩ : ByteArray) ++ t119) ++ (⟨#[32]⟩ : ByteArray)).size + t120.size ≤ 9223372036854775807 then (if ((((⟨#[64, 64, 32]⟩ : ByteArray) ++ t119) ++ (⟨#[32]⟩ : ByteArray)) ++ t120).size + 4 ≤ 9223372036854775807 then (some (((((⟨#[64, 64, 32]⟩ : ByteArray) ++ t119) ++ (⟨#[32]⟩ : ByteArray)) ++ t120) ++ (⟨#[32, 64, 64, 10]⟩ : ByteArray))) else (none)) else (none))) else (none)) else (none))) = some r := h
 clear h
 replace H := Option.bind_eq_some_iff.mp H
 obtain ⟨t119, A20, H⟩ := H
 replace H : (if 3 + t119.size ≤ 9223372036854775807 then (if ((⟨#[64, 64, 32]⟩ : ByteArray) ++ t119).size + 1 ≤ 9223372036854775807 then ((show_side.f (⟨#[43]⟩ : ByteArray) a0_2 a0_3).bind fun t120 => (if (((⟨#[64, 64, 32]⟩ : ByteArray) ++ t119) ++ (⟨#[32]⟩ : ByteArray)).size + t120.size ≤ 9223372036854775807 then (if ((((⟨#[64, 64, 32]⟩ : ByteArray) ++ t119) ++ (⟨#[32]⟩ : ByteArray)) ++ t120).size + 4 ≤ 9223372036854775807 then (some (((((⟨#[64, 64, 32]⟩ : ByteArray) ++ t119) ++ (⟨#[32]⟩ : ByteArray)) ++ t120) ++ (⟨#[32, 64, 64, 10]⟩ : ByteArray))) else (none)) else (none))) else (none)) else (none)) = some r := H
 have A2 := Aside0.mk A20
 clear A20
 by_cases c3 : 3 + t119.size ≤ 9223372036854775807
 ·rw [if_pos c3] at H
  have c3b0 := eq_true c3
  have c3b1 : decide (3 + t119.size ≤ 9223372036854775807) = true := decide_eq_true c3
  try have c3b2 : (9223372036854775807 < 3 + t119.size) = False := eq_false (Nat.not_lt.2 c3)
  by_cases c4 : ((⟨#[64, 64, 32]⟩ : ByteArray) ++ t119).size + 1 ≤ 9223372036854775807
  ·rw [if_pos c4] at H
   have c4b0 := eq_true c4
   have c4b1 : decide (((⟨#[64, 64, 32]⟩ : ByteArray) ++ t119).size + 1 ≤ 9223372036854775807) = true := decide_eq_true c4
   try have c4b2 : (9223372036854775807 < ((⟨#[64, 64, 32]⟩ : ByteArray) ++ t119).size + 1) = False := eq_false (Nat.not_lt.2 c4)
   try have c4b3 : (9223372036854775807 < 3 + t119.size + 1) = False := eq_false (fun h_ => by have z_ := c4; simp only [ByteArray.size_append', (show (⟨#[64, 64, 32]⟩ : ByteArray).size = 3 from rfl)] at z_; omega)
   replace H := Option.bind_eq_some_iff.mp H
   obtain ⟨t120, A50, H⟩ := H
   replace H : (if (((⟨#[64, 64, 32]⟩ : ByteArray) ++ t119) ++ (⟨#[32]⟩ : ByteArray)).size + t120.size ≤ 9223372036854775807 then (if ((((⟨#[64, 64, 32]⟩ : ByteArray) ++ t119) ++ (⟨#[32]⟩ : ByteArray)) ++ t120).size + 4 ≤ 9223372036854775807 then (some (((((⟨#[64, 64, 32]⟩ : ByteArray) ++ t119) ++ (⟨#[32]⟩ : ByteArray)) ++ t120) ++ (⟨#[32, 64, 64, 10]⟩ : ByteArray))) else (none)) else (none)) = some r := H
   have A5 := Aside0.mk A50
   clear A50
   by_cases c6 : (((⟨#[64, 64, 32]⟩ : ByteArray) ++ t119) ++ (⟨#[32]⟩ : ByteArray)).size + t120.size ≤ 9223372036854775807
   ·rw [if_pos c6] at H
    have c6b0 := eq_true c6
    have c6b1 : decide ((((⟨#[64, 64, 32]⟩ : ByteArray) ++ t119) ++ (⟨#[32]⟩ : ByteArray)).size + t120.size ≤ 9223372036854775807) = true := decide_eq_true c6
    try have c6b2 : (9223372036854775807 < (((⟨#[64, 64, 32]⟩ : ByteArray) ++ t119) ++ (⟨#[32]⟩ : ByteArray)).size + t120.size) = False := eq_false (Nat.not_lt.2 c6)
    try have c6b3 : (9223372036854775807 < 3 + t119.size + 1 + t120.size) = False := eq_false (fun h_ => by have z_ := c6; simp only [ByteArray.size_append', (show (⟨#[64, 64, 32]⟩ : ByteArray).size = 3 from rfl), (show (⟨#[32]⟩ : ByteArray).size = 1 from rfl)] at z_; omega)
    by_cases c7 : ((((⟨#[64, 64, 32]⟩ : ByteArray) ++ t119) ++ (⟨#[32]⟩ : ByteArray)) ++ t120).size + 4 ≤ 9223372036854775807
    ·rw [if_pos c7] at H
     have c7b0 := eq_true c7
     have c7b1 : decide (((((⟨#[64, 64, 32]⟩ : ByteArray) ++ t119) ++ (⟨#[32]⟩ : ByteArray)) ++ t120).size + 4 ≤ 9223372036854775807) = true := decide_eq_true c7
     try have c7b2 : (9223372036854775807 < ((((⟨#[64, 64, 32]⟩ : ByteArray) ++ t119) ++ (⟨#[32]⟩ : ByteArray)) ++ t120).size + 4) = False := eq_false (Nat.not_lt.2 c7)
     try have c7b3 : (9223372036854775807 < 3 + t119.size + 1 + t120.size + 4) = False := eq_false (fun h_ => by have z_ := c7; simp only [ByteArray.size_append', (show (⟨#[64, 64, 32]⟩ : ByteArray).size = 3 from rfl), (show (⟨#[32]⟩ : ByteArray).size = 1 from rfl)] at z_; omega)
     obtain rfl := Option.some.inj H
     go_enter Tryd.func24, Tryd.ntmps24
     try go_wp2_with (first | ((with_reducible refine gate_dst (N := 1) rfl ?_); refine box_event ?hg (N := 1) ?hd (cs := #[.int .i64 a0_0, .int .i64 a0_1, .int .i64 a0_2, .int .i64 a0_3, .slice A0_4 l0_4.length c0_4]) (t := 26) ?hr ?_; (case hd => rfl); (case hg => rfl); (case hr => first | (go_simp; done) | (go_simp; rfl)); intro gb118 hg w8 hbox hb; have n0_ := Aside0.mk (below_step (by repeat (first | (with_reducible first | exact HB.out | apply below_alloc | apply pw_below_drewN | apply below_drew1) | exact HB.out)) hb); have n1_ := Aside0.mk (hbox); have n2_ := Aside0.mk ((by rw [hg]; exact (below_size (by repeat (first | (with_reducible first | exact HB.out | apply below_alloc | apply pw_below_drewN | apply below_drew1) | exact HB.out))) : w.heap.size ≤ gb118)); have n3_ := Aside0.mk ((by rw [hg]; exact (below_size (by repeat (first | (with_reducible first | exact HB.out | apply below_alloc | apply pw_below_drewN | apply below_drew1) | exact HB.out))) : w.heap.size ≤ gb118)); clear HB; have HB := n0_; have BK118 := n1_; have GW118 := n2_; have GE118 := n3_; clear n0_ n1_ n2_ n3_; clear hb hbox hg))
     have n0_ := Aside0.mk (blk_drew BK118.out)
     have n1_ := Aside0.mk (below_drew1 HB.out)
     clear BK118
     clear HB
     have BK118 := n0_
     have HB := n1_
     clear n0_ n1_
     refine start_ (n := 15) (S := fun w' => w'.cell? ⟨gb118, 0, none⟩ = some (.int .i64 a0_0) ∧ w'.cell? ⟨gb118, 1, none⟩ = some (.int .i64 a0_1) ∧ w'.cell? ⟨gb118, 2, none⟩ = some (.int .i64 a0_2) ∧ w'.cell? ⟨gb118, 3, none⟩ = some (.int .i64 a0_3) ∧ w'.cell? ⟨gb118, 4, none⟩ = some (.slice A0_4 l0_4.length c0_4)) (ds := []) #[false, false, false, false, false, false, false, false, false, false, false, false, false, false, false] (by kernel_rfl) rfl rfl ⟨(blk_cell BK118.out 0).trans rfl, (blk_cell BK118.out 1).trans rfl, (blk_cell BK118.out 2).trans rfl, (blk_cell BK118.out 3).trans rfl, (blk_cell BK118.out 4).trans rfl⟩ (fun hHeld => ?_); refine with_tabW show_Head.tab1 show_Head.bits1 (fun HT_ HW_ => ?_)
     generalize w8.drew = w9 at BK118 HB hHeld ⊢
     refine pure_ (i := 0) (N := some 3) (v := ?_) (a' := ?_) #[true, false, false, false, false, false, false, false, false, false, false, false, false, false, false] rfl rfl (any_of HT_.out (by kernel_rfl)) (fun _ _ _ h => h) (Or.inl ⟨by rfl, ?_⟩) ?_ ?_
     rotate_left
     ·intro w'
      go_simp
      with_reducible rfl
     rotate_left
     ·simp only [Act.put, List.setIfInBounds_toArray, List.set_cons_zero, List.set_cons_succ, i64_w, i32_w]
      rfl
     refine pure_ (i := 2) (N := some 5) (v := ?_) (a' := ?_) #[true, false, true, false, false, false, false, false, false, false, false, false, false, false, false] rfl rfl (any_of HT_.out (by kernel_rfl)) (fun _ _ _ h => h) (Or.inl ⟨by rfl, ?_⟩) ?_ ?_
     rotate_left
     ·intro w'
      go_simp
      with_reducible rfl
     rotate_left
     ·simp only [Act.put, List.setIfInBounds_toArray, List.set_cons_zero, List.set_cons_succ, i64_w, i32_w]
      rfl
     refine pure_ (i := 7) (N := some 10) (v := ?_) (a' := ?_) #[true, false, true, false, false, false, false, true, false, false, false, false, false, false, false] rfl rfl (any_of HT_.out (by kernel_rfl)) (fun _ _ _ h => h) (Or.inl ⟨by rfl, ?_⟩) ?_ ?_
     rotate_left
     ·intro w'
      go_simp
      with_reducible rfl
     rotate_left
     ·simp only [Act.put, List.setIfInBounds_toArray, List.set_cons_zero, List.set_cons_succ, i64_w, i32_w]
      rfl
     refine pure_ (i := 9) (N := some 12) (v := ?_) (a' := ?_) #[true, false, true, false, false, false, false, true, false, true, false, false, false, false, false] rfl rfl (any_of HT_.out (by kernel_rfl)) (fun _ _ _ h => h) (Or.inl ⟨by rfl, ?_⟩) ?_ ?_
     rotate_left
     ·intro w'
      go_simp
      with_reducible rfl
     rotate_left
     ·simp only [Act.put, List.setIfInBounds_toArray, List.set_cons_zero, List.set_cons_succ, i64_w, i32_w]
      rfl
     refine take_ (i := 1) (N := some 4) (v := ?_) (a' := ?_) #[true, true, true, false, false, false, false, true, false, true, false, false, false, false, false] rfl rfl (take_ofW HT_.out HW_.out (by kernel_rfl)) (fun _ _ _ h => h) (Or.inl ⟨by rfl, ?_⟩) hHeld ?_ ?_
     rotate_left
     ·rintro w' ⟨s0, s1, s2, s3, s4⟩
      go_simp
      with_reducible rfl
     rotate_left
     ·simp only [Act.put, List.setIfInBounds_toArray, List.set_cons_zero, List.set_cons_succ, i64_w, i32_w]
      rfl
     refine take_ (i := 3) (N := some 6) (v := ?_) (a' := ?_) #[true, true, true, true, false, false, false, true, false, true, false, false, false, false, false] rfl rfl (take_ofW HT_.out HW_.out (by kernel_rfl)) (fun _ _ _ h => h) (Or.inl ⟨by rfl, ?_⟩) hHeld ?_ ?_
     rotate_left
     ·rintro w' ⟨s0, s1, s2, s3, s4⟩
      go_simp
      with_reducible rfl
     rotate_left
     ·simp only [Act.put, List.setIfInBounds_toArray, List.set_cons_zero, List.set_cons_succ, i64_w, i32_w]
      rfl
     refine take_ (i := 8) (N := some 11) (v := ?_) (a' := ?_) #[true, true, true, true, false, false, false, true, true, true, false, false, false, false, false] rfl rfl (take_ofW HT_.out HW_.out (by kernel_rfl)) (fun _ _ _ h => h) (Or.inl ⟨by rfl, ?_⟩) hHeld ?_ ?_
     rotate_left
     ·rintro w' ⟨s0, s1, s2, s3, s4⟩
      go_simp
      with_reducible rfl
     rotate_left
     ·simp only [Act.put, List.setIfInBounds_toArray, List.set_cons_zero, List.set_cons_succ, i64_w, i32_w]
      rfl
     refine take_ (i := 10) (N := some 13) (v := ?_) (a' := ?_) #[true, true, true, true, false, false, false, true, true, true, true, false, false, false, false] rfl rfl (take_ofW HT_.out HW_.out (by kernel_rfl)) (fun _ _ _ h => h) (Or.inl ⟨by rfl, ?_⟩) hHeld ?_ ?_
     rotate_left
     ·rintro w' ⟨s0, s1, s2, s3, s4⟩
      go_simp
      with_reducible rfl
     rotate_left
     ·simp only [Act.put, List.setIfInBounds_toArray, List.set_cons_zero, List.set_cons_succ, i64_w, i32_w]
      rfl
     refine one_ (i := 4) (N := some 7) #[true, true, true, true, true, false, false, true, true, true, true, false, false, false, false] rfl rfl (one_of HT_.out (by kernel_rfl)) (by decide) (fun K hK => ?_)
     refine goes_ Tryd.func51 (by kernel_rfl) rfl #[.string (⟨#[45]⟩ : ByteArray), .int .i64 a0_0, .int .i64 a0_1] (by rfl) rfl rfl (by (try simp only [List.map_toArray, List.map_cons, List.map_nil]); first | done | rfl | (simp only [List.length_drop, List.length_take]; rfl)) ?_
     with_reducible refine (show_side.calls (⟨#[45]⟩ : ByteArray) a0_0 a0_1 t119 _ ?side1 A2.out).mono ?_
     (case side1 => exact GPow.below HG_GPow.out (by repeat (first | (with_reducible first | exact HB.out | apply below_alloc | apply pw_below_drewN | apply below_drew1 | refine below_set ?_ GE118.out) | exact HB.out)))
     rintro e w10 ⟨rfl, hb⟩
     refine ⟨_, rfl, ?_⟩
     have n0_ := Aside0.mk (blk_below (g := gb118) (o := .cells #[.int .i64 a0_0, .int .i64 a0_1, .int .i64 a0_2, .int .i64 a0_3, .slice A0_4 l0_4.length c0_4] 26 (0, 0)) (by (with_reducible repeat (first | refine blk_drewN ?_ _ | refine blk_drew ?_ | refine blk_alloc ?_ _)); exact BK118.out) hb)
     have n1_ := Aside0.mk (below_step (by repeat (first | (with_reducible first | exact HB.out | apply below_alloc | apply pw_below_drewN | apply below_drew1 | refine below_set ?_ GE118.out) | exact HB.out)) hb)
     clear BK118
     clear HB
     have BK118 := n0_
     have HB := n1_
     clear n0_ n1_
     (try clear hb)
     (try clear hb2)
     (try clear hk)
     (try clear hi)
     refine hK.out _ _ ⟨(blk_cell BK118.out 0).trans rfl, (blk_cell BK118.out 1).trans rfl, (blk_cell BK118.out 2).trans rfl, (blk_cell BK118.out 3).trans rfl, (blk_cell BK118.out 4).trans rfl⟩ (fun hHeld => ?_)
     clear hK K
     refine norm_ (a' := ?_) ?_ ?_
     rotate_left
     ·show Act.put _ (some 7) _ = _
      simp only [Act.put, List.setIfInBounds_toArray, List.set_cons_zero, List.set_cons_succ, i64_w, i32_w]
      rfl
     refine pure_ (i := 5) (N := some 8) (v := ?_) (a' := ?_) #[true, true, true, true, true, true, false, true, true, true, true, false, false, false, false] rfl rfl (any_of HT_.out (by kernel_rfl)) (fun _ _ _ h => h) (Or.inl ⟨by rfl, ?_⟩) ?_ ?_
     rotate_left
     ·intro w'
      go_simp
      with_reducible rfl
     rotate_left
     ·simp only [Act.put, List.setIfInBounds_toArray, List.set_cons_zero, List.set_cons_succ, i64_w, i32_w]
      rfl
     refine pure_ (i := 6) (N := some 9) (v := ?_) (a' := ?_) #[true, true, true, true, true, true, true, true, true, true, true, false, false, false, false] rfl rfl (any_of HT_.out (by kernel_rfl)) (fun _ _ _ h => h) (Or.inl ⟨by rfl, ?_⟩) ?_ ?_
     rotate_left
     ·intro w'
      go_simp
      with_reducible rfl
     rotate_left
     ·simp only [Act.put, List.setIfInBounds_toArray, List.set_cons_zero, List.set_cons_succ, i64_w, i32_w]
      rfl
     refine one_ (i := 11) (N := some 14) #[true, true, true, true, true, true, true, true, true, true, true, true, false, false, false] rfl rfl (one_of HT_.out (by kernel_rfl)) (by decide) (fun K hK => ?_)
     refine goes_ Tryd.func51 (by kernel_rfl) rfl #[.string (⟨#[43]⟩ : ByteArray), .int .i64 a0_2, .int .i64 a0_3] (by rfl) rfl rfl (by (try simp only [List.map_toArray, List.map_cons, List.map_nil]); first | done | rfl | (simp only [List.length_drop, List.length_take]; rfl)) ?_
     with_reducible refine (show_side.calls (⟨#[43]⟩ : ByteArray) a0_2 a0_3 t120 _ ?side1 A5.out).mono ?_
     (case side1 => exact GPow.below HG_GPow.out (by repeat (first | (with_reducible first | exact HB.out | apply below_alloc | apply pw_below_drewN | apply below_drew1 | refine below_set ?_ GE118.out) | exact HB.out)))
     rintro e w11 ⟨rfl, hb⟩
     refine ⟨_, rfl, ?_⟩
     have n0_ := Aside0.mk (blk_below (g := gb118) (o := .cells #[.int .i64 a0_0, .int .i64 a0_1, .int .i64 a0_2, .int .i64 a0_3, .slice A0_4 l0_4.length c0_4] 26 (0, 0)) (by (with_reducible repeat (first | refine blk_drewN ?_ _ | refine blk_drew ?_ | refine blk_alloc ?_ _)); exact BK118.out) hb)
     have n1_ := Aside0.mk (below_step (by repeat (first | (with_reducible first | exact HB.out | apply below_alloc | apply pw_below_drewN | apply below_drew1 | refine below_set ?_ GE118.out) | exact HB.out)) hb)
     clear BK118
     clear HB
     have BK118 := n0_
     have HB := n1_
     clear n0_ n1_
     (try clear hb)
     (try clear hb2)
     (try clear hk)
     (try clear hi)
     refine hK.out _ _ ⟨(blk_cell BK118.out 0).trans rfl, (blk_cell BK118.out 1).trans rfl, (blk_cell BK118.out 2).trans rfl, (blk_cell BK118.out 3).trans rfl, (blk_cell BK118.out 4).trans rfl⟩ (fun hHeld => ?_)
     clear hK K
     refine norm_ (a' := ?_) ?_ ?_
     rotate_left
     ·show Act.put _ (some 14) _ = _
      simp only [Act.put, List.setIfInBounds_toArray, List.set_cons_zero, List.set_cons_succ, i64_w, i32_w]
      rfl
     refine pure_ (i := 12) (N := some 15) (v := ?_) (a' := ?_) #[true, true, true, true, true, true, true, true, true, true, true, true, true, false, false] rfl rfl (any_of HT_.out (by kernel_rfl)) (fun _ _ _ h => h) (Or.inl ⟨by rfl, ?_⟩) ?_ ?_
     rotate_left
     ·intro w'
      go_simp
      with_reducible rfl
     rotate_left
     ·simp only [Act.put, List.setIfInBounds_toArray, List.set_cons_zero, List.set_cons_succ, i64_w, i32_w]
      rfl
     refine pure_ (i := 13) (N := some 16) (v := ?_) (a' := ?_) #[true, true, true, true, true, true, true, true, true, true, true, true, true, true, false] rfl rfl (any_of HT_.out (by kernel_rfl)) (fun _ _ _ h => h) (Or.inl ⟨by rfl, ?_⟩) ?_ ?_
     rotate_left
     ·intro w'
      go_simp
      with_reducible rfl
     rotate_left
     ·simp only [Act.put, List.setIfInBounds_toArray, List.set_cons_zero, List.set_cons_succ, i64_w, i32_w]
      rfl
     refine pure_ (i := 14) (N := some 2) (v := ?_) (a' := ?_) #[true, true, true, true, true, true, true, true, true, true, true, true, true, true, true] rfl rfl (any_of HT_.out (by kernel_rfl)) (fun _ _ _ h => h) (Or.inl ⟨by rfl, ?_⟩) ?_ ?_
     rotate_left
     ·intro w'
      go_simp
      with_reducible rfl
     rotate_left
     ·simp only [Act.put, List.setIfInBounds_toArray, List.set_cons_zero, List.set_cons_succ, i64_w, i32_w]
      rfl
     refine done_ (done_of HT_.out (by kernel_rfl)) ?_
     try go_wp2
     go_ret
     exact ⟨by first | rfl | (simp [errW_none, errW_some] <;> rfl) | (simp [*, errW_none, errW_some] <;> rfl), by repeat (first | (with_reducible first | exact HB.out | apply below_alloc | apply pw_below_drewN | apply below_drew1 | refine below_set ?_ GE118.out) | exact HB.out)⟩
    ·rw [if_neg c7] at H
     exact absurd H (by simp)
   ·rw [if_neg c6] at H
    exact absurd H (by simp)
  ·rw [if_neg c4] at H
   exact absurd H (by simp)
 ·rw [if_neg c3] at H
  exact absurd H (by simp)

/-! ### show_Name: function 25 -/
def show_Name.f (a0 : ByteArray) : Option (Bool) := if a0.size ≤ 9223372036854775807 then some (Plain.clean a0 && (decide (0 < a0.size) && decide (a0.size ≤ 64))) else none
set_option maxHeartbeats 4000000 in
set_option maxRecDepth 1000000 in
theorem show_Name.calls (a0 : ByteArray) (r : Bool) (w : World) (h : show_Name.f a0 = some r) : Calls Tryd.prog 25 #[.string a0] w fun e w' => e = .returned (.bool r) ∧ Below w.heap.size w w' := by
 unfold show_Name.f at h
 split at h
 ·rename_i hs
  have H := Aside0.mk (Option.some.inj h)
  clear h
  go_enter Tryd.func25, Tryd.ntmps25
  go_wp2
  go_loopw [] (fun wr => ∃ (pos : Nat), wr.heap[w.heap.size]? = some (.stringIter a0 pos) ∧ Below w.heap.size w wr ∧ pos ≤ a0.size ∧ Aside0 (∀ j, j < pos → Plain.byt a0 j ≠ 10 ∧ Plain.byt a0 j ≠ 13)) (fun wr => a0.size - wr.iterPos w.heap.size)
  case atStart =>
   exact ⟨0, World.iter_heap w a0 0, (Below.refl _ w).alloc (Nat.le_refl _) _, by omega, ⟨fun j hj => by omega⟩⟩
  case round =>
   obtain ⟨pos, hit, hbw, hle, hcl⟩ := hrel
   have hwlt : w.heap.size < wr.heap.size := (Array.getElem?_eq_some_iff.1 hit).1
   by_cases hp : pos < a0.size
   ·have hnx : ∀ ty, (Instr.next (.pointer (some ⟨w.heap.size, 0, none⟩)) true ty).run Tryd.prog wr = _ := fun ty => Lib.run_next_any_at wr w.heap.size a0 pos ty hit hp
    obtain ⟨hlo, hhi, hw1, hw2⟩ := Plain.decode_covers a0 pos hp
    have hlo := Aside0.mk hlo
    have hbw2 := Lib.below_iterAt hbw (k := w.heap.size) (Nat.le_refl _) a0 (pos + (Utf8.decode a0 pos).2)
    have hit2 := Lib.iterAt_heap wr w.heap.size a0 pos (pos + (Utf8.decode a0 pos).2) hit
    have hret : ∀ n : Nat, (n = 10 ∨ n = 13) → (Utf8.decode a0 pos).1 = n → r = false := by
     intro n hn e
     obtain ⟨_, hb⟩ := hlo.out (by omega)
     rw [← H.out, Plain.clean_not a0 pos hp (by omega)]
     rfl
    have hret := Aside0.mk hret
    go_wp2
    ·have e : ((Utf8.decode a0 pos).1 : Int) = 10 := by assumption
     go_ret
     exact ⟨by rw [hret.out 10 (.inl rfl) (by omega)]; rfl, hbw2⟩
    ·have e : (((Utf8.decode a0 pos).1 : Int) == 10) = true ∨ (((Utf8.decode a0 pos).1 : Int) == 13) = true := by assumption
     simp only [beq_iff_eq] at e
     go_ret
     exact ⟨by rw [hret.out (Utf8.decode a0 pos).1 (by omega) rfl]; rfl, hbw2⟩
    ·have e : (((Utf8.decode a0 pos).1 : Int) == 10) = false ∧ (((Utf8.decode a0 pos).1 : Int) == 13) = false := by assumption
     simp only [beq_eq_false_iff_ne] at e
     go_roundw
     case rel =>
      refine ⟨pos + (Utf8.decode a0 pos).2, hit2, hbw2, hw2, ⟨fun j hj => ?_⟩⟩
      rcases Nat.lt_or_ge j pos with h1 | h1
      ·exact hcl.out j h1
      ·rcases Nat.lt_or_ge (Utf8.decode a0 pos).1 128 with h2 | h2
       ·obtain ⟨h3, h4⟩ := hlo.out h2
        have : j = pos := by omega
        subst this
        omega
       ·have := hhi h2 j h1 hj
        omega
     case measure =>
      simp only [World.iterPos, hit2, hit]
      omega
   ·have hnx : ∀ ty, (Instr.next (.pointer (some ⟨w.heap.size, 0, none⟩)) true ty).run Tryd.prog wr = _ := fun ty => Lib.run_next_end_at wr w.heap.size a0 pos ty hit hp
    have hok : Plain.clean a0 = true := Plain.clean_of a0 fun j hj => hcl.out j (by omega)
    have hok := Aside0.mk hok
    go_wp2
    ·have e : 0 < a0.size := by assumption
     go_ret
     refine ⟨?_, hbw⟩
     rw [← H.out, hok.out]
     simp [e]
     omega
    ·have e : ¬ 0 < a0.size := by assumption
     go_ret
     refine ⟨?_, hbw⟩
     rw [← H.out, hok.out]
     simp [e]
 ·simp at h

-- IMPORT Derived.Test.YthkcghiagnddiaaDoorBase
/-! ### show_Print: function 12 -/
/-- A line of a diff. -/
def show_Print.line (x : S42) : List UInt8 := UInt8.ofNat x.f0.toNat :: (x.f1.data.toList ++ 10 :: (if x.f2 = true then [92, 32, 78, 111, 32, 110, 101, 119, 108, 105, 110, 101, 32, 97, 116, 32, 101, 110, 100, 32, 111, 102, 32, 102, 105, 108, 101, 10] else []))
def show_Print.lines : List S42 → List UInt8 → Option (List UInt8)
 | [], acc => some acc
 | x :: t, acc => if (acc ++ show_Print.line x).length ≤ 140737488355328 then show_Print.lines t (acc ++ show_Print.line x) else none
def show_Print.hunks (k : Nat) : List S26 → List UInt8 → Option (ByteArray × Int)
 | [], acc => some (⟨acc.toArray⟩, 0)
 | h :: t, acc => (show_Check.f k h.f0 h.f1 h.f2 h.f3 h.f4).bind fun e => if e = 0 then (show_Head.f h.f0 h.f1 h.f2 h.f3 h.f4).bind fun hd => if (acc ++ hd.data.toList).length ≤ 140737488355328 then (show_Print.lines h.f4 (acc ++ hd.data.toList)).bind fun acc' => show_Print.hunks k t acc' else none else some (⟨#[]⟩, e)
def show_Print.first (a0 : ByteArray) : List UInt8 := [45, 45, 45, 32, 97, 47] ++ a0.data.toList ++ [10, 43, 43, 43, 32, 98, 47] ++ a0.data.toList ++ [10]
def show_Print.f (k : Nat) (a0 : ByteArray) (l1 : List S26) : Option (ByteArray × Int) :=
 (show_Name.f a0).bind fun ok => if ok = true then (if l1.length = 0 then some (⟨#[]⟩, 0) else if a0.size ≤ 1000000 then show_Print.hunks k l1 (show_Print.first a0) else none) else some (⟨#[]⟩, 10)
theorem drop_rd26 (l : List S26) (i : Int) (h0 : 0 ≤ i) (h1 : i < (l.length : Int)) : l.drop i.toNat = rd_T26 l i :: l.drop (i + 1).toNat := by
 have hn : i.toNat < l.length := by omega
 rw [show (i + 1).toNat = i.toNat + 1 by omega, List.drop_eq_getElem_cons hn]
 congr 1
 unfold rd_T26
 rw [List.getD_eq_getElem?_getD, List.getElem?_eq_getElem hn]
 rfl
theorem drop_rd42 (l : List S42) (i : Int) (h0 : 0 ≤ i) (h1 : i < (l.length : Int)) : l.drop i.toNat = rd_T42 l i :: l.drop (i + 1).toNat := by
 have hn : i.toNat < l.length := by omega
 rw [show (i + 1).toNat = i.toNat + 1 by omega, List.drop_eq_getElem_cons hn]
 congr 1
 unfold rd_T42
 rw [List.getD_eq_getElem?_getD, List.getElem?_eq_getElem hn]
 rfl
theorem show_Print.hunks_mono : ∀ (l : List S26) (acc : List UInt8) k, LeO (show_Print.hunks k l acc) (show_Print.hunks (k + 1) l acc)
 | [], acc, k => LeO.refl _
 | h :: t, acc, k => by
  simp only [show_Print.hunks]
  refine LeO.bind (show_Check.mono _ _ _ _ _ k) fun e => LeO.ite ?_ (LeO.refl _)
  exact LeO.bind (LeO.refl _) fun hd => LeO.ite (LeO.bind (LeO.refl _) fun a => show_Print.hunks_mono t a k) (LeO.refl _)
theorem show_Print.mono : ∀ a0 l1 k, LeO (show_Print.f k a0 l1) (show_Print.f (k + 1) a0 l1) := by
 intro a0 l1 k
 unfold show_Print.f
 exact LeO.bind (LeO.refl _) fun ok => LeO.ite (LeO.ite (LeO.refl _) (LeO.ite (show_Print.hunks_mono _ _ _) (LeO.refl _))) (LeO.refl _)
set_option maxHeartbeats 4000000 in
set_option maxRecDepth 1000000 in
theorem show_Print.calls (k : Nat) (a0 : ByteArray) (A1 : Option Addr) (c1 : Nat) (l1 : List S26) (r1 : ByteArray) (r2 : Int) (w : World) (hr1 : Kd.C k26 w A1 l1.length l1) (hc1 : l1.length ≤ c1) (hG_GPow : GPow w) (h : show_Print.f k a0 l1 = some (r1, r2)) :
  Calls Tryd.prog 12 #[.string a0, .slice A1 l1.length c1] w fun e w' => e = .returned (.tuple #[.string r1, .int .i64 r2]) ∧ Below w.heap.size w w' := by
 unfold show_Print.f at h
 obtain ⟨ok, hok, h0⟩ := Option.bind_eq_some_iff.1 h
 clear h
 have HN := Aside0.mk hok
 have H := Aside0.mk h0
 have HR := Aside0.mk hr1
 have HG := Aside0.mk hG_GPow
 have hll : l1.length ≤ 9223372036854775807 := hr1.2.1
 clear hok h0 hr1 hG_GPow
 cases ok with
 | false =>
  have H := Aside0.mk (Option.some.inj ((if_neg Bool.false_ne_true).symm.trans H.out))
  have h1 := congrArg Prod.fst H.out
  have h2 := congrArg Prod.snd H.out
  simp only at h1 h2
  subst h1 h2
  clear H
  go_enter Tryd.func12, Tryd.ntmps12
  go_wp2_with (go_at_call 25; refine (show_Name.calls a0 false _ HN.out).mono ?_; rintro e w1 ⟨rfl, hb1⟩)
  go_ret2
  exact ⟨rfl, hb1⟩
 | true =>
  have H1 := Aside0.mk ((if_pos rfl).symm.trans H.out)
  clear H
  by_cases hz : l1.length = 0
  ·have H := Aside0.mk (Option.some.inj ((if_pos hz).symm.trans H1.out))
   clear H1
   have h1 := congrArg Prod.fst H.out
   have h2 := congrArg Prod.snd H.out
   simp only at h1 h2
   subst h1 h2
   clear H
   have hz' : ((l1.length : Int) == 0) = true := beq_iff_eq.2 (by omega)
   clear hz
   go_enter Tryd.func12, Tryd.ntmps12
   go_wp2_with (go_at_call 25; refine (show_Name.calls a0 true _ HN.out).mono ?_; rintro e w1 ⟨rfl, hb1⟩)
   go_ret2
   exact ⟨rfl, hb1⟩
  ·have H2 := Aside0.mk ((if_neg hz).symm.trans H1.out)
   clear H1
   by_cases hsz : a0.size ≤ 1000000
   ·have H := Aside0.mk ((if_pos hsz).symm.trans H2.out)
    clear H2
    have hz' : ((l1.length : Int) == 0) = false := beq_eq_false_iff_ne.2 (by omega)
    clear hz
    have s1 : (9223372036854775807 < 6 + a0.size) = False := eq_false (by omega)
    have s2 : (9223372036854775807 < 6 + a0.size + 7) = False := eq_false (by omega)
    have s3 : (9223372036854775807 < 6 + a0.size + 7 + a0.size) = False := eq_false (by omega)
    have s4 : (9223372036854775807 < 6 + a0.size + 7 + a0.size + 1) = False := eq_false (by omega)
    go_enter Tryd.func12, Tryd.ntmps12
    go_wp2_with (go_at_call 25; refine (show_Name.calls a0 true _ HN.out).mono ?_; rintro e w1 ⟨rfl, hb1⟩)
    refine (writeString w1.heap.size w1.heap.size [] _ _ (Lib.IsBuilderF.of (Lib.fresh_isBuilder BT 5 w1)) ?c1 ?c2).mono ?_
    case c1 =>
     simp only [List.length_nil, ByteArray.size_append']
     have e1 : (⟨#[45, 45, 45, 32, 97, 47]⟩ : ByteArray).size = 6 := rfl
     have e2 : (⟨#[10, 43, 43, 43, 32, 98, 47]⟩ : ByteArray).size = 7 := rfl
     have e3 : (⟨#[10]⟩ : ByteArray).size = 1 := rfl
     omega
    case c2 => simp
    rintro e w2 ⟨rfl, hI2, hb2, hk2⟩
    have hfirst : (⟨#[45, 45, 45, 32, 97, 47]⟩ ++ a0 ++ ⟨#[10, 43, 43, 43, 32, 98, 47]⟩ ++ a0 ++ ⟨#[10]⟩ : ByteArray).data.toList = show_Print.first a0 := by
     simp only [cat_list]
     rfl
    rw [Lib.strCells_eq, hfirst, List.nil_append] at hI2
    have hw1 : w.heap.size ≤ w1.heap.size := hb1.size
    have hbw2 : Below w.heap.size w w2 := (hb1.alloc hw1 _).trans (hb2.mono hw1)
    clear hb2 hk2 hfirst s1 s2 s3 s4
    generalize hb : w1.heap.size = b at *
    have hwb : w.heap.size ≤ b := hw1
    clear hb hb1
    have HI := Aside0.mk hI2
    clear hI2
    go_wp2_with fail
    go_loopw [27] (fun v wr => ∃ (i : Int) (acc : List UInt8), v = .int .i64 i ∧ 0 ≤ i ∧ i ≤ l1.length ∧ Aside0 (Lib.IsBuilderF BT 5 b b (Lib.byteCells acc) wr) ∧ Aside0 (Below w.heap.size w wr) ∧ Aside0 (show_Print.hunks k (l1.drop i.toNat) acc = some (r1, r2))) (fun v _ => l1.length - (intOf v).toNat)
    case atStart => exact ⟨0, show_Print.first a0, rfl, by omega, by omega, HI, ⟨hbw2⟩, H⟩
    case round =>
     obtain ⟨i, acc, rfl, hi0, hi1, HI, HB, H⟩ := hrel
     obtain ⟨wo, rfl⟩ : ∃ wo : World, wo = wr := ⟨_, rfl⟩
     by_cases hlt : i < (l1.length : Int)
     ·obtain ⟨ad, A4, c4, e, hx0, hx1, hx2, hx3, hx4, hl4, hC⟩ := at_T26 HR.out i hi0 hlt
      cases e
      have hw' := HB.out.size
      replace hx0 := (HB.out.cell (World.block_lt_of_cell? w _ hx0)).trans hx0
      replace hx1 := (HB.out.cell (World.block_lt_of_cell? w _ hx1)).trans hx1
      replace hx2 := (HB.out.cell (World.block_lt_of_cell? w _ hx2)).trans hx2
      replace hx3 := (HB.out.cell (World.block_lt_of_cell? w _ hx3)).trans hx3
      replace hx4 := (HB.out.cell (World.block_lt_of_cell? w _ hx4)).trans hx4
      have hd : l1.drop i.toNat = rd_T26 l1 i :: l1.drop (i + 1).toNat := drop_rd26 l1 i hi0 hlt
      have H' := H.out
      rw [hd] at H'
      clear hd H
      generalize rd_T26 l1 i = h at *
      simp only [show_Print.hunks] at H'
      obtain ⟨e, he, H'⟩ := Option.bind_eq_some_iff.1 H'
      have HE := Aside0.mk he
      have H := Aside0.mk H'
      have HC := Aside0.mk hC
      have hl4b := hC.2.1
      clear he H' hC
      have hbl := builder_lt HI.out
      by_cases he0 : e = 0
      ·subst he0
       have H1 := Aside0.mk ((if_pos rfl).symm.trans H.out)
       clear H
       obtain ⟨hd, hhd, H2⟩ := Option.bind_eq_some_iff.1 H1.out
       have HH := Aside0.mk hhd
       clear H1 hhd
       by_cases hln : (acc ++ hd.data.toList).length ≤ 140737488355328
       ·rw [if_pos hln] at H2
        obtain ⟨accF, hF, H3⟩ := Option.bind_eq_some_iff.1 H2
        have HF := Aside0.mk hF
        have H := Aside0.mk H3
        clear H2 hF H3
        go_wp2_with fail
        refine (show_Check.calls k _ _ _ _ A4 c4 h.f4 0 _ (Kd.C_below HC.out (below_alloc HB.out _)) hl4 HE.out).mono ?_
        rintro e w3 ⟨rfl, hb3⟩
        have hbk3 : w3.heap[wo.heap.size]? = some (.cells #[.int .i64 h.f0, .int .i64 h.f1, .int .i64 h.f2, .int .i64 h.f3, .slice A4 h.f4.length c4] 26 (0, 0)) := (hb3.block _ (by simp)).trans (blk_new wo _)
        have hB3 : Below w.heap.size w w3 := (below_alloc HB.out _).trans (hb3.mono (by simp; omega))
        have hI3 := builder_below (HI.out.alloc _) hb3
        have hsz3 : wo.heap.size < w3.heap.size := (Array.getElem?_eq_some_iff.1 hbk3).1
        have BK3 := Aside0.mk hbk3
        have HB3 := Aside0.mk hB3
        have HI3 := Aside0.mk hI3
        clear hbk3 hB3 hI3 hb3 HI HB
        have hc0 := blk_cell BK3.out 0
        have hc1_ := blk_cell BK3.out 1
        have hc2 := blk_cell BK3.out 2
        have hc3 := blk_cell BK3.out 3
        have hc4 := blk_cell BK3.out 4
        simp only [List.getElem?_toArray] at hc0 hc1_ hc2 hc3 hc4
        go_wp2_with fail
        refine (show_Head.calls _ _ _ _ A4 c4 h.f4 hd _ (Kd.C_below HC.out HB3.out) hl4 (HG.out.below HB3.out) HH.out).mono ?_
        rintro e w4 ⟨rfl, hb4⟩
        have hbk4 := (hb4.block _ hsz3).trans BK3.out
        have hB4 : Below w.heap.size w w4 := HB3.out.trans (hb4.mono HB3.out.size)
        have hI4 := builder_below HI3.out hb4
        clear hc0 hc1_ hc2 hc3 hc4 BK3 HB3 HI3 hb4 hsz3
        go_wp2_with fail
        refine (writeString b b _ hd _ hI4 ?c1 ?c2).mono ?_
        case c1 =>
         rw [Lib.byteCells_length]
         rw [List.length_append, Plain.list_size] at hln
         exact hln
        case c2 => exact Nat.le_of_lt (builder_lt hI4)
        rintro e w5 ⟨rfl, hI5, hb5, hk5⟩
        have hbk5 := hk5 _ _ hbk4 (by simp; omega) (by intro c fz; simp)
        have hc4 := blk_cell hbk5 4
        simp only [List.getElem?_toArray] at hc4
        rw [Lib.strCells_eq, ← Lib.byteCells_append] at hI5
        have HI := Aside0.mk hI5
        have HB := Aside0.mk (hB4.trans (hb5.mono hwb))
        clear hbk4 hB4 hI4 hI5 hb5 hk5 hbk5
        go_wp2_with fail
        go_loopw [42] (fun v wr => ∃ (j : Int) (ac : List UInt8), v = .int .i64 j ∧ 0 ≤ j ∧ j ≤ h.f4.length ∧ Aside0 (Lib.IsBuilderF BT 5 b b (Lib.byteCells ac) wr) ∧ Aside0 (Below w.heap.size w wr) ∧ Aside0 (show_Print.lines (h.f4.drop j.toNat) ac = some accF)) (fun v _ => h.f4.length - (intOf v).toNat)
        case atStart => exact ⟨0, _, rfl, by omega, by omega, HI, HB, HF⟩
        case round =>
         clear HI HB HF hc4
         obtain ⟨j, ac, rfl, hj0, hj1, HI, HB, HF⟩ := hrel
         obtain ⟨wq, rfl⟩ : ∃ wq : World, wq = wr := ⟨_, rfl⟩
         by_cases hjl : j < (h.f4.length : Int)
         ·obtain ⟨ad4, e, hy0, hy1, hy2⟩ := at_T42 HC.out j hj0 hjl
          cases e
          have hw5 := HB.out.size
          replace hy0 := (HB.out.cell (World.block_lt_of_cell? w _ hy0)).trans hy0
          replace hy1 := (HB.out.cell (World.block_lt_of_cell? w _ hy1)).trans hy1
          replace hy2 := (HB.out.cell (World.block_lt_of_cell? w _ hy2)).trans hy2
          have hd4 : h.f4.drop j.toNat = rd_T42 h.f4 j :: h.f4.drop (j + 1).toNat := drop_rd42 h.f4 j hj0 hjl
          have HF' := HF.out
          rw [hd4] at HF'
          clear hd4 HF
          generalize rd_T42 h.f4 j = x at *
          simp only [show_Print.lines] at HF'
          by_cases hlx : (ac ++ show_Print.line x).length ≤ 140737488355328
          ·rw [if_pos hlx] at HF'
           have HF := Aside0.mk HF'
           clear HF'
           have hbl2 := builder_lt HI.out
           have hcv := fun bb => conv1 (wq.alloc (.cells #[.int .u8 x.f0, .string x.f1, .bool bb] 42 (0, 0))) x.f0
           simp only [World.size_alloc] at hcv
           have hsn : (strOfNums [x.f0]).size = 1 := rfl
           have hlx1 : ac.length + (1 + x.f1.size + 1) ≤ 140737488355328 := by
            simp only [show_Print.line, List.length_append, List.length_cons, Plain.list_size] at hlx
            omega
           have s5 : (9223372036854775807 < (strOfNums [x.f0]).size + x.f1.size) = False := eq_false (by omega)
           have s6 : (9223372036854775807 < (strOfNums [x.f0]).size + x.f1.size + 1) = False := eq_false (by omega)
           have hl1 : (strOfNums [x.f0] ++ x.f1 ++ ⟨#[10]⟩ : ByteArray).data.toList = UInt8.ofNat x.f0.toNat :: (x.f1.data.toList ++ [10]) := by
            simp only [cat_list]
            rfl
           have hl1s : (strOfNums [x.f0] ++ x.f1 ++ ⟨#[10]⟩ : ByteArray).size = 1 + x.f1.size + 1 := by
            simp only [ByteArray.size_append', hsn]
            rfl
           have hl1 := Aside0.mk hl1
           have hl1s := Aside0.mk hl1s
           clear hsn
           cases hx2 : x.f2 with
           | false =>
            rw [hx2] at hy2
            have hcv := hcv false
            have hlin : show_Print.line x = UInt8.ofNat x.f0.toNat :: (x.f1.data.toList ++ [10]) := by
             unfold show_Print.line
             rw [hx2]
             rfl
            have hlin := Aside0.mk hlin
            clear hx2
            go_wp2_with fail
            refine (writeString b b _ _ _ ((HI.out.alloc _).alloc _) ?c1 ?c2).mono ?_
            case c1 =>
             rw [Lib.byteCells_length, hl1s.out]
             exact hlx1
            case c2 => simp; omega
            rintro e w6 ⟨rfl, hI6, hb6, hk6⟩
            rw [Lib.strCells_eq, hl1.out, ← hlin.out, ← Lib.byteCells_append] at hI6
            have hbk6 : w6.heap[wq.heap.size]? = some (.cells #[.int .u8 x.f0, .string x.f1, .bool false] 42 (0, 0)) := hk6 _ _ ((Below.heap_alloc _ _ _ (by simp)).trans (blk_new wq _)) (by simp; omega) (by intro c fz; simp)
            have hz2 := blk_cell hbk6 2
            simp only [List.getElem?_toArray] at hz2
            have HB6 := Aside0.mk ((below_alloc (below_alloc HB.out _) _).trans (hb6.mono hwb))
            clear HB HI hb6 hk6 hbk6
            go_wp2_with fail
            go_roundw
            case rel => exact ⟨j + 1, _, rfl, by omega, by omega, ⟨hI6⟩, HB6, HF⟩
            case measure => simp [intOf]; omega
           | true =>
            rw [hx2] at hy2
            have hcv := hcv true
            have hlin : show_Print.line x = UInt8.ofNat x.f0.toNat :: (x.f1.data.toList ++ [10]) ++ [92, 32, 78, 111, 32, 110, 101, 119, 108, 105, 110, 101, 32, 97, 116, 32, 101, 110, 100, 32, 111, 102, 32, 102, 105, 108, 101, 10] := by
             unfold show_Print.line
             rw [hx2]
             simp
            have hlx2 : ac.length + (1 + x.f1.size + 1) + 28 ≤ 140737488355328 := by
             rw [hlin] at hlx
             simp only [List.length_append, List.length_cons, Plain.list_size, List.length_nil] at hlx
             omega
            have hlin := Aside0.mk hlin
            clear hx2
            go_wp2_with fail
            refine (writeString b b _ _ _ ((HI.out.alloc _).alloc _) ?c1 ?c2).mono ?_
            case c1 =>
             rw [Lib.byteCells_length, hl1s.out]
             exact hlx1
            case c2 => simp; omega
            rintro e w6 ⟨rfl, hI6, hb6, hk6⟩
            rw [Lib.strCells_eq, hl1.out, ← Lib.byteCells_append] at hI6
            have hbk6 : w6.heap[wq.heap.size]? = some (.cells #[.int .u8 x.f0, .string x.f1, .bool true] 42 (0, 0)) := hk6 _ _ ((Below.heap_alloc _ _ _ (by simp)).trans (blk_new wq _)) (by simp; omega) (by intro c fz; simp)
            have hz2 := blk_cell hbk6 2
            simp only [List.getElem?_toArray] at hz2
            have HB6 := Aside0.mk ((below_alloc (below_alloc HB.out _) _).trans (hb6.mono hwb))
            have HI6 := Aside0.mk hI6
            clear HB HI hb6 hk6 hbk6 hI6
            go_wp2_with fail
            refine (writeString b b _ _ _ HI6.out ?c1 ?c2).mono ?_
            case c1 =>
             rw [Lib.byteCells_length]
             simp only [List.length_append, List.length_cons, Plain.list_size, List.length_nil]
             show _ + 28 ≤ _
             omega
            case c2 => exact Nat.le_of_lt (builder_lt HI6.out)
            rintro e w7 ⟨rfl, hI7, hb7, hk7⟩
            rw [Lib.strCells_eq, ← Lib.byteCells_append] at hI7
            have hac7 : ac ++ UInt8.ofNat x.f0.toNat :: (x.f1.data.toList ++ [10]) ++ (⟨#[92, 32, 78, 111, 32, 110, 101, 119, 108, 105, 110, 101, 32, 97, 116, 32, 101, 110, 100, 32, 111, 102, 32, 102, 105, 108, 101, 10]⟩ : ByteArray).data.toList = ac ++ show_Print.line x := by
             rw [hlin.out, List.append_assoc]
            rw [hac7] at hI7
            have HB7 := Aside0.mk (HB6.out.trans (hb7.mono hwb))
            have HI7 := Aside0.mk hI7
            clear HB6 HI6 hb7 hk7 hI7 hac7
            go_wp2_with fail
            go_roundw
            case rel => exact ⟨j + 1, _, rfl, by omega, by omega, HI7, HB7, HF⟩
            case measure => simp [intOf]; omega
          ·rw [if_neg hlx] at HF'
           cases HF'
         ·have hje : h.f4.drop j.toNat = [] := List.drop_of_length_le (by omega)
          have hac : ac = accF := by
           have := HF.out
           rw [hje] at this
           exact Option.some.inj this
          subst hac
          clear hje HF
          go_wp2_with fail
          go_roundw
          case rel => exact ⟨i + 1, ac, rfl, by omega, by omega, HI, HB, H⟩
          case measure => simp [intOf]; omega
       ·rw [if_neg hln] at H2
        cases H2
      ·have H1 := Option.some.inj ((if_neg he0).symm.trans H.out)
       have h1 := congrArg Prod.fst H1
       have h2 := congrArg Prod.snd H1
       simp only at h1 h2
       subst h1 h2
       have hen : (e == 0) = false := beq_eq_false_iff_ne.2 he0
       have hen' : (e != 0) = true := bne_iff_ne.2 he0
       clear H H1 he0
       go_wp2_with fail
       refine (show_Check.calls k _ _ _ _ A4 c4 h.f4 e _ (Kd.C_below HC.out (below_alloc HB.out _)) hl4 HE.out).mono ?_
       rintro e' w3 ⟨rfl, hb3⟩
       have hB3 : Below w.heap.size w w3 := (below_alloc HB.out _).trans (hb3.mono (by simp; omega))
       go_wp2_with fail
       go_ret2
       exact ⟨rfl, hB3⟩
     ·have hie : l1.drop i.toNat = [] := List.drop_of_length_le (by omega)
      have H1 := H.out
      rw [hie] at H1
      have H1 := Option.some.inj H1
      have h1 := congrArg Prod.fst H1
      have h2 := congrArg Prod.snd H1
      simp only at h1 h2
      subst h1 h2
      clear H1 H hie
      have hbs := builder_lt HI.out
      go_wp2_with fail
      refine (builderString b b acc _ HI.out (Nat.le_of_lt hbs)).mono ?_
      rintro e w8 ⟨rfl, hI8, hb8, hk8⟩
      go_wp2_with fail
      go_ret2
      exact ⟨rfl, HB.out.trans (hb8.mono hwb)⟩
   ·exact absurd ((if_neg hsz).symm.trans H2.out) (by simp)

end Go.Proofs.YthkcghiagnddiaaDoor.X
