-- Printed by px.sh (a patched copy of the kit's print): the walks of Go functions, out of the translation.
import Derived.Test.YthkcghiagnddiaaDoorX0
import Derived.Test.YthkcghiagnddiaaDoorX2
import Derived.Test.YthkcghiagnddiaaDoorX3
import Derived.Test.YthkcghiagnddiaaDoorX8
import Derived.Test.YthkcghiagnddiaaDoorBase2
namespace Go.Proofs.YthkcghiagnddiaaDoor.X
open Go.RowKit Go.Proofs.YthkcghiagnddiaaDoorW.PrintWords Go.Proofs.YthkcghiagnddiaaDoorW.PrintLast Go.Proofs.YthkcghiagnddiaaDoorW.PrintMore
attribute [local go_sem] max2_int min2_int max_two min_two max_three min_three max_four min_four   -- for this text's walks alone
set_option linter.unusedVariables false
set_option linter.unusedSimpArgs false

-- IMPORT Derived.Test.YthkcghiagnddiaaDoorBase2
/-! ### show_Print: function 12 -/
/-- A line of a diff. -/
def show_Print.line (x : S42) : List UInt8 := UInt8.ofNat x.f0.toNat :: (x.f1.data.toList ++ 10 :: (if x.f2 = true then [92, 32, 78, 111, 32, 110, 101, 119, 108, 105, 110, 101, 32, 97, 116, 32, 101, 110, 100, 32, 111, 102, 32, 102, 105, 108, 101, 10] else []))
def show_Print.lines : List S42 → List UInt8 → Option (List UInt8)
 | [], acc => some acc
 | x :: t, acc => if (acc ++ show_Print.line x).length ≤ 140737488355328 then show_Print.lines t (acc ++ show_Print.line x) else none
def show_Print.hunks (k : Nat) : List S26 → List UInt8 → Option (ByteArray × Int)
 | [], acc => some (⟨acc.toArray⟩, 0)
 | h :: t, acc => (show_Check.f k h.f0 h.f1 h.f2 h.f3 h.f4).bind fun e => if e = 0 then (show_Head.f h.f0 h.f1 h.f2 h.f3 h.f4).bind fun hd => if (acc ++ hd.data.toList).length ≤ 140737488355328 then (show_Print.lines h.f4 (acc ++ hd.data.toList)).bind fun acc' => show_Print.hunks k t acc' else none else some (⟨#[]⟩, e)
def show_Print.first (a0 : ByteArray) : List UInt8 := [45, 45, 45, 32, 97, 47] ++ a0.data.toList ++ [10, 43, 43, 43, 32, 98, 47] ++ a0.data.toList ++ [10]
def show_Print.f (k : Nat) (a0 : ByteArray) (l1 : List S26) : Option (ByteArray × Int) :=
 (show_Name.f a0).bind fun ok => if ok = true then (if l1.length = 0 then some (⟨#[]⟩, 0) else if a0.size ≤ 1000000 then show_Print.hunks k l1 (show_Print.first a0) else none) else some (⟨#[]⟩, 10)
theorem drop_rd26 (l : List S26) (i : Int) (h0 : 0 ≤ i) (h1 : i < (l.length : Int)) : l.drop i.toNat = rd_T26 l i :: l.drop (i + 1).toNat := by
 have hn : i.toNat < l.length := by omega
 rw [show (i + 1).toNat = i.toNat + 1 by omega, List.drop_eq_getElem_cons hn]
 congr 1
 unfold rd_T26
 rw [List.getD_eq_getElem?_getD, List.getElem?_eq_getElem hn]
 rfl
theorem drop_rd42 (l : List S42) (i : Int) (h0 : 0 ≤ i) (h1 : i < (l.length : Int)) : l.drop i.toNat = rd_T42 l i :: l.drop (i + 1).toNat := by
 have hn : i.toNat < l.length := by omega
 rw [show (i + 1).toNat = i.toNat + 1 by omega, List.drop_eq_getElem_cons hn]
 congr 1
 unfold rd_T42
 rw [List.getD_eq_getElem?_getD, List.getElem?_eq_getElem hn]
 rfl
theorem show_Print.hunks_mono : ∀ (l : List S26) (acc : List UInt8) k, LeO (show_Print.hunks k l acc) (show_Print.hunks (k + 1) l acc)
 | [], acc, k => LeO.refl _
 | h :: t, acc, k => by
  simp only [show_Print.hunks]
  refine LeO.bind (show_Check.mono _ _ _ _ _ k) fun e => LeO.ite ?_ (LeO.refl _)
  exact LeO.bind (LeO.refl _) fun hd => LeO.ite (LeO.bind (LeO.refl _) fun a => show_Print.hunks_mono t a k) (LeO.refl _)
theorem show_Print.mono : ∀ a0 l1 k, LeO (show_Print.f k a0 l1) (show_Print.f (k + 1) a0 l1) := by
 intro a0 l1 k
 unfold show_Print.f
 exact LeO.bind (LeO.refl _) fun ok => LeO.ite (LeO.ite (LeO.refl _) (LeO.ite (show_Print.hunks_mono _ _ _) (LeO.refl _))) (LeO.refl _)
set_option maxHeartbeats 4000000 in
set_option maxRecDepth 1000000 in
theorem show_Print.calls (k : Nat) (a0 : ByteArray) (A1 : Option Addr) (c1 : Nat) (l1 : List S26) (r1 : ByteArray) (r2 : Int) (w : World) (hr1 : Kd.C k26 w A1 l1.length l1) (hc1 : l1.length ≤ c1) (hG_GPow : GPow w) (h : show_Print.f k a0 l1 = some (r1, r2)) :
  Calls Tryd.prog 12 #[.string a0, .slice A1 l1.length c1] w fun e w' => e = .returned (.tuple #[.string r1, .int .i64 r2]) ∧ Below w.heap.size w w' := by
 unfold show_Print.f at h
 obtain ⟨ok, hok, h0⟩ := Option.bind_eq_some_iff.1 h
 clear h
 have HN := Aside0.mk hok
 have H := Aside0.mk h0
 have HR := Aside0.mk hr1
 have HG := Aside0.mk hG_GPow
 have hll : l1.length ≤ 9223372036854775807 := hr1.2.1
 clear hok h0 hr1 hG_GPow
 cases ok with
 | false =>
  have H := Aside0.mk (Option.some.inj ((if_neg Bool.false_ne_true).symm.trans H.out))
  have h1 := congrArg Prod.fst H.out
  have h2 := congrArg Prod.snd H.out
  simp only at h1 h2
  subst h1 h2
  clear H
  go_enter Tryd.func12, Tryd.ntmps12
  go_wp2_with (go_at_call 25; refine (show_Name.calls a0 false _ HN.out).mono ?_; rintro e w1 ⟨rfl, hb1⟩)
  go_ret2
  exact ⟨rfl, hb1⟩
 | true =>
  have H1 := Aside0.mk ((if_pos rfl).symm.trans H.out)
  clear H
  by_cases hz : l1.length = 0
  ·have H := Aside0.mk (Option.some.inj ((if_pos hz).symm.trans H1.out))
   clear H1
   have h1 := congrArg Prod.fst H.out
   have h2 := congrArg Prod.snd H.out
   simp only at h1 h2
   subst h1 h2
   clear H
   have hz' : ((l1.length : Int) == 0) = true := beq_iff_eq.2 (by omega)
   clear hz
   go_enter Tryd.func12, Tryd.ntmps12
   go_wp2_with (go_at_call 25; refine (show_Name.calls a0 true _ HN.out).mono ?_; rintro e w1 ⟨rfl, hb1⟩)
   go_ret2
   exact ⟨rfl, hb1⟩
  ·have H2 := Aside0.mk ((if_neg hz).symm.trans H1.out)
   clear H1
   by_cases hsz : a0.size ≤ 1000000
   ·have H := Aside0.mk ((if_pos hsz).symm.trans H2.out)
    clear H2
    have hz' : ((l1.length : Int) == 0) = false := beq_eq_false_iff_ne.2 (by omega)
    clear hz
    have s1 : (9223372036854775807 < 6 + a0.size) = False := eq_false (by omega)
    have s2 : (9223372036854775807 < 6 + a0.size + 7) = False := eq_false (by omega)
    have s3 : (9223372036854775807 < 6 + a0.size + 7 + a0.size) = False := eq_false (by omega)
    have s4 : (9223372036854775807 < 6 + a0.size + 7 + a0.size + 1) = False := eq_false (by omega)
    go_enter Tryd.func12, Tryd.ntmps12
    go_wp2_with (go_at_call 25; refine (show_Name.calls a0 true _ HN.out).mono ?_; rintro e w1 ⟨rfl, hb1⟩)
    refine (writeString w1.heap.size w1.heap.size [] _ _ (Lib.IsBuilderF.of (Lib.fresh_isBuilder BT 5 w1)) ?c1 ?c2).mono ?_
    case c1 =>
     simp only [List.length_nil, ByteArray.size_append']
     have e1 : (⟨#[45, 45, 45, 32, 97, 47]⟩ : ByteArray).size = 6 := rfl
     have e2 : (⟨#[10, 43, 43, 43, 32, 98, 47]⟩ : ByteArray).size = 7 := rfl
     have e3 : (⟨#[10]⟩ : ByteArray).size = 1 := rfl
     omega
    case c2 => simp
    rintro e w2 ⟨rfl, hI2, hb2, hk2⟩
    have hfirst : (⟨#[45, 45, 45, 32, 97, 47]⟩ ++ a0 ++ ⟨#[10, 43, 43, 43, 32, 98, 47]⟩ ++ a0 ++ ⟨#[10]⟩ : ByteArray).data.toList = show_Print.first a0 := by
     simp only [cat_list]
     rfl
    rw [Lib.strCells_eq, hfirst, List.nil_append] at hI2
    have hw1 : w.heap.size ≤ w1.heap.size := hb1.size
    have hbw2 : Below w.heap.size w w2 := (hb1.alloc hw1 _).trans (hb2.mono hw1)
    clear hb2 hk2 hfirst s1 s2 s3 s4
    generalize hb : w1.heap.size = b at *
    have hwb : w.heap.size ≤ b := hw1
    clear hb hb1
    have HI := Aside0.mk hI2
    clear hI2
    go_wp2_with fail
    go_loopw [27] (fun v wr => ∃ (i : Int) (acc : List UInt8), v = .int .i64 i ∧ 0 ≤ i ∧ i ≤ l1.length ∧ Aside0 (Lib.IsBuilderF BT 5 b b (Lib.byteCells acc) wr) ∧ Aside0 (Below w.heap.size w wr) ∧ Aside0 (show_Print.hunks k (l1.drop i.toNat) acc = some (r1, r2))) (fun v _ => l1.length - (intOf v).toNat)
    case atStart => exact ⟨0, show_Print.first a0, rfl, by omega, by omega, HI, ⟨hbw2⟩, H⟩
    case round =>
     obtain ⟨i, acc, rfl, hi0, hi1, HI, HB, H⟩ := hrel
     obtain ⟨wo, rfl⟩ : ∃ wo : World, wo = wr := ⟨_, rfl⟩
     by_cases hlt : i < (l1.length : Int)
     ·obtain ⟨ad, A4, c4, e, hx0, hx1, hx2, hx3, hx4, hl4, hC⟩ := at_T26 HR.out i hi0 hlt
      cases e
      have hw' := HB.out.size
      replace hx0 := (HB.out.cell (World.block_lt_of_cell? w _ hx0)).trans hx0
      replace hx1 := (HB.out.cell (World.block_lt_of_cell? w _ hx1)).trans hx1
      replace hx2 := (HB.out.cell (World.block_lt_of_cell? w _ hx2)).trans hx2
      replace hx3 := (HB.out.cell (World.block_lt_of_cell? w _ hx3)).trans hx3
      replace hx4 := (HB.out.cell (World.block_lt_of_cell? w _ hx4)).trans hx4
      have hd : l1.drop i.toNat = rd_T26 l1 i :: l1.drop (i + 1).toNat := drop_rd26 l1 i hi0 hlt
      have H' := H.out
      rw [hd] at H'
      clear hd H
      generalize rd_T26 l1 i = h at *
      simp only [show_Print.hunks] at H'
      obtain ⟨e, he, H'⟩ := Option.bind_eq_some_iff.1 H'
      have HE := Aside0.mk he
      have H := Aside0.mk H'
      have HC := Aside0.mk hC
      have hl4b := hC.2.1
      clear he H' hC
      have hbl := builder_lt HI.out
      by_cases he0 : e = 0
      ·subst he0
       have H1 := Aside0.mk ((if_pos rfl).symm.trans H.out)
       clear H
       obtain ⟨hd, hhd, H2⟩ := Option.bind_eq_some_iff.1 H1.out
       have HH := Aside0.mk hhd
       clear H1 hhd
       by_cases hln : (acc ++ hd.data.toList).length ≤ 140737488355328
       ·rw [if_pos hln] at H2
        obtain ⟨accF, hF, H3⟩ := Option.bind_eq_some_iff.1 H2
        have HF := Aside0.mk hF
        have H := Aside0.mk H3
        clear H2 hF H3
        go_wp2_with fail
        refine (show_Check.calls k _ _ _ _ A4 c4 h.f4 0 _ (Kd.C_below HC.out (below_alloc HB.out _)) hl4 HE.out).mono ?_
        rintro e w3 ⟨rfl, hb3⟩
        have hbk3 : w3.heap[wo.heap.size]? = some (.cells #[.int .i64 h.f0, .int .i64 h.f1, .int .i64 h.f2, .int .i64 h.f3, .slice A4 h.f4.length c4] 26 (0, 0)) := (hb3.block _ (by simp)).trans (blk_new wo _)
        have hB3 : Below w.heap.size w w3 := (below_alloc HB.out _).trans (hb3.mono (by simp; omega))
        have hI3 := builder_below (HI.out.alloc _) hb3
        have hsz3 : wo.heap.size < w3.heap.size := (Array.getElem?_eq_some_iff.1 hbk3).1
        have BK3 := Aside0.mk hbk3
        have HB3 := Aside0.mk hB3
        have HI3 := Aside0.mk hI3
        clear hbk3 hB3 hI3 hb3 HI HB
        have hc0 := blk_cell BK3.out 0
        have hc1_ := blk_cell BK3.out 1
        have hc2 := blk_cell BK3.out 2
        have hc3 := blk_cell BK3.out 3
        have hc4 := blk_cell BK3.out 4
        simp only [List.getElem?_toArray] at hc0 hc1_ hc2 hc3 hc4
        go_wp2_with fail
        refine (show_Head.calls _ _ _ _ A4 c4 h.f4 hd _ (Kd.C_below HC.out HB3.out) hl4 (HG.out.below HB3.out) HH.out).mono ?_
        rintro e w4 ⟨rfl, hb4⟩
        have hbk4 := (hb4.block _ hsz3).trans BK3.out
        have hB4 : Below w.heap.size w w4 := HB3.out.trans (hb4.mono HB3.out.size)
        have hI4 := builder_below HI3.out hb4
        clear hc0 hc1_ hc2 hc3 hc4 BK3 HB3 HI3 hb4 hsz3
        go_wp2_with fail
        refine (writeString b b _ hd _ hI4 ?c1 ?c2).mono ?_
        case c1 =>
         rw [Lib.byteCells_length]
         rw [List.length_append, Plain.list_size] at hln
         exact hln
        case c2 => exact Nat.le_of_lt (builder_lt hI4)
        rintro e w5 ⟨rfl, hI5, hb5, hk5⟩
        have hbk5 := hk5 _ _ hbk4 (by simp; omega) (by intro c fz; simp)
        have hc4 := blk_cell hbk5 4
        simp only [List.getElem?_toArray] at hc4
        rw [Lib.strCells_eq, ← Lib.byteCells_append] at hI5
        have HI := Aside0.mk hI5
        have HB := Aside0.mk (hB4.trans (hb5.mono hwb))
        clear hbk4 hB4 hI4 hI5 hb5 hk5 hbk5
        go_wp2_with fail
        go_loopw [42] (fun v wr => ∃ (j : Int) (ac : List UInt8), v = .int .i64 j ∧ 0 ≤ j ∧ j ≤ h.f4.length ∧ Aside0 (Lib.IsBuilderF BT 5 b b (Lib.byteCells ac) wr) ∧ Aside0 (Below w.heap.size w wr) ∧ Aside0 (show_Print.lines (h.f4.drop j.toNat) ac = some accF)) (fun v _ => h.f4.length - (intOf v).toNat)
        case atStart => exact ⟨0, _, rfl, by omega, by omega, HI, HB, HF⟩
        case round =>
         clear HI HB HF hc4
         obtain ⟨j, ac, rfl, hj0, hj1, HI, HB, HF⟩ := hrel
         obtain ⟨wq, rfl⟩ : ∃ wq : World, wq = wr := ⟨_, rfl⟩
         by_cases hjl : j < (h.f4.length : Int)
         ·obtain ⟨ad4, e, hy0, hy1, hy2⟩ := at_T42 HC.out j hj0 hjl
          cases e
          have hw5 := HB.out.size
          replace hy0 := (HB.out.cell (World.block_lt_of_cell? w _ hy0)).trans hy0
          replace hy1 := (HB.out.cell (World.block_lt_of_cell? w _ hy1)).trans hy1
          replace hy2 := (HB.out.cell (World.block_lt_of_cell? w _ hy2)).trans hy2
          have hd4 : h.f4.drop j.toNat = rd_T42 h.f4 j :: h.f4.drop (j + 1).toNat := drop_rd42 h.f4 j hj0 hjl
          have HF' := HF.out
          rw [hd4] at HF'
          clear hd4 HF
          generalize rd_T42 h.f4 j = x at *
          simp only [show_Print.lines] at HF'
          by_cases hlx : (ac ++ show_Print.line x).length ≤ 140737488355328
          ·rw [if_pos hlx] at HF'
           have HF := Aside0.mk HF'
           clear HF'
           have hbl2 := builder_lt HI.out
           have hcv := fun bb => conv1 (wq.alloc (.cells #[.int .u8 x.f0, .string x.f1, .bool bb] 42 (0, 0))) x.f0
           simp only [World.size_alloc] at hcv
           have hsn : (strOfNums [x.f0]).size = 1 := rfl
           have hlx1 : ac.length + (1 + x.f1.size + 1) ≤ 140737488355328 := by
            simp only [show_Print.line, List.length_append, List.length_cons, Plain.list_size] at hlx
            omega
           have s5 : (9223372036854775807 < (strOfNums [x.f0]).size + x.f1.size) = False := eq_false (by omega)
           have s6 : (9223372036854775807 < (strOfNums [x.f0]).size + x.f1.size + 1) = False := eq_false (by omega)
           have hl1 : (strOfNums [x.f0] ++ x.f1 ++ ⟨#[10]⟩ : ByteArray).data.toList = UInt8.ofNat x.f0.toNat :: (x.f1.data.toList ++ [10]) := by
            simp only [cat_list]
            rfl
           have hl1s : (strOfNums [x.f0] ++ x.f1 ++ ⟨#[10]⟩ : ByteArray).size = 1 + x.f1.size + 1 := by
            simp only [ByteArray.size_append', hsn]
            rfl
           have hl1 := Aside0.mk hl1
           have hl1s := Aside0.mk hl1s
           clear hsn
           cases hx2 : x.f2 with
           | false =>
            rw [hx2] at hy2
            have hcv := hcv false
            have hlin : show_Print.line x = UInt8.ofNat x.f0.toNat :: (x.f1.data.toList ++ [10]) := by
             unfold show_Print.line
             rw [hx2]
             rfl
            have hlin := Aside0.mk hlin
            clear hx2
            go_wp2_with fail
            refine (writeString b b _ _ _ ((HI.out.alloc _).alloc _) ?c1 ?c2).mono ?_
            case c1 =>
             rw [Lib.byteCells_length, hl1s.out]
             exact hlx1
            case c2 => simp; omega
            rintro e w6 ⟨rfl, hI6, hb6, hk6⟩
            rw [Lib.strCells_eq, hl1.out, ← hlin.out, ← Lib.byteCells_append] at hI6
            have hbk6 : w6.heap[wq.heap.size]? = some (.cells #[.int .u8 x.f0, .string x.f1, .bool false] 42 (0, 0)) := hk6 _ _ ((Below.heap_alloc _ _ _ (by simp)).trans (blk_new wq _)) (by simp; omega) (by intro c fz; simp)
            have hz2 := blk_cell hbk6 2
            simp only [List.getElem?_toArray] at hz2
            have HB6 := Aside0.mk ((below_alloc (below_alloc HB.out _) _).trans (hb6.mono hwb))
            clear HB HI hb6 hk6 hbk6
            go_wp2_with fail
            go_roundw
            case rel => exact ⟨j + 1, _, rfl, by omega, by omega, ⟨hI6⟩, HB6, HF⟩
            case measure => simp [intOf]; omega
           | true =>
            rw [hx2] at hy2
            have hcv := hcv true
            have hlin : show_Print.line x = UInt8.ofNat x.f0.toNat :: (x.f1.data.toList ++ [10]) ++ [92, 32, 78, 111, 32, 110, 101, 119, 108, 105, 110, 101, 32, 97, 116, 32, 101, 110, 100, 32, 111, 102, 32, 102, 105, 108, 101, 10] := by
             unfold show_Print.line
             rw [hx2]
             simp
            have hlx2 : ac.length + (1 + x.f1.size + 1) + 28 ≤ 140737488355328 := by
             rw [hlin] at hlx
             simp only [List.length_append, List.length_cons, Plain.list_size, List.length_nil] at hlx
             omega
            have hlin := Aside0.mk hlin
            clear hx2
            go_wp2_with fail
            refine (writeString b b _ _ _ ((HI.out.alloc _).alloc _) ?c1 ?c2).mono ?_
            case c1 =>
             rw [Lib.byteCells_length, hl1s.out]
             exact hlx1
            case c2 => simp; omega
            rintro e w6 ⟨rfl, hI6, hb6, hk6⟩
            rw [Lib.strCells_eq, hl1.out, ← Lib.byteCells_append] at hI6
            have hbk6 : w6.heap[wq.heap.size]? = some (.cells #[.int .u8 x.f0, .string x.f1, .bool true] 42 (0, 0)) := hk6 _ _ ((Below.heap_alloc _ _ _ (by simp)).trans (blk_new wq _)) (by simp; omega) (by intro c fz; simp)
            have hz2 := blk_cell hbk6 2
            simp only [List.getElem?_toArray] at hz2
            have HB6 := Aside0.mk ((below_alloc (below_alloc HB.out _) _).trans (hb6.mono hwb))
            have HI6 := Aside0.mk hI6
            clear HB HI hb6 hk6 hbk6 hI6
            go_wp2_with fail
            refine (writeString b b _ _ _ HI6.out ?c1 ?c2).mono ?_
            case c1 =>
             rw [Lib.byteCells_length]
             simp only [List.length_append, List.length_cons, Plain.list_size, List.length_nil]
             show _ + 28 ≤ _
             omega
            case c2 => exact Nat.le_of_lt (builder_lt HI6.out)
            rintro e w7 ⟨rfl, hI7, hb7, hk7⟩
            rw [Lib.strCells_eq, ← Lib.byteCells_append] at hI7
            have hac7 : ac ++ UInt8.ofNat x.f0.toNat :: (x.f1.data.toList ++ [10]) ++ (⟨#[92, 32, 78, 111, 32, 110, 101, 119, 108, 105, 110, 101, 32, 97, 116, 32, 101, 110, 100, 32, 111, 102, 32, 102, 105, 108, 101, 10]⟩ : ByteArray).data.toList = ac ++ show_Print.line x := by
             rw [hlin.out, List.append_assoc]
            rw [hac7] at hI7
            have HB7 := Aside0.mk (HB6.out.trans (hb7.mono hwb))
            have HI7 := Aside0.mk hI7
            clear HB6 HI6 hb7 hk7 hI7 hac7
            go_wp2_with fail
            go_roundw
            case rel => exact ⟨j + 1, _, rfl, by omega, by omega, HI7, HB7, HF⟩
            case measure => simp [intOf]; omega
          ·rw [if_neg hlx] at HF'
           cases HF'
         ·have hje : h.f4.drop j.toNat = [] := List.drop_of_length_le (by omega)
          have hac : ac = accF := by
           have := HF.out
           rw [hje] at this
           exact Option.some.inj this
          subst hac
          clear hje HF
          go_wp2_with fail
          go_roundw
          case rel => exact ⟨i + 1, ac, rfl, by omega, by omega, HI, HB, H⟩
          case measure => simp [intOf]; omega
       ·rw [if_neg hln] at H2
        cases H2
      ·have H1 := Option.some.inj ((if_neg he0).symm.trans H.out)
       have h1 := congrArg Prod.fst H1
       have h2 := congrArg Prod.snd H1
       simp only at h1 h2
       subst h1 h2
       have hen : (e == 0) = false := beq_eq_false_iff_ne.2 he0
       have hen' : (e != 0) = true := bne_iff_ne.2 he0
       clear H H1 he0
       go_wp2_with fail
       refine (show_Check.calls k _ _ _ _ A4 c4 h.f4 e _ (Kd.C_below HC.out (below_alloc HB.out _)) hl4 HE.out).mono ?_
       rintro e' w3 ⟨rfl, hb3⟩
       have hB3 : Below w.heap.size w w3 := (below_alloc HB.out _).trans (hb3.mono (by simp; omega))
       go_wp2_with fail
       go_ret2
       exact ⟨rfl, hB3⟩
     ·have hie : l1.drop i.toNat = [] := List.drop_of_length_le (by omega)
      have H1 := H.out
      rw [hie] at H1
      have H1 := Option.some.inj H1
      have h1 := congrArg Prod.fst H1
      have h2 := congrArg Prod.snd H1
      simp only at h1 h2
      subst h1 h2
      clear H1 H hie
      have hbs := builder_lt HI.out
      go_wp2_with fail
      refine (builderString b b acc _ HI.out (Nat.le_of_lt hbs)).mono ?_
      rintro e w8 ⟨rfl, hI8, hb8, hk8⟩
      go_wp2_with fail
      go_ret2
      exact ⟨rfl, HB.out.trans (hb8.mono hwb)⟩
   ·exact absurd ((if_neg hsz).symm.trans H2.out) (by simp)

end Go.Proofs.YthkcghiagnddiaaDoor.X
