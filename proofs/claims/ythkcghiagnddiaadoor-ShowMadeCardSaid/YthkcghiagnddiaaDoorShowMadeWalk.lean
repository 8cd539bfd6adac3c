import Derived.Test.YthkcghiagnddiaaDoorPureShow
import Derived.Outline
namespace Go.Proofs.YthkcghiagnddiaaDoor.X
open Go Go.RowKit Go.Proofs.YthkcghiagnddiaaDoorW.PrintWords Go.Proofs.YthkcghiagnddiaaDoorW.PrintLast Go.Proofs.YthkcghiagnddiaaDoorW.PrintMore
attribute [local go_sem] max2_int min2_int max_two min_two max_three min_three max_four min_four
set_option linter.unusedVariables false
set_option linter.unusedSimpArgs false
set_option maxHeartbeats 4000000 in
set_option maxRecDepth 1000000 in
theorem showMade_walk (k : Nat) (A0 : Option Addr) (c0 : Nat) (l0 : List Int) (A1 : Option Addr) (c1 : Nat) (l1 : List Int) (x y : Bool) (ctx : Int) (w : World) (hr0 : Kd.C (Kd.int .u8) w A0 l0.length l0) (hc0 : l0.length ≤ c0) (hr1 : Kd.C (Kd.int .u8) w A1 l1.length l1) (hc1 : l1.length ≤ c1)
    (hx0 : 0 ≤ ctx) (hx1 : ctx ≤ 255) (hG : GPow w) (ta tb : List Int) (l : List S26) (s : ByteArray) (hta : redpenlaw19_Text.f k l0 x = some ta) (htb : redpenlaw19_Text.f k l1 y = some tb) (hM : hunks_Make.f k ta tb (ctx % 17) = some (l, 0))
    (hC : ∀ h ∈ l, show_Check.f k h.f0 h.f1 h.f2 h.f3 h.f4 = some 0) (hP : show_Print.f k ⟨#[102]⟩ l = some (s, 0)) (hA : redpenlaw20_Awake.f = some true) (hll : l.length ≤ 1000000) (hrows : rowsOf l ≤ 1000000000) (hss : s.size ≤ 1000000000000)
    (he : s.size = 0 ↔ l.length = 0) (hn : l.length ≠ 0 → rowsOf l + 2 ≤ nlc s s.size ∧ nlc s s.size ≤ rowsOf l + 4) :
    Calls Tryd.prog 4 #[.slice A0 l0.length c0, .slice A1 l1.length c1, .bool x, .bool y, .int .u8 ctx] w fun e w' => e = .returned (.bool true) ∧ Below w.heap.size w w' := by
  have HR0 := Aside0.mk hr0
  have HR1 := Aside0.mk hr1
  have HTA := Aside0.mk hta
  have HTB := Aside0.mk htb
  have HM := Aside0.mk hM
  have HC := Aside0.mk hC
  have HP := Aside0.mk hP
  have HA := Aside0.mk hA
  have HG := Aside0.mk hG
  have HN := Aside0.mk hn
  have HE := Aside0.mk he
  clear hr0 hr1 hta htb hM hC hP hA hG hn he
  go_enter Tryd.func4, Tryd.ntmps4
  go_wp2_with (go_at_call 10; refine (redpenlaw20_Awake.calls true _ HG.out HA.out).mono ?_; rintro e w1 ⟨rfl, hb1⟩)
  go_wp2_with fail
  refine (redpenlaw19_Text.calls k A0 c0 l0 x ta _ (Kd.C_below HR0.out hb1) hc0 HTA.out).mono ?_
  rintro e w2 ⟨va, rfl, hRa, hb2⟩
  obtain ⟨Aa, ca, rfl, _, _⟩ := Kd.R_reads hRa
  have HB2 := Aside0.mk (below_then hb1 hb1.size hb2)
  have HRa := Aside0.mk hRa
  clear hb1 hb2 hRa
  go_wp2_with fail
  refine (redpenlaw19_Text.calls k A1 c1 l1 y tb _ (Kd.C_below HR1.out HB2.out) hc1 HTB.out).mono ?_
  rintro e w3 ⟨vb, rfl, hRb, hb3⟩
  obtain ⟨Ab, cb, rfl, _, _⟩ := Kd.R_reads hRb
  have HB3 := Aside0.mk (below_then HB2.out HB2.out.size hb3)
  have HRb := Aside0.mk hRb
  have HRa3 := Aside0.mk (Kd.R_below HRa.out hb3)
  clear hb3 hRb HRa HB2
  go_wp2_with fail
  refine (hunks_Make.calls k Aa ca ta Ab cb tb (ctx % 17) l 0 _ (Kd.R_reads' HRa3.out).2.2 (Kd.R_reads' HRa3.out).2.1 (Kd.R_reads' HRb.out).2.2 (Kd.R_reads' HRb.out).2.1 HM.out).mono ?_
  rintro e w4 ⟨vl, rfl, hS, hb4⟩
  have hRl := Kd.S_R hS
  obtain ⟨Al, cl, rfl, _, _⟩ := Kd.R_reads hRl
  have hRl := Kd.R_reads' hRl
  have HB4 := Aside0.mk (below_then HB3.out HB3.out.size hb4)
  have hcl := hRl.2.1
  have HL := Aside0.mk hRl.2.2
  clear hb4 hS hRl HRa3 HRb HB3
  obtain ⟨wl, rfl⟩ : ∃ wl : World, wl = w4 := ⟨_, rfl⟩
  go_wp2_with fail
  go_loopw [39] (fun v wr => ∃ (i : Nat), v = .int .i64 i ∧ i ≤ l.length ∧ Aside0 (Below wl.heap.size wl wr)) (fun v _ => l.length - (intOf v).toNat)
  case atStart => exact ⟨0, rfl, by omega, ⟨Below.refl _ _⟩⟩
  case round =>
    obtain ⟨i, rfl, hi, HB⟩ := hrel
    obtain ⟨wo, rfl⟩ : ∃ wo : World, wo = wr := ⟨_, rfl⟩
    by_cases hlt : i < l.length
    · have hltI : (i : Int) < (l.length : Int) := by omega
      obtain ⟨ad, A4, c4, e, hx0, hx1, hx2, hx3, hx4, hl4, hC4⟩ := at_T26 HL.out (i : Int) (by omega) hltI
      cases e
      have hmem : rd_T26 l (i : Int) ∈ l := by
        unfold rd_T26
        rw [Int.toNat_natCast, List.getD_eq_getElem?_getD, List.getElem?_eq_getElem hlt]
        exact List.getElem_mem hlt
      have hck := HC.out _ hmem
      replace hx0 := (HB.out.cell (World.block_lt_of_cell? wl _ hx0)).trans hx0
      replace hx1 := (HB.out.cell (World.block_lt_of_cell? wl _ hx1)).trans hx1
      replace hx2 := (HB.out.cell (World.block_lt_of_cell? wl _ hx2)).trans hx2
      replace hx3 := (HB.out.cell (World.block_lt_of_cell? wl _ hx3)).trans hx3
      replace hx4 := (HB.out.cell (World.block_lt_of_cell? wl _ hx4)).trans hx4
      rw [Int.toNat_natCast] at hx0 hx1 hx2 hx3 hx4
      generalize rd_T26 l (i : Int) = h at *
      have HCK := Aside0.mk hck
      have HC4 := Aside0.mk hC4
      clear hck hC4 hmem
      go_wp2_with fail
      refine (show_Check.calls k _ _ _ _ A4 c4 h.f4 0 _ (Kd.C_below HC4.out (below_alloc HB.out _)) hl4 HCK.out).mono ?_
      rintro e w5 ⟨rfl, hb5⟩
      have HB5 := Aside0.mk (below_then (below_alloc HB.out _) (by have := HB.out.size; simp; omega) hb5)
      clear hb5
      go_wp2_with fail
      go_roundw
      case rel => exact ⟨i + 1, by go_num, by omega, HB5⟩
      case measure => simp [intOf]; omega
    · clear HC
      have HBl := Aside0.mk (below_then HB4.out HB4.out.size HB.out)
      have HGl := Aside0.mk (HG.out.below HBl.out)
      have HLl := Aside0.mk (Kd.C_below HL.out HB.out)
      clear HB HB4 HL HG
      go_wp2_with fail
      refine (show_Print.calls k _ Al cl l s 0 _ HLl.out hcl HGl.out HP.out).mono ?_
      rintro e w6 ⟨rfl, hb6⟩
      have HL6 := Aside0.mk (Kd.C_below HLl.out hb6)
      have HB6 := Aside0.mk (below_then HBl.out HBl.out.size hb6)
      clear hb6 HLl HBl HGl HP
      obtain ⟨wp, rfl⟩ : ∃ wp : World, wp = w6 := ⟨_, rfl⟩
      go_wp2_with fail
      go_loopw [54, 17] (fun v v17 wr => ∃ (i : Nat), v = .int .i64 i ∧ v17 = .int .i64 (rowsOf (l.take i)) ∧ i ≤ l.length ∧ Aside0 (Below wp.heap.size wp wr)) (fun v _ _ => l.length - (intOf v).toNat)
      case atStart => exact ⟨0, rfl, rfl, by omega, ⟨Below.refl _ _⟩⟩
      case round =>
        obtain ⟨j, rfl, rfl, hj, HB⟩ := hrel
        obtain ⟨wo, rfl⟩ : ∃ wo : World, wo = wr := ⟨_, rfl⟩
        have hrl := rowsOf_le l j
        by_cases hlt : j < l.length
        · have hltI : (j : Int) < (l.length : Int) := by omega
          obtain ⟨ad, A4, c4, e, hx0, hx1, hx2, hx3, hx4, hl4, hC4⟩ := at_T26 HL6.out (j : Int) (by omega) hltI
          cases e
          replace hx0 := (HB.out.cell (World.block_lt_of_cell? wp _ hx0)).trans hx0
          replace hx1 := (HB.out.cell (World.block_lt_of_cell? wp _ hx1)).trans hx1
          replace hx2 := (HB.out.cell (World.block_lt_of_cell? wp _ hx2)).trans hx2
          replace hx3 := (HB.out.cell (World.block_lt_of_cell? wp _ hx3)).trans hx3
          replace hx4 := (HB.out.cell (World.block_lt_of_cell? wp _ hx4)).trans hx4
          rw [Int.toNat_natCast] at hx0 hx1 hx2 hx3 hx4
          have hr1 := rowsOf_take l j hlt
          have hr2 := rowsOf_le l (j + 1)
          generalize rd_T26 l (j : Int) = h at *
          have HR1_ := Aside0.mk hr1
          clear hC4
          have hr3 : rowsOf (l.take j) + (1 + h.f4.length) ≤ 1000000000 := by omega
          clear hr1 hr2
          go_wp2_with fail
          go_roundw
          case rel => exact ⟨j + 1, by go_num, by rw [HR1_.out]; go_num, by omega, ⟨below_alloc HB.out _⟩⟩
          case measure => simp [intOf]; omega
        · obtain rfl : j = l.length := by omega
          have hrT : rowsOf (l.take l.length) = rowsOf l := by rw [List.take_length]
          rw [hrT]
          have HBl := Aside0.mk (below_then HB6.out HB6.out.size HB.out)
          clear HB HB6 HL6 hrT hrl
          go_wp2_with fail
          obtain ⟨wi, rfl⟩ : ∃ wi : World, wi = wo := ⟨_, rfl⟩
          have HBi := Aside0.mk (HBl.out)
          clear HBl
          go_loopw [20] (fun v wr => ∃ (pos : Nat), v = .int .i64 (nlc s pos) ∧ wr.heap[wi.heap.size]? = some (.stringIter s pos) ∧ Below wi.heap.size wi wr ∧ pos ≤ s.size) (fun _ wr => s.size - wr.iterPos wi.heap.size)
          case atStart => exact ⟨0, by simp [nlc], World.iter_heap wi s 0, (Below.refl _ wi).alloc (Nat.le_refl _) _, by omega⟩
          case round =>
            obtain ⟨pos, rfl, hit, hbw, hle⟩ := hrel
            have hwlt : wi.heap.size < wr.heap.size := (Array.getElem?_eq_some_iff.1 hit).1
            have hcl := nlc_le s pos
            by_cases hp : pos < s.size
            · have hnx : ∀ ty, (Instr.next (.pointer (some ⟨wi.heap.size, 0, none⟩)) true ty).run Tryd.prog wr = _ := fun ty => Lib.run_next_any_at wr wi.heap.size s pos ty hit hp
              obtain ⟨hlo, hhi, hw1, hw2⟩ := Plain.decode_covers s pos hp
              have hbw2 := Lib.below_iterAt hbw (k := wi.heap.size) (Nat.le_refl _) s (pos + (Utf8.decode s pos).2)
              have hit2 := Lib.iterAt_heap wr wi.heap.size s pos (pos + (Utf8.decode s pos).2) hit
              have hcnt : nlc s (pos + (Utf8.decode s pos).2) = nlc s pos + if Plain.byt s pos = 10 then 1 else 0 := by
                by_cases hr : (Utf8.decode s pos).1 < 128
                · rw [(hlo hr).1, nlc_step s pos hp]
                · have h1 := hhi (by omega)
                  have h2 := h1 pos (by omega) (by omega)
                  rw [nlc_same s _ pos hw2 (fun j h3 h4 => by have := h1 j h3 h4; omega), if_neg (by omega)]
                  rfl
              have hsb : (s[pos]'hp).toNat = Plain.byt s pos := by
                unfold Plain.byt
                rw [List.getD_eq_getElem?_getD, List.getElem?_eq_getElem (by rw [Plain.list_size]; exact hp)]
                rfl
              have HCN := Aside0.mk hcnt
              have HSB := Aside0.mk hsb
              clear hlo hhi hcnt hsb
              have hpI : (pos : Int) < (s.size : Int) := by omega
              go_wp2_with fail
              · have e : (((s[pos]'hp).toNat : Int) == 10) = true := by assumption
                simp only [beq_iff_eq] at e
                go_roundw
                case rel => exact ⟨pos + (Utf8.decode s pos).2, by rw [HCN.out, if_pos (by have := HSB.out; omega)]; go_num, hit2, hbw2, hw2⟩
                case measure =>
                  simp only [World.iterPos, hit2, hit]
                  omega
              · have e : (((s[pos]'hp).toNat : Int) == 10) = false := by assumption
                simp only [beq_eq_false_iff_ne] at e
                go_roundw
                case rel => exact ⟨pos + (Utf8.decode s pos).2, by rw [HCN.out, if_neg (by have := HSB.out; omega)]; go_num, hit2, hbw2, hw2⟩
                case measure =>
                  simp only [World.iterPos, hit2, hit]
                  omega
            · have hnx : ∀ ty, (Instr.next (.pointer (some ⟨wi.heap.size, 0, none⟩)) true ty).run Tryd.prog wr = _ := fun ty => Lib.run_next_end_at wr wi.heap.size s pos ty hit hp
              obtain rfl : pos = s.size := by omega
              have hbe := below_then HBi.out HBi.out.size hbw
              have HBE := Aside0.mk hbe
              clear hbe hbw
              by_cases hz : l.length = 0
              · have d1 : ((l.length : Int) == 0) = true := beq_iff_eq.2 (by omega)
                have d2 : (s.toList == []) = true := by
                  rw [ByteArray.toList_eq]
                  have : s.data.toList = [] := List.eq_nil_of_length_eq_zero (by rw [Plain.list_size]; exact HE.out.2 hz)
                  rw [this]; rfl
                go_wp2_with fail
                go_ret
                exact ⟨rfl, HBE.out⟩
              · have d1 : ((l.length : Int) == 0) = false := beq_eq_false_iff_ne.2 (by omega)
                have d2 : (s.toList == []) = false := by
                  rw [ByteArray.toList_eq]
                  apply beq_eq_false_iff_ne.2
                  intro e
                  have : s.size = 0 := by rw [← Plain.list_size, e]; rfl
                  exact hz (HE.out.1 this)
                obtain ⟨n1, n2⟩ := HN.out hz
                have n3 : (rowsOf l : Int) + 2 ≤ (nlc s s.size : Int) := by omega
                have n4 : (nlc s s.size : Int) ≤ (rowsOf l : Int) + 4 := by omega
                have d3 : decide ((rowsOf l : Int) + 2 ≤ (nlc s s.size : Int)) = true := decide_eq_true n3
                have d4 : decide ((nlc s s.size : Int) ≤ (rowsOf l : Int) + 4) = true := decide_eq_true n4
                go_wp2_with fail
                go_ret
                exact ⟨rfl, HBE.out⟩
end Go.Proofs.YthkcghiagnddiaaDoor.X
