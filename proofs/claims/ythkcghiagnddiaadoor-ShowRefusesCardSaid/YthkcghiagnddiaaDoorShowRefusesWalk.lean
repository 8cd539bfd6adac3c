import Derived.Test.YthkcghiagnddiaaDoorXc
import Derived.Outline
import Derived.IntWalk
import Derived.Deep.CutBlock
namespace Go.Proofs.YthkcghiagnddiaaDoor.X
open Go Go.RowKit Go.Proofs.YthkcghiagnddiaaDoorW.PrintWords Go.Proofs.YthkcghiagnddiaaDoorW.PrintLast Go.Proofs.YthkcghiagnddiaaDoorW.PrintMore
attribute [local go_sem] max2_int min2_int max_two min_two max_three min_three max_four min_four
set_option linter.unusedVariables false
set_option linter.unusedSimpArgs false
theorem setCells_one (w : World) (g o : Nat) (v : Value) : w.setCells g o [v] = w.setCell ⟨g, o, none⟩ v := rfl
theorem alloc_size_ne {w : World} {k : Nat} (h : k < w.heap.size) : k ≠ w.heap.size := by omega
/-- A number of a hunk of a row is written. -/
theorem put_hunk {w : World} {base g cap : Nat} {ok : Nat → Prop} {l : List S26} (h : Kd.S k26 26 w base ok (.slice (some ⟨g, 0, none⟩) l.length cap) l) (i : Nat) (hi : i < l.length) :
    ∃ v4, (∀ j u, [Value.int .i64 (rd_T26 l i).f0, .int .i64 (rd_T26 l i).f1, .int .i64 (rd_T26 l i).f2, .int .i64 (rd_T26 l i).f3, v4][j]? = some u → w.cell? ⟨g, i * 5 + j, none⟩ = some u) ∧ (∀ j, w.frozen? ⟨g, i * 5 + j, none⟩ = false) ∧
      (∀ (x : Int), Kd.S k26 26 (w.setCell ⟨g, i * 5 + 0, none⟩ (.int .i64 x)) base ok (.slice (some ⟨g, 0, none⟩) l.length cap) (l.set i ⟨x, (rd_T26 l i).f1, (rd_T26 l i).f2, (rd_T26 l i).f3, (rd_T26 l i).f4⟩)) ∧
      (∀ (x : Int), Kd.S k26 26 (w.setCell ⟨g, i * 5 + 1, none⟩ (.int .i64 x)) base ok (.slice (some ⟨g, 0, none⟩) l.length cap) (l.set i ⟨(rd_T26 l i).f0, x, (rd_T26 l i).f2, (rd_T26 l i).f3, (rd_T26 l i).f4⟩)) ∧
      (∀ (x : Int), Kd.S k26 26 (w.setCell ⟨g, i * 5 + 3, none⟩ (.int .i64 x)) base ok (.slice (some ⟨g, 0, none⟩) l.length cap) (l.set i ⟨(rd_T26 l i).f0, (rd_T26 l i).f1, (rd_T26 l i).f2, x, (rd_T26 l i).f4⟩)) ∧
      (0 < (rd_T26 l i).f4.length → ∃ g4 c4, v4 = .slice (some ⟨g4, 0, none⟩) (rd_T26 l i).f4.length c4 ∧ base ≤ g4 ∧ g4 ≠ g ∧ w.cell? ⟨g4, 0, none⟩ = some (.int .u8 (rd_T42 (rd_T26 l i).f4 0).f0) ∧ w.frozen? ⟨g4, 0, none⟩ = false ∧
        ∀ (x : Int), Kd.S k26 26 (w.setCell ⟨g4, 0, none⟩ (.int .u8 x)) base ok (.slice (some ⟨g, 0, none⟩) l.length cap) (l.set i ⟨(rd_T26 l i).f0, (rd_T26 l i).f1, (rd_T26 l i).f2, (rd_T26 l i).f3, (rd_T26 l i).f4.set 0 ⟨x, (rd_T42 (rd_T26 l i).f4 0).f1, (rd_T42 (rd_T26 l i).f4 0).f2⟩⟩)) := by
  obtain ⟨oki, c, hcl, hM, hcc, hoki, hH⟩ := Kd.S_lend h z26 (i : Int) (by omega) (by omega)
  have hrd : l.getD (i : Int).toNat z26 = rd_T26 l i := rfl
  rw [hrd] at hM
  generalize rd_T26 l i = x0 at *
  obtain ⟨v4, rfl, hR4⟩ := k26_openM hM
  obtain ⟨hat, hfr⟩ := Kd.H_at hH (by omega) (by omega)
  have e5 : k26.sz = 5 := rfl
  simp only [e5, Int.toNat_natCast] at hat hfr
  refine ⟨v4, hat, hfr, fun x => ?_, fun x => ?_, fun x => ?_, fun h4 => ?_⟩
  · have := (Kd.S_seg0 hH (by omega) (by omega) (seg := [.int .i64 x]) (j := 0) (by rw [e5]; simp) (x' := ⟨x, x0.f1, x0.f2, x0.f3, x0.f4⟩) (okp := oki) (k26_mkM w base oki ⟨x, x0.f1, x0.f2, x0.f3, x0.f4⟩ hR4) (fun _ hk => hk)).1
    simpa only [e5, Int.toNat_natCast, setCells_one] using this
  · have := (Kd.S_seg0 hH (by omega) (by omega) (seg := [.int .i64 x]) (j := 1) (by rw [e5]; simp) (x' := ⟨x0.f0, x, x0.f2, x0.f3, x0.f4⟩) (okp := oki) (k26_mkM w base oki ⟨x0.f0, x, x0.f2, x0.f3, x0.f4⟩ hR4) (fun _ hk => hk)).1
    simpa only [e5, Int.toNat_natCast, setCells_one] using this
  · have := (Kd.S_seg0 hH (by omega) (by omega) (seg := [.int .i64 x]) (j := 3) (by rw [e5]; simp) (x' := ⟨x0.f0, x0.f1, x0.f2, x, x0.f4⟩) (okp := oki) (k26_mkM w base oki ⟨x0.f0, x0.f1, x0.f2, x, x0.f4⟩ hR4) (fun _ hk => hk)).1
    simpa only [e5, Int.toNat_natCast, setCells_one] using this
  · obtain ⟨g4, c4, rfl, hb4, hlt4, cells4, hbk4⟩ := Kd.R_form hR4 h4
    have hown : oki g4 := hR4.1 g4 (by simp [Value.ownBlock])
    have hne : g4 ≠ g := (hoki g4 hown).2
    obtain ⟨cc, hccl, hMM, hccc, hff⟩ : ∃ cc : List Value, cc.length = 3 ∧ k42.M w base (fun _ => False) (rd_T42 x0.f4 0) cc ∧ (∀ j u, cc[j]? = some u → w.cell? ⟨g4, j, none⟩ = some u) ∧ ∀ j, w.frozen? ⟨g4, j, none⟩ = false := by
      obtain ⟨ad, e, y0, y1, y2⟩ := at_T42 (Kd.R_reads' hR4).2.2 0 (by omega) (by omega)
      injection e with e
      subst e
      refine ⟨_, rfl, k42_mkM w base _ (rd_T42 x0.f4 0), fun j u hj => ?_, fun j => blk_frozen hbk4 j⟩
      have a0 : ((⟨g4, 0, none⟩ : Addr).add ((0 : Int).toNat * 3)) = ⟨g4, 0, none⟩ := by unfold Addr.add; simp
      rw [a0] at y0 y1 y2
      match j, hj with
      | 0, hj => simp at hj; subst hj; exact y0
      | 1, hj => simp at hj; subst hj; simpa using y1
      | 2, hj => simp at hj; subst hj; simpa using y2
    have ecc := k42_openM hMM
    subst ecc
    have hc0 := hccc 0 _ rfl
    refine ⟨g4, c4, rfl, hb4, hne, hc0, hff 0, fun x => ?_⟩
    have e3 : k42.sz = 3 := rfl
    obtain ⟨hR4', hgr⟩ := Kd.R_seg hR4 0 (by omega) (by omega) (c := [.int .u8 (rd_T42 x0.f4 0).f0, .string (rd_T42 x0.f4 0).f1, .bool (rd_T42 x0.f4 0).f2]) (seg := [.int .u8 x]) (j := 0) (by rw [e3]; rfl) (fun j u hj => by have := hccc j u hj; simpa using this) (by rw [e3]; simp)
      (x' := ⟨x, (rd_T42 x0.f4 0).f1, (rd_T42 x0.f4 0).f2⟩) (okp := fun _ => False) (k42_mkM w base _ ⟨x, (rd_T42 x0.f4 0).f1, (rd_T42 x0.f4 0).f2⟩) (fun _ hk => hk.elim)
    have ew : w.setCells g4 ((0 : Int).toNat * k42.sz + 0) [.int .u8 x] = w.setCell ⟨g4, 0, none⟩ (.int .u8 x) := by rw [e3]; rfl
    rw [ew] at hR4' hgr
    have hH' := Kd.H_grown hH hgr (fun k hk => by injection hk with hk; subst hk; exact hown)
    have hl4 : (x0.f4.set (0 : Int).toNat ⟨x, (rd_T42 x0.f4 0).f1, (rd_T42 x0.f4 0).f2⟩).length = x0.f4.length := List.length_set ..
    have hM' := k26_mkM (w.setCell ⟨g4, 0, none⟩ (.int .u8 x)) base oki ⟨x0.f0, x0.f1, x0.f2, x0.f3, x0.f4.set 0 ⟨x, (rd_T42 x0.f4 0).f1, (rd_T42 x0.f4 0).f2⟩⟩ hR4'
    have := Kd.H_back hH' hM' (fun _ hk => hk)
    simpa only [Int.toNat_natCast] using this
/-- The hunk turned, by a number, and what is said of it. -/
def refH (c : Int) (h : S26) : S26 :=
  if c = 0 then ⟨h.f0, wrap64 (h.f1 + 1), h.f2, h.f3, h.f4⟩ else if c = 1 then ⟨h.f0, h.f1, h.f2, wrap64 (h.f3 + 1), h.f4⟩
  else if c = 2 then ⟨h.f0, h.f1, h.f2, h.f3, h.f4.set 0 ⟨120, (rd_T42 h.f4 0).f1, (rd_T42 h.f4 0).f2⟩⟩ else ⟨-1, h.f1, h.f2, h.f3, h.f4⟩
def refW (c : Int) : Int := if c = 0 then 13 else if c = 1 then 13 else if c = 2 then 7 else 2
set_option maxHeartbeats 8000000 in
set_option maxRecDepth 1000000 in
theorem showRefuses_walk (k : Nat) (A0 : Option Addr) (c0 : Nat) (l0 : List Int) (A1 : Option Addr) (c1 : Nat) (l1 : List Int) (x y : Bool) (at_ c : Int) (w : World) (hr0 : Kd.C (Kd.int .u8) w A0 l0.length l0) (hc0 : l0.length ≤ c0) (hr1 : Kd.C (Kd.int .u8) w A1 l1.length l1) (hc1 : l1.length ≤ c1)
    (hx0 : 0 ≤ at_) (hx1 : at_ ≤ 255) (hy0 : 0 ≤ c) (hy1 : c ≤ 255) (hG : GPow w) (ta tb : List Int) (l : List S26) (hta : redpenlaw19_Text.f k l0 x = some ta) (htb : redpenlaw19_Text.f k l1 y = some tb) (hM : hunks_Make.f k ta tb 0 = some (l, 0)) (hll : l.length ≤ 1000000) (hA : redpenlaw20_Awake.f = some true)
    (hok : l.length ≠ 0 → 0 < (rd_T26 l (at_ % l.length)).f4.length ∧ (-1000000000 ≤ (rd_T26 l (at_ % l.length)).f1 ∧ (rd_T26 l (at_ % l.length)).f1 ≤ 1000000000) ∧ (-1000000000 ≤ (rd_T26 l (at_ % l.length)).f3 ∧ (rd_T26 l (at_ % l.length)).f3 ≤ 1000000000) ∧
      show_Print.f k ⟨#[102]⟩ (l.set (at_ % l.length).toNat (refH (c % 4) (rd_T26 l (at_ % l.length)))) = some (⟨#[]⟩, refW (c % 4)) ∧ (∃ s, show_Print.f k ⟨#[102, 10]⟩ (l.set (at_ % l.length).toNat (refH (c % 4) (rd_T26 l (at_ % l.length)))) = some (s, 10)) ∧
      show_Check.f k (refH (c % 4) (rd_T26 l (at_ % l.length))).f0 (refH (c % 4) (rd_T26 l (at_ % l.length))).f1 (refH (c % 4) (rd_T26 l (at_ % l.length))).f2 (refH (c % 4) (rd_T26 l (at_ % l.length))).f3 (refH (c % 4) (rd_T26 l (at_ % l.length))).f4 = some (refW (c % 4))) :
    Calls Tryd.prog 5 #[.slice A0 l0.length c0, .slice A1 l1.length c1, .bool x, .bool y, .int .u8 at_, .int .u8 c] w fun e w' => e = .returned (.bool true) ∧ Below w.heap.size w w' := by
  have HR0 := Aside0.mk hr0
  have HR1 := Aside0.mk hr1
  have HTA := Aside0.mk hta
  have HTB := Aside0.mk htb
  have HM := Aside0.mk hM
  have HA := Aside0.mk hA
  have HG := Aside0.mk hG
  have HGw := Aside0.mk hG
  have HOK := Aside0.mk hok
  clear hr0 hr1 hta htb hM hA hG hok
  go_enter Tryd.func5, Tryd.ntmps5
  go_wp2_with (go_at_call 10; refine (redpenlaw20_Awake.calls true _ HG.out HA.out).mono ?_; rintro e w1 ⟨rfl, hb1⟩)
  go_wp2_with fail
  refine (redpenlaw19_Text.calls k A0 c0 l0 x ta _ (Kd.C_below HR0.out hb1) hc0 HTA.out).mono ?_
  rintro e w2 ⟨va, rfl, hRa, hb2⟩
  obtain ⟨Aa, ca, rfl, _, _⟩ := Kd.R_reads hRa
  have HB2 := Aside0.mk (below_then hb1 hb1.size hb2)
  have HRa := Aside0.mk hRa
  clear hb1 hb2 hRa
  go_wp2_with fail
  refine (redpenlaw19_Text.calls k A1 c1 l1 y tb _ (Kd.C_below HR1.out HB2.out) hc1 HTB.out).mono ?_
  rintro e w3 ⟨vb, rfl, hRb, hb3⟩
  obtain ⟨Ab, cb, rfl, _, _⟩ := Kd.R_reads hRb
  have HB3 := Aside0.mk (below_then HB2.out HB2.out.size hb3)
  have HRb := Aside0.mk hRb
  have HRa3 := Aside0.mk (Kd.R_below HRa.out hb3)
  clear hb3 hRb HRa HB2
  go_wp2_with fail
  refine (hunks_Make.calls k Aa ca ta Ab cb tb 0 l 0 _ (Kd.R_reads' HRa3.out).2.2 (Kd.R_reads' HRa3.out).2.1 (Kd.R_reads' HRb.out).2.2 (Kd.R_reads' HRb.out).2.1 HM.out).mono ?_
  rintro e w4 ⟨vl, rfl, hS, hb4⟩
  by_cases hz : l.length = 0
  · obtain ⟨Al, cl, rfl, _, _⟩ := Kd.S_reads hS
    have HB4 := Aside0.mk (below_then HB3.out HB3.out.size hb4)
    have d1 : ((l.length : Int) == 0) = true := beq_iff_eq.2 (by omega)
    clear hb4 hS HRa3 HRb HB3 HOK
    go_wp2_with fail
    go_ret
    exact ⟨rfl, HB4.out⟩
  · obtain ⟨g, cl, rfl, hg1, hg2, _⟩ := Kd.S_form hS (by omega)
    have d1 : ((l.length : Int) == 0) = false := beq_eq_false_iff_ne.2 (by omega)
    obtain ⟨o1, o2, o3, o4, ⟨s2, o5⟩, o6⟩ := HOK.out hz
    obtain ⟨i, hi⟩ : ∃ i : Nat, at_ % (l.length : Int) = i := ⟨(at_ % (l.length : Int)).toNat, by have := Int.emod_nonneg at_ (show (l.length : Int) ≠ 0 by omega); omega⟩
    have hil : i < l.length := by have := Int.emod_lt_of_pos at_ (show (0 : Int) < l.length by omega); omega
    rw [hi] at o1 o2 o3 o4 o5 o6
    rw [Int.toNat_natCast] at o4 o5
    obtain ⟨v4, hat, hfr, s0, s1, s3, s4⟩ := put_hunk hS i hil
    obtain ⟨g4, c4, rfl, hb4g, hne4, y0, yf, s4⟩ := s4 o1
    have HB4 := Aside0.mk (below_then HB3.out HB3.out.size hb4)
    have HI := Aside0.mk hi
    have HG4 := Aside0.mk (HG.out.below HB4.out)
    have hwg : w3.heap.size ≤ g := hg1
    have HB34 := Aside0.mk hb4
    have HW3 := Aside0.mk HB3.out.size
    have hiI : (i : Int) < (l.length : Int) := by omega
    have HB3s := HB3
    clear hb4 HRa3 HRb HB3 HOK
    rcases (show c % 4 = 0 ∨ c % 4 = 1 ∨ c % 4 = 2 ∨ c % 4 = 3 by omega) with hc | hc | hc | hc
    · obtain ⟨x', hx'⟩ : ∃ x', refH (c % 4) (rd_T26 l i) = x' := ⟨_, rfl⟩
      obtain ⟨wn, hwn⟩ : ∃ wn, refW (c % 4) = wn := ⟨_, rfl⟩
      obtain ⟨sE, hsE⟩ : ∃ sE : ByteArray, sE = ⟨#[]⟩ := ⟨_, rfl⟩
      have dE : (sE.toList == []) = true := by rw [hsE, ByteArray.toList_eq]; rfl
      rw [hx', hwn, ← hsE] at o4
      rw [hx', hwn] at o6
      clear hsE
      rw [hx'] at o5
      have q0 : (c % 4 == 0) = true := by rw [hc]; rfl
      have q1 : (c % 4 == 1) = false := by rw [hc]; rfl
      have q2 : (c % 4 == 2) = false := by rw [hc]; rfl
      have e1 := hat 1 _ rfl
      have f1 := hfr 1
      have u1 : IntKind.i64.wrap ((rd_T26 l i).f1 + 1) = (rd_T26 l i).f1 + 1 := IntWalk.i64_in _ (by omega)
      have hS' := s1 ((rd_T26 l i).f1 + 1)
      have ex : x' = ⟨(rd_T26 l i).f0, (rd_T26 l i).f1 + 1, (rd_T26 l i).f2, (rd_T26 l i).f3, (rd_T26 l i).f4⟩ := by
        rw [← hx', hc]
        simp only [refH, if_true, show ¬ ((1 : Int) = 0) by omega, if_false]
        rw [← i64_w, u1]
      have ew : wn = 13 := by rw [← hwn, hc]; rfl
      rw [← ex] at hS'
      subst ew
      have HS' := Aside0.mk hS'
      have HO4 := Aside0.mk o4
      have HO5 := Aside0.mk o5
      have HO6 := Aside0.mk o6
      have hbl : w3.heap.size ≤ g := hwg
      have HBW := Aside0.mk (below_then HB3s.out HW3.out (HB34.out.setCell (p := ⟨g, i * 5 + 1, none⟩) hbl (.int .i64 ((rd_T26 l i).f1 + 1))))
      clear hat hfr s0 s1 s3 s4 hx' hwn ex hS' o4 o5 o6 hc hbl
      go_wp2_with fail
      have hcl : l.length ≤ cl := by have := (Kd.S_reads' HS'.out).2.1; omega
      have HC5 := Aside0.mk (Kd.S_reads' HS'.out).2.2
      have HL5 := Aside0.mk (show (l.set i x').length = l.length from List.length_set ..)
      have hp := show_Print.calls k ⟨#[102]⟩ (some ⟨g, 0, none⟩) cl (l.set i x') sE _ _ HC5.out (by rw [HL5.out]; exact hcl) (HGw.out.below HBW.out) HO4.out
      rw [HL5.out] at hp
      refine hp.mono ?_
      clear hp
      rintro e6 w6 ⟨rfl, hb6⟩
      have HC6 := Aside0.mk (Kd.C_below HC5.out hb6)
      have HB6 := Aside0.mk (below_then HBW.out HBW.out.size hb6)
      clear hb6 HC5 HS' HBW HB4
      go_wp2_with fail
      have hp := show_Print.calls k ⟨#[102, 10]⟩ (some ⟨g, 0, none⟩) cl (l.set i x') s2 _ _ HC6.out (by rw [HL5.out]; exact hcl) (HGw.out.below HB6.out) HO5.out
      rw [HL5.out] at hp
      refine hp.mono ?_
      clear hp
      rintro e7 w7 ⟨rfl, hb7⟩
      have HC7 := Aside0.mk (Kd.C_below HC6.out hb7)
      have HB7 := Aside0.mk (below_then HB6.out HB6.out.size hb7)
      clear hb7 HC6 HB6
      obtain ⟨ad, A4, c4', e, hx0, hx1, hx2, hx3, hx4, hl4, hC4⟩ := at_T26 HC7.out (i : Int) (by omega) (by rw [HL5.out]; exact hiI)
      injection e with e
      subst e
      have hrd : rd_T26 (l.set i x') (i : Int) = x' := by
        unfold rd_T26
        rw [Int.toNat_natCast, List.getD_eq_getElem?_getD, List.getElem?_set_self hil]
        rfl
      rw [hrd] at hx0 hx1 hx2 hx3 hx4 hl4 hC4
      rw [Int.toNat_natCast, add_plain] at hx0 hx1 hx2 hx3 hx4
      have HC4 := Aside0.mk hC4
      clear hC4 hrd
      go_wp2_with fail
      refine (show_Check.calls k _ _ _ _ A4 c4' x'.f4 _ _ HC4.out hl4 HO6.out).mono ?_
      rintro e8 w8 ⟨rfl, hb8⟩
      have HB8 := Aside0.mk (below_then HB7.out HB7.out.size hb8)
      clear hb8
      go_wp2_with fail
      go_ret
      exact ⟨rfl, HB8.out⟩
    · obtain ⟨x', hx'⟩ : ∃ x', refH (c % 4) (rd_T26 l i) = x' := ⟨_, rfl⟩
      obtain ⟨wn, hwn⟩ : ∃ wn, refW (c % 4) = wn := ⟨_, rfl⟩
      obtain ⟨sE, hsE⟩ : ∃ sE : ByteArray, sE = ⟨#[]⟩ := ⟨_, rfl⟩
      have dE : (sE.toList == []) = true := by rw [hsE, ByteArray.toList_eq]; rfl
      rw [hx', hwn, ← hsE] at o4
      rw [hx', hwn] at o6
      clear hsE
      rw [hx'] at o5
      have q0 : (c % 4 == 0) = false := by rw [hc]; rfl
      have q1 : (c % 4 == 1) = true := by rw [hc]; rfl
      have q2 : (c % 4 == 2) = false := by rw [hc]; rfl
      have e1 := hat 3 _ rfl
      have f1 := hfr 3
      have u1 : IntKind.i64.wrap ((rd_T26 l i).f3 + 1) = (rd_T26 l i).f3 + 1 := IntWalk.i64_in _ (by omega)
      have hS' := s3 ((rd_T26 l i).f3 + 1)
      have ex : x' = ⟨(rd_T26 l i).f0, (rd_T26 l i).f1, (rd_T26 l i).f2, (rd_T26 l i).f3 + 1, (rd_T26 l i).f4⟩ := by
        rw [← hx', hc]
        simp only [refH, if_true, show ¬ ((1 : Int) = 0) by omega, if_false]
        rw [← i64_w, u1]
      have ew : wn = 13 := by rw [← hwn, hc]; rfl
      rw [← ex] at hS'
      subst ew
      have HS' := Aside0.mk hS'
      have HO4 := Aside0.mk o4
      have HO5 := Aside0.mk o5
      have HO6 := Aside0.mk o6
      have hbl : w3.heap.size ≤ g := hwg
      have HBW := Aside0.mk (below_then HB3s.out HW3.out (HB34.out.setCell (p := ⟨g, i * 5 + 3, none⟩) hbl (.int .i64 ((rd_T26 l i).f3 + 1))))
      clear hat hfr s0 s1 s3 s4 hx' hwn ex hS' o4 o5 o6 hc hbl
      go_wp2_with fail
      have hcl : l.length ≤ cl := by have := (Kd.S_reads' HS'.out).2.1; omega
      have HC5 := Aside0.mk (Kd.S_reads' HS'.out).2.2
      have HL5 := Aside0.mk (show (l.set i x').length = l.length from List.length_set ..)
      have hp := show_Print.calls k ⟨#[102]⟩ (some ⟨g, 0, none⟩) cl (l.set i x') sE _ _ HC5.out (by rw [HL5.out]; exact hcl) (HGw.out.below HBW.out) HO4.out
      rw [HL5.out] at hp
      refine hp.mono ?_
      clear hp
      rintro e6 w6 ⟨rfl, hb6⟩
      have HC6 := Aside0.mk (Kd.C_below HC5.out hb6)
      have HB6 := Aside0.mk (below_then HBW.out HBW.out.size hb6)
      clear hb6 HC5 HS' HBW HB4
      go_wp2_with fail
      have hp := show_Print.calls k ⟨#[102, 10]⟩ (some ⟨g, 0, none⟩) cl (l.set i x') s2 _ _ HC6.out (by rw [HL5.out]; exact hcl) (HGw.out.below HB6.out) HO5.out
      rw [HL5.out] at hp
      refine hp.mono ?_
      clear hp
      rintro e7 w7 ⟨rfl, hb7⟩
      have HC7 := Aside0.mk (Kd.C_below HC6.out hb7)
      have HB7 := Aside0.mk (below_then HB6.out HB6.out.size hb7)
      clear hb7 HC6 HB6
      obtain ⟨ad, A4, c4', e, hx0, hx1, hx2, hx3, hx4, hl4, hC4⟩ := at_T26 HC7.out (i : Int) (by omega) (by rw [HL5.out]; exact hiI)
      injection e with e
      subst e
      have hrd : rd_T26 (l.set i x') (i : Int) = x' := by
        unfold rd_T26
        rw [Int.toNat_natCast, List.getD_eq_getElem?_getD, List.getElem?_set_self hil]
        rfl
      rw [hrd] at hx0 hx1 hx2 hx3 hx4 hl4 hC4
      rw [Int.toNat_natCast, add_plain] at hx0 hx1 hx2 hx3 hx4
      have HC4 := Aside0.mk hC4
      clear hC4 hrd
      go_wp2_with fail
      refine (show_Check.calls k _ _ _ _ A4 c4' x'.f4 _ _ HC4.out hl4 HO6.out).mono ?_
      rintro e8 w8 ⟨rfl, hb8⟩
      have HB8 := Aside0.mk (below_then HB7.out HB7.out.size hb8)
      clear hb8
      go_wp2_with fail
      go_ret
      exact ⟨rfl, HB8.out⟩
    · obtain ⟨x', hx'⟩ : ∃ x', refH (c % 4) (rd_T26 l i) = x' := ⟨_, rfl⟩
      obtain ⟨wn, hwn⟩ : ∃ wn, refW (c % 4) = wn := ⟨_, rfl⟩
      obtain ⟨sE, hsE⟩ : ∃ sE : ByteArray, sE = ⟨#[]⟩ := ⟨_, rfl⟩
      have dE : (sE.toList == []) = true := by rw [hsE, ByteArray.toList_eq]; rfl
      rw [hx', hwn, ← hsE] at o4
      rw [hx', hwn] at o6
      clear hsE
      rw [hx'] at o5
      have q0 : (c % 4 == 0) = false := by rw [hc]; rfl
      have q1 : (c % 4 == 1) = false := by rw [hc]; rfl
      have q2 : (c % 4 == 2) = true := by rw [hc]; rfl
      have e4 := hat 4 _ rfl
      have l4 : (0 : Int) < ((rd_T26 l i).f4.length : Int) := by omega
      have hS' := s4 120
      have ex : x' = ⟨(rd_T26 l i).f0, (rd_T26 l i).f1, (rd_T26 l i).f2, (rd_T26 l i).f3, (rd_T26 l i).f4.set 0 ⟨120, (rd_T42 (rd_T26 l i).f4 0).f1, (rd_T42 (rd_T26 l i).f4 0).f2⟩⟩ := by
        rw [← hx', hc]
        rfl
      have ew : wn = 7 := by rw [← hwn, hc]; rfl
      rw [← ex] at hS'
      subst ew
      have HS' := Aside0.mk hS'
      have HO4 := Aside0.mk o4
      have HO5 := Aside0.mk o5
      have HO6 := Aside0.mk o6
      have hbl : w3.heap.size ≤ g4 := hb4g
      have HBW := Aside0.mk (below_then HB3s.out HW3.out (HB34.out.setCell (p := ⟨g4, 0, none⟩) hbl (.int .u8 120)))
      clear hat hfr s0 s1 s3 s4 hx' hwn ex hS' o4 o5 o6 hc hbl
      go_wp2_with fail
      have hcl : l.length ≤ cl := by have := (Kd.S_reads' HS'.out).2.1; omega
      have HC5 := Aside0.mk (Kd.S_reads' HS'.out).2.2
      have HL5 := Aside0.mk (show (l.set i x').length = l.length from List.length_set ..)
      have hp := show_Print.calls k ⟨#[102]⟩ (some ⟨g, 0, none⟩) cl (l.set i x') sE _ _ HC5.out (by rw [HL5.out]; exact hcl) (HGw.out.below HBW.out) HO4.out
      rw [HL5.out] at hp
      refine hp.mono ?_
      clear hp
      rintro e6 w6 ⟨rfl, hb6⟩
      have HC6 := Aside0.mk (Kd.C_below HC5.out hb6)
      have HB6 := Aside0.mk (below_then HBW.out HBW.out.size hb6)
      clear hb6 HC5 HS' HBW HB4
      go_wp2_with fail
      have hp := show_Print.calls k ⟨#[102, 10]⟩ (some ⟨g, 0, none⟩) cl (l.set i x') s2 _ _ HC6.out (by rw [HL5.out]; exact hcl) (HGw.out.below HB6.out) HO5.out
      rw [HL5.out] at hp
      refine hp.mono ?_
      clear hp
      rintro e7 w7 ⟨rfl, hb7⟩
      have HC7 := Aside0.mk (Kd.C_below HC6.out hb7)
      have HB7 := Aside0.mk (below_then HB6.out HB6.out.size hb7)
      clear hb7 HC6 HB6
      obtain ⟨ad, A4, c4', e, hx0, hx1, hx2, hx3, hx4, hl4, hC4⟩ := at_T26 HC7.out (i : Int) (by omega) (by rw [HL5.out]; exact hiI)
      injection e with e
      subst e
      have hrd : rd_T26 (l.set i x') (i : Int) = x' := by
        unfold rd_T26
        rw [Int.toNat_natCast, List.getD_eq_getElem?_getD, List.getElem?_set_self hil]
        rfl
      rw [hrd] at hx0 hx1 hx2 hx3 hx4 hl4 hC4
      rw [Int.toNat_natCast, add_plain] at hx0 hx1 hx2 hx3 hx4
      have HC4 := Aside0.mk hC4
      clear hC4 hrd
      go_wp2_with fail
      refine (show_Check.calls k _ _ _ _ A4 c4' x'.f4 _ _ HC4.out hl4 HO6.out).mono ?_
      rintro e8 w8 ⟨rfl, hb8⟩
      have HB8 := Aside0.mk (below_then HB7.out HB7.out.size hb8)
      clear hb8
      go_wp2_with fail
      go_ret
      exact ⟨rfl, HB8.out⟩
    · obtain ⟨x', hx'⟩ : ∃ x', refH (c % 4) (rd_T26 l i) = x' := ⟨_, rfl⟩
      obtain ⟨wn, hwn⟩ : ∃ wn, refW (c % 4) = wn := ⟨_, rfl⟩
      obtain ⟨sE, hsE⟩ : ∃ sE : ByteArray, sE = ⟨#[]⟩ := ⟨_, rfl⟩
      have dE : (sE.toList == []) = true := by rw [hsE, ByteArray.toList_eq]; rfl
      rw [hx', hwn, ← hsE] at o4
      rw [hx', hwn] at o6
      clear hsE
      rw [hx'] at o5
      have q0 : (c % 4 == 0) = false := by rw [hc]; rfl
      have q1 : (c % 4 == 1) = false := by rw [hc]; rfl
      have q2 : (c % 4 == 2) = false := by rw [hc]; rfl
      have e0 := hat 0 _ rfl
      have f0 := hfr 0
      rw [Nat.add_zero] at e0 f0
      have hS' := s0 (-1)
      rw [Nat.add_zero] at hS'
      have ex : x' = ⟨-1, (rd_T26 l i).f1, (rd_T26 l i).f2, (rd_T26 l i).f3, (rd_T26 l i).f4⟩ := by
        rw [← hx', hc]
        rfl
      have ew : wn = 2 := by rw [← hwn, hc]; rfl
      rw [← ex] at hS'
      subst ew
      have HS' := Aside0.mk hS'
      have HO4 := Aside0.mk o4
      have HO5 := Aside0.mk o5
      have HO6 := Aside0.mk o6
      have hbl : w3.heap.size ≤ g := hwg
      have HBW := Aside0.mk (below_then HB3s.out HW3.out (HB34.out.setCell (p := ⟨g, i * 5, none⟩) hbl (.int .i64 (-1))))
      clear hat hfr s0 s1 s3 s4 hx' hwn ex hS' o4 o5 o6 hc hbl
      go_wp2_with fail
      have hcl : l.length ≤ cl := by have := (Kd.S_reads' HS'.out).2.1; omega
      have HC5 := Aside0.mk (Kd.S_reads' HS'.out).2.2
      have HL5 := Aside0.mk (show (l.set i x').length = l.length from List.length_set ..)
      have hp := show_Print.calls k ⟨#[102]⟩ (some ⟨g, 0, none⟩) cl (l.set i x') sE _ _ HC5.out (by rw [HL5.out]; exact hcl) (HGw.out.below HBW.out) HO4.out
      rw [HL5.out] at hp
      refine hp.mono ?_
      clear hp
      rintro e6 w6 ⟨rfl, hb6⟩
      have HC6 := Aside0.mk (Kd.C_below HC5.out hb6)
      have HB6 := Aside0.mk (below_then HBW.out HBW.out.size hb6)
      clear hb6 HC5 HS' HBW HB4
      go_wp2_with fail
      have hp := show_Print.calls k ⟨#[102, 10]⟩ (some ⟨g, 0, none⟩) cl (l.set i x') s2 _ _ HC6.out (by rw [HL5.out]; exact hcl) (HGw.out.below HB6.out) HO5.out
      rw [HL5.out] at hp
      refine hp.mono ?_
      clear hp
      rintro e7 w7 ⟨rfl, hb7⟩
      have HC7 := Aside0.mk (Kd.C_below HC6.out hb7)
      have HB7 := Aside0.mk (below_then HB6.out HB6.out.size hb7)
      clear hb7 HC6 HB6
      obtain ⟨ad, A4, c4', e, hx0, hx1, hx2, hx3, hx4, hl4, hC4⟩ := at_T26 HC7.out (i : Int) (by omega) (by rw [HL5.out]; exact hiI)
      injection e with e
      subst e
      have hrd : rd_T26 (l.set i x') (i : Int) = x' := by
        unfold rd_T26
        rw [Int.toNat_natCast, List.getD_eq_getElem?_getD, List.getElem?_set_self hil]
        rfl
      rw [hrd] at hx0 hx1 hx2 hx3 hx4 hl4 hC4
      rw [Int.toNat_natCast, add_plain] at hx0 hx1 hx2 hx3 hx4
      have HC4 := Aside0.mk hC4
      clear hC4 hrd
      go_wp2_with fail
      refine (show_Check.calls k _ _ _ _ A4 c4' x'.f4 _ _ HC4.out hl4 HO6.out).mono ?_
      rintro e8 w8 ⟨rfl, hb8⟩
      have HB8 := Aside0.mk (below_then HB7.out HB7.out.size hb8)
      clear hb8
      go_wp2_with fail
      go_ret
      exact ⟨rfl, HB8.out⟩
end Go.Proofs.YthkcghiagnddiaaDoor.X
