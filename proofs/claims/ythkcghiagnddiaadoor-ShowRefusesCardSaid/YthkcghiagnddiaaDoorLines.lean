import Derived.Test.YthkcghiagnddiaaDoorBase
import Derived.Outline
import Derived.Deep.QuietTactic
import Derived.BigQuiet
import Derived.IntWalk
namespace Go.Proofs.YthkcghiagnddiaaDoor.X
open Go Go.RowKit Go.Proofs.YthkcghiagnddiaaDoorW.PrintWords Go.Proofs.YthkcghiagnddiaaDoorW.PrintLast Go.Proofs.YthkcghiagnddiaaDoorW.PrintMore
attribute [local go_sem] max2_int min2_int max_two min_two max_three min_three max_four min_four
set_option linter.unusedVariables false
set_option linter.unusedSimpArgs false
/-- Where lines begin, behind a place. -/
def lines_New.from_ : List Int → Int → List Int
  | [], _ => []
  | c :: t, i => if c = 10 then (i + 1) :: lines_New.from_ t (i + 1) else lines_New.from_ t (i + 1)
def lines_New.begins (l : List Int) : List Int := 0 :: lines_New.from_ l 0
theorem lines_New.from_snoc : ∀ (l : List Int) (c i : Int), lines_New.from_ (l ++ [c]) i = lines_New.from_ l i ++ (if c = 10 then [i + l.length + 1] else [])
  | [], c, i => by simp [lines_New.from_]
  | x :: t, c, i => by
    simp only [List.cons_append, lines_New.from_, lines_New.from_snoc t c (i + 1), List.length_cons]
    have e : i + 1 + (t.length : Int) + 1 = i + ((t.length + 1 : Nat) : Int) + 1 := by omega
    rw [e]
    split <;> simp
theorem lines_New.from_len : ∀ (l : List Int) (i : Int), (lines_New.from_ l i).length ≤ l.length
  | [], _ => Nat.le_refl _
  | x :: t, i => by
    have := lines_New.from_len t (i + 1)
    simp only [lines_New.from_, List.length_cons]
    split <;> simp <;> omega
/-- An index of lines, in memory: its block, the two rows that it holds. -/
def IsIdx (w : World) (g : Nat) (bs ys : List Int) : Prop := ∃ B vb vy, w.heap[g]? = some (.cells #[vb, vy] 144 (0, 0)) ∧ w.ownsRow B 3 1 vb bs.length (nums .i64 bs) ∧ w.ownsRow B 5 1 vy ys.length (nums .u8 ys)
theorem IsIdx.below {w w' : World} {g : Nat} {bs ys : List Int} (h : IsIdx w g bs ys) (hb : Below w.heap.size w w') : IsIdx w' g bs ys := by
  obtain ⟨B, vb, vy, h1, h2, h3⟩ := h
  exact ⟨B, vb, vy, (hb.block _ (blk_lt h1)).trans h1, pw_own_below h2 hb, pw_own_below h3 hb⟩
set_option maxHeartbeats 4000000 in
set_option maxRecDepth 1000000 in
theorem lines_New.calls (A0 : Option Addr) (c0 : Nat) (l0 : List Int) (w : World) (hr0 : Kd.C (Kd.int .u8) w A0 l0.length l0) (hc0 : l0.length ≤ c0) (hL : l0.length ≤ 1099511627776) :
    Calls Tryd.prog 55 #[.slice A0 l0.length c0] w fun e w' => ∃ g, e = .returned (.pointer (some ⟨g, 0, none⟩)) ∧ IsIdx w' g (lines_New.begins l0) l0 ∧ Below w.heap.size w w' := by
  have hR : ReadsInt w .u8 A0 l0.length l0 := Kd.reads_of_C (enc := Value.int .u8) (d := (0 : Int)) (h1 := fun _ => rfl) hr0
  have HR := Aside0.mk hR
  clear hr0 hR
  have i3 : (Tryd.prog.info? 3).map (fun i => (i.zero, i.size, i.bytes)) = some (some (.int .i64 0), 1, 8) := by kernel_rfl
  have i5 : (Tryd.prog.info? 5).map (fun i => (i.zero, i.size, i.bytes)) = some (some (.int .u8 0), 1, 1) := by kernel_rfl
  have u34 : Tryd.prog.underlying 34 = some (.slice 5) := by kernel_rfl
  have u44 : Tryd.prog.underlying 44 = some (.slice 3) := by kernel_rfl
  have hO1 : ((w.alloc (.cells #[.int .i64 0] 3)).alloc (.cells #[] 5)).ownsRow w.heap.size 3 1 (.slice (some ⟨w.heap.size, 0, none⟩) 1 1) 1 (nums .i64 [0]) := by
    refine World.ownsRow.alloc (⟨by simp [nums], .inr ⟨w.heap.size, 1, #[.int .i64 0], rfl, Nat.le_refl _, blk_new _ _, by omega, by decide, by simp, by simp [nums]⟩⟩) _
  have hO2 : ((w.alloc (.cells #[.int .i64 0] 3)).alloc (.cells #[] 5)).ownsRow w.heap.size 5 1 (.slice (some ⟨w.heap.size + 1, 0, none⟩) 0 0) ([] : List Int).length (nums .u8 []) := by
    refine ⟨by simp [nums], .inr ⟨w.heap.size + 1, 0, #[], rfl, by omega, ?_, by simp, by decide, by simp, by simp [nums]⟩⟩
    have := blk_new (w.alloc (.cells #[.int .i64 0] 3)) (.cells #[] 5)
    simpa using this
  have hR2 : ReadsInt ((w.alloc (.cells #[.int .i64 0] 3)).alloc (.cells #[] 5)) .u8 A0 l0.length l0 := ReadsInt.below HR.out (below_alloc (below_alloc (Below.refl _ _) _) _)
  have HO1 := Aside0.mk hO1
  have HO2 := Aside0.mk hO2
  have HR2 := Aside0.mk hR2
  clear hO1 hO2 hR2
  go_enter Tryd.func55, Tryd.ntmps55
  go_wp2_with (at_builtin; refine print_append_row (w0 := w) w.heap.size rfl (.tmp 7) (.tmp 8) 34 5 .u8 1 rfl u34 i5 (by omega) (.slice (some ⟨w.heap.size + 1, 0, none⟩) 0 0) [] l0 A0 l0.length c0 rfl rfl HO2.out HR2.out (below_alloc (below_alloc (Below.refl _ _) _) _) (by simp; omega) (by simp; omega) ?_; intro vy w1 hy hb1 hg1 _; obtain ⟨Ay, cy, rfl, hry⟩ := own_reads hy; have HY := Aside0.mk hy; have HB1 := Aside0.mk hb1; have hO3 := own_other HO1.out hg1 (.inr (by simp [Value.ownBlock])); have HO3 := Aside0.mk hO3; clear hy hb1 hg1 hry hO3)
  have hsz1 := HB1.out.size
  have hnew := blk_new w1 (.cells #[.slice (some ⟨w.heap.size, 0, none⟩) 1 1, .slice Ay l0.length cy] 144)
  go_loopw [14] (fun v wr => ∃ (i : Int), v = .int .i64 i ∧ 0 ≤ i ∧ i ≤ l0.length ∧ Aside0 (∃ vb, wr.heap[w1.heap.size]? = some (.cells #[vb, .slice Ay l0.length cy] 144 (0, 0)) ∧ wr.ownsRow w.heap.size 3 1 vb (0 :: lines_New.from_ (l0.take i.toNat) 0).length (nums .i64 (0 :: lines_New.from_ (l0.take i.toNat) 0))) ∧ Aside0 (wr.ownsRow w.heap.size 5 1 (.slice Ay l0.length cy) l0.length (nums .u8 l0)) ∧ Aside0 (Below w.heap.size w wr)) (fun v _ => l0.length - (intOf v).toNat)
  case atStart => exact ⟨0, rfl, by omega, by omega, ⟨_, hnew, HO3.out.alloc _⟩, ⟨HY.out.alloc _⟩, ⟨HB1.out.alloc hsz1 _⟩⟩
  case round =>
    clear hnew HO3 HY HB1 HO1 HO2 HR2
    obtain ⟨i, rfl, hi0, hi1, HX, HY, HB⟩ := hrel
    by_cases hlt : i < (l0.length : Int)
    · obtain ⟨ad, e, hx⟩ := HR.out.at_ i hi0 hlt
      cases e
      replace hx := (HB.out.cell (World.block_lt_of_cell? w _ hx)).trans hx
      have hsn : (0 :: lines_New.from_ (l0.take (i + 1).toNat) 0) = (0 :: lines_New.from_ (l0.take i.toNat) 0) ++ (if rd l0 i = 10 then [i + 1] else []) := by
        rw [show (i + 1).toNat = i.toNat + 1 by omega, List.take_succ_eq_append_getElem (by omega), lines_New.from_snoc]
        have hrd : l0[i.toNat] = rd l0 i := by
          unfold rd
          rw [List.getD_eq_getElem?_getD, List.getElem?_eq_getElem (by omega)]
          rfl
        have hl : ((l0.take i.toNat).length : Int) = i := by rw [List.length_take]; omega
        rw [hrd, hl, Int.zero_add]
        simp
      have hsn := Aside0.mk hsn
      have hln : (0 :: lines_New.from_ (l0.take i.toNat) 0).length ≤ 1099511627777 := by
        have := lines_New.from_len (l0.take i.toNat) 0
        rw [List.length_take] at this
        simp only [List.length_cons]
        omega
      obtain ⟨vb, hblk, hown⟩ := HX.out
      have hgs : w1.heap.size < wr.heap.size := blk_lt hblk
      have hBB := HB.out.size
      clear HX
      by_cases hc : rd l0 i = 10
      · have hsn2 := hsn.out
        rw [if_pos hc] at hsn2
        have hsn2 := Aside0.mk hsn2
        have hne : some w1.heap.size ≠ vb.ownBlock := by
          intro e
          obtain ⟨cells, hc'⟩ := own_typed hown w1.heap.size e.symm
          rw [hblk] at hc'
          simp at hc'
        have hcb : ((rd l0 i) == 10) = true := beq_iff_eq.2 hc
        have hc0 := blk_cell hblk 0
        have hf0 := blk_frozen hblk 0
        simp only [List.getElem?_toArray] at hc0
        have HBK := Aside0.mk hblk
        have HO := Aside0.mk hown
        have HNE := Aside0.mk hne
        generalize hbs : (0 :: lines_New.from_ (l0.take i.toNat) 0) = bs at *
        clear hblk hown hne hsn hbs hc
        go_wp2_with (at_builtin; refine print_append_num (w0 := w) w.heap.size rfl (.tmp 25) (.tmp 28) 44 3 .i64 8 rfl u44 i3 (by omega) vb bs (i + 1) rfl rfl HO.out HB.out hBB (by omega) ?_; intro v1 w2 hown1 hb2 hg2 _; obtain ⟨Av, cv, rfl, _⟩ := own_reads hown1; have hblk2 := (hg2.block _ hgs HNE.out).trans HBK.out; have hc2 := blk_cell hblk2 0; have hf2 := blk_frozen hblk2 0; simp only [List.getElem?_toArray] at hc2; have HO2 := Aside0.mk hown1; have HB2 := Aside0.mk hb2; have HG2 := Aside0.mk hg2; have HK2 := Aside0.mk hblk2; clear hown1 hb2 hg2 hblk2)
        go_roundw
        case rel =>
          have hown3 := own_setCell HO2.out (p := ⟨w1.heap.size, 0, none⟩) (by
            intro e
            obtain ⟨cells, hc'⟩ := own_typed HO2.out w1.heap.size (by simpa using e.symm)
            rw [HK2.out] at hc'
            simp at hc') (.slice Av (bs.length + 1) cv)
          have hy2 : w2.ownsRow w.heap.size 5 1 (.slice Ay l0.length cy) l0.length (nums .u8 l0) := own_other HY.out HG2.out (own_type_ne HY.out HO.out (by decide))
          have hy3 := own_setCell hy2 (p := ⟨w1.heap.size, 0, none⟩) (by
            intro e
            obtain ⟨cells, hc'⟩ := own_typed hy2 w1.heap.size (by simpa using e.symm)
            rw [HK2.out] at hc'
            simp at hc') (.slice Av (bs.length + 1) cv)
          have hbk3 : (w2.setCell ⟨w1.heap.size, 0, none⟩ (.slice Av (bs.length + 1) cv)).heap[w1.heap.size]? = some (.cells #[.slice Av (bs.length + 1) cv, .slice Ay l0.length cy] 144 (0, 0)) := blk_set HK2.out 0 (.slice Av (bs.length + 1) cv)
          refine ⟨i + 1, rfl, by omega, by omega, ⟨_, hbk3, ?_⟩, ⟨hy3⟩, ⟨below_set HB2.out (by omega)⟩⟩
          rw [hsn2.out]
          simpa only [List.length_append, List.length_singleton] using hown3
        case measure => simp [intOf]; omega
      · have hsn2 := hsn.out
        rw [if_neg hc, List.append_nil] at hsn2
        have hcb : ((rd l0 i) == 10) = false := beq_eq_false_iff_ne.2 hc
        have hX : ∃ vb, wr.heap[w1.heap.size]? = some (.cells #[vb, .slice Ay l0.length cy] 144 (0, 0)) ∧ wr.ownsRow w.heap.size 3 1 vb (0 :: lines_New.from_ (l0.take (i + 1).toNat) 0).length (nums .i64 (0 :: lines_New.from_ (l0.take (i + 1).toNat) 0)) := ⟨vb, hblk, by rw [hsn2]; exact hown⟩
        have HX := Aside0.mk hX
        clear hblk hown hsn hsn2 hc hX
        go_wp2_with fail
        go_roundw
        case rel => exact ⟨i + 1, rfl, by omega, by omega, HX, HY, HB⟩
        case measure => simp [intOf]; omega
    · obtain ⟨vb, hblk, hown⟩ := HX.out
      rw [List.take_of_length_le (by omega)] at hown
      have hI : IsIdx wr w1.heap.size (lines_New.begins l0) l0 := ⟨_, _, _, hblk, hown, HY.out⟩
      have HI := Aside0.mk hI
      clear hblk hown HX hI
      go_wp2_with fail
      go_ret
      exact ⟨_, rfl, HI.out, HB.out⟩

end Go.Proofs.YthkcghiagnddiaaDoor.X
namespace Go.Proofs.YthkcghiagnddiaaDoor.X
open Go Go.RowKit Go.Proofs.YthkcghiagnddiaaDoorW.PrintWords Go.Proofs.YthkcghiagnddiaaDoorW.PrintLast Go.Proofs.YthkcghiagnddiaaDoorW.PrintMore
attribute [local go_sem] max2_int min2_int max_two min_two max_three min_three max_four min_four
set_option linter.unusedVariables false
set_option linter.unusedSimpArgs false
/-- How many lines: begins that are not the end. -/
def lines_Lines.f (bs : List Int) (n : Nat) : Int := if rd bs ((bs.length : Int) - 1) = n then (bs.length : Int) - 1 else bs.length
set_option maxHeartbeats 4000000 in
set_option maxRecDepth 1000000 in
theorem lines_Lines.calls (g : Nat) (bs ys : List Int) (w : World) (hI : IsIdx w g bs ys) (hn : 1 ≤ bs.length) (hm : bs.length ≤ 1099511627777) :
    Calls Tryd.prog 56 #[.pointer (some ⟨g, 0, none⟩)] w fun e w' => e = .returned (.int .i64 (lines_Lines.f bs ys.length)) ∧ ∃ n, w' = w.drewN n := by
  obtain ⟨B, vb, vy, h1, h2, h3⟩ := hI
  obtain ⟨Ab, cb, rfl, hb⟩ := own_reads h2
  obtain ⟨Ay, cy, rfl, hy⟩ := own_reads h3
  have c0 := blk_cell h1 0
  have c1 := blk_cell h1 1
  simp only [List.getElem?_toArray] at c0 c1
  obtain ⟨ad, e, hx⟩ := hb.at_ ((bs.length : Int) - 1) (by omega) (by omega)
  cases e
  clear hb hy h1 h2 h3
  unfold lines_Lines.f
  have sw : IntKind.i64.wrap ((bs.length : Int) - 1) = (bs.length : Int) - 1 := IntWalk.i64_in _ (by omega)
  have s0 : 0 ≤ (bs.length : Int) - 1 := by omega
  have s1 : (bs.length : Int) - 1 < bs.length := by omega
  obtain ⟨m, hm'⟩ : ∃ m : Int, (bs.length : Int) - 1 = m := ⟨_, rfl⟩
  have s2 : (1 : Int) ≤ bs.length := by omega
  have s3 : 0 < bs.length := by omega
  have hx2 := hx
  rw [show ((bs.length : Int) - 1).toNat = bs.length - 1 by omega] at hx2
  have s02 := s0
  have s12 := s1
  rw [hm'] at hx2 s02 s12 ⊢
  have HM := Aside0.mk hm'
  have sw : IntKind.i64.wrap ((bs.length : Int) - 1) = m := by rw [sw, hm']
  clear hm'
  by_cases hc : rd bs m = ys.length
  · rw [if_pos hc]
    have hd := beq_iff_eq.2 hc
    have he := hd
    rw [← HM.out] at he
    have hd2 := decide_eq_true hc
    clear hc
    go_enter Tryd.func56, Tryd.ntmps56
    go_wp2_with fail
    go_quiet (fail)
    go_wp2_with fail
    go_ret
    refine ⟨?_, _, rfl⟩
    show Ending.returned (.int .i64 ((bs.length : Int) - 1)) = _
    rw [HM.out]
  · rw [if_neg hc]
    have hd := beq_eq_false_iff_ne.2 hc
    have he := hd
    rw [← HM.out] at he
    have hd2 := decide_eq_false hc
    clear hc
    go_enter Tryd.func56, Tryd.ntmps56
    go_wp2_with fail
    go_quiet (fail)
    go_wp2_with fail
    go_ret
    exact ⟨rfl, _, rfl⟩

/-- A line's span: where it begins, how long it is. -/
def lines_Span.at_ (bs : List Int) (line : Int) : Int := rd bs (line - 1)
def lines_Span.end_ (bs : List Int) (n : Nat) (line : Int) : Int := if line < bs.length then rd bs line else n
theorem IsIdx.drewN {w : World} {g : Nat} {bs ys : List Int} (h : IsIdx w g bs ys) (n : Nat) : IsIdx (w.drewN n) g bs ys := h.below (pw_below_drewN (Below.refl _ _) n)
set_option maxHeartbeats 4000000 in
set_option maxRecDepth 1000000 in
theorem lines_Span.calls (g : Nat) (bs ys : List Int) (line : Int) (w : World) (hI : IsIdx w g bs ys) (hn : 1 ≤ bs.length) (hm : bs.length ≤ 1099511627777) (hy : ys.length ≤ 1099511627776) (hv : ∀ i, 0 ≤ rd bs i ∧ rd bs i ≤ 1099511627776) (h1 : 1 ≤ line) (h2 : line ≤ lines_Lines.f bs ys.length) :
    Calls Tryd.prog 57 #[.pointer (some ⟨g, 0, none⟩), .int .i64 line] w fun e w' => e = .returned (.tuple #[.agg #[.int .i64 (lines_Span.at_ bs line), .int .i64 (lines_Span.end_ bs ys.length line - lines_Span.at_ bs line)], .int .i64 0]) ∧ Below w.heap.size w w' := by
  have HI := Aside0.mk hI
  have hll : line ≤ bs.length := by
    unfold lines_Lines.f at h2
    split at h2 <;> omega
  have hd1 : decide (line < 1) = false := decide_eq_false (by omega)
  have hd2 : decide (lines_Lines.f bs ys.length < line) = false := decide_eq_false (by omega)
  have ha := hv (line - 1)
  have hv' := hv line
  clear hv
  obtain ⟨B, vb, vy, g1, g2, g3⟩ := hI
  obtain ⟨Ab, cb, rfl, hb⟩ := own_reads g2
  obtain ⟨Ay, cy, rfl, hyr⟩ := own_reads g3
  have c0 := blk_cell g1 0
  have c1 := blk_cell g1 1
  simp only [List.getElem?_toArray] at c0 c1
  obtain ⟨ad, e, hx⟩ := hb.at_ (line - 1) (by omega) (by omega)
  cases e
  have HB := Aside0.mk hb
  rw [show (line - 1).toNat = line.toNat - 1 by omega] at hx
  clear hb hyr g1 g2 g3
  unfold lines_Span.at_ lines_Span.end_
  by_cases hc : line < (bs.length : Int)
  · rw [if_pos hc]
    obtain ⟨ad2, e, hx2⟩ := HB.out.at_ line (by omega) hc
    cases e
    have hd := decide_eq_true hc
    have hl0 : 0 ≤ line := by omega
    go_enter Tryd.func57, Tryd.ntmps57
    go_wp2_with (go_at_call 56; refine (lines_Lines.calls g bs ys _ (HI.out.below (below_alloc (Below.refl _ _) _)) hn hm).mono ?_; rintro e w1 ⟨rfl, nq, hw1⟩; have hb1 : Below w.heap.size w w1 := (by rw [hw1]; exact pw_below_drewN (below_alloc (Below.refl _ _) _) _); have hk : w1.heap[w.heap.size]? = some (.cells #[.int .i64 0, .int .i64 0] 112 (0, 0)) := (by rw [hw1]; exact blk_drewN (blk_new w _) _); have k0 := blk_cell hk 0; have k1 := blk_cell hk 1; have f0 := blk_frozen hk 0; have f1 := blk_frozen hk 1; simp only [List.getElem?_toArray] at k0 k1; have HK := Aside0.mk hk; clear hw1 hk; have c0 := (hb1.cell (World.block_lt_of_cell? w _ c0)).trans c0; have c1 := (hb1.cell (World.block_lt_of_cell? w _ c1)).trans c1; have hx := (hb1.cell (World.block_lt_of_cell? w _ hx)).trans hx; have hx2 := (hb1.cell (World.block_lt_of_cell? w _ hx2)).trans hx2; have HB1 := Aside0.mk hb1; clear hb1)
    have hg : ((w1.setCell ⟨w.heap.size, 0, none⟩ (.int .i64 (rd bs (line - 1)))).setCell ⟨w.heap.size, 1, none⟩ (.int .i64 (rd bs line - rd bs (line - 1)))).heap[w.heap.size]? = some (.cells #[.int .i64 (rd bs (line - 1)), .int .i64 (rd bs line - rd bs (line - 1))] 112 (0, 0)) := blk_set (blk_set HK.out 0 _) 1 _
    refine bodyPost_ret (results_ct rfl _ _ w.heap.size _ _ (0, 0) _ rfl hg Tryd.underlying112 rfl (by kernel_rfl)) rfl ?_
    exact ⟨rfl, below_set (below_set HB1.out (Nat.le_refl _)) (Nat.le_refl _)⟩
  · rw [if_neg hc]
    have hd := decide_eq_false hc
    clear hc
    go_enter Tryd.func57, Tryd.ntmps57
    go_wp2_with (go_at_call 56; refine (lines_Lines.calls g bs ys _ (HI.out.below (below_alloc (Below.refl _ _) _)) hn hm).mono ?_; rintro e w1 ⟨rfl, nq, hw1⟩; have hb1 : Below w.heap.size w w1 := (by rw [hw1]; exact pw_below_drewN (below_alloc (Below.refl _ _) _) _); have hk : w1.heap[w.heap.size]? = some (.cells #[.int .i64 0, .int .i64 0] 112 (0, 0)) := (by rw [hw1]; exact blk_drewN (blk_new w _) _); have k0 := blk_cell hk 0; have k1 := blk_cell hk 1; have f0 := blk_frozen hk 0; have f1 := blk_frozen hk 1; simp only [List.getElem?_toArray] at k0 k1; have HK := Aside0.mk hk; clear hw1 hk; have c0 := (hb1.cell (World.block_lt_of_cell? w _ c0)).trans c0; have c1 := (hb1.cell (World.block_lt_of_cell? w _ c1)).trans c1; have hx := (hb1.cell (World.block_lt_of_cell? w _ hx)).trans hx; have HB1 := Aside0.mk hb1; clear hb1)
    have hg : ((w1.setCell ⟨w.heap.size, 0, none⟩ (.int .i64 (rd bs (line - 1)))).setCell ⟨w.heap.size, 1, none⟩ (.int .i64 ((ys.length : Int) - rd bs (line - 1)))).heap[w.heap.size]? = some (.cells #[.int .i64 (rd bs (line - 1)), .int .i64 ((ys.length : Int) - rd bs (line - 1))] 112 (0, 0)) := blk_set (blk_set HK.out 0 _) 1 _
    refine bodyPost_ret (results_ct rfl _ _ w.heap.size _ _ (0, 0) _ rfl hg Tryd.underlying112 rfl (by kernel_rfl)) rfl ?_
    exact ⟨rfl, below_set (below_set HB1.out (Nat.le_refl _)) (Nat.le_refl _)⟩
end Go.Proofs.YthkcghiagnddiaaDoor.X
namespace Go.Proofs.YthkcghiagnddiaaDoor.X
open Go Go.RowKit Go.Proofs.YthkcghiagnddiaaDoorW.PrintWords Go.Proofs.YthkcghiagnddiaaDoorW.PrintLast Go.Proofs.YthkcghiagnddiaaDoorW.PrintMore
attribute [local go_sem] max2_int min2_int max_two min_two max_three min_three max_four min_four
set_option linter.unusedVariables false
set_option linter.unusedSimpArgs false
/-- The bytes of one line (from 1 on). -/
def lSplit.cut (l : List Int) (line : Int) : List Int := (l.take (lines_Span.end_ (lines_New.begins l) l.length line).toNat).drop (lines_Span.at_ (lines_New.begins l) line).toNat
def lSplit.upto (l : List Int) (n : Nat) : List ByteArray := (List.range n).map fun (i : Nat) => strOfNums (lSplit.cut l ((i : Int) + 1))
def lSplit.f (l : List Int) : List ByteArray := lSplit.upto l (lines_Lines.f (lines_New.begins l) l.length).toNat
theorem lines_New.from_vals : ∀ (l : List Int) (i : Int), 0 ≤ i → ∀ x ∈ lines_New.from_ l i, i < x ∧ x ≤ i + l.length
  | [], i, _, x, h => by simp [lines_New.from_] at h
  | c :: t, i, h0, x, h => by
    have key := lines_New.from_vals t (i + 1) (by omega)
    simp only [lines_New.from_] at h
    simp only [List.length_cons]
    split at h
    · rcases List.mem_cons.1 h with rfl | h
      · omega
      · have := key x h; omega
    · have := key x h; omega
theorem lines_New.vals (l : List Int) (i : Int) : 0 ≤ rd (lines_New.begins l) i ∧ rd (lines_New.begins l) i ≤ l.length := by
  have h : ∀ x ∈ lines_New.begins l, 0 ≤ x ∧ x ≤ l.length := by
    intro x hx
    rcases List.mem_cons.1 hx with rfl | hx
    · omega
    · have := lines_New.from_vals l 0 (by omega) x hx; omega
  unfold rd
  rw [List.getD_eq_getElem?_getD]
  cases hc : (lines_New.begins l)[i.toNat]? with
  | none => simp
  | some x => simpa using h x (List.mem_of_getElem? hc)
theorem lines_New.rising : ∀ (l : List Int) (i : Int), (i :: lines_New.from_ l i).Pairwise (· ≤ ·)
  | [], i => by simp [lines_New.from_]
  | c :: t, i => by
    have key := lines_New.rising t (i + 1)
    have hv := lines_New.from_vals
    simp only [lines_New.from_]
    split
    · refine List.pairwise_cons.2 ⟨fun x hx => ?_, key⟩
      rcases List.mem_cons.1 hx with rfl | hx
      · omega
      · have := List.rel_of_pairwise_cons key hx; omega
    · refine List.pairwise_cons.2 ⟨fun x hx => ?_, (List.pairwise_cons.1 key).2⟩
      have := List.rel_of_pairwise_cons key hx; omega
theorem lines_New.step (l : List Int) (i : Int) (h0 : 0 ≤ i) (h1 : i + 1 < ((lines_New.begins l).length : Int)) : rd (lines_New.begins l) i ≤ rd (lines_New.begins l) (i + 1) := by
  have hp := lines_New.rising l 0
  rw [List.pairwise_iff_getElem] at hp
  have := hp i.toNat (i + 1).toNat (by show i.toNat < (lines_New.begins l).length; omega) (by show (i + 1).toNat < (lines_New.begins l).length; omega) (by omega)
  unfold rd
  rw [List.getD_eq_getElem?_getD, List.getD_eq_getElem?_getD, List.getElem?_eq_getElem (by omega), List.getElem?_eq_getElem (by omega)]
  exact this
theorem lines_Span.le (l : List Int) (line : Int) (h1 : 1 ≤ line) (h2 : line ≤ (lines_New.begins l).length) :
    0 ≤ lines_Span.at_ (lines_New.begins l) line ∧ lines_Span.at_ (lines_New.begins l) line ≤ lines_Span.end_ (lines_New.begins l) l.length line ∧ lines_Span.end_ (lines_New.begins l) l.length line ≤ l.length := by
  have ha := lines_New.vals l (line - 1)
  have he := lines_New.vals l line
  unfold lines_Span.at_ lines_Span.end_
  split
  · rename_i hc
    have := lines_New.step l (line - 1) (by omega) (by omega)
    rw [show line - 1 + 1 = line by omega] at this
    omega
  · omega
theorem lines_New.len (l : List Int) : 1 ≤ (lines_New.begins l).length ∧ (lines_New.begins l).length ≤ l.length + 1 := by
  have := lines_New.from_len l 0
  simp only [lines_New.begins, List.length_cons]
  omega
theorem lines_Lines.le (l : List Int) : 0 ≤ lines_Lines.f (lines_New.begins l) l.length ∧ lines_Lines.f (lines_New.begins l) l.length ≤ (lines_New.begins l).length := by
  have := lines_New.len l
  unfold lines_Lines.f
  split <;> omega
set_option maxHeartbeats 4000000 in
set_option maxRecDepth 1000000 in
theorem lSplit.calls (A0 : Option Addr) (c0 : Nat) (l0 : List Int) (w : World) (hr0 : Kd.C (Kd.int .u8) w A0 l0.length l0) (hc0 : l0.length ≤ c0) (hL : l0.length ≤ 1000000000) :
    Calls Tryd.prog 31 #[.slice A0 l0.length c0] w fun e w' => ∃ v, e = .returned v ∧ Kd.R Kd.string 9 w' w.heap.size (fun _ => True) v (lSplit.f l0) ∧ Below w.heap.size w w' := by
  have hR : ReadsInt w .u8 A0 l0.length l0 := Kd.reads_of_C (enc := Value.int .u8) (d := (0 : Int)) (h1 := fun _ => rfl) hr0
  have HR := Aside0.mk hR
  have HK := Aside0.mk hr0
  clear hr0 hR
  go_enter Tryd.func31, Tryd.ntmps31
  go_wp2_with (go_at_call 55; refine (lines_New.calls A0 c0 l0 w HK.out hc0 (by omega)).mono ?_; rintro e w1 ⟨g, rfl, hI, hb1⟩; have HI := Aside0.mk hI; have HB := Aside0.mk hb1; clear hI hb1)
  go_wp2_with (go_at_call 56; refine (lines_Lines.calls g _ _ w1 HI.out (lines_New.len l0).1 (by have := (lines_New.len l0).2; omega)).mono ?_; rintro e w2 ⟨rfl, nq, rfl⟩)
  have hn0 := (lines_Lines.le l0).1
  have hn1 := (lines_Lines.le l0).2
  have hn2 := (lines_New.len l0).2
  have HE : Aside0 (lSplit.f l0 = lSplit.upto l0 (lines_Lines.f (lines_New.begins l0) l0.length).toNat) := ⟨rfl⟩
  obtain ⟨nl, hnl⟩ : ∃ nl : Int, lines_Lines.f (lines_New.begins l0) l0.length = nl := ⟨_, rfl⟩
  rw [hnl] at hn0 hn1 HE ⊢
  have HN := Aside0.mk hnl
  clear hnl
  have ty34 : Tryd.prog.underlying 34 = some (.slice 5) := by kernel_rfl
  have ty73 : Tryd.prog.underlying 73 = some (.slice 9) := by kernel_rfl
  have ty9 : Tryd.prog.underlying 9 = some .string := by kernel_rfl
  have ty5 : Tryd.prog.underlying 5 = some (.int .u8) := by kernel_rfl
  have i9 : (Tryd.prog.info? 9).map (fun i => (i.zero, i.size, i.bytes)) = some (some (.string ⟨#[]⟩), 1, 16) := by kernel_rfl
  have i5 : (Tryd.prog.info? 5).map (fun i => (i.zero, i.size, i.bytes)) = some (some (.int .u8 0), 1, 1) := by kernel_rfl
  obtain ⟨ti, hi5, hti⟩ := Option.map_eq_some_iff.1 i5
  have hsz5 : ti.size = 1 := congrArg (fun x => x.2.1) hti
  clear hti i5
  go_loopw [3, 12] (fun vo v wr => ∃ (i : Int), v = .int .i64 i ∧ 0 ≤ i ∧ i ≤ nl ∧ Aside0 (Kd.R Kd.string 9 wr w1.heap.size (fun _ => True) vo (lSplit.upto l0 i.toNat)) ∧ Aside0 (Below w1.heap.size w1 wr)) (fun _ v _ => nl.toNat - (intOf v).toNat)
  case atStart => exact ⟨0, rfl, by omega, by omega, ⟨Kd.R_nil _ _ _ _ _⟩, ⟨pw_below_drewN (Below.refl _ _) _⟩⟩
  case round =>
    obtain ⟨i, rfl, hi0, hi1, HO, HBr⟩ := hrel
    by_cases hlt : i < nl
    · have hlast : lSplit.upto l0 (i + 1).toNat = lSplit.upto l0 i.toNat ++ [strOfNums (lSplit.cut l0 (i + 1))] := by
        unfold lSplit.upto
        rw [show (i + 1).toNat = i.toNat + 1 by omega, List.range_succ, List.map_append, List.map_singleton, show ((i.toNat : Nat) : Int) = i by omega]
      have hcut := lines_Span.le l0 (i + 1) (by omega) (by omega)
      have hwr := HBr.out.size
      have hC : lSplit.cut l0 (i + 1) = (l0.take (lines_Span.end_ (lines_New.begins l0) l0.length (i + 1)).toNat).drop (lines_Span.at_ (lines_New.begins l0) (i + 1)).toNat := rfl
      have HS := Aside0.mk (lines_Span.calls g _ _ (i + 1) _ (HI.out.below HBr.out) (lines_New.len l0).1 (by omega) (by omega) (fun j => by have := lines_New.vals l0 j; omega) (by omega) (by rw [HN.out]; omega))
      obtain ⟨a, ha⟩ : ∃ a, lines_Span.at_ (lines_New.begins l0) (i + 1) = a := ⟨_, rfl⟩
      obtain ⟨d, hd⟩ : ∃ d, lines_Span.end_ (lines_New.begins l0) l0.length (i + 1) = a + d := ⟨lines_Span.end_ (lines_New.begins l0) l0.length (i + 1) - a, by omega⟩
      rw [ha, hd, show a + d - a = d by omega] at HS
      rw [ha, hd] at hcut hC
      rw [hC] at hlast
      have HL := Aside0.mk hlast
      clear ha hd hC hlast
      obtain ⟨A', hsl, hrd, hle⟩ := print_mid_int (P := Tryd.prog) (k := .u8) 34 5 ty34 hi5 hsz5 A0 c0 l0 a (a + d) hcut.1 hcut.2.1 hcut.2.2 hc0
      have hd0 : 0 ≤ d := by omega
      have hlen : ((l0.take (a + d).toNat).drop a.toNat).length = (a + d).toNat - a.toNat := by rw [List.length_drop, List.length_take]; omega
      rw [hlen] at hsl hrd
      generalize hcs : (l0.take (a + d).toNat).drop a.toNat = cs at *
      clear hcs hlen hle
      go_wp2_with (first | (go_at_call 57; refine HS.out.mono ?_; rintro e w3 ⟨rfl, hb3⟩; have hrw := ReadsInt.below HR.out (below_alloc (below_then HB.out HB.out.size (below_then HBr.out hwr hb3)) (.cells #[.int .i64 a, .int .i64 d] 112)); have hcv := string_of_reads (P := Tryd.prog) (src := 34) (dst := 9) (c := c0 - a.toNat) ty34 ty5 ty9 (hrd _ hrw); have HB3 := Aside0.mk (below_then HBr.out hwr hb3); have HO3 := Aside0.mk (Kd.R_below HO.out hb3); clear hb3 hrw HO HBr HS) | (at_builtin; refine Kd.R_append Kd.string (w0 := w1) w1.heap.size rfl (.tmp 22) (.tmp 33) 73 9 (.string ⟨#[]⟩) 16 rfl ty73 i9 rfl (by decide) (by omega) u3 (lSplit.upto l0 i.toNat) (strOfNums cs) [.string (strOfNums cs)] (fun _ => True) (fun _ => False) rfl (congrArg (fun n => Value.slice (some ⟨n, 0, none⟩) 1 1) (Array.size_push (xs := w3.heap) _).symm) rfl (fun _ hk => hk.elim) (fun _ _ => trivial) ?aO ?aB ?aS ?aL ?_; (case aO => exact Kd.R_alloc HO3.out _); (case aB => exact below_alloc HB3.out _); (case aS => exact (below_alloc HB3.out _).size); (case aL => rw [show (lSplit.upto l0 i.toNat).length = i.toNat by simp [lSplit.upto]]; omega); intro v1 w4 hR4 hb4 _ _; have HO4 := Aside0.mk hR4; have HB4 := Aside0.mk hb4; clear hR4 hb4))
      go_roundw
      case rel =>
        refine ⟨i + 1, rfl, by omega, by omega, ⟨?_⟩, HB4⟩
        rw [HL.out]
        exact HO4.out
      case measure => simp [intOf]; omega
    · have hR5 := Kd.R_lower HO.out HB.out.size
      rw [show i = nl by omega, ← HE.out] at hR5
      have HR5 := Aside0.mk hR5
      have HB5 := Aside0.mk (below_then HB.out HB.out.size HBr.out)
      clear hR5
      go_wp2_with fail
      go_ret
      exact ⟨_, rfl, HR5.out, HB5.out⟩
end Go.Proofs.YthkcghiagnddiaaDoor.X
