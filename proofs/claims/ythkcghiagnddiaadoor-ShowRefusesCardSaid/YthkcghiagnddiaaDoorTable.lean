import Derived.Test.YthkcghiagnddiaaDoorBase
import Derived.Outline
import Derived.Deep.QuietTactic
import Derived.BigQuiet
import Derived.IntWalk
import Derived.StillTailTactics
namespace Go.Proofs.YthkcghiagnddiaaDoor.X
open Go Go.RowKit Go.Proofs.YthkcghiagnddiaaDoorW.PrintWords Go.Proofs.YthkcghiagnddiaaDoorW.PrintLast Go.Proofs.YthkcghiagnddiaaDoorW.PrintMore
attribute [local go_sem] max2_int min2_int max_two min_two max_three min_three max_four min_four
set_option linter.unusedVariables false
set_option linter.unusedSimpArgs false
/-- How long the longest common row of lines is. -/
def lcs : List ByteArray → List ByteArray → Int
  | [], _ => 0
  | _ :: _, [] => 0
  | x :: xs, y :: ys => if x.toList = y.toList then lcs xs ys + 1 else max (lcs xs (y :: ys)) (lcs (x :: xs) ys)
termination_by a b => a.length + b.length
theorem lcs_nil (a : List ByteArray) : lcs a [] = 0 := by cases a <;> simp [lcs]
theorem lcs_bound : ∀ (a b : List ByteArray), 0 ≤ lcs a b ∧ lcs a b ≤ a.length
  | [], _ => by simp [lcs]
  | _ :: _, [] => by simp [lcs]; omega
  | x :: xs, y :: ys => by
    have h1 := lcs_bound xs ys
    have h2 := lcs_bound xs (y :: ys)
    have h3 := lcs_bound (x :: xs) ys
    simp only [lcs, List.length_cons] at *
    split <;> omega
termination_by a b => a.length + b.length
theorem cell_other {w : World} {a b : Addr} {v : Value} (h : a ≠ b) : (w.setCell a v).cell? b = w.cell? b := World.cell?_setCell_other _ _ _ _ h
theorem cell_same {w : World} {a : Addr} {u v : Value} (h : w.cell? a = some u) : (w.setCell a v).cell? a = some v := World.cell?_setCell_same _ _ _ h
/-- A region that draws its order, whose last part is forced: its world under one letter. -/
theorem region_tail {P : Program} {id : Nat} {Q : Exit → Act → World → Prop} {a : Act} {w : World} {l : List Oper} (n : Nat) (hm : P.follows .mixedOrders = true) (hB : Region.lexTailB .any l.toArray n = true)
    (h : ∀ w' : World, (∀ p, w'.cell? p = w.cell? p) → (∀ p, w'.frozen? p = w.frozen? p) → Below w.heap.size w w' → wpStill P l.toArray w' (fun a' => wpList P l.toArray Q (l.drop n) a' w') (l.take n) a) : (Code.region id l.toArray true).wp P Q a w :=
  wp_region_still_tail n hm hB (h w.drew (fun _ => rfl) (fun _ => rfl) (pw_below_drewN (Below.refl _ w) 1))
/-- A table of rows, in memory. -/
structure Mat (w : World) (B g n m : Nat) (gs : Nat → Nat) (v : Nat → Nat → Int) : Prop where
  outer : ∀ j, j < n → w.cell? ⟨g, j, none⟩ = some (.slice (some ⟨gs j, 0, none⟩) m m)
  inner : ∀ j p, j < n → p < m → w.cell? ⟨gs j, p, none⟩ = some (.int .i64 (v j p))
  soft : ∀ j p, j < n → p < m → w.frozen? ⟨gs j, p, none⟩ = false
  at_ : ∀ j, j < n → B ≤ gs j ∧ gs j ≠ g ∧ gs j < w.heap.size
  inj : ∀ j j', j < n → j' < n → gs j = gs j' → j = j'
theorem frozen_below {B : Nat} {w w' : World} (h : Below B w w') {a : Addr} (ha : a.block < B) : w'.frozen? a = w.frozen? a := by
  unfold World.frozen?
  rw [h.block _ ha]
theorem Mat.below {w w' : World} {B g n m : Nat} {gs : Nat → Nat} {v : Nat → Nat → Int} (h : Mat w B g n m gs v) (hb : Below w.heap.size w w') : Mat w' B g n m gs v where
  outer j hj := (hb.cell (World.block_lt_of_cell? w _ (h.outer j hj))).trans (h.outer j hj)
  inner j p hj hp := (hb.cell (World.block_lt_of_cell? w _ (h.inner j p hj hp))).trans (h.inner j p hj hp)
  soft j p hj hp := (frozen_below hb (h.at_ j hj).2.2).trans (h.soft j p hj hp)
  at_ j hj := ⟨(h.at_ j hj).1, (h.at_ j hj).2.1, Nat.lt_of_lt_of_le (h.at_ j hj).2.2 hb.size⟩
  inj := h.inj
/-- One cell is written. -/
theorem Mat.put {w : World} {B g n m : Nat} {gs : Nat → Nat} {v : Nat → Nat → Int} (h : Mat w B g n m gs v) (i k : Nat) (x : Int) (hi : i < n) (hk : k < m) :
    Mat (w.setCell ⟨gs i, k, none⟩ (.int .i64 x)) B g n m gs (fun j p => if j = i ∧ p = k then x else v j p) where
  outer j hj := (cell_other (by intro e; exact (h.at_ i hi).2.1 (congrArg Addr.block e))).trans (h.outer j hj)
  inner j p hj hp := by
    by_cases hc : j = i ∧ p = k
    · rw [if_pos hc]
      obtain ⟨rfl, rfl⟩ := hc
      exact cell_same (h.inner _ _ hj hp)
    · rw [if_neg hc]
      refine (cell_other ?_).trans (h.inner j p hj hp)
      intro e
      exact hc ⟨(h.inj i j hi hj (congrArg Addr.block e)).symm, (congrArg Addr.off e).symm⟩
  soft j p hj hp := by rw [World.frozen?_setCell]; exact h.soft j p hj hp
  at_ j hj := ⟨(h.at_ j hj).1, (h.at_ j hj).2.1, by rw [World.size_setCell]; exact (h.at_ j hj).2.2⟩
  inj := h.inj
/-- A row more is made, and laid in its place. -/
theorem Mat.more {w : World} {B g n m : Nat} {gs : Nat → Nat} (h : Mat w B g n m gs fun _ _ => 0) (hB : B ≤ w.heap.size) (hg : g < w.heap.size) (hold : ∃ u, w.cell? ⟨g, n, none⟩ = some u) :
    Mat ((w.alloc (.cells (madeCells #[.int .i64 0] m) 3)).setCell ⟨g, n, none⟩ (.slice (some ⟨w.heap.size, 0, none⟩) m m)) B g (n + 1) m (fun j => if j = n then w.heap.size else gs j) fun _ _ => 0 where
  outer j hj := by
    obtain ⟨u, hu⟩ := hold
    by_cases hc : j = n
    · subst hc
      rw [if_pos rfl]
      exact cell_same (((below_alloc (Below.refl _ w) _).cell hg).trans hu)
    · rw [if_neg hc]
      refine (cell_other ?_).trans (((below_alloc (Below.refl _ w) _).cell hg).trans (h.outer j (by omega)))
      intro e
      exact hc (congrArg Addr.off e).symm
  inner j p hj hp := by
    by_cases hc : j = n
    · subst hc
      rw [if_pos rfl]
      refine (cell_other ?_).trans ?_
      · intro e
        have := congrArg Addr.block e
        simp only at this
        omega
      · rw [blk_cell (blk_new w _) p]
        simp [madeCells, hp, Nat.mod_one]
    · rw [if_neg hc]
      have hj' : j < n := by omega
      refine (cell_other ?_).trans (((below_alloc (Below.refl _ w) _).cell (h.at_ j hj').2.2).trans (h.inner j p hj' hp))
      intro e
      exact (h.at_ j hj').2.1 (congrArg Addr.block e).symm
  soft j p hj hp := by
    rw [World.frozen?_setCell]
    by_cases hc : j = n
    · subst hc
      rw [if_pos rfl]
      exact blk_frozen (blk_new w _) p
    · rw [if_neg hc]
      exact (frozen_below (below_alloc (Below.refl _ w) _) (h.at_ j (by omega)).2.2).trans (h.soft j p (by omega) hp)
  at_ j hj := by
    have hs : (w.alloc (.cells (madeCells #[.int .i64 0] m) 3)).heap.size = w.heap.size + 1 := Array.size_push _
    rw [World.size_setCell, hs]
    by_cases hc : j = n
    · subst hc
      rw [if_pos rfl]
      omega
    · rw [if_neg hc]
      have := h.at_ j (by omega)
      omega
  inj j j' hj hj' e := by
    by_cases hc : j = n <;> by_cases hc' : j' = n
    · omega
    · rw [if_pos hc, if_neg hc'] at e
      have := h.at_ j' (by omega)
      omega
    · rw [if_neg hc, if_pos hc'] at e
      have := h.at_ j (by omega)
      omega
    · rw [if_neg hc, if_neg hc'] at e
      exact h.inj j j' (by omega) (by omega) e
theorem Mat.congr {w : World} {B g n m : Nat} {gs : Nat → Nat} {v v' : Nat → Nat → Int} (h : Mat w B g n m gs v) (hv : ∀ j p, j < n → p < m → v j p = v' j p) : Mat w B g n m gs v' :=
  { h with inner := fun j p hj hp => by rw [← hv j p hj hp]; exact h.inner j p hj hp }
end Go.Proofs.YthkcghiagnddiaaDoor.X
namespace Go.Proofs.YthkcghiagnddiaaDoor.X
open Go Go.RowKit Go.Proofs.YthkcghiagnddiaaDoorW.PrintWords Go.Proofs.YthkcghiagnddiaaDoorW.PrintLast Go.Proofs.YthkcghiagnddiaaDoorW.PrintMore
attribute [local go_sem] max2_int min2_int max_two min_two max_three min_three max_four min_four
set_option linter.unusedVariables false
set_option linter.unusedSimpArgs false
set_option maxHeartbeats 4000000 in
set_option maxRecDepth 1000000 in
theorem hunks_table.calls (A0 : Option Addr) (c0 : Nat) (l0 : List ByteArray) (A1 : Option Addr) (c1 : Nat) (l1 : List ByteArray) (w : World) (hr0 : Kd.C Kd.string w A0 l0.length l0) (hc0 : l0.length ≤ c0) (hr1 : Kd.C Kd.string w A1 l1.length l1) (hc1 : l1.length ≤ c1) (hl0 : l0.length ≤ 1000000) (hl1 : l1.length ≤ 1000000) :
    Calls Tryd.prog 58 #[.slice A0 l0.length c0, .slice A1 l1.length c1] w fun e w' => ∃ g gs, e = .returned (.slice (some ⟨g, 0, none⟩) (l0.length + 1) (l0.length + 1)) ∧ Mat w' w.heap.size g (l0.length + 1) (l1.length + 1) gs (fun j p => lcs (l0.drop j) (l1.drop p)) ∧ w.heap.size ≤ g ∧ Below w.heap.size w w' := by
  have HR0 := Aside0.mk hr0
  have HR1 := Aside0.mk hr1
  clear hr0 hr1
  obtain ⟨n, hn⟩ : ∃ n : Nat, l0.length + 1 = n := ⟨_, rfl⟩
  obtain ⟨m, hm⟩ : ∃ m : Nat, l1.length + 1 = m := ⟨_, rfl⟩
  have tk : Tryd.prog.underlying 115 = some (.slice 44) := by kernel_rfl
  have tr : Tryd.prog.underlying 44 = some (.slice 3) := by kernel_rfl
  have ir : (Tryd.prog.info? 3).map (fun i => (i.zero, i.size, i.bytes)) = some (some (.int .i64 0), 1, 8) := by kernel_rfl
  have ik : (Tryd.prog.info? 44).map (fun i => (i.zero, i.size, i.bytes)) = some (some (.slice none 0 0), 1, 24) := by kernel_rfl
  have mk1 := Aside0.mk (run_make_row' (P := Tryd.prog) 115 44 (.slice none 0 0) 24 tk ik rfl .i64 .i64 n (by omega) (by omega))
  have mk2 := Aside0.mk (print_make (P := Tryd.prog) 44 3 .i64 8 tr ir (by omega) m (by omega))
  have en : ((l0.length : Int) + 1) = (n : Int) := by omega
  have em : ((l1.length : Int) + 1) = (m : Int) := by omega
  have wn : IntKind.i64.wrap ((l0.length : Int) + 1) = (n : Int) := by rw [IntWalk.i64_in _ (by omega)]; exact en
  have wm : IntKind.i64.wrap ((l1.length : Int) + 1) = (m : Int) := by rw [IntWalk.i64_in _ (by omega)]; exact em
  have k1 := mk1.out w
  go_enter Tryd.func58, Tryd.ntmps58
  go_wp2_with fail
  have hb0 : Below w.heap.size w (w.alloc (.cells (madeCells #[.slice none 0 0] n) 44)) := below_alloc (Below.refl _ _) _
  have hz0 : ∀ j, 0 ≤ j → j < n → (w.alloc (.cells (madeCells #[.slice none 0 0] n) 44)).cell? ⟨w.heap.size, j, none⟩ = some (.slice none 0 0) := fun j _ hj => by
    rw [blk_cell (blk_new w _) j]
    simp [madeCells, hj, Nat.mod_one]
  have hf0 : ∀ j, (w.alloc (.cells (madeCells #[.slice none 0 0] n) 44)).frozen? ⟨w.heap.size, j, none⟩ = false := fun j => blk_frozen (blk_new w _) j
  have hs0 : w.heap.size < (w.alloc (.cells (madeCells #[.slice none 0 0] n) 44)).heap.size := by rw [World.size_alloc]; omega
  clear k1 mk1
  go_loopw [15] (fun v wr => ∃ (i : Nat) (gs : Nat → Nat), v = .int .i64 i ∧ i ≤ n ∧ Aside0 (Mat wr w.heap.size w.heap.size i m gs fun _ _ => 0) ∧ Aside0 (∀ j, i ≤ j → j < n → wr.cell? ⟨w.heap.size, j, none⟩ = some (.slice none 0 0)) ∧ Aside0 (∀ j, wr.frozen? ⟨w.heap.size, j, none⟩ = false) ∧ Aside0 (Below w.heap.size w wr) ∧ w.heap.size < wr.heap.size) (fun v _ => n - (intOf v).toNat)
  case atStart => exact ⟨0, fun _ => 0, rfl, by omega, ⟨⟨fun j hj => absurd hj (by omega), fun j p hj => absurd hj (by omega), fun j p hj => absurd hj (by omega), fun j hj => absurd hj (by omega), fun j j' hj => absurd hj (by omega)⟩⟩, ⟨hz0⟩, ⟨hf0⟩, ⟨hb0⟩, hs0⟩
  case round =>
    clear hz0 hf0 hb0 hs0
    obtain ⟨i, gs, rfl, hi, HM, HZ, HF, HB, hsz⟩ := hrel
    by_cases hlt : i < n
    · have hltI : (i : Int) < (n : Int) := by omega
      have k2 := mk2.out wr
      have hc := ((below_alloc (Below.refl _ wr) (.cells (madeCells #[.int .i64 0] m) 3)).cell (p := ⟨w.heap.size, i, none⟩) hsz).trans (HZ.out i (Nat.le_refl _) hlt)
      have hf := (frozen_below (below_alloc (Below.refl _ wr) (.cells (madeCells #[.int .i64 0] m) 3)) (a := ⟨w.heap.size, i, none⟩) hsz).trans (HF.out i)
      go_wp2_with fail
      go_roundw
      case rel =>
        have hM := HM.out.more (Nat.le_of_lt hsz) hsz ⟨_, HZ.out i (Nat.le_refl _) hlt⟩
        have hg : Below w.heap.size w ((wr.alloc (.cells (madeCells #[.int .i64 0] m) 3)).setCell ⟨w.heap.size, i, none⟩ (.slice (some ⟨wr.heap.size, 0, none⟩) m m)) := below_set (HB.out.alloc (Nat.le_of_lt hsz) _) (Nat.le_refl _)
        rw [World.setCell_alloc_past _ _ _ _ hsz] at hM hg
        refine ⟨i + 1, _, by go_num, by omega, ⟨hM⟩, ⟨fun j h1 h2 => ?_⟩, ⟨fun j => ?_⟩, ⟨hg⟩, by rw [World.size_alloc, World.size_setCell]; omega⟩
        · rw [← World.setCell_alloc_past _ _ _ _ hsz]
          refine (cell_other ?_).trans (((below_alloc (Below.refl _ wr) _).cell (p := ⟨w.heap.size, j, none⟩) hsz).trans (HZ.out j (by omega) h2))
          intro e
          have := congrArg Addr.off e
          simp only at this
          omega
        · rw [← World.setCell_alloc_past _ _ _ _ hsz, World.frozen?_setCell]
          exact (frozen_below (below_alloc (Below.refl _ wr) _) (a := ⟨w.heap.size, j, none⟩) hsz).trans (HF.out j)
      case measure => simp [intOf]; omega
    · obtain rfl : n = i := by omega
      clear HZ HF mk2
      obtain ⟨w5, rfl⟩ : ∃ w5, w5 = wr := ⟨_, rfl⟩
      have HM0 := Aside0.mk (HM.out.congr (v' := fun j p => if ((l0.length : Int) - 1) < j then lcs (l0.drop j) (l1.drop p) else 0) (fun j p hj hp => by
        split
        · rw [List.drop_eq_nil_of_le (by omega)]
          simp [lcs]
        · rfl))
      go_wp2_with fail
      go_loopw [7] (fun v wr => ∃ (i : Int), v = .int .i64 i ∧ -1 ≤ i ∧ i < l0.length ∧ Aside0 (Mat wr w.heap.size w.heap.size n m gs fun j p => if i < j then lcs (l0.drop j) (l1.drop p) else 0) ∧ Aside0 (Below w.heap.size w wr) ∧ w.heap.size < wr.heap.size) (fun v _ => ((intOf v) + 1).toNat)
      case atStart => exact ⟨_, rfl, by omega, by omega, HM0, HB, hsz⟩
      case round =>
        clear HM0 HM HB hsz
        obtain ⟨i, rfl, hi0, hi1, HM, HB, hsz⟩ := hrel
        by_cases hlt : 0 ≤ i
        · obtain ⟨q, rfl⟩ : ∃ q : Nat, i = q := ⟨i.toNat, by omega⟩
          have HM0 := Aside0.mk (HM.out.congr (v' := fun j p => if q < j ∨ (j = q ∧ ((l1.length : Int) - 1) < p) then lcs (l0.drop j) (l1.drop p) else 0) (fun j p hj hp => by
            by_cases hc : j = q ∧ ((l1.length : Int) - 1) < p
            · rw [if_neg (by omega), if_pos (.inr hc), show l1.drop p = [] from List.drop_eq_nil_of_le (by omega), lcs_nil]
            · by_cases hc2 : q < j
              · rw [if_pos (by omega), if_pos (.inl hc2)]
              · rw [if_neg (by omega), if_neg (by omega)]))
          go_wp2_with fail
          go_loopw [8] (fun v wr => ∃ (i : Int), v = .int .i64 i ∧ -1 ≤ i ∧ i < l1.length ∧ Aside0 (Mat wr w.heap.size w.heap.size n m gs fun j p => if q < j ∨ (j = q ∧ i < p) then lcs (l0.drop j) (l1.drop p) else 0) ∧ Aside0 (Below w.heap.size w wr) ∧ w.heap.size < wr.heap.size) (fun v _ => ((intOf v) + 1).toNat)
          case atStart => exact ⟨_, rfl, by omega, by omega, HM0, HB, hsz⟩
          case round =>
            clear HM0 HM HB hsz
            obtain ⟨k, rfl, hk0, hk1, HM, HB, hsz⟩ := hrel
            by_cases hlk : 0 ≤ k
            · obtain ⟨p, rfl⟩ : ∃ p : Nat, k = p := ⟨k.toNat, by omega⟩
              obtain ⟨ad0, e, hx0⟩ := Kd.at_string HR0.out (q : Int) (by omega) (by omega)
              cases e
              obtain ⟨ad1, e, hx1⟩ := Kd.at_string HR1.out (p : Int) (by omega) (by omega)
              cases e
              replace hx0 := (HB.out.cell (World.block_lt_of_cell? w _ hx0)).trans hx0
              replace hx1 := (HB.out.cell (World.block_lt_of_cell? w _ hx1)).trans hx1
              rw [Int.toNat_natCast] at hx0 hx1
              have o1 := HM.out.outer q (by omega)
              have o2 := HM.out.outer (q + 1) (by omega)
              have c1 := HM.out.inner (q + 1) (p + 1) (by omega) (by omega)
              have c2 := HM.out.inner (q + 1) p (by omega) (by omega)
              have c3 := HM.out.inner q (p + 1) (by omega) (by omega)
              have c4 := HM.out.inner q p (by omega) (by omega)
              have f4 := HM.out.soft q p (by omega) (by omega)
              rw [if_pos (.inl (by omega))] at c1 c2
              rw [if_pos (.inr ⟨rfl, by omega⟩)] at c3
              have hd0 : l0.drop q = rdOf ByteArray.empty l0 q :: l0.drop (q + 1) := by
                rw [List.drop_eq_getElem_cons (by omega)]
                congr 1
                simp [rdOf, List.getD_eq_getElem?_getD, List.getElem?_eq_getElem (show q < l0.length by omega)]
              have hd1 : l1.drop p = rdOf ByteArray.empty l1 p :: l1.drop (p + 1) := by
                rw [List.drop_eq_getElem_cons (by omega)]
                congr 1
                simp [rdOf, List.getD_eq_getElem?_getD, List.getElem?_eq_getElem (show p < l1.length by omega)]
              have hT := lcs.eq_3 (rdOf ByteArray.empty l0 q) (l0.drop (q + 1)) (rdOf ByteArray.empty l1 p) (l1.drop (p + 1))
              rw [← hd0, ← hd1] at hT
              have b1 := lcs_bound (l0.drop (q + 1)) (l1.drop (p + 1))
              have hdl : (l0.drop (q + 1)).length ≤ 1000000 := by rw [List.length_drop]; omega
              generalize lcs (l0.drop (q + 1)) (l1.drop (p + 1)) = t1 at *
              generalize lcs (l0.drop (q + 1)) (l1.drop p) = t2 at *
              generalize lcs (l0.drop q) (l1.drop (p + 1)) = t3 at *
              generalize rdOf ByteArray.empty l0 q = s0 at *
              generalize rdOf ByteArray.empty l1 p = s1 at *
              have hb1 : 0 ≤ t1 ∧ t1 ≤ 1000000 := by omega
              have HD := Aside0.mk hdl
              clear hd0 hd1 b1 hdl
              obtain ⟨q1, hq1⟩ : ∃ q1 : Nat, q + 1 = q1 := ⟨_, rfl⟩
              obtain ⟨p1, hp1⟩ : ∃ p1 : Nat, p + 1 = p1 := ⟨_, rfl⟩
              rw [hq1] at o2 c1 c2
              rw [hp1] at c1 c3
              have g1 : (q : Int) + 1 = (q1 : Int) := by omega
              have g2 : (p : Int) + 1 = (p1 : Int) := by omega
              have wq : IntKind.i64.wrap ((q : Int) + 1) = (q1 : Int) := by rw [IntWalk.i64_in _ (by omega)]; exact g1
              have wp : IntKind.i64.wrap ((p : Int) + 1) = (p1 : Int) := by rw [IntWalk.i64_in _ (by omega)]; exact g2
              have wq1 : IntKind.i64.wrap (q1 : Int) = (q1 : Int) := IntWalk.i64_in _ (by omega)
              have wp1 : IntKind.i64.wrap (p1 : Int) = (p1 : Int) := IntWalk.i64_in _ (by omega)
              have wt : IntKind.i64.wrap (t1 + 1) = t1 + 1 := IntWalk.i64_in _ (by omega)
              have lq0 : (q : Int) < (n : Int) := by omega
              have lq1 : (q1 : Int) < (n : Int) := by omega
              have lp0 : (p : Int) < (m : Int) := by omega
              have lp1 : (p1 : Int) < (m : Int) := by omega
              by_cases hs : s0.toList = s1.toList
              · rw [if_pos hs] at hT
                have HT := Aside0.mk hT
                clear hT
                go_wp2_with fail
                go_quiet (fail)
                go_wp2_with fail
                refine region_tail 16 (by kernel_rfl) (by kernel_rfl) fun w7 hcl hfz hb7 => ?_
                have hcl : ∀ a, w7.cell? a = wr.cell? a := hcl
                have hfz : ∀ a, w7.frozen? a = wr.frozen? a := hfz
                have HB7 := Aside0.mk (show Below wr.heap.size wr w7 from below_then (pw_below_drewN (Below.refl _ wr) _) (Nat.le_refl _) hb7)
                rw [← hcl] at o1 o2 c1 c4
                rw [← hfz] at f4
                clear hcl hfz hb7
                simp only [List.take_succ_cons, List.take_zero, List.drop_succ_cons, List.drop_zero]
                repeat still_step
                try refine wpStill_nil ?_
                go_wp2_with fail
                go_roundw
                case rel =>
                  refine ⟨(p : Int) - 1, rfl, by omega, by omega, ⟨((HM.out.below HB7.out).put q p (t1 + 1) (by omega) (by omega)).congr (fun j p' hj hp => ?_)⟩, ⟨below_set (below_then HB.out (Nat.le_of_lt hsz) HB7.out) (HM.out.at_ q (by omega)).1⟩, by rw [World.size_setCell]; exact Nat.lt_of_lt_of_le hsz HB7.out.size⟩
                  by_cases h1 : j = q ∧ p' = p
                  · have hr : q < j ∨ (j = q ∧ (p : Int) - 1 < p') := .inr ⟨h1.1, by omega⟩
                    rw [if_pos h1, if_pos hr, h1.1, h1.2, HT.out]
                  · rw [if_neg h1]
                    by_cases h2 : q < j ∨ (j = q ∧ (p : Int) < p')
                    · rw [if_pos h2, if_pos (by omega)]
                    · rw [if_neg h2, if_neg (by omega)]
                case measure => simp [intOf]
              · rw [if_neg hs] at hT
                have HT := Aside0.mk hT
                clear hT
                have hsb : (s0.toList == s1.toList) = false := beq_eq_false_iff_ne.2 hs
                go_wp2_with fail
                go_quiet (fail)
                go_wp2_with fail
                refine region_tail 23 (by kernel_rfl) (by kernel_rfl) fun w7 hcl hfz hb7 => ?_
                have hcl : ∀ a, w7.cell? a = wr.cell? a := hcl
                have hfz : ∀ a, w7.frozen? a = wr.frozen? a := hfz
                have HB7 := Aside0.mk (show Below wr.heap.size wr w7 from below_then (pw_below_drewN (Below.refl _ wr) _) (Nat.le_refl _) hb7)
                rw [← hcl] at o1 o2 c2 c3 c4
                rw [← hfz] at f4
                clear hcl hfz hb7
                simp only [List.take_succ_cons, List.take_zero, List.drop_succ_cons, List.drop_zero]
                repeat still_step
                try refine wpStill_nil ?_
                go_wp2_with fail
                go_roundw
                case rel =>
                  refine ⟨(p : Int) - 1, rfl, by omega, by omega, ⟨((HM.out.below HB7.out).put q p (if t2 < t3 then t3 else t2) (by omega) (by omega)).congr (fun j p' hj hp => ?_)⟩, ⟨below_set (below_then HB.out (Nat.le_of_lt hsz) HB7.out) (HM.out.at_ q (by omega)).1⟩, by rw [World.size_setCell]; exact Nat.lt_of_lt_of_le hsz HB7.out.size⟩
                  by_cases h1 : j = q ∧ p' = p
                  · have hr : q < j ∨ (j = q ∧ (p : Int) - 1 < p') := .inr ⟨h1.1, by omega⟩
                    rw [if_pos h1, if_pos hr, h1.1, h1.2, HT.out]
                    split <;> omega
                  · rw [if_neg h1]
                    by_cases h2 : q < j ∨ (j = q ∧ (p : Int) < p')
                    · rw [if_pos h2, if_pos (by omega)]
                    · rw [if_neg h2, if_neg (by omega)]
                case measure => simp [intOf]
            · have HM9 := HM.out.congr (v' := fun j p => if ((q : Int) - 1) < j then lcs (l0.drop j) (l1.drop p) else 0) (fun j p hj hp => by
                by_cases hc : q ≤ j
                · rw [if_pos (by omega), if_pos (by omega)]
                · rw [if_neg (by omega), if_neg (by omega)])
              have HM9 := Aside0.mk HM9
              clear HM
              go_wp2_with fail
              exact ⟨⟨_, rfl, by omega, by omega, HM9, HB, hsz⟩, by simp [intOf]⟩
        · go_wp2_with fail
          go_ret
          refine ⟨w.heap.size, rfl, ⟨gs, HM.out.congr (fun j p hj hp => ?_)⟩, Nat.le_refl _, HB.out⟩
          rw [if_pos (by omega)]
end Go.Proofs.YthkcghiagnddiaaDoor.X
