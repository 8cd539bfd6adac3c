import Derived.Test.YthkcghiagnddiaaDoorTable
import Derived.Test.YthkcghiagnddiaaDoorX0
namespace Go.Proofs.YthkcghiagnddiaaDoor.X
open Go Go.RowKit Go.Proofs.YthkcghiagnddiaaDoorW.PrintWords Go.Proofs.YthkcghiagnddiaaDoorW.PrintLast Go.Proofs.YthkcghiagnddiaaDoorW.PrintMore
attribute [local go_sem] max2_int min2_int max_two min_two max_three min_three max_four min_four
set_option linter.unusedVariables false
set_option linter.unusedSimpArgs false
def chg.flush (c : S78) (out : List S78) : List S78 := if 0 < c.f1 + c.f3 then out ++ [c] else out
/-- What the closure holds: where it begins, the change under way, those that are done. -/
structure FlushSt (w : World) (B gF gO gC : Nat) (p : Int) (vo : Value) (c : S78) (out : List S78) : Prop where
  bF : w.heap[gF]? = some (.cells #[.int .i64 p] 3 (0, 0))
  bO : w.heap[gO]? = some (.cells #[vo] 75 (0, 0))
  bC : w.heap[gC]? = some (.cells #[.int .i64 c.f0, .int .i64 c.f1, .int .i64 c.f2, .int .i64 c.f3] 78 (0, 0))
  row : Kd.R k78 78 w B (fun k => k ≠ gC) vo out
theorem FlushSt.put4 {w : World} {B gF gO gC : Nat} {p : Int} {vo : Value} {c : S78} {out : List S78} (h : FlushSt w B gF gO gC p vo c out) (h1 : gC ≠ gF) (h2 : gO ≠ gC) (a b d e : Int) :
    FlushSt ((((w.setCell ⟨gC, 0, none⟩ (.int .i64 a)).setCell ⟨gC, 1, none⟩ (.int .i64 b)).setCell ⟨gC, 2, none⟩ (.int .i64 d)).setCell ⟨gC, 3, none⟩ (.int .i64 e)) B gF gO gC p vo ⟨a, b, d, e⟩ out where
  bF := by
    rw [Below.heap_setCell _ _ _ _ (Ne.symm h1), Below.heap_setCell _ _ _ _ (Ne.symm h1), Below.heap_setCell _ _ _ _ (Ne.symm h1), Below.heap_setCell _ _ _ _ (Ne.symm h1)]
    exact h.bF
  bO := by
    rw [Below.heap_setCell _ _ _ _ h2, Below.heap_setCell _ _ _ _ h2, Below.heap_setCell _ _ _ _ h2, Below.heap_setCell _ _ _ _ h2]
    exact h.bO
  bC := blk_set (blk_set (blk_set (blk_set h.bC 0 _) 1 _) 2 _) 3 _
  row := Kd.R_far (Kd.R_far (Kd.R_far (Kd.R_far h.row (p := ⟨gC, 0, none⟩) (fun _ hk => hk) _) (p := ⟨gC, 1, none⟩) (fun _ hk => hk) _) (p := ⟨gC, 2, none⟩) (fun _ hk => hk) _) (p := ⟨gC, 3, none⟩) (fun _ hk => hk) _
theorem FlushSt.putO {w : World} {B gF gO gC : Nat} {p : Int} {v v1 : Value} {c : S78} {out : List S78} (h1 : w.heap[gF]? = some (.cells #[.int .i64 p] 3 (0, 0))) (h2 : w.heap[gO]? = some (.cells #[v] 75 (0, 0)))
    (h3 : w.heap[gC]? = some (.cells #[.int .i64 c.f0, .int .i64 c.f1, .int .i64 c.f2, .int .i64 c.f3] 78 (0, 0))) (h4 : Kd.R k78 78 w B (fun k => k ≠ gC) v1 out) (h5 : gO ≠ gF) (h6 : gO ≠ gC) :
    FlushSt (w.setCell ⟨gO, 0, none⟩ v1) B gF gO gC p v1 c out where
  bF := by rw [Below.heap_setCell _ _ _ _ (Ne.symm h5)]; exact h1
  bO := blk_set h2 0 _
  bC := by rw [Below.heap_setCell _ _ _ _ (Ne.symm h6)]; exact h3
  row := Kd.R_set h4 h2 (by decide) 0 _
theorem below_put4 {w W : World} {B g : Nat} {a b d e : Value} (h : Below B w W) (hg : B ≤ g) : Below B w ((((W.setCell ⟨g, 0, none⟩ a).setCell ⟨g, 1, none⟩ b).setCell ⟨g, 2, none⟩ d).setCell ⟨g, 3, none⟩ e) :=
  (((h.setCell hg _).setCell hg _).setCell hg _).setCell hg _
set_option maxHeartbeats 4000000 in
set_option maxRecDepth 1000000 in
theorem flush.calls (i k : Int) (w : World) (B gF gO gC : Nat) (p : Int) (vo : Value) (c : S78) (out : List S78) (hs : FlushSt w B gF gO gC p vo c out) (h1 : gF < B) (h2 : B ≤ gO) (h3 : B ≤ gC) (h4 : B ≤ w.heap.size)
    (r1 : 0 ≤ c.f1 ∧ c.f1 ≤ 1000000000) (r3 : 0 ≤ c.f3 ∧ c.f3 ≤ 1000000000) (rp : 0 ≤ p ∧ p ≤ 1000000000) (ri : 0 ≤ i ∧ i ≤ 1000000000) (rk : 0 ≤ k ∧ k ≤ 1000000000) (ro : out.length ≤ 1000000000) :
    Calls Tryd.prog 59 #[.int .i64 i, .int .i64 k, .pointer (some ⟨gC, 0, none⟩), .pointer (some ⟨gO, 0, none⟩), .pointer (some ⟨gF, 0, none⟩)] w fun e w' => (∃ v, e = .returned v) ∧ ∃ vo', FlushSt w' B gF gO gC p vo' ⟨p + i, 0, p + k, 0⟩ (chg.flush c out) ∧ Below B w w' := by
  obtain ⟨bF, bO, bC, hR⟩ := hs
  have HR := Aside0.mk hR
  have HF := Aside0.mk bF
  have HO := Aside0.mk bO
  have HC := Aside0.mk bC
  have nOF : gO ≠ gF := by omega
  have nCF : gC ≠ gF := by omega
  have nOC : gO ≠ gC := by rintro rfl; rw [bO] at bC; simp at bC
  have lO := blk_lt bO
  have lC := blk_lt bC
  have cF := blk_cell bF 0
  have cO := blk_cell bO 0
  have e0 := blk_cell bC 0
  have e1 := blk_cell bC 1
  have e2 := blk_cell bC 2
  have e3 := blk_cell bC 3
  have fO := blk_frozen bO 0
  have f0 := blk_frozen bC 0
  have f1 := blk_frozen bC 1
  have f2 := blk_frozen bC 2
  have f3 := blk_frozen bC 3
  simp only [List.getElem?_toArray] at cF cO e0 e1 e2 e3
  clear hR bF bO bC
  unfold chg.flush
  by_cases hc : 0 < c.f1 + c.f3
  · rw [if_pos hc]
    have hd : decide (0 < c.f1 + c.f3) = true := decide_eq_true hc
    go_enter Tryd.func59, Tryd.ntmps59
    have ty75 : Tryd.prog.underlying 75 = some (.slice 78) := by kernel_rfl
    have i78 : (Tryd.prog.info? 78).map (fun i => (i.zero, i.size, i.bytes)) = some (some (.agg #[.int .i64 0, .int .i64 0, .int .i64 0, .int .i64 0]), 4, 32) := by kernel_rfl
    go_wp2_with (at_builtin; refine Kd.R_append k78 (w0 := w) B rfl (.tmp 13) (.tmp 15) 75 78 (.agg #[.int .i64 0, .int .i64 0, .int .i64 0, .int .i64 0]) 32 rfl ty75 i78 rfl (by decide) (by omega) vo out c [.int .i64 c.f0, .int .i64 c.f1, .int .i64 c.f2, .int .i64 c.f3] (fun k => k ≠ gC) (fun _ => False) rfl rfl (k78_mkM _ _ _ c) (fun _ hk => hk.elim) (fun k hk => by omega) HR.out (Below.refl _ _) h4 (by omega) ?_; intro v1 w1 hR1 hb1 hg1 _; obtain ⟨Av, cv, rfl, _, _⟩ := Kd.R_reads hR1; have bO := (hg1.block gO lO (Kd.R_ne HR.out HO.out (by decide))).trans HO.out; have bC := (hg1.block gC lC (fun e => HR.out.1 gC e.symm rfl)).trans HC.out; have bF := (hb1.block gF h1).trans HF.out; have HR1 := Aside0.mk hR1; have HB1 := Aside0.mk hb1; have HF1 := Aside0.mk bF; have HO1 := Aside0.mk bO; have HC1 := Aside0.mk bC; have cF := blk_cell bF 0; have cO := blk_cell bO 0; have e0 := blk_cell bC 0; have e1 := blk_cell bC 1; have e2 := blk_cell bC 2; have e3 := blk_cell bC 3; have fO := blk_frozen bO 0; have f0 := blk_frozen bC 0; have f1 := blk_frozen bC 1; have f2 := blk_frozen bC 2; have f3 := blk_frozen bC 3; simp only [List.getElem?_toArray] at cF cO e0 e1 e2 e3; clear hR1 hb1 hg1 bO bC bF)
    refine bodyPost_end (results_list (rs := []) (vs := []) rfl (by simp) .nil) rfl ?_
    have hS := FlushSt.put4 (FlushSt.putO HF1.out HO1.out HC1.out HR1.out nOF nOC) nCF nOC (p + i) 0 (p + k) 0
    rw [List.length_append, List.length_singleton] at hS
    exact ⟨⟨_, rfl⟩, _, hS, below_put4 (HB1.out.setCell h2 _) h3⟩
  · rw [if_neg hc]
    have hd : decide (0 < c.f1 + c.f3) = false := decide_eq_false hc
    go_enter Tryd.func59, Tryd.ntmps59
    go_wp2_with fail
    refine bodyPost_end (results_list (rs := []) (vs := []) rfl (by simp) .nil) rfl ?_
    exact ⟨⟨_, rfl⟩, ⟨_, FlushSt.put4 ⟨HF.out, HO.out, HC.out, HR.out⟩ nCF nOC (p + i) 0 (p + k) 0⟩, below_put4 (Below.refl _ _) h3⟩
end Go.Proofs.YthkcghiagnddiaaDoor.X
namespace Go.Proofs.YthkcghiagnddiaaDoor.X
open Go Go.RowKit Go.Proofs.YthkcghiagnddiaaDoorW.PrintWords Go.Proofs.YthkcghiagnddiaaDoorW.PrintLast Go.Proofs.YthkcghiagnddiaaDoorW.PrintMore
attribute [local go_sem] max2_int min2_int max_two min_two max_three min_three max_four min_four
set_option linter.unusedVariables false
set_option linter.unusedSimpArgs false
/-- How many lines are alike at the beginning. -/
def chg.pre : List ByteArray → List ByteArray → Nat
  | x :: xs, y :: ys => if x.toList = y.toList then chg.pre xs ys + 1 else 0
  | [], _ => 0
  | _ :: _, [] => 0
/-- .. at the end. -/
def chg.suf (x y : List ByteArray) : Nat := chg.pre x.reverse y.reverse
/-- The way through the table. -/
def chg.go : List ByteArray → List ByteArray → Int → Int → S78 → List S78 → List S78
  | [], [], o, n, c, out => chg.flush c out
  | x :: xs, [], o, n, c, out => chg.go xs [] (o + 1) n ⟨c.f0, c.f1 + 1, c.f2, c.f3⟩ out
  | [], y :: ys, o, n, c, out => chg.go [] ys o (n + 1) ⟨c.f0, c.f1, c.f2, c.f3 + 1⟩ out
  | x :: xs, y :: ys, o, n, c, out =>
    if x.toList = y.toList then chg.go xs ys (o + 1) (n + 1) ⟨o + 1, 0, n + 1, 0⟩ (chg.flush c out)
    else if lcs (x :: xs) ys ≤ lcs xs (y :: ys) then chg.go xs (y :: ys) (o + 1) n ⟨c.f0, c.f1 + 1, c.f2, c.f3⟩ out
    else chg.go (x :: xs) ys o (n + 1) ⟨c.f0, c.f1, c.f2, c.f3 + 1⟩ out
termination_by u v => u.length + v.length
theorem chg.go_both (x : ByteArray) (xs : List ByteArray) (y : ByteArray) (ys : List ByteArray) (o n : Int) (c : S78) (out : List S78) : chg.go (x :: xs) (y :: ys) o n c out =
    if x.toList = y.toList then chg.go xs ys (o + 1) (n + 1) ⟨o + 1, 0, n + 1, 0⟩ (chg.flush c out)
    else if lcs (x :: xs) ys ≤ lcs xs (y :: ys) then chg.go xs (y :: ys) (o + 1) n ⟨c.f0, c.f1 + 1, c.f2, c.f3⟩ out
    else chg.go (x :: xs) ys o (n + 1) ⟨c.f0, c.f1, c.f2, c.f3 + 1⟩ out := by rw [chg.go]
def chg.f (a b : List ByteArray) : List S78 :=
  let p := chg.pre a b
  let s := chg.suf (a.drop p) (b.drop p)
  let x := (a.drop p).take (a.length - p - s)
  let y := (b.drop p).take (b.length - p - s)
  if 1000 < x.length ∨ 1000 < y.length then [⟨p, x.length, p, y.length⟩] else chg.go x y p p ⟨p, 0, p, 0⟩ []
theorem chg.pre_step {a b : List ByteArray} {p : Nat} (h0 : p < a.length) (h1 : p < b.length) : chg.pre (a.drop p) (b.drop p) = if (rdOf ByteArray.empty a p).toList = (rdOf ByteArray.empty b p).toList then chg.pre (a.drop (p + 1)) (b.drop (p + 1)) + 1 else 0 := by
  rw [List.drop_eq_getElem_cons h0, List.drop_eq_getElem_cons h1]
  simp [chg.pre, rdOf, List.getD_eq_getElem?_getD, List.getElem?_eq_getElem h0, List.getElem?_eq_getElem h1]
theorem chg.pre_end {a b : List ByteArray} {p : Nat} (h : a.length ≤ p ∨ b.length ≤ p) : chg.pre (a.drop p) (b.drop p) = 0 := by
  rcases h with h | h
  · rw [List.drop_eq_nil_of_le h]
    simp [chg.pre]
  · rw [List.drop_eq_nil_of_le h]
    cases a.drop p <;> simp [chg.pre]
theorem chg.pre_le : ∀ (a b : List ByteArray), chg.pre a b ≤ a.length ∧ chg.pre a b ≤ b.length
  | x :: xs, y :: ys => by
    have := chg.pre_le xs ys
    simp only [chg.pre, List.length_cons]
    split <;> omega
  | [], _ => by simp [chg.pre]
  | _ :: _, [] => by simp [chg.pre]
theorem one78 (W : World) (base : Nat) (x : S78) (hb : base ≤ W.heap.size) : Kd.R k78 78 (W.alloc (.cells #[.int .i64 x.f0, .int .i64 x.f1, .int .i64 x.f2, .int .i64 x.f3] 78)) base (fun _ => True) (.slice (some ⟨W.heap.size, 0, none⟩) 1 1) [x] :=
  ⟨fun _ _ => trivial, OwnRow.lit W base (ps := [x]) (inner := [.int .i64 x.f0, .int .i64 x.f1, .int .i64 x.f2, .int .i64 x.f3]) (Reps.c4 (k78_mkM _ _ _ x) ⟨rfl, fun j p h => by simp at h⟩) hb (by simp)⟩
theorem FlushSt.put1 {w : World} {B gF gO gC : Nat} {p : Int} {vo : Value} {c : S78} {out : List S78} (h : FlushSt w B gF gO gC p vo c out) (h1 : gC ≠ gF) (h2 : gO ≠ gC) (b : Int) :
    FlushSt (w.setCell ⟨gC, 1, none⟩ (.int .i64 b)) B gF gO gC p vo ⟨c.f0, b, c.f2, c.f3⟩ out where
  bF := by rw [Below.heap_setCell _ _ _ _ (Ne.symm h1)]; exact h.bF
  bO := by rw [Below.heap_setCell _ _ _ _ h2]; exact h.bO
  bC := blk_set h.bC 1 _
  row := Kd.R_far h.row (p := ⟨gC, 1, none⟩) (fun _ hk => hk) _
theorem FlushSt.put3 {w : World} {B gF gO gC : Nat} {p : Int} {vo : Value} {c : S78} {out : List S78} (h : FlushSt w B gF gO gC p vo c out) (h1 : gC ≠ gF) (h2 : gO ≠ gC) (b : Int) :
    FlushSt (w.setCell ⟨gC, 3, none⟩ (.int .i64 b)) B gF gO gC p vo ⟨c.f0, c.f1, c.f2, b⟩ out where
  bF := by rw [Below.heap_setCell _ _ _ _ (Ne.symm h1)]; exact h.bF
  bO := by rw [Below.heap_setCell _ _ _ _ h2]; exact h.bO
  bC := blk_set h.bC 3 _
  row := Kd.R_far h.row (p := ⟨gC, 3, none⟩) (fun _ hk => hk) _
theorem FlushSt.drewN {w : World} {B gF gO gC : Nat} {p : Int} {vo : Value} {c : S78} {out : List S78} (h : FlushSt w B gF gO gC p vo c out) (n : Nat) : FlushSt (w.drewN n) B gF gO gC p vo c out where
  bF := h.bF
  bO := h.bO
  bC := h.bC
  row := Kd.R_drewN h.row n
theorem drop_rdOf (l : List ByteArray) (i : Nat) (h : i < l.length) : l.drop i = rdOf ByteArray.empty l i :: l.drop (i + 1) := by
  rw [List.drop_eq_getElem_cons h]
  congr 1
  simp [rdOf, List.getD_eq_getElem?_getD, List.getElem?_eq_getElem h]
theorem flush_len (c : S78) (out : List S78) : (chg.flush c out).length ≤ out.length + 1 := by
  unfold chg.flush
  split <;> simp
theorem rdOf_reverse (x : List ByteArray) (a m : Nat) (h : a + 1 + m = x.length) : rdOf ByteArray.empty x.reverse m = rdOf ByteArray.empty x a := by
  unfold rdOf
  rw [List.getD_eq_getElem?_getD, List.getD_eq_getElem?_getD, Int.toNat_natCast, Int.toNat_natCast, List.getElem?_reverse (by omega), show x.length - 1 - m = a by omega]
set_option maxHeartbeats 4000000 in
set_option maxRecDepth 1000000 in
theorem chg.calls (A0 : Option Addr) (c0 : Nat) (l0 : List ByteArray) (A1 : Option Addr) (c1 : Nat) (l1 : List ByteArray) (w : World) (hr0 : Kd.C Kd.string w A0 l0.length l0) (hc0 : l0.length ≤ c0) (hr1 : Kd.C Kd.string w A1 l1.length l1) (hc1 : l1.length ≤ c1) (hl0 : l0.length ≤ 1000000000) (hl1 : l1.length ≤ 1000000000) :
    Calls Tryd.prog 32 #[.slice A0 l0.length c0, .slice A1 l1.length c1] w fun e w' => ∃ v, e = .returned v ∧ Kd.R k78 78 w' w.heap.size (fun _ => True) v (chg.f l0 l1) ∧ Below w.heap.size w w' := by
  have HR0 := Aside0.mk hr0
  have HR1 := Aside0.mk hr1
  clear hr0 hr1
  have RS0 := Aside0.mk (Kd.reads_of_C (enc := Value.string) (d := ByteArray.empty) (h1 := fun _ => rfl) HR0.out)
  have RS1 := Aside0.mk (Kd.reads_of_C (enc := Value.string) (d := ByteArray.empty) (h1 := fun _ => rfl) HR1.out)
  have ty73 : Tryd.prog.underlying 73 = some (.slice 9) := by kernel_rfl
  have i9 : (Tryd.prog.info? 9).map (fun i => (i.zero, i.size, i.bytes)) = some (some (.string ⟨#[]⟩), 1, 16) := by kernel_rfl
  obtain ⟨ti, hi9, hti⟩ := Option.map_eq_some_iff.1 i9
  have hsz9 : ti.size = 1 := congrArg (fun x => x.2.1) hti
  clear hti i9
  go_enter Tryd.func32, Tryd.ntmps32
  go_upto_block 0 with fail
  go_cut [6] (fun v6 wc => wc.heap[w.heap.size]? = some (.cells #[.int .i64 (chg.pre l0 l1)] 3 (0, 0)) ∧ Aside0 (Below w.heap.size w wc))
  case first =>
    go_wp2_with fail
    go_loopw [36] (fun v6 wr => ∃ p : Nat, wr.heap[w.heap.size]? = some (.cells #[.int .i64 p] 3 (0, 0)) ∧ p ≤ l0.length ∧ p ≤ l1.length ∧ Aside0 (chg.pre l0 l1 = p + chg.pre (l0.drop p) (l1.drop p)) ∧ Aside0 (Below w.heap.size w wr)) (fun v6 wr => l0.length - (intOf ((wr.cell? ⟨w.heap.size, 0, none⟩).getD undef)).toNat)
    case atStart => exact ⟨0, blk_new _ _, by omega, by omega, ⟨by simp⟩, ⟨below_alloc (Below.refl _ _) _⟩⟩
    case round =>
      obtain ⟨p, hbF, hp0, hp1, HP, HB⟩ := hrel
      have cF := blk_cell hbF 0
      have fF := blk_frozen hbF 0
      simp only [List.getElem?_toArray, List.getElem?_cons_zero] at cF
      have HBF := Aside0.mk hbF
      have hsz := HB.out.size
      have hsz1 := blk_lt hbF
      clear hbF
      obtain ⟨mz, hmz⟩ : ∃ mz : Nat, mz = l0.length - (intOf ((wr.cell? ⟨w.heap.size, 0, none⟩).getD undef)).toNat := ⟨_, rfl⟩
      have hmz2 : mz = l0.length - p := by rw [hmz, cF]; simp [intOf]
      rw [← hmz]
      subst hmz2
      clear hmz
      by_cases cc1 : p < l0.length
      · have d1 : decide (p < l0.length) = true := decide_eq_true cc1
        have e1 : (p : Int) < (l0.length : Int) := by omega
        by_cases cc2 : p < l1.length
        · have d2 : decide (p < l1.length) = true := decide_eq_true cc2
          have e2 : (p : Int) < (l1.length : Int) := by omega
          have hst := chg.pre_step cc1 cc2
          obtain ⟨ad0, e, hx0⟩ := Kd.at_string HR0.out (p : Int) (by omega) (by omega)
          cases e
          obtain ⟨ad1, e, hx1⟩ := Kd.at_string HR1.out (p : Int) (by omega) (by omega)
          cases e
          replace hx0 := (HB.out.cell (World.block_lt_of_cell? w _ hx0)).trans hx0
          replace hx1 := (HB.out.cell (World.block_lt_of_cell? w _ hx1)).trans hx1
          rw [Int.toNat_natCast] at hx0 hx1
          generalize rdOf ByteArray.empty l0 p = s0 at *
          generalize rdOf ByteArray.empty l1 p = s1 at *
          by_cases c3 : s0.toList = s1.toList
          · rw [if_pos c3] at hst
            have d3 : (s0.toList == s1.toList) = true := beq_iff_eq.2 c3
            have HS := Aside0.mk hst
            clear hst
            go_wp2_with fail
            go_quiet (fail)
            go_wp2_with fail
            refine ⟨⟨p + 1, ?_, by omega, by omega, ⟨by rw [HP.out, HS.out]; omega⟩, ⟨below_set (pw_below_drewN HB.out _) (Nat.le_refl _)⟩⟩, ?_⟩
            · rw [show ((p + 1 : Nat) : Int) = (p : Int) + 1 by omega]
              exact blk_set (blk_drewN HBF.out nq) 0 (.int .i64 ((p : Int) + 1))
            · rw [cell_same (w := wr.drewN nq) (u := .int .i64 p) cF]
              simp [intOf]
              omega
          · rw [if_neg c3] at hst
            have d3 : (s0.toList == s1.toList) = false := beq_eq_false_iff_ne.2 c3
            have hE : chg.pre l0 l1 = p := by rw [HP.out, hst]; rfl
            have HE := Aside0.mk hE
            clear hst hE
            go_wp2_with fail
            go_quiet (fail)
            go_wp2_with fail
            go_meet
            case rel => exact ⟨by rw [HE.out]; exact HBF.out, ⟨pw_below_drewN HB.out _⟩⟩
        · have d2 : decide (p < l1.length) = false := decide_eq_false cc2
          have hE : chg.pre l0 l1 = p := by rw [HP.out, chg.pre_end (.inr (by omega))]; rfl
          have HE := Aside0.mk hE
          clear hE
          go_wp2_with fail
          go_quiet (fail)
          go_wp2_with fail
          go_meet
          case rel => exact ⟨by rw [HE.out]; exact HBF.out, ⟨pw_below_drewN HB.out _⟩⟩
      · have d1 : decide (p < l0.length) = false := decide_eq_false cc1
        have hE : chg.pre l0 l1 = p := by rw [HP.out, chg.pre_end (.inl (by omega))]; rfl
        have HE := Aside0.mk hE
        clear hE
        go_wp2_with fail
        go_quiet (fail)
        go_wp2_with fail
        go_meet
        case rel => exact ⟨by rw [HE.out]; exact HBF.out, ⟨pw_below_drewN HB.out _⟩⟩
  case rest =>
    obtain ⟨wv, rfl⟩ : ∃ wv : World, wv = wc := ⟨_, rfl⟩
    obtain ⟨hbF, HB⟩ := hcut
    have hple := chg.pre_le l0 l1
    obtain ⟨p, hp⟩ : ∃ p, chg.pre l0 l1 = p := ⟨_, rfl⟩
    rw [hp] at hbF hple
    have HP := Aside0.mk hp
    have hwc := blk_lt hbF
    have cF := blk_cell hbF 0
    have fF := blk_frozen hbF 0
    simp only [List.getElem?_toArray, List.getElem?_cons_zero] at cF
    have HBF := Aside0.mk hbF
    clear hbF hp
    obtain ⟨A2, hs2, hr2, hc2⟩ := print_drop_of (P := Tryd.prog) Value.string ByteArray.empty 73 9 .i64 ty73 hi9 hsz9 A0 c0 l0 (p : Int) (by omega) (by omega) hc0
    obtain ⟨A3, hs3, hr3, hc3⟩ := print_drop_of (P := Tryd.prog) Value.string ByteArray.empty 73 9 .i64 ty73 hi9 hsz9 A1 c1 l1 (p : Int) (by omega) (by omega) hc1
    rw [Int.toNat_natCast] at hr2 hr3 hc2 hc3
    simp only [Int.toNat_natCast] at hs2 hs3
    have RX := Aside0.mk (hr2 _ RS0.out)
    have RY := Aside0.mk (hr3 _ RS1.out)
    have hlx : (l0.drop p).length ≤ 1000000000 := by rw [List.length_drop]; omega
    have hly : (l1.drop p).length ≤ 1000000000 := by rw [List.length_drop]; omega
    have HF : Aside0 (chg.f l0 l1 = let s := chg.suf (l0.drop p) (l1.drop p); let x := (l0.drop p).take ((l0.drop p).length - s); let y := (l1.drop p).take ((l1.drop p).length - s); if 1000 < x.length ∨ 1000 < y.length then [⟨p, x.length, p, y.length⟩] else chg.go x y p p ⟨p, 0, p, 0⟩ []) := ⟨by unfold chg.f; rw [HP.out]; simp only [List.length_drop]⟩
    obtain ⟨x, hx⟩ : ∃ x, l0.drop p = x := ⟨_, rfl⟩
    obtain ⟨y, hy⟩ : ∃ y, l1.drop p = y := ⟨_, rfl⟩
    rw [hx] at RX HF hs2 hc2 hlx
    rw [hy] at RY HF hs3 hc3 hly
    have hxl : l0.length - p = x.length := by rw [← hx, List.length_drop]
    have hyl : l1.length - p = y.length := by rw [← hy, List.length_drop]
    clear hr2 hr3 hx hy
    go_wp2_with fail
    go_quiet (fail)
    go_upto_block 2 with fail
    go_cut [6, 7] (fun v6 v7 wx => ∃ (a b nq : Nat), v6 = .slice A2 a (c0 - p) ∧ v7 = .slice A3 b (c1 - p) ∧ a + chg.suf x y = x.length ∧ b + chg.suf x y = y.length ∧ wx = wv.drewN nq)
    case first =>
      go_wp2_with fail
      go_loopw [6, 7] (fun v6 v7 wr => ∃ (a b m : Nat), v6 = .slice A2 a (c0 - p) ∧ v7 = .slice A3 b (c1 - p) ∧ a + m = x.length ∧ b + m = y.length ∧ Aside0 (chg.suf x y = m + chg.pre (x.reverse.drop m) (y.reverse.drop m)) ∧ Aside0 (∃ nq, wr = wv.drewN nq)) (fun v6 _ _ => match v6 with | .slice _ a _ => a | _ => 0)
      case atStart => exact ⟨x.length, y.length, 0, rfl, rfl, rfl, rfl, ⟨by simp [chg.suf]⟩, ⟨_, rfl⟩⟩
      case round =>
        obtain ⟨a, b, m, rfl, rfl, ham, hbm, HS, HW⟩ := hrel
        obtain ⟨nr, rfl⟩ := HW.out
        clear HW
        by_cases k1 : 0 < a
        · have d1 : decide (0 < a) = true := decide_eq_true k1
          have e1 : (0 : Int) < (a : Int) := by omega
          have e1' : decide ((0 : Int) < (a : Int)) = true := decide_eq_true e1
          by_cases k2 : 0 < b
          · have d2 : decide (0 < b) = true := decide_eq_true k2
            have e2 : (0 : Int) < (b : Int) := by omega
            have e2' : decide ((0 : Int) < (b : Int)) = true := decide_eq_true e2
            obtain ⟨a1, ha1⟩ : ∃ a1, a = a1 + 1 := ⟨a - 1, by omega⟩
            obtain ⟨b1, hb1⟩ : ∃ b1, b = b1 + 1 := ⟨b - 1, by omega⟩
            have g1 : (a : Int) - 1 = (a1 : Int) := by omega
            have g2 : (b : Int) - 1 = (b1 : Int) := by omega
            have wa : IntKind.i64.wrap ((a : Int) - 1) = (a1 : Int) := by rw [IntWalk.i64_in _ (by omega)]; exact g1
            have wb : IntKind.i64.wrap ((b : Int) - 1) = (b1 : Int) := by rw [IntWalk.i64_in _ (by omega)]; exact g2
            have wa1 : IntKind.i64.wrap (a1 : Int) = (a1 : Int) := IntWalk.i64_in _ (by omega)
            have wb1 : IntKind.i64.wrap (b1 : Int) = (b1 : Int) := IntWalk.i64_in _ (by omega)
            have la : (a1 : Int) < (a : Int) := by omega
            have lb : (b1 : Int) < (b : Int) := by omega
            have la' : a1 < a := by omega
            have lb' : b1 < b := by omega
            obtain ⟨ad2, e, hx2⟩ := ReadsOf.at_ RX.out (a1 : Int) (by omega) (by omega)
            cases e
            obtain ⟨ad3, e, hx3⟩ := ReadsOf.at_ RY.out (b1 : Int) (by omega) (by omega)
            cases e
            replace hx2 := (HB.out.cell (World.block_lt_of_cell? w _ hx2)).trans hx2
            replace hx3 := (HB.out.cell (World.block_lt_of_cell? w _ hx3)).trans hx3
            rw [Int.toNat_natCast] at hx2 hx3
            have hst := chg.pre_step (a := x.reverse) (b := y.reverse) (p := m) (by rw [List.length_reverse]; omega) (by rw [List.length_reverse]; omega)
            rw [rdOf_reverse x a1 m (by omega), rdOf_reverse y b1 m (by omega)] at hst
            generalize rdOf ByteArray.empty x a1 = s0 at *
            generalize rdOf ByteArray.empty y b1 = s1 at *
            by_cases k3 : s0.toList = s1.toList
            · rw [if_pos k3] at hst
              have d3 : (s0.toList == s1.toList) = true := beq_iff_eq.2 k3
              have HT := Aside0.mk hst
              clear hst
              have hq2 := (print_take_of (P := Tryd.prog) Value.string ByteArray.empty 73 9 .i64 ty73 hi9 hsz9 (some ad2) (c0 - p) (List.replicate a ByteArray.empty) (a1 : Int) (by omega) (by rw [List.length_replicate]; omega) (by rw [List.length_replicate]; omega)).1
              have hq3 := (print_take_of (P := Tryd.prog) Value.string ByteArray.empty 73 9 .i64 ty73 hi9 hsz9 (some ad3) (c1 - p) (List.replicate b ByteArray.empty) (b1 : Int) (by omega) (by rw [List.length_replicate]; omega) (by rw [List.length_replicate]; omega)).1
              rw [List.length_take, List.length_replicate, Int.toNat_natCast, Nat.min_eq_left (by omega)] at hq2 hq3
              go_wp2_with fail
              go_quiet (fail)
              go_wp2_with fail
              go_quiet (fail)
              go_wp2_with fail
              exact ⟨⟨a1, b1, m + 1, rfl, rfl, by omega, by omega, ⟨by rw [HS.out, HT.out]; omega⟩, ⟨_, by rw [World.drewN_drewN, World.drewN_drewN]⟩⟩, by show a1 < a; omega⟩
            · rw [if_neg k3] at hst
              have d3 : (s0.toList == s1.toList) = false := beq_eq_false_iff_ne.2 k3
              have hE : chg.suf x y = m := by rw [HS.out, hst]; rfl
              have HE := Aside0.mk hE
              clear hst hE
              go_wp2_with fail
              go_quiet (fail)
              go_wp2_with fail
              go_meet
              case rel => exact ⟨a, b, _, rfl, rfl, by rw [HE.out]; omega, by rw [HE.out]; omega, World.drewN_drewN _ _ _⟩
          · have d2 : decide (0 < b) = false := decide_eq_false k2
            have hE : chg.suf x y = m := by rw [HS.out, chg.pre_end (.inr (by rw [List.length_reverse]; omega))]; rfl
            have HE := Aside0.mk hE
            clear hE
            go_wp2_with fail
            go_quiet (fail)
            go_wp2_with fail
            go_meet
            case rel => exact ⟨a, b, _, rfl, rfl, by rw [HE.out]; omega, by rw [HE.out]; omega, World.drewN_drewN _ _ _⟩
        · have d1 : decide (0 < a) = false := decide_eq_false k1
          have hE : chg.suf x y = m := by rw [HS.out, chg.pre_end (.inl (by rw [List.length_reverse]; omega))]; rfl
          have HE := Aside0.mk hE
          clear hE
          go_wp2_with fail
          go_quiet (fail)
          go_wp2_with fail
          go_meet
          case rel => exact ⟨a, b, _, rfl, rfl, by rw [HE.out]; omega, by rw [HE.out]; omega, World.drewN_drewN _ _ _⟩
    case rest =>
      obtain ⟨a, b, nw, rfl, rfl, hax, hby, hwx⟩ := hcut
      have hlX : (x.take a).length = a := by rw [List.length_take]; omega
      have hlY : (y.take b).length = b := by rw [List.length_take]; omega
      have RX2 := Aside0.mk (ReadsOf.take_ RX.out a (by omega))
      have RY2 := Aside0.mk (ReadsOf.take_ RY.out b (by omega))
      have hF : chg.f l0 l1 = if 1000 < a ∨ 1000 < b then [⟨p, a, p, b⟩] else chg.go (x.take a) (y.take b) p p ⟨p, 0, p, 0⟩ [] := by
        rw [HF.out]
        simp only [show x.length - chg.suf x y = a by omega, show y.length - chg.suf x y = b by omega, hlX, hlY]
      have HBw := Aside0.mk (show Below w.heap.size w wc by rw [hwx]; exact pw_below_drewN HB.out _)
      have HBF2 := Aside0.mk (show wc.heap[w.heap.size]? = some (.cells #[.int .i64 p] 3 (0, 0)) by rw [hwx]; exact blk_drewN HBF.out _)
      have hwc2 := blk_lt HBF2.out
      have cF2 := blk_cell HBF2.out 0
      have fF2 := blk_frozen HBF2.out 0
      simp only [List.getElem?_toArray, List.getElem?_cons_zero] at cF2
      clear HF HBF HB hwx cF fF hwc hs2 hs3 RX RY
      generalize hX : x.take a = X at *
      generalize hY : y.take b = Y at *
      subst hlX hlY
      have hc2' : X.length ≤ c0 - p := by omega
      have hc3' : Y.length ≤ c1 - p := by omega
      by_cases k1 : 1000 < X.length
      · have d1 : decide (1000 < X.length) = true := decide_eq_true k1
        have e1 : (1000 : Int) < (X.length : Int) := by omega
        rw [if_pos (.inl k1)] at hF
        have HF := Aside0.mk hF
        clear hF
        go_wp2_with fail
        go_ret
        refine ⟨_, rfl, ?_, HBw.out.alloc (Nat.le_of_lt hwc2) _⟩
        rw [HF.out]
        exact one78 wc w.heap.size ⟨p, X.length, p, Y.length⟩ (Nat.le_of_lt hwc2)
      · have d1 : decide (1000 < X.length) = false := decide_eq_false k1
        have e1 : ¬ (1000 : Int) < (X.length : Int) := by omega
        by_cases k2 : 1000 < Y.length
        · have d2 : decide (1000 < Y.length) = true := decide_eq_true k2
          have e2 : (1000 : Int) < (Y.length : Int) := by omega
          rw [if_pos (.inr k2)] at hF
          have HF := Aside0.mk hF
          clear hF
          go_wp2_with fail
          go_ret
          refine ⟨_, rfl, ?_, HBw.out.alloc (Nat.le_of_lt hwc2) _⟩
          rw [HF.out]
          exact one78 wc w.heap.size ⟨p, X.length, p, Y.length⟩ (Nat.le_of_lt hwc2)
        · have d2 : decide (1000 < Y.length) = false := decide_eq_false k2
          have e2 : ¬ (1000 : Int) < (Y.length : Int) := by omega
          rw [if_neg (by omega)] at hF
          have HF := Aside0.mk hF
          clear hF
          go_wp2_with fail
          go_wp2_with (go_at_call 58; refine (hunks_table.calls A2 (c0 - p) X A3 (c1 - p) Y wc (Kd.C_below (Kd.C_of_reads (h1 := fun _ => rfl) RX2.out) HBw.out) hc2' (Kd.C_below (Kd.C_of_reads (h1 := fun _ => rfl) RY2.out) HBw.out) hc3' (by omega) (by omega)).mono ?_; rintro e w4 ⟨g, gs, rfl, hM, hgw, hb4⟩; have HM := Aside0.mk hM; have HB4 := Aside0.mk hb4; clear hM hb4)
          have hgF : w.heap.size < w4.heap.size := Nat.lt_of_lt_of_le hwc2 HB4.out.size
          have hS5 : FlushSt ((w4.alloc (.cells #[.slice none 0 0] 75)).alloc (.cells #[.int .i64 0, .int .i64 0, .int .i64 0, .int .i64 0] 78)) w4.heap.size w.heap.size w4.heap.size (w4.heap.size + 1) p (.slice none 0 0) ⟨0, 0, 0, 0⟩ [] := {
            bF := blk_alloc (blk_alloc (blk_below HBF2.out HB4.out) _) _
            bO := blk_alloc (blk_new w4 _) _
            bC := by
              have := blk_new (w4.alloc (.cells #[.slice none 0 0] 75)) (.cells #[.int .i64 0, .int .i64 0, .int .i64 0, .int .i64 0] 78)
              rwa [World.size_alloc] at this
            row := Kd.R_nil _ _ _ _ _ }
          have hB5 : Below w4.heap.size w4 ((w4.alloc (.cells #[.slice none 0 0] 75)).alloc (.cells #[.int .i64 0, .int .i64 0, .int .i64 0, .int .i64 0] 78)) := below_alloc (below_alloc (Below.refl _ _) _) _
          have HS5 := Aside0.mk hS5
          have HB5 := Aside0.mk hB5
          clear hS5 hB5
          refine (flush.calls 0 0 _ w4.heap.size w.heap.size w4.heap.size (w4.heap.size + 1) p (.slice none 0 0) ⟨0, 0, 0, 0⟩ [] HS5.out hgF (Nat.le_refl _) (by omega) HB5.out.size ⟨by decide, by decide⟩ ⟨by decide, by decide⟩ ⟨by omega, by omega⟩ ⟨by omega, by omega⟩ ⟨by omega, by omega⟩ (by simp)).mono ?_
          rintro e w6 ⟨⟨_, rfl⟩, v6, hS6, hb6⟩
          have hS6' : FlushSt w6 w4.heap.size w.heap.size w4.heap.size (w4.heap.size + 1) p v6 ⟨p, 0, p, 0⟩ [] := by simpa [chg.flush] using hS6
          have HS6 := Aside0.mk hS6'
          have HB6 := Aside0.mk (HB5.out.trans hb6)
          clear hS6 hS6' hb6 HS5 HB5
          have nCF : w4.heap.size + 1 ≠ w.heap.size := by omega
          have nOC : w4.heap.size ≠ w4.heap.size + 1 := by omega
          go_wp2_with fail
          go_loopw [12, 13] (fun v12 v13 wr => ∃ (i k : Nat) (vo : Value) (c : S78) (out : List S78), v12 = .int .i64 i ∧ v13 = .int .i64 k ∧ i ≤ X.length ∧ k ≤ Y.length ∧ Aside0 (FlushSt wr w4.heap.size w.heap.size w4.heap.size (w4.heap.size + 1) p vo c out) ∧ Aside0 (Below w4.heap.size w4 wr) ∧ (0 ≤ c.f1 ∧ c.f1 ≤ i) ∧ (0 ≤ c.f3 ∧ c.f3 ≤ k) ∧ out.length ≤ i ∧ Aside0 (chg.f l0 l1 = chg.go (X.drop i) (Y.drop k) ((p : Int) + i) ((p : Int) + k) c out)) (fun v12 v13 _ => (X.length - (intOf v12).toNat) + (Y.length - (intOf v13).toNat))
          case atStart => exact ⟨0, 0, v6, ⟨p, 0, p, 0⟩, [], rfl, rfl, by omega, by omega, HS6, HB6, ⟨Int.le_refl _, Int.le_refl _⟩, ⟨Int.le_refl _, Int.le_refl _⟩, Nat.le_refl _, ⟨by rw [HF.out]; simp⟩⟩
          case round =>
            clear HF HS6 HB6
            obtain ⟨i, k, vo, c, out, rfl, rfl, hi, hk, HS, HBr, r1, r3, ro, HG⟩ := hrel
            have bC := HS.out.bC
            have lC := blk_lt bC
            have e1 := blk_cell bC 1
            have e3 := blk_cell bC 3
            have f1 := blk_frozen bC 1
            have f3 := blk_frozen bC 3
            simp only [List.getElem?_toArray] at e1 e3
            clear bC
            have wi : IntKind.i64.wrap ((i : Int) + 1) = (i : Int) + 1 := IntWalk.i64_in _ (by omega)
            have wk : IntKind.i64.wrap ((k : Int) + 1) = (k : Int) + 1 := IntWalk.i64_in _ (by omega)
            by_cases m1 : i < X.length
            · have d1 : decide (i < X.length) = true := decide_eq_true m1
              have hdX := drop_rdOf X i m1
              by_cases m2 : k < Y.length
              · have d2 : decide (k < Y.length) = true := decide_eq_true m2
                have hdY := drop_rdOf Y k m2
                obtain ⟨i1, hi1⟩ : ∃ i1 : Nat, i + 1 = i1 := ⟨_, rfl⟩
                obtain ⟨k1, hk1⟩ : ∃ k1 : Nat, k + 1 = k1 := ⟨_, rfl⟩
                have g1 : (i : Int) + 1 = (i1 : Int) := by omega
                have g2 : (k : Int) + 1 = (k1 : Int) := by omega
                have wi1 : IntKind.i64.wrap (i1 : Int) = (i1 : Int) := IntWalk.i64_in _ (by omega)
                have wk1 : IntKind.i64.wrap (k1 : Int) = (k1 : Int) := IntWalk.i64_in _ (by omega)
                rw [hi1] at hdX
                rw [hk1] at hdY
                rw [g1] at wi
                rw [g2] at wk
                obtain ⟨ad2, e, hx2⟩ := ReadsOf.at_ RX2.out (i : Int) (by omega) (by omega)
                cases e
                obtain ⟨ad3, e, hx3⟩ := ReadsOf.at_ RY2.out (k : Int) (by omega) (by omega)
                cases e
                have hbW := below_then (below_then HBw.out (Nat.le_of_lt hwc2) HB4.out) (Nat.le_of_lt hgF) HBr.out
                replace hx2 := (hbW.cell (World.block_lt_of_cell? w _ hx2)).trans hx2
                replace hx3 := (hbW.cell (World.block_lt_of_cell? w _ hx3)).trans hx3
                rw [Int.toNat_natCast] at hx2 hx3
                have hMr := HM.out.below HBr.out
                have o1 := hMr.outer i (by omega)
                have o2 := hMr.outer i1 (by omega)
                have q1 := hMr.inner i1 k (by omega) (by omega)
                have q2 := hMr.inner i k1 (by omega) (by omega)
                have dn : ((k : Int) == (Y.length : Int)) = false := beq_eq_false_iff_ne.2 (by omega)
                have hgo := chg.go_both (rdOf ByteArray.empty X i) (X.drop i1) (rdOf ByteArray.empty Y k) (Y.drop k1) ((p : Int) + i) ((p : Int) + k) c out
                rw [← hdX, ← hdY, ← HG.out, show (p : Int) + i + 1 = (p : Int) + (i1 : Int) by omega, show (p : Int) + k + 1 = (p : Int) + (k1 : Int) by omega] at hgo
                generalize hq1 : lcs (X.drop i1) (Y.drop k) = t1 at *
                generalize hq2 : lcs (X.drop i) (Y.drop k1) = t2 at *
                generalize rdOf ByteArray.empty X i = s0 at *
                generalize rdOf ByteArray.empty Y k = s1 at *
                have li1 : (i1 : Int) < ((X.length + 1 : Nat) : Int) := by omega
                have li0 : (i : Int) < ((X.length + 1 : Nat) : Int) := by omega
                have lk1 : (k1 : Int) < ((Y.length + 1 : Nat) : Int) := by omega
                have lk0 : (k : Int) < ((Y.length + 1 : Nat) : Int) := by omega
                have li1' : i1 < X.length + 1 := by omega
                have lk1' : k1 < Y.length + 1 := by omega
                by_cases m3 : s0.toList = s1.toList
                · rw [if_pos m3] at hgo
                  have d3 : (s0.toList == s1.toList) = true := beq_iff_eq.2 m3
                  have HGO := Aside0.mk hgo
                  clear hgo hq1 hq2 hdX hdY
                  go_wp2_with fail
                  go_quiet (fail)
                  go_wp2_with fail
                  refine (flush.calls i1 k1 _ w4.heap.size w.heap.size w4.heap.size (w4.heap.size + 1) p vo c out (HS.out.drewN _) hgF (Nat.le_refl _) (by omega) HBr.out.size ⟨by omega, by omega⟩ ⟨by omega, by omega⟩ ⟨by omega, by omega⟩ ⟨by omega, by omega⟩ ⟨by omega, by omega⟩ (by omega)).mono ?_
                  rintro e w7 ⟨⟨_, rfl⟩, v7, hS7, hb7⟩
                  have HS7 := Aside0.mk hS7
                  have HB7 := Aside0.mk ((pw_below_drewN HBr.out _).trans hb7)
                  have hfl := flush_len c out
                  clear hS7 hb7
                  go_wp2_with fail
                  exact ⟨⟨i1, k1, v7, ⟨p + i1, 0, p + k1, 0⟩, chg.flush c out, rfl, rfl, by omega, by omega, HS7, HB7, ⟨Int.le_refl _, by show (0 : Int) ≤ (i1 : Int); omega⟩, ⟨Int.le_refl _, by show (0 : Int) ≤ (k1 : Int); omega⟩, by omega, HGO⟩, by simp [intOf]; omega⟩
                · rw [if_neg m3] at hgo
                  have d3 : (s0.toList == s1.toList) = false := beq_eq_false_iff_ne.2 m3
                  by_cases m4 : t2 ≤ t1
                  · rw [if_pos m4] at hgo
                    have d4 : decide (t2 ≤ t1) = true := decide_eq_true m4
                    have HGO := Aside0.mk hgo
                    clear hgo hq1 hq2 hdX hdY
                    go_wp2_with fail
                    go_quiet (fail)
                    go_wp2_with fail
                    go_quiet (fail)
                    go_wp2_with fail
                    exact ⟨⟨i1, k, vo, ⟨c.f0, c.f1 + 1, c.f2, c.f3⟩, out, rfl, rfl, by omega, by omega, ⟨(HS.out.drewN _).put1 nCF nOC _⟩, ⟨(pw_below_drewN HBr.out _).setCell (by show w4.heap.size ≤ w4.heap.size + 1; omega) _⟩, ⟨by show 0 ≤ c.f1 + 1; omega, by show c.f1 + 1 ≤ (i1 : Int); omega⟩, r3, by omega, HGO⟩, by simp [intOf]; omega⟩
                  · rw [if_neg m4] at hgo
                    have d4 : decide (t2 ≤ t1) = false := decide_eq_false m4
                    have HGO := Aside0.mk hgo
                    clear hgo hq1 hq2 hdX hdY
                    go_wp2_with fail
                    go_quiet (fail)
                    go_wp2_with fail
                    go_quiet (fail)
                    go_wp2_with fail
                    exact ⟨⟨i, k1, vo, ⟨c.f0, c.f1, c.f2, c.f3 + 1⟩, out, rfl, rfl, by omega, by omega, ⟨(HS.out.drewN _).put3 nCF nOC _⟩, ⟨(pw_below_drewN HBr.out _).setCell (by show w4.heap.size ≤ w4.heap.size + 1; omega) _⟩, r1, ⟨by show 0 ≤ c.f3 + 1; omega, by show c.f3 + 1 ≤ (k1 : Int); omega⟩, by omega, HGO⟩, by simp [intOf]; omega⟩
              · have d2 : decide (k < Y.length) = false := decide_eq_false m2
                obtain rfl : k = Y.length := by omega
                have dk : ((Y.length : Int) == (Y.length : Int)) = true := beq_iff_eq.2 rfl
                go_wp2_with fail
                go_quiet (fail)
                go_wp2_with fail
                go_quiet (fail)
                go_wp2_with fail
                refine ⟨⟨i + 1, Y.length, vo, ⟨c.f0, c.f1 + 1, c.f2, c.f3⟩, out, by go_num, rfl, by omega, by omega, ⟨(HS.out.drewN _).put1 nCF nOC _⟩, ⟨(pw_below_drewN HBr.out _).setCell (by show w4.heap.size ≤ w4.heap.size + 1; omega) _⟩, ⟨by show 0 ≤ c.f1 + 1; omega, by show c.f1 + 1 ≤ ((i + 1 : Nat) : Int); omega⟩, r3, by omega, ⟨?_⟩⟩, by simp [intOf]; omega⟩
                rw [HG.out, hdX, List.drop_length, show (p : Int) + ((i + 1 : Nat) : Int) = (p : Int) + i + 1 by omega]
                simp only [chg.go]
            · have d1 : decide (i < X.length) = false := decide_eq_false m1
              obtain rfl : i = X.length := by omega
              by_cases m2 : k < Y.length
              · have d2 : decide (k < Y.length) = true := decide_eq_true m2
                go_wp2_with fail
                go_quiet (fail)
                go_wp2_with fail
                go_quiet (fail)
                go_wp2_with fail
                refine ⟨⟨X.length, k + 1, vo, ⟨c.f0, c.f1, c.f2, c.f3 + 1⟩, out, rfl, by go_num, by omega, by omega, ⟨(HS.out.drewN _).put3 nCF nOC _⟩, ⟨(pw_below_drewN HBr.out _).setCell (by show w4.heap.size ≤ w4.heap.size + 1; omega) _⟩, r1, ⟨by show 0 ≤ c.f3 + 1; omega, by show c.f3 + 1 ≤ ((k + 1 : Nat) : Int); omega⟩, by omega, ⟨?_⟩⟩, by simp [intOf]; omega⟩
                rw [HG.out, drop_rdOf Y k m2, List.drop_length, show (p : Int) + ((k + 1 : Nat) : Int) = (p : Int) + k + 1 by omega]
                simp only [chg.go]
              · have d2 : decide (k < Y.length) = false := decide_eq_false m2
                obtain rfl : k = Y.length := by omega
                have hG : chg.f l0 l1 = chg.flush c out := by rw [HG.out, List.drop_length, List.drop_length]; simp [chg.go]
                have HG2 := Aside0.mk hG
                clear hG HG
                go_wp2_with (go_at_call 59; refine (flush.calls X.length Y.length _ w4.heap.size w.heap.size w4.heap.size (w4.heap.size + 1) p vo c out HS.out hgF (Nat.le_refl _) (by omega) HBr.out.size ⟨by omega, by omega⟩ ⟨by omega, by omega⟩ ⟨by omega, by omega⟩ ⟨by omega, by omega⟩ ⟨by omega, by omega⟩ (by omega)).mono ?_; rintro e w7 ⟨⟨_, rfl⟩, v7, hS7, hb7⟩; have cO := blk_cell hS7.bO 0; obtain ⟨A7, c7, rfl, _, _⟩ := Kd.R_reads hS7.row; simp only [List.getElem?_toArray] at cO; have HS7 := Aside0.mk hS7; have HB7 := Aside0.mk (HBr.out.trans hb7); clear hS7 hb7)
                go_ret
                refine ⟨_, rfl, ?_, below_then HBw.out (Nat.le_of_lt hwc2) (below_then HB4.out HB4.out.size HB7.out)⟩
                rw [HG2.out]
                exact Kd.R_lower (Kd.R_mono HS7.out.row (fun _ _ => trivial)) (Nat.le_of_lt hgF)
end Go.Proofs.YthkcghiagnddiaaDoor.X
