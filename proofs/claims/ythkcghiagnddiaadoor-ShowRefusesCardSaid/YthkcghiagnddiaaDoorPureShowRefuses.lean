import Derived.Test.YthkcghiagnddiaaDoorPureShowMade
import Derived.Test.YthkcghiagnddiaaDoorShowRefusesWalk
namespace Go.Proofs.YthkcghiagnddiaaDoor.Pure
open Go Go.RowKit X Go.Proofs.YthkcghiagnddiaaDoorW.PrintWords Go.Proofs.YthkcghiagnddiaaDoorW.PrintLast
set_option linter.unusedVariables false
set_option linter.unusedSimpArgs false
/-- A hunk turned is told as it should be. -/
theorem turned_check {h : S26} (hc : checkSpec h.f0 h.f1 h.f2 h.f3 h.f4 = 0) (hl : h.f4.length ≤ 1000) (c : Int) (h0 : 0 ≤ c ∧ c ≤ 3) : h.f4 ≠ [] ∧ checkSpec (refH c h).f0 (refH c h).f1 (refH c h).f2 (refH c h).f3 (refH c h).f4 = refW c ∧ (refH c h).f4.length ≤ 1000 := by
  obtain ⟨b0, b1, b2, b3⟩ := check_ok (by omega) hc
  unfold checkSpec at hc
  cases hs : scanL h.f4 0 0 with
  | inl e =>
    rw [hs] at hc
    simp only at hc
    subst hc
    exfalso
    have key : ∀ (l : List S42) (o n : Int), scanL l o n ≠ .inl 0 := by
      intro l
      induction l with
      | nil => intro o n; simp [scanL]
      | cons x t ih =>
        intro o n
        simp only [scanL]
        repeat' split
        all_goals first | exact ih _ _ | simp
    exact key _ _ _ hs
  | inr on =>
    obtain ⟨o, n⟩ := on
    rw [hs] at hc
    simp only [behind] at hc
    rw [if_neg (by omega)] at hc
    by_cases hbn : o = h.f1 ∧ n = h.f3 ∧ o + n ≠ 0
    · have hne : h.f4 ≠ [] := by
        intro e
        rw [e] at hs
        simp only [scanL, Sum.inr.injEq, Prod.mk.injEq] at hs
        omega
      refine ⟨hne, ?_⟩
      rcases (show c = 0 ∨ c = 1 ∨ c = 2 ∨ c = 3 by omega) with rfl | rfl | rfl | rfl
      · have hw : wrap64 (h.f1 + 1) = h.f1 + 1 := w64 (by omega)
        simp only [refH, refW, if_true]
        rw [hw]
        refine ⟨?_, hl⟩
        unfold checkSpec
        rw [hs]
        simp only [behind]
        rw [if_neg (by omega), if_neg (by omega)]
      · have hw : wrap64 (h.f3 + 1) = h.f3 + 1 := w64 (by omega)
        simp only [refH, refW, if_true, show ¬ ((1 : Int) = 0) by omega, if_false]
        rw [hw]
        refine ⟨?_, hl⟩
        unfold checkSpec
        rw [hs]
        simp only [behind]
        rw [if_neg (by omega), if_neg (by omega)]
      · simp only [refH, refW, if_true, show ¬ ((2 : Int) = 0) by omega, show ¬ ((2 : Int) = 1) by omega, if_false]
        refine ⟨?_, by rw [List.length_set]; exact hl⟩
        cases hf : h.f4 with
        | nil => exact absurd hf hne
        | cons z t =>
          rw [hf] at hs
          have hrd : rd_T42 (z :: t) 0 = z := rfl
          rw [List.set_cons_zero, hrd]
          unfold checkSpec
          simp only [scanL] at hs ⊢
          by_cases hb : hasB z.f1 10 = true
          · rw [if_pos hb] at hs; cases hs
          · rw [if_neg hb, if_neg (by omega), if_neg (by omega), if_neg (by omega)]
      · simp only [refH, refW, if_true, show ¬ ((3 : Int) = 0) by omega, show ¬ ((3 : Int) = 1) by omega, show ¬ ((3 : Int) = 2) by omega, if_false]
        refine ⟨?_, hl⟩
        unfold checkSpec
        rw [hs]
        simp only [behind]
        rw [if_pos (by omega)]
    · rw [if_neg hbn] at hc
      omega
theorem refused {A B : List ByteArray} (gA : GoodL A) (gB : GoodL B) (tA : tiny A) (tB : tiny B) (x' : S26) (e : Int) (he : e ≠ 0) (hx' : x'.f4.length ≤ 1000) (hc' : checkSpec x'.f0 x'.f1 x'.f2 x'.f3 x'.f4 = e) : ∀ (hs : List S26) (i : Nat) (acc : List UInt8), i < hs.length → (∀ x ∈ hs, checkSpec x.f0 x.f1 x.f2 x.f3 x.f4 = 0 ∧ ∃ p q ls, HOK A B p q x.f0 x.f1 x.f2 x.f3 ls ∧ x.f4 = ls.map mkL) → acc.length + 600000 * hs.length ≤ 140737488355328 →
    Ev (fun k => show_Print.hunks k (hs.set i x') acc) (⟨#[]⟩, e)
  | [], i, acc, hi, _, _ => by simp at hi
  | x :: t, 0, acc, hi, h, hl => by
    rw [List.set_cons_zero]
    have hck := check_ev x'.f0 x'.f1 x'.f2 x'.f3 x'.f4 (by omega)
    rw [hc'] at hck
    have hrun : Ev (fun k => (show_Check.f k x'.f0 x'.f1 x'.f2 x'.f3 x'.f4).bind fun e => if e = 0 then (show_Head.f x'.f0 x'.f1 x'.f2 x'.f3 x'.f4).bind fun hd => if (acc ++ hd.data.toList).length ≤ 140737488355328 then (show_Print.lines x'.f4 (acc ++ hd.data.toList)).bind fun acc' => show_Print.hunks k t acc' else none else some (⟨#[]⟩, e)) (⟨#[]⟩, e) := by
      refine Ev.bind hck ?_
      exact Ev.congr (f := fun _ => some ((⟨#[]⟩ : ByteArray), e)) (fun k => by rw [if_neg he]) (Ev.now _)
    exact Ev.congr (fun k => rfl) hrun
  | x :: t, i + 1, acc, hi, h, hl => by
    rw [List.set_cons_succ]
    obtain ⟨hc, p, q, ls, h1, h2⟩ := h x (.head _)
    obtain ⟨n1, n2, n3⟩ := hok_tiny tA tB h1
    have hll : x.f4.length ≤ 1000 := by rw [h2, List.length_map]; exact n1
    obtain ⟨b1, b2, b3, b4⟩ := check_ok (by omega) hc
    obtain ⟨hd, e1, e2⟩ := head_ev x.f0 x.f1 x.f2 x.f3 x.f4 (by omega) (by omega) (by omega) (by omega)
    have hdl := head_len x.f0 x.f1 x.f2 x.f3 (by omega) (by omega) (by omega) (by omega)
    simp only [List.length_cons] at hl hi
    have hck := check_ev x.f0 x.f1 x.f2 x.f3 x.f4 (by omega)
    rw [hc] at hck
    have n4 : wl x.f4 ≤ 530000 := by rw [h2]; exact n3
    have hflat : (x.f4.flatMap show_Print.line).length ≤ 530000 := by
      have key : ∀ l : List S42, (l.flatMap show_Print.line).length ≤ wl l := by
        intro l
        induction l with
        | nil => simp
        | cons y u ih =>
          have := line_len y
          unfold wl at *
          simp only [List.flatMap_cons, List.length_append, List.map_cons, List.sum_cons]
          omega
      have := key x.f4
      omega
    have ih := refused gA gB tA tB x' e he hx' hc' t i (acc ++ hunkT x) (by omega) (fun y hy => h y (.tail _ hy)) (by
      rw [List.length_append, hunkT, List.length_append]
      omega)
    have hrun : Ev (fun k => (show_Check.f k x.f0 x.f1 x.f2 x.f3 x.f4).bind fun e => if e = 0 then (show_Head.f x.f0 x.f1 x.f2 x.f3 x.f4).bind fun hd => if (acc ++ hd.data.toList).length ≤ 140737488355328 then (show_Print.lines x.f4 (acc ++ hd.data.toList)).bind fun acc' => show_Print.hunks k (t.set i x') acc' else none else some (⟨#[]⟩, e)) (⟨#[]⟩, e) := by
      refine Ev.bind hck ?_
      refine Ev.congr (f := fun k => show_Print.hunks k (t.set i x') (acc ++ hunkT x)) (fun k => ?_) ih
      rw [if_pos rfl, e1, Option.bind_some, e2, if_pos (by rw [List.length_append]; omega), lines_ev _ _ (by rw [List.length_append]; omega), Option.bind_some, hunkT, List.append_assoc]
    exact Ev.congr (fun k => rfl) hrun
theorem name_fn : show_Name.f ⟨#[102, 10]⟩ = some false := by decide +kernel
theorem refuses (l0 l1 : List Int) (x y : Bool) (at_ c : Int) (h0 : (l0.length : Int) ≤ 9223372036854775807) (h1 : (l1.length : Int) ≤ 9223372036854775807) (b0 : bytesOk l0) (b1 : bytesOk l1) (ha : 0 ≤ at_ ∧ at_ ≤ 255) (hc : 0 ≤ c ∧ c ≤ 255) :
    ∃ k ta tb l, redpenlaw19_Text.f k l0 x = some ta ∧ redpenlaw19_Text.f k l1 y = some tb ∧ hunks_Make.f k ta tb 0 = some (l, 0) ∧ l.length ≤ 1000000 ∧
      (l.length ≠ 0 → 0 < (rd_T26 l (at_ % l.length)).f4.length ∧ (-1000000000 ≤ (rd_T26 l (at_ % l.length)).f1 ∧ (rd_T26 l (at_ % l.length)).f1 ≤ 1000000000) ∧ (-1000000000 ≤ (rd_T26 l (at_ % l.length)).f3 ∧ (rd_T26 l (at_ % l.length)).f3 ≤ 1000000000) ∧
      show_Print.f k ⟨#[102]⟩ (l.set (at_ % l.length).toNat (refH (c % 4) (rd_T26 l (at_ % l.length)))) = some (⟨#[]⟩, refW (c % 4)) ∧ (∃ s, show_Print.f k ⟨#[102, 10]⟩ (l.set (at_ % l.length).toNat (refH (c % 4) (rd_T26 l (at_ % l.length)))) = some (s, 10)) ∧
      show_Check.f k (refH (c % 4) (rd_T26 l (at_ % l.length))).f0 (refH (c % 4) (rd_T26 l (at_ % l.length))).f1 (refH (c % 4) (rd_T26 l (at_ % l.length))).f2 (refH (c % 4) (rd_T26 l (at_ % l.length))).f3 (refH (c % 4) (rd_T26 l (at_ % l.length))).f4 = some (refW (c % 4))) := by
  obtain ⟨ta, ⟨k1, e1⟩, n1, o1⟩ := text_ev x l0 h0 b0
  obtain ⟨tb, ⟨k2, e2⟩, n2, o2⟩ := text_ev y l1 h1 b1
  have gA := good_split o1
  have gB := good_split o2
  have tA := tiny_split (show ta.length ≤ 300 by omega)
  have tB := tiny_split (show tb.length ≤ 300 by omega)
  obtain ⟨hs, ⟨k3, e3⟩, hH, n3⟩ := make_ev ta tb (by omega) (by omega) 0 (by omega)
  have hck := hks_checks gA gB tA tB hH
  have he := hks_each hH
  by_cases hz : hs.length = 0
  · exact ⟨max k1 (max k2 k3), ta, tb, hs, e1 _ (by omega), e2 _ (by omega), e3 _ (by omega), by omega, fun h => absurd hz h⟩
  · obtain ⟨i, hi⟩ : ∃ i : Nat, at_ % (hs.length : Int) = i := ⟨(at_ % (hs.length : Int)).toNat, by have := Int.emod_nonneg at_ (show (hs.length : Int) ≠ 0 by omega); omega⟩
    have hil : i < hs.length := by have := Int.emod_lt_of_pos at_ (show (0 : Int) < hs.length by omega); omega
    have hmem : rd_T26 hs (i : Int) ∈ hs := by
      unfold rd_T26
      rw [Int.toNat_natCast, List.getD_eq_getElem?_getD, List.getElem?_eq_getElem hil]
      exact List.getElem_mem hil
    obtain ⟨p, q, ls, d1, d2⟩ := he _ hmem
    have hm := (hok_tiny tA tB d1).1
    have hl4 : (rd_T26 hs (i : Int)).f4.length ≤ 1000 := by rw [d2, List.length_map]; exact hm
    obtain ⟨t1, t2, t3⟩ := turned_check (hck _ hmem) hl4 (c % 4) (by omega)
    obtain ⟨b4, b5, b6, b7⟩ := check_ok (by omega) (hck _ hmem)
    have hw : refW (c % 4) ≠ 0 := by unfold refW; repeat' split; all_goals omega
    obtain ⟨k4, e4⟩ := refused gA gB tA tB _ _ hw t3 t2 hs i (show_Print.first ⟨#[102]⟩) hil (fun z hzz => ⟨hck z hzz, he z hzz⟩) (by rw [first_len]; omega)
    obtain ⟨k5, e5⟩ := check_ev _ _ _ _ _ (show ((refH (c % 4) (rd_T26 hs (i : Int))).f4.length : Int) ≤ 2305843009213693952 by omega)
    refine ⟨max k1 (max k2 (max k3 (max k4 k5))), ta, tb, hs, e1 _ (by omega), e2 _ (by omega), e3 _ (by omega), by omega, fun _ => ?_⟩
    rw [hi, Int.toNat_natCast]
    refine ⟨List.length_pos_iff.2 t1, by omega, by omega, ?_, ⟨⟨#[]⟩, ?_⟩, ?_⟩
    · unfold show_Print.f
      rw [name_f, Option.bind_some, if_pos rfl, if_neg (by rw [List.length_set]; exact hz), if_pos (by decide)]
      exact e4 _ (by omega)
    · unfold show_Print.f
      rw [name_fn, Option.bind_some, if_neg Bool.false_ne_true]
    · have := e5 (max k1 (max k2 (max k3 (max k4 k5)))) (by omega)
      rw [t2] at this
      exact this
end Go.Proofs.YthkcghiagnddiaaDoor.Pure
