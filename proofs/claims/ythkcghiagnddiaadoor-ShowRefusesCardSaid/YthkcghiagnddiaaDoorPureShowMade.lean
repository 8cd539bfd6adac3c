import Derived.Test.YthkcghiagnddiaaDoorPureShow
namespace Go.Proofs.YthkcghiagnddiaaDoor.Pure
open Go Go.RowKit X Go.Proofs.YthkcghiagnddiaaDoorW.PrintWords Go.Proofs.YthkcghiagnddiaaDoorW.PrintLast
set_option linter.unusedVariables false
set_option linter.unusedSimpArgs false
theorem awake20' : redpenlaw20_Awake.f = some true := by decide +kernel
theorem name_f : show_Name.f ⟨#[102]⟩ = some true := by decide +kernel
theorem first_f : (show_Print.first ⟨#[102]⟩).count 10 = 2 := by decide +kernel
theorem first_len : (show_Print.first ⟨#[102]⟩).length = 16 := by decide +kernel
/-- Two texts, their hunks, and the diff. -/
theorem print_f {A B : List ByteArray} (gA : GoodL A) (gB : GoodL B) (tA : tiny A) (tB : tiny B) {hs : List S26} (h : Hks A B 0 0 hs) (hl : hs.length ≤ 1000) :
    Ev (fun k => show_Print.f k ⟨#[102]⟩ hs) (if hs.length = 0 then ⟨#[]⟩ else ⟨(show_Print.first ⟨#[102]⟩ ++ hs.flatMap hunkT).toArray⟩, 0) := by
  by_cases hz : hs.length = 0
  · rw [if_pos hz]
    refine Ev.congr (f := fun _ => some ((⟨#[]⟩ : ByteArray), (0 : Int))) (fun k => ?_) (Ev.now _)
    unfold show_Print.f
    rw [name_f, Option.bind_some, if_pos rfl, if_pos hz]
  · rw [if_neg hz]
    have hc := hks_checks gA gB tA tB h
    have he := hks_each h
    have := printed gA gB tA tB hs (show_Print.first ⟨#[102]⟩) (fun x hx => ⟨hc x hx, he x hx⟩) (by rw [first_len]; omega)
    refine Ev.congr (fun k => ?_) this
    unfold show_Print.f
    rw [name_f, Option.bind_some, if_pos rfl, if_neg hz, if_pos (by decide)]
theorem nlc_all (s : ByteArray) : nlc s s.size = s.data.toList.count 10 := by
  unfold nlc
  rw [← Plain.list_size, List.take_length]
theorem tiny_split {t : List Int} (h : t.length ≤ 300) : tiny (lSplit.f t) := ⟨by have := split_len t; omega, fun x hx => by have := split_size hx; omega⟩
theorem made (l0 l1 : List Int) (x y : Bool) (c : Int) (h0 : (l0.length : Int) ≤ 9223372036854775807) (h1 : (l1.length : Int) ≤ 9223372036854775807) (b0 : bytesOk l0) (b1 : bytesOk l1) (hc : 0 ≤ c ∧ c ≤ 255) :
    ∃ k ta tb l s, redpenlaw19_Text.f k l0 x = some ta ∧ redpenlaw19_Text.f k l1 y = some tb ∧ hunks_Make.f k ta tb (c % 17) = some (l, 0) ∧ (∀ h ∈ l, show_Check.f k h.f0 h.f1 h.f2 h.f3 h.f4 = some 0) ∧ show_Print.f k ⟨#[102]⟩ l = some (s, 0) ∧ l.length ≤ 1000000 ∧ rowsOf l ≤ 1000000000 ∧ s.size ≤ 1000000000000 ∧
      (s.size = 0 ↔ l.length = 0) ∧ (l.length ≠ 0 → rowsOf l + 2 ≤ nlc s s.size ∧ nlc s s.size ≤ rowsOf l + 4) := by
  obtain ⟨ta, ⟨k1, e1⟩, n1, o1⟩ := text_ev x l0 h0 b0
  obtain ⟨tb, ⟨k2, e2⟩, n2, o2⟩ := text_ev y l1 h1 b1
  have gA := good_split o1
  have gB := good_split o2
  have tA := tiny_split (show ta.length ≤ 300 by omega)
  have tB := tiny_split (show tb.length ≤ 300 by omega)
  obtain ⟨ctx, hctx⟩ : ∃ ctx : Nat, c % 17 = ctx := ⟨(c % 17).toNat, by omega⟩
  obtain ⟨hs, ⟨k3, e3⟩, hH, n3⟩ := make_ev ta tb (by omega) (by omega) ctx (by omega)
  have hck := hks_checks gA gB tA tB hH
  have he := hks_each hH
  obtain ⟨k4, e4⟩ := ev_all (fun k (h : S26) => show_Check.f k h.f0 h.f1 h.f2 h.f3 h.f4) (fun _ => 0) hs (fun h hh => by
    obtain ⟨p, q, ls, d1, d2⟩ := he h hh
    have := (hok_tiny tA tB d1).1
    have hev := check_ev h.f0 h.f1 h.f2 h.f3 h.f4 (by rw [d2, List.length_map]; omega)
    rw [hck h hh] at hev
    exact hev)
  obtain ⟨k5, e5⟩ := print_f gA gB tA tB hH (by omega)
  have hrt := rows_tiny tA tB hs he
  have hok : ∀ h ∈ hs, okHk h := fun h hh => by
    obtain ⟨p, q, ls, d1, d2⟩ := he h hh
    exact hok_ok gA gB d1 d2
  have hnl := hunks_count_nl hs hok
  have hbr := hks_bare hH
  have hb1 := bareA_good gA
  have hb2 := bareA_good gB
  simp only [List.drop_zero] at hbr
  have hflat : (hs.flatMap hunkT).length ≤ 600000 * hs.length := by
    have key : ∀ l : List S26, (∀ h ∈ l, checkSpec h.f0 h.f1 h.f2 h.f3 h.f4 = 0 ∧ ∃ p q ls, HOK (lSplit.f ta) (lSplit.f tb) p q h.f0 h.f1 h.f2 h.f3 ls ∧ h.f4 = ls.map mkL) → (l.flatMap hunkT).length ≤ 600000 * l.length := by
      intro l
      induction l with
      | nil => intro _; simp
      | cons x t ih =>
        intro hx
        have h5 := ih (fun y hy => hx y (.tail _ hy))
        obtain ⟨hc, p, q, ls, d1, d2⟩ := hx x (.head _)
        obtain ⟨m1, m2, m3⟩ := hok_tiny tA tB d1
        have hll : x.f4.length ≤ 1000 := by rw [d2, List.length_map]; exact m1
        obtain ⟨c1, c2, c3, c4⟩ := check_ok (by omega) hc
        have hdl := head_len x.f0 x.f1 x.f2 x.f3 (by omega) (by omega) (by omega) (by omega)
        have kf : ∀ l : List S42, (l.flatMap show_Print.line).length ≤ wl l := by
          intro l
          induction l with
          | nil => simp
          | cons y u ih =>
            have := line_len y
            unfold wl at *
            simp only [List.flatMap_cons, List.length_append, List.map_cons, List.sum_cons]
            omega
        have k6 := kf x.f4
        rw [d2] at k6
        simp only [List.flatMap_cons, List.length_append, List.length_cons, hunkT]
        rw [d2]
        omega
    exact key hs (fun h hh => ⟨hck h hh, he h hh⟩)
  have F := Nat.le_max_left k1 (max k2 (max k3 (max k4 k5)))
  refine ⟨max k1 (max k2 (max k3 (max k4 k5))), ta, tb, hs, _, e1 _ (by omega), e2 _ (by omega), by rw [hctx]; exact e3 _ (by omega), e4 _ (by omega), e5 _ (by omega), by omega, by omega, ?_, ?_, ?_⟩
  · split
    · show (0 : Nat) ≤ _; omega
    · rw [← list_size]
      show (show_Print.first ⟨#[102]⟩ ++ hs.flatMap hunkT).length ≤ _
      rw [List.length_append, first_len]
      omega
  · by_cases hz : hs.length = 0
    · rw [if_pos hz]
      exact ⟨fun _ => hz, fun _ => rfl⟩
    · rw [if_neg hz]
      refine ⟨fun e => ?_, fun e => absurd e hz⟩
      rw [← list_size] at e
      have e' : (show_Print.first ⟨#[102]⟩ ++ hs.flatMap hunkT).length = 0 := e
      rw [List.length_append, first_len] at e'
      omega
  · intro hz
    rw [if_neg hz, nlc_all]
    show rowsOf hs + 2 ≤ (show_Print.first ⟨#[102]⟩ ++ hs.flatMap hunkT).count 10 ∧ (show_Print.first ⟨#[102]⟩ ++ hs.flatMap hunkT).count 10 ≤ rowsOf hs + 4
    rw [List.count_append, first_f, hnl]
    omega
end Go.Proofs.YthkcghiagnddiaaDoor.Pure
