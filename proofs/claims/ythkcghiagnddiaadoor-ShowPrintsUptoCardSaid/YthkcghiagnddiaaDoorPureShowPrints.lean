import Derived.Test.YthkcghiagnddiaaDoorPurePrint
import Derived.Test.YthkcghiagnddiaaDoorOpenHunk
namespace Go.Proofs.YthkcghiagnddiaaDoor.Pure
open Go Go.RowKit X Open Go.Proofs.YthkcghiagnddiaaDoorW.PrintWords Go.Proofs.YthkcghiagnddiaaDoorW.PrintLast

def okL (x : S42) : Prop := (0 ≤ x.f0 ∧ x.f0 ≤ 255) ∧ x.f1.size ≤ 1048576
theorem okL_set {l : List S42} (h : ∀ x ∈ l, okL x) (i : Nat) (v : S42) (hv : okL v) : ∀ x ∈ l.set i v, okL x := by
  intro x hx
  rcases List.mem_or_eq_of_mem_set hx with hx | rfl
  · exact h x hx
  · exact hv
theorem okL_rd {l : List S42} (h : ∀ x ∈ l, okL x) {i : Int} (h0 : 0 ≤ i) (h1 : i < l.length) : okL (rd_T42 l i) := by
  have hn : i.toNat < l.length := by omega
  rw [rd42 (List.getElem?_eq_getElem hn)]
  exact h _ (List.getElem_mem hn)
/-- What Tidied gives: few lines, each no longer than it was. -/
def goodT (n : Nat) (r : Int × Int × Int × Int × List S42) : Prop := r.2.2.2.2.length = n ∧ ∀ x ∈ r.2.2.2.2, okL x
theorem tmod3 {x : Int} (h : 0 ≤ x ∧ x ≤ 255) : 0 ≤ Int.tmod x 3 ∧ Int.tmod x 3 < 3 := by
  rw [Int.tmod_eq_emod_of_nonneg h.1]
  omega
theorem tidied_j2 (n : Nat) (i : Int) (h0 : 0 ≤ i) (hi : i < n) (hnext : ∀ (a b c d : Int) (xs : List S42), xs.length = n → (∀ x ∈ xs, okL x) → ∃ r, Ev (fun k => redpenlaw20_Tidied.l0 k n (i + 1) a b c d xs) r ∧ goodT n r)
    (hn : (n : Int) ≤ 1000) (a b c d : Int) (xs : List S42) (hl : xs.length = n) (hk : ∀ x ∈ xs, okL x) : ∃ r, Ev (fun k => redpenlaw20_Tidied.j2 k i n i a b c d xs) r ∧ goodT n r := by
  have hw : wrap64 (i + 1) = i + 1 := wrap_of (by omega) (by omega)
  by_cases c1 : (rd_T42 xs i).f0 = 43
  · obtain ⟨r, hr, hg⟩ := hnext a b c (wrap64 (d + 1)) xs hl hk
    refine ⟨r, Ev.step (f := fun k => redpenlaw20_Tidied.l0 k n (i + 1) a b c (wrap64 (d + 1)) xs) (fun k => ?_) hr, hg⟩
    simp only [redpenlaw20_Tidied.j2]
    rw [if_pos h0, if_pos (by omega), if_pos c1, if_neg (by omega), hw]
  · by_cases c2 : (rd_T42 xs i).f0 = 45
    · obtain ⟨r, hr, hg⟩ := hnext a (wrap64 (b + 1)) c d xs hl hk
      refine ⟨r, Ev.step (f := fun k => redpenlaw20_Tidied.l0 k n (i + 1) a (wrap64 (b + 1)) c d xs) (fun k => ?_) hr, hg⟩
      simp only [redpenlaw20_Tidied.j2]
      rw [if_pos h0, if_pos (by omega), if_neg c1, if_pos c2, hw]
    · obtain ⟨r, hr, hg⟩ := hnext a (wrap64 (b + 1)) c (wrap64 (d + 1)) xs hl hk
      refine ⟨r, Ev.step (f := fun k => redpenlaw20_Tidied.l0 k n (i + 1) a (wrap64 (b + 1)) c (wrap64 (d + 1)) xs) (fun k => ?_) hr, hg⟩
      simp only [redpenlaw20_Tidied.j2]
      rw [if_pos h0, if_pos (by omega), if_neg c1, if_neg c2, hw]
theorem strOfNums_size (l : List Int) : (strOfNums l).size = l.length := by
  unfold strOfNums
  show (l.map _).toArray.size = _
  simp
theorem tidied_l1 (n : Nat) (i : Int) (h0 : 0 ≤ i) (hi : i < n) (hnext : ∀ (a b c d : Int) (xs : List S42), xs.length = n → (∀ x ∈ xs, okL x) → ∃ r, Ev (fun k => redpenlaw20_Tidied.l0 k n (i + 1) a b c d xs) r ∧ goodT n r)
    (hn : (n : Int) ≤ 1000) (a b c d : Int) (xs : List S42) (hl : xs.length = n) (hk : ∀ x ∈ xs, okL x) (top : Int) (ht : top ≤ (rd_T42 xs i).f1.size ∧ top ≤ 9) : ∀ (m : Nat) (j : Int) (bs : List Int), 0 ≤ j → j ≤ top → top - j = m → bs.length ≤ j.toNat →
    ∃ r, Ev (fun k => redpenlaw20_Tidied.l1 k i bs n i top j a b c d xs) r ∧ goodT n r := by
  intro m
  induction m with
  | zero =>
    intro j bs j0 j1 hd hb
    have hok := okL_rd hk h0 (by omega)
    have hsz := strOfNums_size bs
    have hk1 : ∀ x ∈ xs.set (i : Int).toNat (⟨(rd_T42 xs i).f0, strOfNums bs, (rd_T42 xs i).f2⟩ : S42), okL x := okL_set hk _ _ ⟨hok.1, by show (strOfNums bs).size ≤ _; omega⟩
    have hl1 : (xs.set (i : Int).toNat (⟨(rd_T42 xs i).f0, strOfNums bs, (rd_T42 xs i).f2⟩ : S42)).length = n := by rw [List.length_set, hl]
    have hok1 := okL_rd hk1 h0 (by omega)
    by_cases c1 : (rd_T42 (xs.set (i : Int).toNat (⟨(rd_T42 xs i).f0, strOfNums bs, (rd_T42 xs i).f2⟩ : S42)) i).f2 = true
    · obtain ⟨r, hr, hg⟩ := tidied_j2 n i h0 hi hnext hn a b c d _ (by rw [List.length_set]; exact hl1) (okL_set hk1 (i : Int).toNat (⟨(rd_T42 (xs.set (i : Int).toNat (⟨(rd_T42 xs i).f0, strOfNums bs, (rd_T42 xs i).f2⟩ : S42)) i).f0, (rd_T42 (xs.set (i : Int).toNat (⟨(rd_T42 xs i).f0, strOfNums bs, (rd_T42 xs i).f2⟩ : S42)) i).f1, decide ((wrap64 (i + 2)) ≥ (xs.length : Int))⟩ : S42) hok1)
      refine ⟨r, Ev.step (fun k => ?_) hr, hg⟩
      simp only [redpenlaw20_Tidied.l1, Option.bind_some]
      rw [if_neg (by omega), if_pos h0, if_pos (by omega), if_pos c1]
    · obtain ⟨r, hr, hg⟩ := tidied_j2 n i h0 hi hnext hn a b c d _ (by rw [List.length_set]; exact hl1) (okL_set hk1 (i : Int).toNat (⟨(rd_T42 (xs.set (i : Int).toNat (⟨(rd_T42 xs i).f0, strOfNums bs, (rd_T42 xs i).f2⟩ : S42)) i).f0, (rd_T42 (xs.set (i : Int).toNat (⟨(rd_T42 xs i).f0, strOfNums bs, (rd_T42 xs i).f2⟩ : S42)) i).f1, false⟩ : S42) hok1)
      refine ⟨r, Ev.step (fun k => ?_) hr, hg⟩
      simp only [redpenlaw20_Tidied.l1, Option.bind_some]
      rw [if_neg (by omega), if_pos h0, if_pos (by omega), if_neg c1]
  | succ m ih =>
    intro j bs j0 j1 hd hb
    have hw : wrap64 (j + 1) = j + 1 := wrap_of (by omega) (by omega)
    by_cases c1 : bt ((rd_T42 xs i).f1) j = 10
    · obtain ⟨r, hr, hg⟩ := ih (j + 1) bs (by omega) (by omega) (by omega) (by omega)
      refine ⟨r, Ev.step (f := fun k => redpenlaw20_Tidied.l1 k i bs n i top (j + 1) a b c d xs) (fun k => ?_) hr, hg⟩
      simp only [redpenlaw20_Tidied.l1]
      rw [if_pos (by omega), if_pos h0, if_pos (by omega), if_pos j0, if_pos (by omega), if_pos c1, hw]
    · obtain ⟨r, hr, hg⟩ := ih (j + 1) (bs ++ [bt ((rd_T42 xs i).f1) j]) (by omega) (by omega) (by omega) (by rw [List.length_append, List.length_singleton]; omega)
      refine ⟨r, Ev.step (f := fun k => redpenlaw20_Tidied.l1 k i (bs ++ [bt ((rd_T42 xs i).f1) j]) n i top (j + 1) a b c d xs) (fun k => ?_) hr, hg⟩
      simp only [redpenlaw20_Tidied.l1]
      rw [if_pos (by omega), if_pos h0, if_pos (by omega), if_pos j0, if_pos (by omega), if_neg c1, if_pos (by omega), hw]
theorem tidied_l0 (n : Nat) (hn : (n : Int) ≤ 1000) : ∀ (m : Nat) (i : Int), 0 ≤ i → i ≤ n → (n : Int) - i = m → ∀ (a b c d : Int) (xs : List S42), xs.length = n → (∀ x ∈ xs, okL x) → ∃ r, Ev (fun k => redpenlaw20_Tidied.l0 k n i a b c d xs) r ∧ goodT n r := by
  intro m
  induction m with
  | zero =>
    intro i h0 h1 hd a b c d xs hl hk
    refine ⟨(a, b, c, d, xs), Ev.step (f := fun _ => some (a, b, c, d, xs)) (fun k => ?_) (Ev.now _), hl, hk⟩
    simp only [redpenlaw20_Tidied.l0]
    rw [if_neg (by omega)]
  | succ m ih =>
    intro i h0 h1 hd a b c d xs hl hk
    have hok := okL_rd hk h0 (by omega)
    have ht := tmod3 hok.1
    have hbr := bt_range (⟨#[32, 45, 43]⟩ : ByteArray) (Int.tmod ((rd_T42 xs i).f0) 3)
    have hk1 : ∀ x ∈ xs.set (i : Int).toNat (⟨bt (⟨#[32, 45, 43]⟩ : ByteArray) (Int.tmod ((rd_T42 xs i).f0) 3), (rd_T42 xs i).f1, (rd_T42 xs i).f2⟩ : S42), okL x := okL_set hk _ _ ⟨hbr, hok.2⟩
    have hmn : ∀ s : Int, 0 ≤ s → 0 ≤ mn s 9 ∧ mn s 9 ≤ s ∧ mn s 9 ≤ 9 := by
      intro s hs
      unfold mn
      split <;> omega
    obtain ⟨q0, q1, q2⟩ := hmn ((rd_T42 (xs.set (i : Int).toNat (⟨bt (⟨#[32, 45, 43]⟩ : ByteArray) (Int.tmod ((rd_T42 xs i).f0) 3), (rd_T42 xs i).f1, (rd_T42 xs i).f2⟩ : S42)) i).f1.size : Int) (by omega)
    obtain ⟨r, hr, hg⟩ := tidied_l1 n i h0 (by omega) (ih (i + 1) (by omega) (by omega) (by omega)) hn a b c d _ (by rw [List.length_set]; exact hl) hk1 _ ⟨q1, q2⟩ _ 0 [] (by omega) q0 (Int.toNat_of_nonneg (by omega)).symm (by simp)
    refine ⟨r, Ev.step (fun k => ?_) hr, hg⟩
    simp only [redpenlaw20_Tidied.l0, Option.bind_some]
    rw [if_pos (by omega), if_pos h0, if_pos (by omega), if_pos ht.1, if_pos ht.2]
theorem tidied_ev (a b c d : Int) (l : List S42) (right : Bool) (hl : l.length ≤ 1000000) (hk : ∀ x ∈ l, okL x) : ∃ r, Ev (fun k => redpenlaw20_Tidied.f k a b c d l right) r ∧ r.2.2.2.2.length ≤ 12 ∧ ∀ x ∈ r.2.2.2.2, okL x := by
  have hm : mn (l.length : Int) 12 = ((min l.length 12 : Nat) : Int) := by
    unfold mn
    split <;> omega
  have hkt : ∀ x ∈ l.take (min l.length 12), okL x := fun x hx => hk x (List.mem_of_mem_take hx)
  have hlt : (l.take (min l.length 12)).length = min l.length 12 := by rw [List.length_take]; omega
  cases right with
  | false =>
    refine ⟨(a, b, c, d, l.take (min l.length 12)), Ev.congr (f := fun _ => some (a, b, c, d, l.take (min l.length 12))) (fun k => ?_) (Ev.now _), by show (l.take _).length ≤ 12; omega, hkt⟩
    simp only [redpenlaw20_Tidied.f, Option.bind_some, hm, Int.toNat_natCast, List.nil_append]
    rw [if_pos (by omega), if_pos (by omega), if_pos (by rw [hlt]; simp; omega)]
    simp
  | true =>
    obtain ⟨r, hr, hg1, hg2⟩ := tidied_l0 (min l.length 12) (by omega) (min l.length 12) 0 (by omega) (by omega) (by omega) (wrap64 (Int.tmod (IntKind.u64.wrap a) 50)) 0 (wrap64 (Int.tmod (IntKind.u64.wrap c) 50)) 0 _ hlt hkt
    refine ⟨r, Ev.congr (fun k => ?_) hr, by omega, hg2⟩
    simp only [redpenlaw20_Tidied.f, Option.bind_some, hm, Int.toNat_natCast, List.nil_append]
    rw [if_pos (by omega), if_pos (by omega), if_pos (by rw [hlt]; simp; omega), hlt]
    simp

theorem refname_ev (s : ByteArray) (hs : (s.size : Int) ≤ 9223372036854775807) : Ev (fun k => redpenref18_Name.f k s) (Plain.clean s && (decide (0 < s.size) && decide (s.size ≤ 64))) := by
  have hcl : Plain.clean s = (!hasB s 10 && !hasB s 13) := by
    unfold Plain.clean hasB
    induction s.data.toList with
    | nil => rfl
    | cons b t ih =>
      simp only [List.all_cons, List.any_cons, ih]
      have e1 : (b == 10) = ((b.toNat : Int) == 10) := by
        rw [Bool.eq_iff_iff, beq_iff_eq, beq_iff_eq]
        exact ⟨fun h => by rw [h]; rfl, fun h => UInt8.toNat_inj.1 (by show b.toNat = 10; omega)⟩
      have e2 : (b == 13) = ((b.toNat : Int) == 13) := by
        rw [Bool.eq_iff_iff, beq_iff_eq, beq_iff_eq]
        exact ⟨fun h => by rw [h]; rfl, fun h => UInt8.toNat_inj.1 (by show b.toNat = 13; omega)⟩
      rw [e1, e2]
      cases ((b.toNat : Int) == 10) <;> cases ((b.toNat : Int) == 13) <;> simp
  by_cases h1 : (s.size : Int) ≥ 1
  · by_cases h2 : (s.size : Int) ≤ 64
    · refine Ev.congr (f := fun k => (redpenref18_has.f k s 10).bind fun t121 => (if t121 = true then (some false) else ((redpenref18_has.f k s 13).bind fun t122 => (some (!t122))))) (fun k => by unfold redpenref18_Name.f; rw [if_pos h1, if_pos h2]) ?_
      refine Ev.bind (has_ev s 10 hs) ?_
      rw [hcl, decide_eq_true (show 0 < s.size by omega), decide_eq_true (show s.size ≤ 64 by omega)]
      cases hb : hasB s 10 with
      | true => exact Ev.now _
      | false =>
        refine Ev.congr (fun k => if_neg (by simp)) (Ev.bind (has_ev s 13 hs) ?_)
        simp only [Bool.not_false, Bool.true_and, Bool.and_true]
        exact Ev.now _
    · rw [decide_eq_false (show ¬ s.size ≤ 64 by omega), Bool.and_false, Bool.and_false]
      exact Ev.congr (fun k => by unfold redpenref18_Name.f; rw [if_pos h1, if_neg h2]) (Ev.now _)
  · rw [decide_eq_false (show ¬ 0 < s.size by omega), Bool.false_and, Bool.and_false]
    exact Ev.congr (fun k => by unfold redpenref18_Name.f; rw [if_neg h1]) (Ev.now _)
theorem prints_ev (a0 : ByteArray) (ha : a0.size ≤ 100) (l : List S26) (hll : l.length ≤ 1000) (hf : ∀ h ∈ l, fit h) (hb : (l.map wh).sum ≤ 140737488350000) : ∃ r, Ev (fun k => show_Print.f k a0 l) r ∧ Ev (fun k => redpenref18_Print.f k a0 l) r := by
  have hn1 : show_Name.f a0 = some (Plain.clean a0 && (decide (0 < a0.size) && decide (a0.size ≤ 64))) := by
    unfold show_Name.f
    rw [if_pos (by omega)]
  have hn2 := refname_ev a0 (by omega)
  generalize (Plain.clean a0 && (decide (0 < a0.size) && decide (a0.size ≤ 64))) = ok at hn1 hn2
  cases ok with
  | false =>
    refine ⟨(⟨#[]⟩, 10), Ev.congr (f := fun _ => some (⟨#[]⟩, 10)) (fun k => ?_) (Ev.now _), ?_⟩
    · unfold show_Print.f
      rw [hn1, Option.bind_some, if_neg (by simp)]
    · unfold redpenref18_Print.f
      exact Ev.bind hn2 (Ev.congr (fun k => if_neg (by simp)) (Ev.now _))
  | true =>
    by_cases hz : l.length = 0
    · refine ⟨(⟨#[]⟩, 0), Ev.congr (f := fun _ => some (⟨#[]⟩, 0)) (fun k => ?_) (Ev.now _), ?_⟩
      · unfold show_Print.f
        rw [hn1, Option.bind_some, if_pos rfl, if_pos hz]
      · unfold redpenref18_Print.f
        exact Ev.bind hn2 (Ev.congr (fun k => by rw [if_pos rfl, if_pos (by omega)]) (Ev.now _))
    · have s1 : (⟨#[45, 45, 45, 32, 97, 47]⟩ : ByteArray).size = 6 := rfl
      have s2 : (⟨#[10, 43, 43, 43, 32, 98, 47]⟩ : ByteArray).size = 7 := rfl
      have s3 : (⟨#[10]⟩ : ByteArray).size = 1 := rfl
      have hfirst : (((((⟨#[45, 45, 45, 32, 97, 47]⟩ : ByteArray) ++ a0) ++ (⟨#[10, 43, 43, 43, 32, 98, 47]⟩ : ByteArray)) ++ a0) ++ (⟨#[10]⟩ : ByteArray)).data.toList = show_Print.first a0 := by
        simp only [cat]
        rfl
      obtain ⟨r, h1, h2⟩ := prints_from l (by omega) hf l.length 0 (((((⟨#[45, 45, 45, 32, 97, 47]⟩ : ByteArray) ++ a0) ++ (⟨#[10, 43, 43, 43, 32, 98, 47]⟩ : ByteArray)) ++ a0) ++ (⟨#[10]⟩ : ByteArray)) (by omega) (by omega) (by omega) (by simp only [cat_size]; show _ + (l.map wh).sum ≤ _; omega)
      refine ⟨r, Ev.congr (fun k => ?_) h1, ?_⟩
      · unfold show_Print.f
        rw [hn1, Option.bind_some, if_pos rfl, if_neg hz, if_pos (by omega), hfirst]
        rfl
      · unfold redpenref18_Print.f
        refine Ev.bind hn2 (Ev.congr (fun k => ?_) h2)
        rw [if_pos rfl, if_neg (by omega), if_pos (by omega), if_pos (by simp only [cat_size]; omega), if_pos (by simp only [cat_size]; omega), if_pos (by simp only [cat_size]; omega)]
theorem awake20 : redpenlaw20_Awake.f = some true := by decide +kernel

theorem size_le_w {l : List S42} {x : S42} (h : x ∈ l) : x.f1.size ≤ (l.map wLine).sum := by
  induction l with
  | nil => cases h
  | cons y t ih =>
    simp only [List.map_cons, List.sum_cons]
    rcases List.mem_cons.1 h with rfl | h
    · unfold wLine
      omega
    · have := ih h
      omega
theorem wHunk_le {l : List S26} {x : S26} (h : x ∈ l) : wHunk x ≤ (l.map wHunk).sum := by
  induction l with
  | nil => cases h
  | cons y t ih =>
    simp only [List.map_cons, List.sum_cons]
    rcases List.mem_cons.1 h with rfl | h
    · omega
    · have := ih h
      omega
theorem len_le_w (l : List S42) : 4 * l.length ≤ (l.map wLine).sum := by
  induction l with
  | nil => simp
  | cons y t ih =>
    simp only [List.map_cons, List.sum_cons, List.length_cons]
    unfold wLine
    unfold wLine at ih
    omega
theorem len_le_h (l : List S26) : 6 * l.length ≤ (l.map wHunk).sum := by
  induction l with
  | nil => simp
  | cons y t ih =>
    simp only [List.map_cons, List.sum_cons, List.length_cons]
    unfold wHunk
    unfold wHunk at ih
    omega
def tidyH (h : S26) : Prop := h.f4.length ≤ 12 ∧ ∀ x ∈ h.f4, okL x
theorem tidy_fit {h : S26} (hh : tidyH h) : fit h := ⟨by have := hh.1; omega, fun x hx => by have := (hh.2 x hx).2; omega⟩
theorem tidy_w {h : S26} (hh : tidyH h) : wh h ≤ 20000000 := by
  have : ∀ l : List S42, (∀ x ∈ l, okL x) → wl l ≤ 1048606 * l.length := by
    intro l
    induction l with
    | nil => intro _; simp [wl]
    | cons x t ih =>
      intro hk
      have h1 := ih (fun y hy => hk y (List.mem_cons_of_mem _ hy))
      have h2 := (hk x (List.mem_cons_self ..)).2
      have h3 : wl (x :: t) = wt x + wl t := by simp [wl]
      have h4 : wt x = x.f1.size + 30 := rfl
      simp only [List.length_cons]
      omega
  have := this h.f4 hh.2
  have h1 := hh.1
  unfold wh
  omega
theorem sum_w {l : List S26} (hh : ∀ h ∈ l, tidyH h) : (l.map wh).sum ≤ 20000000 * l.length := by
  induction l with
  | nil => simp
  | cons x t ih =>
    have h1 := ih (fun y hy => hh y (List.mem_cons_of_mem _ hy))
    have h2 := tidy_w (hh x (List.mem_cons_self ..))
    simp only [List.map_cons, List.sum_cons, List.length_cons]
    omega
theorem loop (a0 : ByteArray) (ha : a0.size ≤ 100) (a2 : Bool) (l1 : List S26) (h1 : (l1.map wHunk).sum ≤ 1048576) (hq : ∀ x ∈ l1, okHunk x) : ∀ (m : Nat) (i : Int) (hs : List S26), 0 ≤ i → i ≤ l1.length → (l1.length : Int) - i = m → (hs.length : Int) ≤ 5 → (hs.length : Int) ≤ i → (∀ h ∈ hs, tidyH h) →
    Ev (fun k => redpenlaw20_ShowPrints.l0 k a0 a2 hs l1 (l1.length : Int) i) true := by
  have hlen := len_le_h l1
  intro m
  induction m with
  | zero =>
    intro i hs i0 i1 hd h5 hi ht
    have hsw := sum_w ht
    obtain ⟨r, e1, e2⟩ := prints_ev a0 ha hs (by omega) (fun h hh => tidy_fit (ht h hh)) (by omega)
    refine Ev.step (f := fun k => (show_Print.f k a0 hs).bind fun bt197 => ((redpenref18_Print.f k a0 hs).bind fun bt199 => (if bt197.2 = bt199.2 then (some (bt197.1.toList == bt199.1.toList)) else (some false)))) (fun k => ?_) ?_
    · simp only [redpenlaw20_ShowPrints.l0]
      rw [if_neg (by omega)]
    · refine Ev.bind e1 (Ev.bind e2 (Ev.congr (f := fun _ => some true) (fun k => ?_) (Ev.now _)))
      rw [if_pos rfl, beq_self_eq_true]
  | succ m ih =>
    intro i hs i0 i1 hd h5 hi ht
    obtain ⟨h, hh, hdr⟩ := drop_cons (l := l1) i0 (by omega)
    have hrd := rd26 hh
    have hm := List.mem_of_getElem? hh
    have hwm := wHunk_le hm
    have hw : wrap64 (i + 1) = i + 1 := wrap_of (by omega) (by omega)
    by_cases c1 : i < 5
    · by_cases c2 : (h.f4.length : Int) < 100
      · have hokl : ∀ x ∈ h.f4, okL x := by
          intro x hx
          refine ⟨(hq h hm).2.2.2.2 x hx, ?_⟩
          have := size_le_w hx
          have hw2 : wHunk h = (h.f4.map wLine).sum + 6 := rfl
          omega
        obtain ⟨r, hr, hr1, hr2⟩ := tidied_ev h.f0 h.f1 h.f2 h.f3 h.f4 a2 (by omega) hokl
        refine Ev.step (f := fun k => (redpenlaw20_Tidied.f k h.f0 h.f1 h.f2 h.f3 h.f4 a2).bind fun bt187 => (if hs.length < 2513169434916 then (redpenlaw20_ShowPrints.l0 k a0 a2 (hs ++ [(⟨bt187.1, bt187.2.1, bt187.2.2.1, bt187.2.2.2.1, bt187.2.2.2.2⟩ : S26)]) l1 (l1.length : Int) (i + 1)) else (none))) (fun k => ?_) ?_
        · simp only [redpenlaw20_ShowPrints.l0]
          rw [if_pos (by omega), if_pos i0, if_pos (by omega), if_pos c1, hrd, if_pos c2, hw]
        · refine Ev.bind hr (Ev.congr (fun k => if_pos (by omega)) (ih (i + 1) _ (by omega) (by omega) (by omega) ?_ ?_ ?_))
          · rw [List.length_append, List.length_singleton]
            omega
          · rw [List.length_append, List.length_singleton]
            omega
          · intro x hx
            rcases List.mem_append.1 hx with hx | hx
            · exact ht x hx
            · rw [List.mem_singleton.1 hx]
              exact ⟨hr1, hr2⟩
      · refine Ev.step (f := fun k => redpenlaw20_ShowPrints.l0 k a0 a2 hs l1 (l1.length : Int) (i + 1)) (fun k => ?_) (ih (i + 1) _ (by omega) (by omega) (by omega) (by omega) (by omega) ht)
        simp only [redpenlaw20_ShowPrints.l0]
        rw [if_pos (by omega), if_pos i0, if_pos (by omega), if_pos c1, hrd, if_neg c2, hw]
    · refine Ev.step (f := fun k => redpenlaw20_ShowPrints.l0 k a0 a2 hs l1 (l1.length : Int) (i + 1)) (fun k => ?_) (ih (i + 1) _ (by omega) (by omega) (by omega) (by omega) (by omega) ht)
      simp only [redpenlaw20_ShowPrints.l0]
      rw [if_pos (by omega), if_pos i0, if_pos (by omega), if_neg c1, hw]

theorem ShowPrints (a0 : ByteArray) (l1 : List S26) (a2 : Bool) (h0 : a0.size ≤ 1048576) (h1 : (l1.map wHunk).sum ≤ 1048576) (hq : ∀ x ∈ l1, okHunk x) : ∃ k, redpenlaw20_ShowPrints.f k a0 l1 a2 = some true := by
  refine Ev.rounds (g := fun k => redpenlaw20_ShowPrints.f k a0 l1 a2) ?_
  by_cases c1 : (a0.size : Int) > 100
  · refine Ev.congr (f := fun _ => some true) (fun k => ?_) (Ev.now _)
    unfold redpenlaw20_ShowPrints.f
    rw [awake20, Option.bind_some, if_pos rfl, if_pos c1]
  · refine Ev.congr (fun k => ?_) (loop a0 (by omega) a2 l1 h1 hq l1.length 0 [] (by omega) (by omega) (by omega) (by simp) (by simp) (by simp))
    unfold redpenlaw20_ShowPrints.f
    rw [awake20, Option.bind_some, if_pos rfl, if_neg c1]
end Go.Proofs.YthkcghiagnddiaaDoor.Pure
