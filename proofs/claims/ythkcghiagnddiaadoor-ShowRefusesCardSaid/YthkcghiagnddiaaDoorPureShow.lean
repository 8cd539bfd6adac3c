import Derived.Test.YthkcghiagnddiaaDoorXc
import Derived.Test.YthkcghiagnddiaaDoorPureMake
import Derived.Lib.ItoaMem
namespace Go.Proofs.YthkcghiagnddiaaDoor.X
open Go Go.RowKit Go.Proofs.YthkcghiagnddiaaDoorW.PrintWords Go.Proofs.YthkcghiagnddiaaDoorW.PrintLast Go.Proofs.YthkcghiagnddiaaDoorW.PrintMore
attribute [local go_sem] max2_int min2_int max_two min_two max_three min_three max_four min_four
set_option linter.unusedVariables false
set_option linter.unusedSimpArgs false
/-- How many newlines there are ahead of a place. -/
def nlc (s : ByteArray) (n : Nat) : Nat := (s.data.toList.take n).count 10
/-- How many lines hunks have, with their heads. -/
def rowsOf : List S26 → Nat
  | [] => 0
  | h :: t => 1 + h.f4.length + rowsOf t
theorem rowsOf_take (l : List S26) (i : Nat) (h : i < l.length) : rowsOf (l.take (i + 1)) = rowsOf (l.take i) + (1 + (rd_T26 l i).f4.length) := by
  induction l generalizing i with
  | nil => simp at h
  | cons x t ih =>
    cases i with
    | zero => simp [rowsOf, rd_T26]
    | succ i =>
      have := ih i (by simpa using h)
      simp only [List.take_succ_cons, rowsOf]
      rw [this]
      have e : rd_T26 (x :: t) ((i + 1 : Nat) : Int) = rd_T26 t i := by unfold rd_T26; rw [show ((i + 1 : Nat) : Int).toNat = i + 1 by omega, show (i : Int).toNat = i by omega]; rfl
      rw [e]
      omega
theorem rowsOf_le (l : List S26) (i : Nat) : rowsOf (l.take i) ≤ rowsOf l := by
  induction l generalizing i with
  | nil => simp
  | cons x t ih =>
    cases i with
    | zero => simp [rowsOf]
    | succ i =>
      have := ih i
      simp only [List.take_succ_cons, rowsOf]
      omega
theorem nlc_step (s : ByteArray) (i : Nat) (h : i < s.size) : nlc s (i + 1) = nlc s i + if Plain.byt s i = 10 then 1 else 0 := by
  have hl : i < s.data.toList.length := by rw [Plain.list_size]; exact h
  unfold nlc Plain.byt
  rw [List.take_succ_eq_append_getElem hl, List.count_append, List.getD_eq_getElem?_getD, List.getElem?_eq_getElem hl]
  simp only [List.count_singleton, Option.getD_some]
  generalize s.data.toList[i] = c
  by_cases hc : c = 10
  · subst hc; rfl
  · have : ¬ c.toNat = 10 := fun e => hc (UInt8.toNat_inj.1 e)
    simp [hc, this]
theorem nlc_same (s : ByteArray) : ∀ (n i : Nat), i + n ≤ s.size → (∀ j, i ≤ j → j < i + n → Plain.byt s j ≠ 10) → nlc s (i + n) = nlc s i
  | 0, i, _, _ => rfl
  | n + 1, i, h, hj => by
    have := nlc_same s n i (by omega) (fun j h1 h2 => hj j h1 (by omega))
    rw [← Nat.add_assoc, nlc_step s (i + n) (by omega), if_neg (hj (i + n) (by omega) (by omega)), this]
    omega
theorem nlc_le (s : ByteArray) (n : Nat) : nlc s n ≤ s.size := by
  unfold nlc
  have h1 := List.count_le_length (a := (10 : UInt8)) (l := s.data.toList.take n)
  have h2 : (s.data.toList.take n).length ≤ s.data.toList.length := by rw [List.length_take]; omega
  rw [Plain.list_size] at h2
  omega
end Go.Proofs.YthkcghiagnddiaaDoor.X
namespace Go.Proofs.YthkcghiagnddiaaDoor.Pure
open Go Go.RowKit X Go.Proofs.YthkcghiagnddiaaDoorW.PrintWords Go.Proofs.YthkcghiagnddiaaDoorW.PrintLast
set_option linter.unusedVariables false
set_option linter.unusedSimpArgs false
/-! ### the law's texts -/
def six : List ByteArray := [(⟨#[97]⟩ : ByteArray), (⟨#[98]⟩ : ByteArray), (⟨#[99]⟩ : ByteArray), (⟨#[]⟩ : ByteArray), (⟨#[97, 13]⟩ : ByteArray), (⟨#[119, 111, 114, 100]⟩ : ByteArray)]
theorem six_size (i : Int) : (rdOf ByteArray.empty six i).size ≤ 4 := by
  unfold rdOf six
  generalize i.toNat = n
  rcases n with _ | _ | _ | _ | _ | _ | n <;> simp [List.getD_eq_getElem?_getD] <;> decide
theorem bytesOf_ok (s : ByteArray) : bytesOk (bytesOf s) := by
  intro x hx
  unfold bytesOf at hx
  obtain ⟨b, _, rfl⟩ := List.mem_map.1 hx
  have := b.toNat_lt
  omega
theorem text_end (x : Bool) (acc : List Int) (h : acc.length ≤ 1000) (hb : bytesOk acc) : ∃ r, (if x = true then (if (acc.length : Int) > 0 then (if 0 ≤ (wrap64 ((acc.length : Int) - 1)) then (if (wrap64 ((acc.length : Int) - 1)) ≤ (acc.length : Int) then (some (acc.take ((wrap64 ((acc.length : Int) - 1)) : Int).toNat)) else (none)) else (none)) else (some acc)) else (some acc)) = some r ∧ r.length ≤ acc.length ∧ bytesOk r := by
  cases x with
  | false => exact ⟨acc, by rw [if_neg Bool.false_ne_true], Nat.le_refl _, hb⟩
  | true =>
    rw [if_pos rfl]
    by_cases h0 : (acc.length : Int) > 0
    · rw [if_pos h0, w64 (by omega), if_pos (by omega), if_pos (by omega)]
      exact ⟨_, rfl, by rw [List.length_take]; omega, fun y hy => hb y (List.mem_of_mem_take hy)⟩
    · rw [if_neg h0]
      exact ⟨acc, rfl, Nat.le_refl _, hb⟩
theorem text_from (x : Bool) (l : List Int) (hl : (l.length : Int) ≤ 9223372036854775807) (hlb : bytesOk l) : ∀ (d : Nat) (i : Nat) (acc : List Int), i ≤ l.length → i ≤ 40 → 40 - i = d → acc.length ≤ 5 * i → bytesOk acc → ∃ r, Ev (fun k => redpenlaw19_Text.l0 k x acc l (l.length : Int) i) r ∧ r.length ≤ 200 ∧ bytesOk r := by
  intro d
  induction d with
  | zero =>
    intro i acc h1 h2 hd ha hb
    obtain ⟨r, e, hr, hrb⟩ := text_end x acc (by omega) hb
    refine ⟨r, Ev.step (f := fun _ => some r) (fun k => ?_) (Ev.now r), by omega, hrb⟩
    simp only [redpenlaw19_Text.l0]
    by_cases hlt : (i : Int) < (l.length : Int)
    · rw [if_pos hlt, if_pos (by omega), if_pos hlt, if_pos (by omega)]
      exact e
    · rw [if_neg hlt]
      exact e
  | succ d ih =>
    intro i acc h1 h2 hd ha hb
    by_cases hlt : i < l.length
    · have hc := hlb _ (List.getElem_mem hlt)
      have hrd : rd l (i : Int) = l[i] := by unfold rd; rw [Int.toNat_natCast, List.getD_eq_getElem?_getD, List.getElem?_eq_getElem hlt]; rfl
      have hm : 0 ≤ Int.tmod (rd l (i : Int)) 6 ∧ Int.tmod (rd l (i : Int)) 6 < 6 := by
        rw [hrd, Int.tmod_eq_emod_of_nonneg hc.1]
        omega
      have hs6 := six_size (Int.tmod (rd l (i : Int)) 6)
      have hw : wrap64 ((i : Int) + 1) = ((i + 1 : Nat) : Int) := by rw [w64 (by omega)]; omega
      have hbl : (bytesOf (rdOf ByteArray.empty six (Int.tmod (rd l (i : Int)) 6))).length ≤ 4 := by rw [bytesOf_length]; exact hs6
      obtain ⟨r, hr, hrl, hrb⟩ := ih (i + 1) (acc ++ bytesOf (rdOf ByteArray.empty six (Int.tmod (rd l (i : Int)) 6)) ++ [10]) (by omega) (by omega) (by omega) (by
        rw [List.length_append, List.length_append, List.length_singleton]; omega) (by
        intro y hy
        rcases List.mem_append.1 hy with hy | hy
        · rcases List.mem_append.1 hy with hy | hy
          · exact hb y hy
          · exact bytesOf_ok _ y hy
        · simp at hy; omega)
      refine ⟨r, Ev.step (f := fun k => redpenlaw19_Text.l0 k x (acc ++ bytesOf (rdOf ByteArray.empty six (Int.tmod (rd l (i : Int)) 6)) ++ [10]) l (l.length : Int) ((i + 1 : Nat) : Int)) (fun k => ?_) hr, hrl, hrb⟩
      have HW := Aside0.mk hw
      clear hw
      simp only [redpenlaw19_Text.l0, Option.bind_some]
      rw [if_pos (by omega), if_pos (by omega), if_pos (by omega), if_neg (by omega), if_pos hm.1]
      have hsl : six.length = 6 := rfl
      show (if Int.tmod (rd l (i : Int)) 6 < (six.length : Int) then (if acc.length + (rdOf ByteArray.empty six (Int.tmod (rd l (i : Int)) 6)).size < 140737488355328 then (if (acc ++ bytesOf (rdOf ByteArray.empty six (Int.tmod (rd l (i : Int)) 6))).length < 140737488355328 then _ else none) else none) else none) = _
      rw [if_pos (by rw [hsl]; omega), if_pos (by omega), if_pos (by rw [List.length_append]; omega), HW.out]
      rfl
    · obtain ⟨r, e, hr, hrb⟩ := text_end x acc (by omega) hb
      refine ⟨r, Ev.step (f := fun _ => some r) (fun k => ?_) (Ev.now r), by omega, hrb⟩
      simp only [redpenlaw19_Text.l0]
      rw [if_neg (by omega)]
      exact e
theorem text_ev (x : Bool) (l : List Int) (hl : (l.length : Int) ≤ 9223372036854775807) (hlb : bytesOk l) : ∃ r, Ev (fun k => redpenlaw19_Text.f k l x) r ∧ r.length ≤ 200 ∧ bytesOk r :=
  text_from x l hl hlb 40 0 [] (by omega) (by omega) rfl (by simp) (by intro y hy; cases hy)
/-! ### how many newlines a diff has -/
theorem dec_clean (u : Nat) : (10 : UInt8) ∉ Lib.decDigits u := by
  induction u using Nat.strongRecOn with
  | ind u ih =>
    rw [Lib.decDigits]
    split
    · simp only [List.mem_singleton]
      intro e
      have := congrArg UInt8.toNat e
      rw [UInt8.toNat_ofNat'] at this
      have e2 : (10 : UInt8).toNat = 10 := rfl
      omega
    · intro hm
      rcases List.mem_append.1 hm with hm | hm
      · exact ih (u / 10) (by omega) hm
      · simp only [List.mem_singleton] at hm
        have := congrArg UInt8.toNat hm
        rw [UInt8.toNat_ofNat'] at this
        have e2 : (10 : UInt8).toNat = 10 := rfl
        omega
theorem dec_count (n : Int) (h : 0 ≤ n) : (dec n).data.toList.count 10 = 0 := by
  obtain ⟨u, rfl⟩ : ∃ u : Nat, n = u := ⟨n.toNat, by omega⟩
  unfold dec
  rw [List.count_eq_zero]
  show (10 : UInt8) ∉ Lib.itoa (u : Int)
  rw [Lib.itoa_nonneg]
  exact dec_clean u
theorem side_count (a b : Int) (ha : 0 ≤ a) (hb : 0 ≤ b) : (sideT a b).count 10 = 0 := by
  unfold sideT
  rw [List.count_append, List.count_cons, dec_count _ (by split <;> omega), dec_count b hb]
  rfl
theorem head_count (a b c d : Int) (ha : 0 ≤ a) (hb : 0 ≤ b) (hc : 0 ≤ c) (hd : 0 ≤ d) : (headT a b c d).count 10 = 1 := by
  unfold headT
  rw [List.count_append, List.count_append, List.count_append, List.count_append, side_count a b ha hb, side_count c d hc hd]
  rfl
theorem has_count {s : ByteArray} (h : hasB s 10 = false) : s.data.toList.count 10 = 0 := by
  rw [List.count_eq_zero]
  intro hm
  unfold hasB at h
  rw [List.any_eq_false] at h
  have := h _ hm
  have e2 : (10 : UInt8).toNat = 10 := rfl
  simp [e2] at this
theorem line_count (x : S42) (hs : x.f0 = 32 ∨ x.f0 = 45 ∨ x.f0 = 43) (ht : hasB x.f1 10 = false) : (show_Print.line x).count 10 = 1 + (if x.f2 = true then 1 else 0) := by
  have h0 : (UInt8.ofNat x.f0.toNat == 10) = false := by rcases hs with e | e | e <;> (rw [e]; rfl)
  unfold show_Print.line
  rw [List.count_cons, List.count_append, has_count ht, List.count_cons, h0]
  by_cases hb : x.f2 = true
  · rw [if_pos hb, if_pos hb]; rfl
  · rw [if_neg hb, if_neg hb]; rfl
def bareN (l : List S42) : Nat := (l.filter (·.f2)).length
def okLines (l : List S42) : Prop := ∀ x ∈ l, (x.f0 = 32 ∨ x.f0 = 45 ∨ x.f0 = 43) ∧ hasB x.f1 10 = false
theorem lines_count : ∀ (l : List S42), okLines l → (l.flatMap show_Print.line).count 10 = l.length + bareN l
  | [], _ => by simp [bareN]
  | x :: t, h => by
    have h1 := line_count x (h x (.head _)).1 (h x (.head _)).2
    have h2 := lines_count t (fun y hy => h y (.tail _ hy))
    rw [List.flatMap_cons, List.count_append, h1, h2]
    unfold bareN
    rw [List.filter_cons]
    by_cases hb : x.f2 = true
    · rw [if_pos hb, if_pos hb]; simp; omega
    · rw [if_neg hb, if_neg hb]; simp; omega
def hunkT (h : S26) : List UInt8 := headT h.f0 h.f1 h.f2 h.f3 ++ h.f4.flatMap show_Print.line
def okHk (h : S26) : Prop := (0 ≤ h.f0 ∧ 0 ≤ h.f1 ∧ 0 ≤ h.f2 ∧ 0 ≤ h.f3) ∧ okLines h.f4
def bareH : List S26 → Nat
  | [] => 0
  | h :: t => bareN h.f4 + bareH t
theorem hunks_count_nl : ∀ (l : List S26), (∀ h ∈ l, okHk h) → (l.flatMap hunkT).count 10 = rowsOf l + bareH l
  | [], _ => by simp [rowsOf, bareH]
  | h :: t, hh => by
    obtain ⟨⟨a, b, c, d⟩, e⟩ := hh h (.head _)
    rw [List.flatMap_cons, List.count_append, hunks_count_nl t (fun x hx => hh x (.tail _ hx)), hunkT, List.count_append, head_count _ _ _ _ a b c d, lines_count _ e, rowsOf, bareH]
    omega
/-! ### bare lines: one a side at most -/
def bareA (A : List ByteArray) : Nat := (A.filter lnBare).length
theorem bareA_good {A : List ByteArray} (h : GoodL A) : bareA A ≤ 1 := by
  unfold bareA
  rcases List.eq_nil_or_concat A with e | ⟨u, v, e⟩
  · rw [e]; simp
  · rw [List.concat_eq_append] at e
    have : u.filter lnBare = [] := by
      rw [List.filter_eq_nil_iff]
      intro x hx hb
      obtain ⟨i, hi⟩ := List.mem_iff_getElem?.1 hx
      have hlt := (List.getElem?_eq_some_iff.1 hi).1
      have := h.2 i x (by rw [e, List.getElem?_append_left hlt]; exact hi) hb
      rw [e] at this
      simp at this
      omega
    rw [e, List.filter_append, this, List.nil_append]
    have := List.length_filter_le lnBare [v]
    simpa using this
theorem bareN_ls : ∀ (ls : List (Int × ByteArray)), bareN (ls.map mkL) ≤ bareA (olds ls) + bareA (news ls)
  | [] => by simp [bareN]
  | (s, b) :: t => by
    have ih := bareN_ls t
    unfold bareN bareA at *
    rw [List.map_cons, List.filter_cons, olds_cons, news_cons]
    by_cases hb : lnBare b = true
    · by_cases h1 : s = 43
      · subst h1; simp [mkL, hb]; omega
      · by_cases h2 : s = 45
        · subst h2; simp [mkL, hb]; omega
        · simp [mkL, hb, h1, h2]; omega
    · by_cases h1 : s = 43
      · subst h1; simp [mkL, hb]; omega
      · by_cases h2 : s = 45
        · subst h2; simp [mkL, hb]; omega
        · simp [mkL, hb, h1, h2]; omega
theorem bareA_drop (A : List ByteArray) {i m o : Nat} (h : i + m + o ≤ A.length) : bareA (cut A (i + m) (i + m + o)) + bareA (A.drop (i + m + o)) ≤ bareA (A.drop i) := by
  have e : A.drop i = (A.drop i).take m ++ (cut A (i + m) (i + m + o) ++ A.drop (i + m + o)) := by
    unfold cut
    rw [show i + m + o - (i + m) = o by omega, ← List.drop_drop (i := o) (j := i + m), List.take_append_drop, ← List.drop_drop (i := m) (j := i), List.take_append_drop]
  rw [e]
  unfold bareA
  rw [List.filter_append, List.filter_append, List.length_append, List.length_append]
  omega
theorem hks_bare {A B : List ByteArray} {i k : Nat} {hs : List S26} (h : Hks A B i k hs) : bareH hs ≤ bareA (A.drop i) + bareA (B.drop k) := by
  induction h with
  | done h => simp [bareH]
  | step m ls hm hk hl ht ih =>
    have h1 := bareN_ls ls
    have h2 := bareA_drop A hk.lo
    have h3 := bareA_drop B hk.ln
    rw [hk.so] at h2
    rw [hk.sn] at h3
    rw [bareH, hl]
    omega
/-- What each hunk is. -/
theorem hks_each {A B : List ByteArray} {i k : Nat} {hs : List S26} (h : Hks A B i k hs) : ∀ x ∈ hs, ∃ p q ls, HOK A B p q x.f0 x.f1 x.f2 x.f3 ls ∧ x.f4 = ls.map mkL := by
  induction h with
  | done h => intro x hx; cases hx
  | step m ls hm hk hl ht ih =>
    intro x hx
    rcases List.mem_cons.1 hx with rfl | hx
    · exact ⟨_, _, ls, hk, hl⟩
    · exact ih x hx
theorem hok_text {A B : List ByteArray} (hA : GoodL A) (hB : GoodL B) {p q : Nat} {a b c d : Int} {ls : List (Int × ByteArray)} (h : HOK A B p q a b c d ls) : ∀ x ∈ ls, hasB (lnText x.2) 10 = false := by
  intro x hx
  rcases mem_olds_or_news hx with h1 | h1
  · rw [← h.so] at h1; exact hA.1 _ (mem_cut h1)
  · rw [← h.sn] at h1; exact hB.1 _ (mem_cut h1)
theorem hok_ok {A B : List ByteArray} (hA : GoodL A) (hB : GoodL B) {p q : Nat} {x : S26} {ls : List (Int × ByteArray)} (h : HOK A B p q x.f0 x.f1 x.f2 x.f3 ls) (hl : x.f4 = ls.map mkL) : okHk x := by
  have e0 := h.f0
  have e1 := h.f1
  have e2 := h.f2
  have e3 := h.f3
  refine ⟨by omega, ?_⟩
  rw [hl]
  intro y hy
  obtain ⟨z, hz, rfl⟩ := List.mem_map.1 hy
  exact ⟨h.sg z hz, hok_text hA hB h z hz⟩
/-- Of texts so small. -/
def tiny (A : List ByteArray) : Prop := A.length ≤ 500 ∧ ∀ x ∈ A, x.size ≤ 500
theorem lnText_size (x : ByteArray) : (lnText x).size ≤ x.size := by
  unfold lnText
  split
  · exact Nat.le_refl _
  · rw [← list_size, ← list_size]
    show x.data.toList.dropLast.length ≤ _
    rw [List.length_dropLast]
    omega
theorem len_both : ∀ ls : List (Int × ByteArray), ls.length ≤ (olds ls).length + (news ls).length
  | [] => by simp
  | (s, b) :: t => by
    have ih := len_both t
    rw [olds_cons, news_cons]
    by_cases h1 : s = 43
    · rw [if_pos h1, if_neg (by omega)]; simp; omega
    · rw [if_neg h1]
      split <;> simp <;> omega
theorem hok_tiny {A B : List ByteArray} (hA : tiny A) (hB : tiny B) {p q : Nat} {a b c d : Int} {ls : List (Int × ByteArray)} (h : HOK A B p q a b c d ls) : ls.length ≤ 1000 ∧ (∀ x ∈ ls, (lnText x.2).size ≤ 500) ∧ wl (ls.map mkL) ≤ 530000 := by
  have a1 := hA.1
  have a2 := hB.1
  have h1 := h.lo
  have h2 := h.ln
  have h3 := len_both ls
  have hsz : ∀ x ∈ ls, (lnText x.2).size ≤ 500 := by
    intro x hx
    have := lnText_size x.2
    rcases mem_olds_or_news hx with h4 | h4
    · rw [← h.so] at h4; have := hA.2 _ (mem_cut h4); omega
    · rw [← h.sn] at h4; have := hB.2 _ (mem_cut h4); omega
  refine ⟨by omega, hsz, ?_⟩
  have key : ∀ l : List (Int × ByteArray), (∀ x ∈ l, (lnText x.2).size ≤ 500) → wl (l.map mkL) ≤ 530 * l.length := by
    intro l
    induction l with
    | nil => intro _; simp [wl]
    | cons x t ih =>
      intro hx
      have h5 := ih (fun y hy => hx y (.tail _ hy))
      have h6 := hx x (.head _)
      unfold wl at *
      simp only [List.map_cons, List.sum_cons, List.length_cons, wt, mkL] at *
      omega
  have := key ls hsz
  omega
/-- All hunks are right. -/
theorem hks_checks {A B : List ByteArray} (gA : GoodL A) (gB : GoodL B) (tA : tiny A) (tB : tiny B) {i k : Nat} {hs : List S26} (h : Hks A B i k hs) : ∀ x ∈ hs, checkSpec x.f0 x.f1 x.f2 x.f3 x.f4 = 0 := by
  intro x hx
  obtain ⟨p, q, ls, h1, h2⟩ := hks_each h x hx
  rw [h2]
  exact hok_check gA gB (by have := tA.1; omega) (by have := tB.1; omega) h1
/-- Rounds enough for each of a list. -/
theorem ev_all {α β : Type} (f : Nat → α → Option β) (r : α → β) : ∀ (l : List α), (∀ x ∈ l, Ev (fun k => f k x) (r x)) → ∃ K, ∀ k, K ≤ k → ∀ x ∈ l, f k x = some (r x)
  | [], _ => ⟨0, fun _ _ x hx => by cases hx⟩
  | y :: t, h => by
    obtain ⟨K1, h1⟩ := h y (.head _)
    obtain ⟨K2, h2⟩ := ev_all f r t (fun x hx => h x (.tail _ hx))
    refine ⟨max K1 K2, fun k hk x hx => ?_⟩
    rcases List.mem_cons.1 hx with rfl | hx
    · exact h1 k (by omega)
    · exact h2 k (by omega) x hx
theorem printed {A B : List ByteArray} (gA : GoodL A) (gB : GoodL B) (tA : tiny A) (tB : tiny B) : ∀ (hs : List S26) (acc : List UInt8), (∀ x ∈ hs, checkSpec x.f0 x.f1 x.f2 x.f3 x.f4 = 0 ∧ ∃ p q ls, HOK A B p q x.f0 x.f1 x.f2 x.f3 ls ∧ x.f4 = ls.map mkL) → acc.length + 600000 * hs.length ≤ 140737488355328 →
    Ev (fun k => show_Print.hunks k hs acc) (⟨(acc ++ hs.flatMap hunkT).toArray⟩, 0)
  | [], acc, _, _ => by
    simp only [List.flatMap_nil, List.append_nil]
    exact Ev.congr (f := fun _ => some ((⟨acc.toArray⟩ : ByteArray), (0 : Int))) (fun _ => rfl) (Ev.now _)
  | x :: t, acc, h, hl => by
    obtain ⟨hc, p, q, ls, h1, h2⟩ := h x (.head _)
    obtain ⟨n1, n2, n3⟩ := hok_tiny tA tB h1
    have hll : x.f4.length ≤ 1000 := by rw [h2, List.length_map]; exact n1
    obtain ⟨b1, b2, b3, b4⟩ := check_ok (by omega) hc
    obtain ⟨hd, e1, e2⟩ := head_ev x.f0 x.f1 x.f2 x.f3 x.f4 (by omega) (by omega) (by omega) (by omega)
    have hdl := head_len x.f0 x.f1 x.f2 x.f3 (by omega) (by omega) (by omega) (by omega)
    simp only [List.length_cons] at hl
    have hck := check_ev x.f0 x.f1 x.f2 x.f3 x.f4 (by omega)
    rw [hc] at hck
    have n4 : wl x.f4 ≤ 530000 := by rw [h2]; exact n3
    have hflat : (x.f4.flatMap show_Print.line).length ≤ 530000 := by
      have key : ∀ l : List S42, (l.flatMap show_Print.line).length ≤ wl l := by
        intro l
        induction l with
        | nil => simp
        | cons y u ih =>
          have := line_len y
          unfold wl at *
          simp only [List.flatMap_cons, List.length_append, List.map_cons, List.sum_cons]
          omega
      have := key x.f4
      omega
    have ih := printed gA gB tA tB t (acc ++ hunkT x) (fun y hy => h y (.tail _ hy)) (by
      rw [List.length_append, hunkT, List.length_append]
      omega)
    have hrun : Ev (fun k => (show_Check.f k x.f0 x.f1 x.f2 x.f3 x.f4).bind fun e => if e = 0 then (show_Head.f x.f0 x.f1 x.f2 x.f3 x.f4).bind fun hd => if (acc ++ hd.data.toList).length ≤ 140737488355328 then (show_Print.lines x.f4 (acc ++ hd.data.toList)).bind fun acc' => show_Print.hunks k t acc' else none else some (⟨#[]⟩, e)) (⟨(acc ++ (x :: t).flatMap hunkT).toArray⟩, 0) := by
      refine Ev.bind hck ?_
      refine Ev.congr (f := fun k => show_Print.hunks k t (acc ++ hunkT x)) (fun k => ?_) (by rw [List.flatMap_cons, ← List.append_assoc]; exact ih)
      rw [if_pos rfl, e1, Option.bind_some, e2, if_pos (by rw [List.length_append]; omega), lines_ev _ _ (by rw [List.length_append]; omega), Option.bind_some, hunkT, List.append_assoc]
    exact Ev.congr (fun k => rfl) hrun
theorem rows_tiny {A B : List ByteArray} (tA : tiny A) (tB : tiny B) : ∀ (hs : List S26), (∀ x ∈ hs, ∃ p q ls, HOK A B p q x.f0 x.f1 x.f2 x.f3 ls ∧ x.f4 = ls.map mkL) → rowsOf hs ≤ 1001 * hs.length
  | [], _ => by simp [rowsOf]
  | x :: t, h => by
    obtain ⟨p, q, ls, h1, h2⟩ := h x (.head _)
    have n1 := (hok_tiny tA tB h1).1
    have ih := rows_tiny tA tB t (fun y hy => h y (.tail _ hy))
    rw [rowsOf, h2, List.length_map, List.length_cons]
    omega
end Go.Proofs.YthkcghiagnddiaaDoor.Pure
