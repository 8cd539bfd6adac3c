import Derived.Test.YthkcghiagnddiaaDoorPureHead
namespace Go.Proofs.YthkcghiagnddiaaDoor.Pure
open Go Go.RowKit X Go.Proofs.YthkcghiagnddiaaDoorW.PrintWords Go.Proofs.YthkcghiagnddiaaDoorW.PrintLast

/-- What a line weighs at most in a diff. -/
def wt (x : S42) : Nat := x.f1.size + 30
def wl (l : List S42) : Nat := (l.map wt).sum
def bareT : List UInt8 := [92, 32, 78, 111, 32, 110, 101, 119, 108, 105, 110, 101, 32, 97, 116, 32, 101, 110, 100, 32, 111, 102, 32, 102, 105, 108, 101, 10]
theorem line_len (x : S42) : (show_Print.line x).length ≤ wt x := by
  unfold show_Print.line wt
  simp only [List.length_cons, List.length_append, list_size]
  split <;> simp <;> omega
theorem lines_ev : ∀ (l : List S42) (acc : List UInt8), acc.length + wl l ≤ 140737488355328 → show_Print.lines l acc = some (acc ++ l.flatMap show_Print.line)
  | [], acc, _ => by simp [show_Print.lines]
  | x :: t, acc, h => by
    have h1 := line_len x
    have h2 : wl (x :: t) = wt x + wl t := by simp [wl]
    unfold show_Print.lines
    rw [if_pos (by rw [List.length_append]; omega), lines_ev t _ (by rw [List.length_append]; omega), List.flatMap_cons, List.append_assoc]
theorem sign_text (x : S42) : (strOfNums [x.f0]).data.toList = [UInt8.ofNat x.f0.toNat] := rfl
theorem ref_lines (l : List S26) (i : Int) (h0 : 0 ≤ i) (hi : i < l.length) (h : S26) (hh : l[i.toNat]? = some h) (hln : (h.f4.length : Int) ≤ 9223372036854775806) (hll : (l.length : Int) ≤ 9223372036854775806) (r : ByteArray × Int) : ∀ (m : Nat) (acc : ByteArray) (j : Int), 0 ≤ j → j ≤ h.f4.length → (h.f4.length : Int) - j = m →
    acc.size + wl (h.f4.drop j.toNat) ≤ 140737488355328 →
    (∀ acc' : ByteArray, acc'.data.toList = acc.data.toList ++ (h.f4.drop j.toNat).flatMap show_Print.line → Ev (fun k => redpenref18_Print.l0 k l acc' (i + 1)) r) →
    Ev (fun k => redpenref18_Print.l1 k l acc i j) r := by
  have hrd := rd26 hh
  intro m
  induction m with
  | zero =>
    intro acc j j0 j1 hd hb hr
    refine Ev.step (f := fun k => redpenref18_Print.l0 k l acc (i + 1)) (fun k => ?_) (hr acc ?_)
    · simp only [redpenref18_Print.l1]
      rw [if_pos h0, if_pos hi, hrd, if_neg (by omega), wrap_of (by omega) (by omega)]
    · rw [List.drop_of_length_le (by omega)]
      simp
  | succ m ih =>
    intro acc j j0 j1 hd hb hr
    obtain ⟨x, hx, hdr⟩ := drop_cons (l := h.f4) j0 (by omega)
    rw [hdr] at hb hr
    have hrx := rd42 hx
    have hwl : wl (x :: h.f4.drop (j + 1).toNat) = wt x + wl (h.f4.drop (j + 1).toNat) := by simp [wl]
    have hw : wrap64 (j + 1) = j + 1 := wrap_of (by omega) (by omega)
    have s1 : (strOfNums [x.f0]).size = 1 := rfl
    have s2 : (⟨#[10]⟩ : ByteArray).size = 1 := rfl
    have s3 : wt x = x.f1.size + 30 := rfl
    by_cases hbr : x.f2 = true
    · refine Ev.step (f := fun k => redpenref18_Print.l1 k l ((((acc ++ (strOfNums [x.f0])) ++ x.f1) ++ (⟨#[10]⟩ : ByteArray)) ++ (⟨#[92, 32, 78, 111, 32, 110, 101, 119, 108, 105, 110, 101, 32, 97, 116, 32, 101, 110, 100, 32, 111, 102, 32, 102, 105, 108, 101, 10]⟩ : ByteArray)) i (j + 1)) (fun k => ?_) (ih _ (j + 1) (by omega) (by omega) (by omega) ?_ ?_)
      · simp only [redpenref18_Print.l1, Option.bind_some]
        rw [if_pos h0, if_pos hi, hrd, if_pos (by omega), if_pos j0, hrx, if_pos (by omega), if_pos (by rw [cat_size]; omega), if_pos (by rw [cat_size, cat_size]; omega), if_pos hbr, if_pos (by rw [cat_size, cat_size, cat_size]; omega), hw]
      · have s4 : (⟨#[92, 32, 78, 111, 32, 110, 101, 119, 108, 105, 110, 101, 32, 97, 116, 32, 101, 110, 100, 32, 111, 102, 32, 102, 105, 108, 101, 10]⟩ : ByteArray).size = 28 := rfl
        rw [cat_size, cat_size, cat_size, cat_size]
        omega
      · intro acc' ha
        refine hr acc' ?_
        rw [ha, List.flatMap_cons]
        simp only [cat, show_Print.line, hbr, if_true, sign_text, List.append_assoc]
        simp
    · refine Ev.step (f := fun k => redpenref18_Print.l1 k l (((acc ++ (strOfNums [x.f0])) ++ x.f1) ++ (⟨#[10]⟩ : ByteArray)) i (j + 1)) (fun k => ?_) (ih _ (j + 1) (by omega) (by omega) (by omega) ?_ ?_)
      · simp only [redpenref18_Print.l1, Option.bind_some]
        rw [if_pos h0, if_pos hi, hrd, if_pos (by omega), if_pos j0, hrx, if_pos (by omega), if_pos (by rw [cat_size]; omega), if_pos (by rw [cat_size, cat_size]; omega), if_neg hbr, hw]
      · rw [cat_size, cat_size, cat_size]
        omega
      · intro acc' ha
        refine hr acc' ?_
        have hbf : x.f2 = false := by simpa using hbr
        rw [ha, List.flatMap_cons]
        simp only [cat, show_Print.line, hbf, sign_text, List.append_assoc]
        simp
/-- A hunk is fit to be printed: what the two prints need of it. -/
def fit (h : S26) : Prop := h.f4.length ≤ 1000000 ∧ ∀ x ∈ h.f4, x.f1.size ≤ 1073741824
def wh (h : S26) : Nat := wl h.f4 + 200
theorem head_len (a b c d : Int) (ha : 0 ≤ a ∧ a ≤ 9223372036854775000) (hb : 0 ≤ b ∧ b ≤ 9223372036854775000) (hc : 0 ≤ c ∧ c ≤ 9223372036854775000) (hd : 0 ≤ d ∧ d ≤ 9223372036854775000) : (headT a b c d).length ≤ 200 := by
  have h1 := side_len a b ha hb
  have h2 := side_len c d hc hd
  unfold headT
  simp only [List.length_append, List.length_cons, List.length_nil]
  omega
theorem check_ok {a b c d : Int} {l : List S42} (hl : l.length ≤ 1000000) (h : checkSpec a b c d l = 0) : (0 ≤ a ∧ a ≤ 65536) ∧ (0 ≤ b ∧ b ≤ 1000000) ∧ (0 ≤ c ∧ c ≤ 65536) ∧ (0 ≤ d ∧ d ≤ 1000000) := by
  unfold checkSpec at h
  cases hs : scanL l 0 0 with
  | inl e =>
    rw [hs] at h
    simp only at h
    subst h
    exfalso
    have : ∀ (l : List S42) (o n : Int), scanL l o n ≠ .inl 0 := by
      intro l
      induction l with
      | nil => intro o n h; cases h
      | cons x t ih =>
        intro o n h
        unfold scanL at h
        split at h
        · cases h
        · split at h
          · exact ih _ _ h
          · split at h
            · exact ih _ _ h
            · split at h
              · exact ih _ _ h
              · cases h
    exact this _ _ _ hs
  | inr p =>
    obtain ⟨o, n⟩ := p
    rw [hs] at h
    obtain ⟨h1, h2, h3, h4, h5, _⟩ := scan_bounds l 0 0 o n hs
    simp only [behind] at h
    split at h
    · cases h
    · split at h
      · rename_i q1 q2
        omega
      · cases h
theorem prints_from (l : List S26) (hll : (l.length : Int) ≤ 1000000) (hf : ∀ h ∈ l, fit h) : ∀ (m : Nat) (i : Int) (acc : ByteArray), 0 ≤ i → i ≤ l.length → (l.length : Int) - i = m → acc.size + ((l.drop i.toNat).map wh).sum ≤ 140737488355328 →
    ∃ r, Ev (fun k => show_Print.hunks k (l.drop i.toNat) acc.data.toList) r ∧ Ev (fun k => redpenref18_Print.l0 k l acc i) r := by
  intro m
  induction m with
  | zero =>
    intro i acc h0 h1 hd hb
    rw [List.drop_of_length_le (by omega)]
    refine ⟨(acc, 0), Ev.congr (f := fun _ => some (acc, 0)) (fun k => ?_) (Ev.now _), Ev.step (f := fun _ => some (acc, 0)) (fun k => ?_) (Ev.now _)⟩
    · simp only [show_Print.hunks]
    · simp only [redpenref18_Print.l0]
      rw [if_neg (by omega)]
  | succ m ih =>
    intro i acc h0 h1 hd hb
    obtain ⟨h, hh, hdr⟩ := drop_cons (l := l) h0 (by omega)
    rw [hdr] at hb ⊢
    have hrd := rd26 hh
    obtain ⟨f1, f2⟩ := hf h (List.mem_of_getElem? hh)
    have hsum : ((h :: l.drop (i + 1).toNat).map wh).sum = wh h + ((l.drop (i + 1).toNat).map wh).sum := by simp
    have hwh : wh h = wl h.f4 + 200 := rfl
    have hc1 := check_ev h.f0 h.f1 h.f2 h.f3 h.f4 (by omega)
    have hc2 := refcheck_ev h.f0 h.f1 h.f2 h.f3 h.f4 (by omega) (fun x hx => by have := f2 x hx; omega)
    by_cases hok : checkSpec h.f0 h.f1 h.f2 h.f3 h.f4 = 0
    · obtain ⟨b0, b1, b2, b3⟩ := check_ok f1 hok
      obtain ⟨t1, e1, d1⟩ := head_ev h.f0 h.f1 h.f2 h.f3 h.f4 (by omega) (by omega) (by omega) (by omega)
      obtain ⟨t2, e2, d2⟩ := refhead_ev h.f0 h.f1 h.f2 h.f3 h.f4 (by omega) (by omega) (by omega) (by omega)
      obtain rfl : t2 = t1 := bext (by rw [d1, d2])
      have hlen := head_len h.f0 h.f1 h.f2 h.f3 (by omega) (by omega) (by omega) (by omega)
      rw [← d1, list_size] at hlen
      have hlines := lines_ev h.f4 (acc ++ t2).data.toList (by rw [list_size, cat_size]; omega)
      obtain ⟨acc', hacc'⟩ : ∃ acc' : ByteArray, acc'.data.toList = (acc ++ t2).data.toList ++ h.f4.flatMap show_Print.line := ⟨⟨((acc ++ t2).data.toList ++ h.f4.flatMap show_Print.line).toArray⟩, rfl⟩
      have hfl : ∀ l : List S42, (l.flatMap show_Print.line).length ≤ wl l := by
        intro l
        induction l with
        | nil => simp
        | cons x t ih =>
          have := line_len x
          have h2 : wl (x :: t) = wt x + wl t := by simp [wl]
          rw [List.flatMap_cons, List.length_append]
          omega
      have hsz' : acc'.size ≤ acc.size + wh h := by
        rw [← list_size, hacc', List.length_append, list_size, cat_size]
        have := hfl h.f4
        omega
      obtain ⟨r, hr1, hr2⟩ := ih (i + 1) acc' (by omega) (by omega) (by omega) (by omega)
      refine ⟨r, ?_, ?_⟩
      · refine Ev.congr (f := fun k => (show_Check.f k h.f0 h.f1 h.f2 h.f3 h.f4).bind fun e => if e = 0 then (show_Head.f h.f0 h.f1 h.f2 h.f3 h.f4).bind fun hd => if (acc.data.toList ++ hd.data.toList).length ≤ 140737488355328 then (show_Print.lines h.f4 (acc.data.toList ++ hd.data.toList)).bind fun acc' => show_Print.hunks k (l.drop (i + 1).toNat) acc' else none else some (⟨#[]⟩, e)) (fun k => by simp only [show_Print.hunks]) ?_
        refine Ev.bind hc1 ?_
        refine Ev.congr (f := fun k => show_Print.hunks k (l.drop (i + 1).toNat) acc'.data.toList) (fun k => ?_) hr1
        rw [if_pos hok, e1, Option.bind_some, if_pos (by rw [List.length_append, list_size, list_size]; omega), ← cat, hlines, Option.bind_some, hacc']
      · refine Ev.step (f := fun k => (redpenref18_Check.f k h.f0 h.f1 h.f2 h.f3 h.f4).bind fun t144 => (if t144 = 0 then ((redpenref18_Head.f k h.f0 h.f1 h.f2 h.f3 h.f4).bind fun t146 => (if acc.size + t146.size ≤ 9223372036854775807 then (redpenref18_Print.l1 k l (acc ++ t146) i 0) else (none))) else (some ((⟨#[]⟩ : ByteArray), t144)))) (fun k => ?_) ?_
        · simp only [redpenref18_Print.l0]
          rw [if_pos (by omega), if_pos h0, hrd]
        · refine Ev.bind hc2 ?_
          refine Ev.congr (fun k => if_pos hok) ?_
          refine Ev.bind e2 ?_
          refine Ev.congr (fun k => if_pos (by omega)) ?_
          refine ref_lines l i h0 (by omega) h hh (by omega) (by omega) r h.f4.length _ 0 (by omega) (by omega) (by omega) (by rw [cat_size]; show _ + wl h.f4 ≤ _; omega) ?_
          intro a2 ha2
          obtain rfl : a2 = acc' := bext (by rw [ha2, hacc']; rfl)
          exact hr2
    · refine ⟨(⟨#[]⟩, checkSpec h.f0 h.f1 h.f2 h.f3 h.f4), ?_, ?_⟩
      · refine Ev.congr (f := fun k => (show_Check.f k h.f0 h.f1 h.f2 h.f3 h.f4).bind fun e => if e = 0 then (show_Head.f h.f0 h.f1 h.f2 h.f3 h.f4).bind fun hd => if (acc.data.toList ++ hd.data.toList).length ≤ 140737488355328 then (show_Print.lines h.f4 (acc.data.toList ++ hd.data.toList)).bind fun acc' => show_Print.hunks k (l.drop (i + 1).toNat) acc' else none else some (⟨#[]⟩, e)) (fun k => by simp only [show_Print.hunks]) ?_
        refine Ev.bind hc1 ?_
        exact Ev.congr (fun k => if_neg hok) (Ev.now _)
      · refine Ev.step (f := fun k => (redpenref18_Check.f k h.f0 h.f1 h.f2 h.f3 h.f4).bind fun t144 => (if t144 = 0 then ((redpenref18_Head.f k h.f0 h.f1 h.f2 h.f3 h.f4).bind fun t146 => (if acc.size + t146.size ≤ 9223372036854775807 then (redpenref18_Print.l1 k l (acc ++ t146) i 0) else (none))) else (some ((⟨#[]⟩ : ByteArray), t144)))) (fun k => ?_) ?_
        · simp only [redpenref18_Print.l0]
          rw [if_pos (by omega), if_pos h0, hrd]
        · refine Ev.bind hc2 ?_
          exact Ev.congr (fun k => if_neg hok) (Ev.now _)
end Go.Proofs.YthkcghiagnddiaaDoor.Pure
