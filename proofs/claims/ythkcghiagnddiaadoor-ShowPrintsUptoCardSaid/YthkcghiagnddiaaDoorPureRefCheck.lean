import Derived.Test.YthkcghiagnddiaaDoorPureCheck
namespace Go.Proofs.YthkcghiagnddiaaDoor.Pure
open Go Go.RowKit X Go.Proofs.YthkcghiagnddiaaDoorW.PrintWords Go.Proofs.YthkcghiagnddiaaDoorW.PrintLast

def sgn (x : S42) : Prop := x.f0 = 32 ∨ x.f0 = 43 ∨ x.f0 = 45
theorem ref_l2 (a b c d : Int) (l : List S42) (hl : (l.length : Int) ≤ 2305843009213693952) (hs : ∀ x ∈ l, sgn x) (i : Int) (hi0 : 0 ≤ i) (hi : i < l.length) (x : S42) (hx : l[i.toNat]? = some x) (R : Int)
    (hR : Ev (fun k => redpenref18_Check.l1 k (i + 1) a b c d l) R) : ∀ (m : Nat) (j : Int), 0 ≤ j → j ≤ l.length → (l.length : Int) - j = m →
    Ev (fun k => redpenref18_Check.l2 k i j a b c d l) (if lastB (l.drop j.toNat) x.f0 = true then R else 15) := by
  intro m
  induction m with
  | zero =>
    intro j h0 h1 hd
    rw [List.drop_of_length_le (by omega)]
    refine Ev.step (f := fun k => redpenref18_Check.l1 k (i + 1) a b c d l) (fun k => ?_) hR
    simp only [redpenref18_Check.l2]
    rw [if_neg (by omega), wrap_of (by omega) (by omega)]
  | succ m ih =>
    intro j h0 h1 hd
    obtain ⟨y, hy, hdr⟩ := drop_cons (l := l) h0 (by omega)
    rw [hdr, lastB_cons]
    have hrx := rd42 hx
    have hry := rd42 hy
    have hw : wrap64 (j + 1) = j + 1 := wrap_of (by omega) (by omega)
    have ih := ih (j + 1) (by omega) (by omega) (by omega)
    have sx : sgn x := hs x (List.mem_of_getElem? hx)
    have sy : sgn y := hs y (List.mem_of_getElem? hy)
    by_cases good : (x.f0 = 43 ∧ y.f0 = 45) ∨ (x.f0 = 45 ∧ y.f0 = 43)
    · have hg : (!(y.f0 == 32) && (!(x.f0 == 32) && !(y.f0 == x.f0))) = true := by
        rcases good with ⟨h1, h2⟩ | ⟨h1, h2⟩ <;> rw [h1, h2] <;> decide
      rw [hg, Bool.true_and]
      refine Ev.step (f := fun k => redpenref18_Check.l2 k i (j + 1) a b c d l) (fun k => ?_) ih
      simp only [redpenref18_Check.l2]
      rw [if_pos (by omega), if_pos hi0, if_pos hi, if_pos h0, hrx, hry, hw]
      rcases good with ⟨h1, h2⟩ | ⟨h1, h2⟩
      · rw [if_pos h1, if_neg (by omega), if_pos h2]
      · rw [if_neg (by omega), if_pos h2, if_pos h1]
    · have hg : (!(y.f0 == 32) && (!(x.f0 == 32) && !(y.f0 == x.f0))) = false := by
        rcases sx with h1 | h1 | h1 <;> rcases sy with h2 | h2 | h2 <;> first | (rw [h1, h2]; decide) | (exfalso; exact good (Or.inl (And.intro h1 h2))) | (exfalso; exact good (Or.inr (And.intro h1 h2)))
      rw [hg, Bool.false_and]
      refine Ev.step (f := fun _ => some 15) (fun k => ?_) (Ev.now _)
      simp only [redpenref18_Check.l2]
      rw [if_pos (by omega), if_pos hi0, if_pos hi, if_pos h0, hrx, hry]
      by_cases h1 : x.f0 = 43
      · rw [if_pos h1, if_neg (by omega), if_neg (by omega)]
      · rw [if_neg h1]
        by_cases h2 : y.f0 = 43
        · rw [if_pos h2, if_neg (by omega), if_neg (by omega)]
        · rw [if_neg h2]
theorem ref_l1 (a b c d : Int) (l : List S42) (hl : (l.length : Int) ≤ 2305843009213693952) (hs : ∀ x ∈ l, sgn x) : ∀ (m : Nat) (i : Int), 0 ≤ i → i ≤ l.length → (l.length : Int) - i = m →
    Ev (fun k => redpenref18_Check.l1 k i a b c d l) (if bares (l.drop i.toNat) = true then 0 else 15) := by
  intro m
  induction m with
  | zero =>
    intro i h0 h1 hd
    rw [List.drop_of_length_le (by omega)]
    refine Ev.step (f := fun _ => some 0) (fun k => ?_) (Ev.now _)
    simp only [redpenref18_Check.l1]
    rw [if_neg (by omega)]
  | succ m ih =>
    intro i h0 h1 hd
    obtain ⟨x, hx, hdr⟩ := drop_cons (l := l) h0 (by omega)
    rw [hdr]
    have hrd := rd42 hx
    have hi := ih (i + 1) (by omega) (by omega) (by omega)
    have hw : wrap64 (i + 1) = i + 1 := wrap_of (by omega) (by omega)
    by_cases c1 : x.f2 = true
    · refine Ev.step (f := fun k => redpenref18_Check.l2 k i (i + 1) a b c d l) (fun k => ?_) ?_
      · simp only [redpenref18_Check.l1]
        rw [if_pos (by omega), if_pos h0, hrd, if_pos c1, hw]
      · have h2 := ref_l2 a b c d l hl hs i h0 (by omega) x hx _ hi (l.length - (i + 1).toNat) (i + 1) (by omega) (by omega) (by omega)
        simp only [bares, c1, Bool.not_true, Bool.false_or]
        cases hb : lastB (l.drop (i + 1).toNat) x.f0 with
        | true =>
          rw [hb, if_pos rfl] at h2
          simp only [Bool.true_and]
          exact h2
        | false =>
          rw [hb] at h2
          exact h2
    · refine Ev.step (f := fun k => redpenref18_Check.l1 k (i + 1) a b c d l) (fun k => ?_) ?_
      · simp only [redpenref18_Check.l1]
        rw [if_pos (by omega), if_pos h0, hrd, if_neg c1, hw]
      · have c2 : x.f2 = false := by simpa using c1
        simp only [bares, c2, Bool.not_false, Bool.true_or, Bool.true_and]
        exact hi
theorem ref_j2 (a b c d : Int) (l : List S42) (hl : (l.length : Int) ≤ 2305843009213693952) (hs : ∀ x ∈ l, sgn x) (o n : Int) (hon : o + n = 0 ↔ l.length = 0) (bad : Bool) (hb : bad = true ↔ (a < 0 ∨ c < 0 ∨ a > 65536 ∨ c > 65536)) :
    Ev (fun k => redpenref18_Check.j2 k o n bad a b c d l) (behind a b c d l o n) := by
  unfold behind
  cases bad with
  | true =>
    rw [if_pos (hb.1 rfl)]
    exact Ev.step (f := fun _ => some 2) (fun k => by simp only [redpenref18_Check.j2, if_true]) (Ev.now _)
  | false =>
    have hn' : ¬ (a < 0 ∨ c < 0 ∨ a > 65536 ∨ c > 65536) := fun h => by cases hb.2 h
    rw [if_neg hn']
    have j3t : Ev (fun k => redpenref18_Check.j3 k true a b c d l) 13 := Ev.step (f := fun _ => some 13) (fun k => by simp only [redpenref18_Check.j3, if_true]) (Ev.now _)
    by_cases h1 : o = b
    · by_cases h2 : n = d
      · by_cases h3 : o + n = 0
        · rw [if_neg (fun h => h.2.2 h3)]
          have hz : ((l.length : Int) == 0) = true := beq_iff_eq.2 (by have := hon.1 h3; omega)
          refine Ev.step (f := fun k => redpenref18_Check.j3 k true a b c d l) (fun k => ?_) j3t
          simp only [redpenref18_Check.j2]
          rw [if_neg (by simp), if_pos h1, if_pos h2, hz]
        · rw [if_pos ⟨h1, h2, h3⟩]
          have hz : ((l.length : Int) == 0) = false := beq_eq_false_iff_ne.2 (fun h => h3 (hon.2 (by omega)))
          refine Ev.step (f := fun k => redpenref18_Check.j3 k false a b c d l) (fun k => ?_) (Ev.step (f := fun k => redpenref18_Check.l1 k 0 a b c d l) (fun k => ?_) (ref_l1 a b c d l hl hs l.length 0 (by omega) (by omega) (by omega)))
          · simp only [redpenref18_Check.j2]
            rw [if_neg (by simp), if_pos h1, if_pos h2, hz]
          · simp only [redpenref18_Check.j3]
            rw [if_neg (by simp)]
      · rw [if_neg (fun h => h2 h.2.1)]
        refine Ev.step (f := fun k => redpenref18_Check.j3 k true a b c d l) (fun k => ?_) j3t
        simp only [redpenref18_Check.j2]
        rw [if_neg (by simp), if_pos h1, if_neg h2]
    · rw [if_neg (fun h => h1 h.1)]
      refine Ev.step (f := fun k => redpenref18_Check.j3 k true a b c d l) (fun k => ?_) j3t
      simp only [redpenref18_Check.j2]
      rw [if_neg (by simp), if_neg h1]
theorem ref_from (a b c d : Int) (l : List S42) (hl : (l.length : Int) ≤ 2305843009213693952) (hz : ∀ x ∈ l, (x.f1.size : Int) ≤ 9223372036854775807) : ∀ (m : Nat) (i o n : Int), 0 ≤ i → i ≤ l.length → (l.length : Int) - i = m → (0 ≤ o ∧ o ≤ i) → (0 ≤ n ∧ n ≤ i) → i ≤ o + n → (∀ x ∈ l.take i.toNat, sgn x) →
    Ev (fun k => redpenref18_Check.l0 k o n i a b c d l) (told a b c d l (scanL (l.drop i.toNat) o n)) := by
  intro m
  induction m with
  | zero =>
    intro i o n h0 h1 hd ho hn hs1 hs
    rw [List.take_of_length_le (by omega)] at hs
    rw [List.drop_of_length_le (by omega)]
    show Ev _ (behind a b c d l o n)
    have hon : o + n = 0 ↔ l.length = 0 := ⟨fun h => by omega, fun h => by omega⟩
    by_cases c1 : a < 0
    · refine Ev.step (f := fun k => redpenref18_Check.j2 k o n true a b c d l) (fun k => ?_) (ref_j2 a b c d l hl hs o n hon true (by simp [c1]))
      simp only [redpenref18_Check.l0]
      rw [if_neg (by omega), if_pos c1]
    · by_cases c2 : a > 65536
      · refine Ev.step (f := fun k => redpenref18_Check.j2 k o n true a b c d l) (fun k => ?_) (ref_j2 a b c d l hl hs o n hon true (by simp [c2]))
        simp only [redpenref18_Check.l0]
        rw [if_neg (by omega), if_neg c1, if_pos c2]
      · by_cases c3 : c < 0
        · refine Ev.step (f := fun k => redpenref18_Check.j2 k o n true a b c d l) (fun k => ?_) (ref_j2 a b c d l hl hs o n hon true (by simp [c3]))
          simp only [redpenref18_Check.l0]
          rw [if_neg (by omega), if_neg c1, if_neg c2, if_pos c3]
        · refine Ev.step (f := fun k => redpenref18_Check.j2 k o n (decide (c > 65536)) a b c d l) (fun k => ?_) (ref_j2 a b c d l hl hs o n hon _ (by simp; omega))
          simp only [redpenref18_Check.l0]
          rw [if_neg (by omega), if_neg c1, if_neg c2, if_neg c3]
  | succ m ih =>
    intro i o n h0 h1 hd ho hn hs1 hs
    obtain ⟨x, hx, hdr⟩ := drop_cons (l := l) h0 (by omega)
    rw [hdr]
    have hrd := rd42 hx
    have hw : wrap64 (i + 1) = i + 1 := wrap_of (by omega) (by omega)
    have hwo : wrap64 (o + 1) = o + 1 := wrap_of (by omega) (by omega)
    have hwn : wrap64 (n + 1) = n + 1 := wrap_of (by omega) (by omega)
    have hh := has_ev x.f1 10 (hz x (List.mem_of_getElem? hx))
    have hs' : sgn x → ∀ y ∈ l.take (i + 1).toNat, sgn y := by
      intro sx y hy
      rw [show (i + 1).toNat = i.toNat + 1 by omega, List.take_succ_eq_append_getElem (by omega)] at hy
      rcases List.mem_append.1 hy with hy | hy
      · exact hs y hy
      · have : y = x := by
          have h3 := List.mem_singleton.1 hy
          rw [h3]
          exact (List.getElem?_eq_some_iff.1 hx).2
        rw [this]
        exact sx
    unfold scanL
    by_cases c0 : hasB x.f1 10 = true
    · rw [if_pos c0]
      refine Ev.step (g := fun k => redpenref18_Check.l0 k o n i a b c d l) (fun k => by simp only [redpenref18_Check.l0]; rw [if_pos (by omega), if_pos h0, hrd]) (Ev.bind hh ?_)
      simp only [c0, if_true]
      exact Ev.now _
    · rw [if_neg c0]
      by_cases c1 : x.f0 = 32
      · rw [if_pos c1]
        refine Ev.step (g := fun k => redpenref18_Check.l0 k o n i a b c d l) (fun k => by simp only [redpenref18_Check.l0]; rw [if_pos (by omega), if_pos h0, hrd]) (Ev.bind hh ?_)
        refine Ev.congr (f := fun k => redpenref18_Check.j1 k o n i false a b c d l x.f0 x.f1 x.f2) (fun k => by rw [if_neg c0, if_pos c1]) ?_
        refine Ev.step (f := fun k => redpenref18_Check.l0 k (o + 1) (n + 1) (i + 1) a b c d l) (fun k => ?_) (ih (i + 1) (o + 1) (n + 1) (by omega) (by omega) (by omega) (by omega) (by omega) (by omega) (hs' (.inl c1)))
        simp only [redpenref18_Check.j1]
        rw [if_neg (by simp), if_neg (by omega), if_neg (by omega), hw, hwo, hwn]
      · rw [if_neg c1]
        by_cases c2 : x.f0 = 43
        · rw [if_pos c2]
          refine Ev.step (g := fun k => redpenref18_Check.l0 k o n i a b c d l) (fun k => by simp only [redpenref18_Check.l0]; rw [if_pos (by omega), if_pos h0, hrd]) (Ev.bind hh ?_)
          refine Ev.congr (f := fun k => redpenref18_Check.j1 k o n i false a b c d l x.f0 x.f1 x.f2) (fun k => by rw [if_neg c0, if_neg c1, if_neg (by omega), show (x.f0 != 43) = false from by rw [c2]; decide]) ?_
          refine Ev.step (f := fun k => redpenref18_Check.l0 k o (n + 1) (i + 1) a b c d l) (fun k => ?_) (ih (i + 1) o (n + 1) (by omega) (by omega) (by omega) (by omega) (by omega) (by omega) (hs' (.inr (.inl c2))))
          simp only [redpenref18_Check.j1]
          rw [if_neg (by simp), if_pos c2, if_neg (by omega), hw, hwn]
        · rw [if_neg c2]
          by_cases c3 : x.f0 = 45
          · rw [if_pos c3]
            refine Ev.step (g := fun k => redpenref18_Check.l0 k o n i a b c d l) (fun k => by simp only [redpenref18_Check.l0]; rw [if_pos (by omega), if_pos h0, hrd]) (Ev.bind hh ?_)
            refine Ev.congr (f := fun k => redpenref18_Check.j1 k o n i false a b c d l x.f0 x.f1 x.f2) (fun k => by rw [if_neg c0, if_neg c1, if_pos c3]) ?_
            refine Ev.step (f := fun k => redpenref18_Check.l0 k (o + 1) n (i + 1) a b c d l) (fun k => ?_) (ih (i + 1) (o + 1) n (by omega) (by omega) (by omega) (by omega) (by omega) (by omega) (hs' (.inr (.inr c3))))
            simp only [redpenref18_Check.j1]
            rw [if_neg (by simp), if_neg (by omega), if_pos c3, hw, hwo]
          · rw [if_neg c3]
            refine Ev.step (g := fun k => redpenref18_Check.l0 k o n i a b c d l) (fun k => by simp only [redpenref18_Check.l0]; rw [if_pos (by omega), if_pos h0, hrd]) (Ev.bind hh ?_)
            refine Ev.congr (f := fun k => redpenref18_Check.j1 k o n i true a b c d l x.f0 x.f1 x.f2) (fun k => by rw [if_neg c0, if_neg c1, if_neg c3, show (x.f0 != 43) = true from bne_iff_ne.2 c2]) ?_
            exact Ev.step (f := fun _ => some 7) (fun k => by simp only [redpenref18_Check.j1, if_true]) (Ev.now _)
theorem refcheck_ev (a b c d : Int) (l : List S42) (hl : (l.length : Int) ≤ 2305843009213693952) (hz : ∀ x ∈ l, (x.f1.size : Int) ≤ 9223372036854775807) : Ev (fun k => redpenref18_Check.f k a b c d l) (checkSpec a b c d l) := by
  have h := ref_from a b c d l hl hz l.length 0 0 0 (by omega) (by omega) (by omega) (by omega) (by omega) (by omega) (fun x hx => by simp at hx)
  have e : told a b c d l (scanL (l.drop (0 : Int).toNat) 0 0) = checkSpec a b c d l := by
    unfold checkSpec
    show told a b c d l (scanL l 0 0) = _
    cases scanL l 0 0 with
    | inl e => rfl
    | inr p => rfl
  rw [e] at h
  exact h
end Go.Proofs.YthkcghiagnddiaaDoor.Pure
