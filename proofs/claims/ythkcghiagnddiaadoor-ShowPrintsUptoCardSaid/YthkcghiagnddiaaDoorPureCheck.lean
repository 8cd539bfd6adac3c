import Derived.Test.YthkcghiagnddiaaDoorX
import Derived.Test.YthkcghiagnddiaaDoorPureBase
namespace Go.Proofs.YthkcghiagnddiaaDoor.Pure
open Go Go.RowKit X Go.Proofs.YthkcghiagnddiaaDoorW.PrintWords Go.Proofs.YthkcghiagnddiaaDoorW.PrintLast

theorem has_from (s : ByteArray) (c : Int) (hs : (s.size : Int) ≤ 9223372036854775807) : ∀ (d : Nat) (i : Int), 0 ≤ i → i ≤ s.size → (s.size : Int) - i = d → Ev (fun k => redpenref18_has.l0 k s c i) ((s.data.toList.drop i.toNat).any fun b => (b.toNat : Int) == c) := by
  intro d
  induction d with
  | zero =>
    intro i h0 h1 hd
    rw [List.drop_of_length_le (by rw [list_size]; omega)]
    refine Ev.step (f := fun _ => some false) (fun k => ?_) (Ev.now _)
    simp only [redpenref18_has.l0]
    rw [if_neg (by omega)]
  | succ d ih =>
    intro i h0 h1 hd
    obtain ⟨b, hb, hdr⟩ := drop_cons (l := s.data.toList) h0 (by rw [list_size]; omega)
    rw [hdr, List.any_cons]
    have hbt := bt_get s i b hb
    by_cases hc : (b.toNat : Int) = c
    · refine Ev.step (f := fun _ => some true) (fun k => ?_) ?_
      · simp only [redpenref18_has.l0]
        rw [if_pos (by omega), if_pos h0, hbt, if_pos hc]
      · rw [beq_iff_eq.2 hc, Bool.true_or]
        exact Ev.now _
    · refine Ev.step (f := fun k => redpenref18_has.l0 k s c (i + 1)) (fun k => ?_) ?_
      · simp only [redpenref18_has.l0]
        rw [if_pos (by omega), if_pos h0, hbt, if_neg hc, wrap_of (by omega) (by omega)]
      · rw [beq_eq_false_iff_ne.2 hc, Bool.false_or]
        exact ih (i + 1) (by omega) (by omega) (by omega)
theorem has_ev (s : ByteArray) (c : Int) (hs : (s.size : Int) ≤ 9223372036854775807) : Ev (fun k => redpenref18_has.f k s c) (hasB s c) := has_from s c hs s.size 0 (by omega) (by omega) (by omega)

theorem index_list : ∀ l : List UInt8, 0 ≤ Lib.indexByte l (10 : Int).toNat.toUInt8 ↔ (l.any fun b => (b.toNat : Int) == 10) = true
  | [] => by simp [Lib.indexByte]
  | b :: l => by
    have ih := index_list l
    have h2 := Lib.indexByte_ge l (10 : Int).toNat.toUInt8
    rw [List.any_cons]
    unfold Lib.indexByte
    by_cases hb : b = (10 : Int).toNat.toUInt8
    · subst hb
      simp
    · have hn : ((b.toNat : Int) == 10) = false := by
        rw [beq_eq_false_iff_ne]
        intro e
        apply hb
        apply UInt8.toNat_inj.1
        show b.toNat = 10
        omega
      rw [hn, Bool.false_or, ← ih]
      rw [if_neg (by simpa using hb)]
      by_cases h3 : Lib.indexByte l (10 : Int).toNat.toUInt8 = -1
      · rw [if_pos (beq_iff_eq.2 h3)]
        omega
      · rw [if_neg (fun h => h3 (beq_iff_eq.1 h))]
        omega
theorem index_has (s : ByteArray) : (0 ≤ Lib.indexByte s.data.toList (10 : Int).toNat.toUInt8) ↔ hasB s 10 = true := index_list _

/-- The scan of a hunk's lines: an error, or how many old, new ones. -/
def scanL : List S42 → Int → Int → Int ⊕ (Int × Int)
  | [], o, n => .inr (o, n)
  | x :: t, o, n => if hasB x.f1 10 = true then .inl 14 else if x.f0 = 32 then scanL t (o + 1) (n + 1) else if x.f0 = 43 then scanL t o (n + 1) else if x.f0 = 45 then scanL t (o + 1) n else .inl 7
/-- May a line of a sign be its side's last one, with these behind it? -/
def lastB (t : List S42) (s : Int) : Bool := t.all fun y => !(y.f0 == 32) && (!(s == 32) && !(y.f0 == s))
theorem lastB_cons (x : S42) (t : List S42) (s : Int) : lastB (x :: t) s = ((!(x.f0 == 32) && (!(s == 32) && !(x.f0 == s))) && lastB t s) := List.all_cons
def bares : List S42 → Bool
  | [] => true
  | x :: t => (!x.f2 || lastB t x.f0) && bares t
def behind (a b c d : Int) (l : List S42) (o n : Int) : Int :=
  if a < 0 ∨ c < 0 ∨ a > 65536 ∨ c > 65536 then 2 else if o = b ∧ n = d ∧ o + n ≠ 0 then (if bares l = true then 0 else 15) else 13
def checkSpec (a b c d : Int) (l : List S42) : Int := match scanL l 0 0 with
  | .inl e => e
  | .inr (o, n) => behind a b c d l o n

theorem last_from (s : Int) (l : List S42) (hl : (l.length : Int) ≤ 2305843009213693952) : ∀ (d : Nat) (i : Int), 0 ≤ i → i ≤ l.length → (l.length : Int) - i = d → Ev (fun k => show_last.l0 k s l (l.length : Int) i) (lastB (l.drop i.toNat) s) := by
  intro d
  induction d with
  | zero =>
    intro i h0 h1 hd
    rw [List.drop_of_length_le (by omega)]
    refine Ev.step (f := fun _ => some true) (fun k => ?_) (Ev.now _)
    simp only [show_last.l0]
    rw [if_neg (by omega)]
  | succ d ih =>
    intro i h0 h1 hd
    obtain ⟨x, hx, hdr⟩ := drop_cons (l := l) h0 (by omega)
    rw [hdr]
    rw [lastB_cons]
    have hrd := rd42 hx
    by_cases c1 : x.f0 = 32
    · refine Ev.step (f := fun _ => some false) (fun k => ?_) ?_
      · simp only [show_last.l0]
        rw [if_pos (by omega), if_pos h0, if_pos (by omega), hrd, if_pos c1]
      · simp only [c1, beq_self_eq_true, Bool.not_true, Bool.false_and]
        exact Ev.now _
    · by_cases c2 : s = 32
      · refine Ev.step (f := fun _ => some false) (fun k => ?_) ?_
        · simp only [show_last.l0]
          rw [if_pos (by omega), if_pos h0, if_pos (by omega), hrd, if_neg c1, if_pos c2]
        · simp only [c2, beq_self_eq_true, Bool.not_true, Bool.false_and, Bool.and_false]
          exact Ev.now _
      · by_cases c3 : x.f0 = s
        · refine Ev.step (f := fun _ => some false) (fun k => ?_) ?_
          · simp only [show_last.l0]
            rw [if_pos (by omega), if_pos h0, if_pos (by omega), hrd, if_neg c1, if_neg c2, if_pos c3]
          · simp only [c3, beq_self_eq_true, Bool.not_true, Bool.false_and, Bool.and_false]
            exact Ev.now _
        · refine Ev.step (f := fun k => show_last.l0 k s l (l.length : Int) (i + 1)) (fun k => ?_) ?_
          · simp only [show_last.l0]
            rw [if_pos (by omega), if_pos h0, if_pos (by omega), hrd, if_neg c1, if_neg c2, if_neg c3, wrap_of (by omega) (by omega)]
          · rw [beq_eq_false_iff_ne.2 c1, beq_eq_false_iff_ne.2 c2, beq_eq_false_iff_ne.2 c3]
            simp only [Bool.not_false, Bool.true_and]
            exact ih (i + 1) (by omega) (by omega) (by omega)
theorem last_ev (s : Int) (l : List S42) (hl : (l.length : Int) ≤ 2305843009213693952) : Ev (fun k => show_last.f k l s) (lastB l s) := last_from s l hl l.length 0 (by omega) (by omega) (by omega)

/-- The second loop: the bare ones. -/
theorem bares_from (a b c d : Int) (l : List S42) (hl : (l.length : Int) ≤ 2305843009213693952) : ∀ (m : Nat) (i : Int), 0 ≤ i → i ≤ l.length → (l.length : Int) - i = m →
    Ev (fun k => show_Check.l1 k l (l.length : Int) i a b c d l) (if bares (l.drop i.toNat) = true then 0 else 15) := by
  intro m
  induction m with
  | zero =>
    intro i h0 h1 hd
    rw [List.drop_of_length_le (by omega)]
    refine Ev.step (f := fun _ => some 0) (fun k => ?_) (Ev.now _)
    simp only [show_Check.l1]
    rw [if_neg (by omega)]
  | succ m ih =>
    intro i h0 h1 hd
    obtain ⟨x, hx, hdr⟩ := drop_cons (l := l) h0 (by omega)
    rw [hdr]
    have hrd := rd42 hx
    have hi := ih (i + 1) (by omega) (by omega) (by omega)
    have hw : wrap64 (i + 1) = i + 1 := wrap_of (by omega) (by omega)
    by_cases c1 : x.f2 = true
    · refine Ev.step (f := fun k => (show_last.f k (l.drop (i + 1).toNat) x.f0).bind fun t => if t = true then show_Check.l1 k l (l.length : Int) (i + 1) a b c d l else some 15) (fun k => ?_) ?_
      · simp only [show_Check.l1]
        rw [if_pos (by omega), if_pos h0, if_pos (by omega), hrd, if_pos c1, hw, if_pos (by omega), if_pos (by omega)]
      · refine Ev.bind (last_ev x.f0 _ (by rw [List.length_drop]; omega)) ?_
        simp only [bares, c1, Bool.not_true, Bool.false_or]
        cases hb : lastB (l.drop (i + 1).toNat) x.f0 with
        | true =>
          simp only [Bool.true_and, if_true]
          exact hi
        | false => exact Ev.now _
    · refine Ev.step (f := fun k => show_Check.l1 k l (l.length : Int) (i + 1) a b c d l) (fun k => ?_) ?_
      · simp only [show_Check.l1]
        rw [if_pos (by omega), if_pos h0, if_pos (by omega), hrd, if_neg c1, hw]
      · have c2 : x.f2 = false := by simpa using c1
        simp only [bares, c2, Bool.not_false, Bool.true_or, Bool.true_and]
        exact hi

theorem scan_bounds : ∀ (l : List S42) (o n o' n' : Int), scanL l o n = .inr (o', n') → o ≤ o' ∧ n ≤ n' ∧ o' ≤ o + l.length ∧ n' ≤ n + l.length ∧ o + n + l.length ≤ o' + n' ∧ ∀ x ∈ l, x.f0 = 32 ∨ x.f0 = 43 ∨ x.f0 = 45
  | [], o, n, o', n', h => by
    injection h with h
    injection h with h1 h2
    subst h1
    subst h2
    simp
  | x :: t, o, n, o', n', h => by
    unfold scanL at h
    simp only [List.length_cons]
    split at h
    · cases h
    · split at h
      · rename_i hx
        obtain ⟨h1, h2, h3, h4, h5, h6⟩ := scan_bounds t _ _ _ _ h
        exact ⟨by omega, by omega, by omega, by omega, by omega, fun y hy => (List.mem_cons.1 hy).elim (fun e => by rw [e]; exact .inl hx) (h6 y)⟩
      · split at h
        · rename_i hx
          obtain ⟨h1, h2, h3, h4, h5, h6⟩ := scan_bounds t _ _ _ _ h
          exact ⟨by omega, by omega, by omega, by omega, by omega, fun y hy => (List.mem_cons.1 hy).elim (fun e => by rw [e]; exact .inr (.inl hx)) (h6 y)⟩
        · split at h
          · rename_i hx
            obtain ⟨h1, h2, h3, h4, h5, h6⟩ := scan_bounds t _ _ _ _ h
            exact ⟨by omega, by omega, by omega, by omega, by omega, fun y hy => (List.mem_cons.1 hy).elim (fun e => by rw [e]; exact .inr (.inr hx)) (h6 y)⟩
          · cases h
def told (a b c d : Int) (l : List S42) : Int ⊕ (Int × Int) → Int
  | .inl e => e
  | .inr (o, n) => behind a b c d l o n
theorem join1 (a b c d : Int) (l : List S42) (hl : (l.length : Int) ≤ 2305843009213693952) (o n : Int) (ho : 0 ≤ o ∧ o ≤ l.length) (hn : 0 ≤ n ∧ n ≤ l.length) (bad : Bool) (hb : bad = true ↔ (a < 0 ∨ c < 0 ∨ a > 65536 ∨ c > 65536)) :
    Ev (fun k => show_Check.j1 k o n bad a b c d l) (behind a b c d l o n) := by
  unfold behind
  cases bad with
  | true =>
    rw [if_pos (hb.1 rfl)]
    exact Ev.step (f := fun _ => some 2) (fun k => by simp only [show_Check.j1, if_true]) (Ev.now _)
  | false =>
    have hn' : ¬ (a < 0 ∨ c < 0 ∨ a > 65536 ∨ c > 65536) := fun h => by cases hb.2 h
    rw [if_neg hn']
    by_cases h1 : o = b
    · by_cases h2 : n = d
      · by_cases h3 : o + n = 0
        · rw [if_neg (fun h => h.2.2 h3)]
          refine Ev.step (f := fun _ => some 13) (fun k => ?_) (Ev.now _)
          simp only [show_Check.j1]
          rw [if_neg (by simp), if_pos h1, if_pos h2, wrap_of (by omega) (by omega), if_pos h3]
        · rw [if_pos ⟨h1, h2, h3⟩]
          refine Ev.step (f := fun k => show_Check.l1 k l (l.length : Int) 0 a b c d l) (fun k => ?_) (bares_from a b c d l hl l.length 0 (by omega) (by omega) (by omega))
          simp only [show_Check.j1]
          rw [if_neg (by simp), if_pos h1, if_pos h2, wrap_of (by omega) (by omega), if_neg h3]
      · rw [if_neg (fun h => h2 h.2.1)]
        refine Ev.step (f := fun _ => some 13) (fun k => ?_) (Ev.now _)
        simp only [show_Check.j1]
        rw [if_neg (by simp), if_pos h1, if_neg h2]
    · rw [if_neg (fun h => h1 h.1)]
      refine Ev.step (f := fun _ => some 13) (fun k => ?_) (Ev.now _)
      simp only [show_Check.j1]
      rw [if_neg (by simp), if_neg h1]
theorem check_from (a b c d : Int) (l : List S42) (hl : (l.length : Int) ≤ 2305843009213693952) : ∀ (m : Nat) (i o n : Int), 0 ≤ i → i ≤ l.length → (l.length : Int) - i = m → (0 ≤ o ∧ o ≤ i) → (0 ≤ n ∧ n ≤ i) →
    Ev (fun k => show_Check.l0 k o n l (l.length : Int) i a b c d l) (told a b c d l (scanL (l.drop i.toNat) o n)) := by
  intro m
  induction m with
  | zero =>
    intro i o n h0 h1 hd ho hn
    rw [List.drop_of_length_le (by omega)]
    show Ev _ (behind a b c d l o n)
    by_cases c1 : a < 0
    · refine Ev.step (f := fun k => show_Check.j1 k o n true a b c d l) (fun k => ?_) (join1 a b c d l hl o n (by omega) (by omega) true (by simp [c1]))
      simp only [show_Check.l0]
      rw [if_neg (by omega), if_pos c1]
    · by_cases c2 : c < 0
      · refine Ev.step (f := fun k => show_Check.j1 k o n true a b c d l) (fun k => ?_) (join1 a b c d l hl o n (by omega) (by omega) true (by simp [c2]))
        simp only [show_Check.l0]
        rw [if_neg (by omega), if_neg c1, if_pos c2]
      · by_cases c3 : a > 65536
        · refine Ev.step (f := fun k => show_Check.j1 k o n true a b c d l) (fun k => ?_) (join1 a b c d l hl o n (by omega) (by omega) true (by simp [c3]))
          simp only [show_Check.l0]
          rw [if_neg (by omega), if_neg c1, if_neg c2, if_pos c3]
        · refine Ev.step (f := fun k => show_Check.j1 k o n (decide (c > 65536)) a b c d l) (fun k => ?_) (join1 a b c d l hl o n (by omega) (by omega) _ (by simp; omega))
          simp only [show_Check.l0]
          rw [if_neg (by omega), if_neg c1, if_neg c2, if_neg c3]
  | succ m ih =>
    intro i o n h0 h1 hd ho hn
    obtain ⟨x, hx, hdr⟩ := drop_cons (l := l) h0 (by omega)
    rw [hdr]
    have hrd := rd42 hx
    have hw : wrap64 (i + 1) = i + 1 := wrap_of (by omega) (by omega)
    have hwo : wrap64 (o + 1) = o + 1 := wrap_of (by omega) (by omega)
    have hwn : wrap64 (n + 1) = n + 1 := wrap_of (by omega) (by omega)
    unfold scanL
    by_cases c0 : hasB x.f1 10 = true
    · rw [if_pos c0]
      refine Ev.step (f := fun _ => some 14) (fun k => ?_) (Ev.now _)
      simp only [show_Check.l0, strings_IndexByte.f, Option.bind_some]
      rw [if_pos (by omega), if_pos h0, if_pos (by omega), hrd, if_pos ((index_has _).2 c0)]
    · rw [if_neg c0]
      have c0' : ¬ Lib.indexByte x.f1.data.toList (10 : Int).toNat.toUInt8 ≥ 0 := fun h => c0 ((index_has _).1 h)
      by_cases c1 : x.f0 = 32
      · rw [if_pos c1]
        refine Ev.step (f := fun k => show_Check.l0 k (o + 1) (n + 1) l (l.length : Int) (i + 1) a b c d l) (fun k => ?_) (ih (i + 1) (o + 1) (n + 1) (by omega) (by omega) (by omega) (by omega) (by omega))
        simp only [show_Check.l0, strings_IndexByte.f, Option.bind_some]
        rw [if_pos (by omega), if_pos h0, if_pos (by omega), hrd, if_neg c0', if_pos c1, hw, hwo, hwn]
      · rw [if_neg c1]
        by_cases c2 : x.f0 = 43
        · rw [if_pos c2]
          refine Ev.step (f := fun k => show_Check.l0 k o (n + 1) l (l.length : Int) (i + 1) a b c d l) (fun k => ?_) (ih (i + 1) o (n + 1) (by omega) (by omega) (by omega) (by omega) (by omega))
          simp only [show_Check.l0, strings_IndexByte.f, Option.bind_some]
          rw [if_pos (by omega), if_pos h0, if_pos (by omega), hrd, if_neg c0', if_neg c1, if_pos c2, hw, hwn]
        · rw [if_neg c2]
          by_cases c3 : x.f0 = 45
          · rw [if_pos c3]
            refine Ev.step (f := fun k => show_Check.l0 k (o + 1) n l (l.length : Int) (i + 1) a b c d l) (fun k => ?_) (ih (i + 1) (o + 1) n (by omega) (by omega) (by omega) (by omega) (by omega))
            simp only [show_Check.l0, strings_IndexByte.f, Option.bind_some]
            rw [if_pos (by omega), if_pos h0, if_pos (by omega), hrd, if_neg c0', if_neg c1, if_neg c2, if_pos c3, hw, hwo]
          · rw [if_neg c3]
            refine Ev.step (f := fun _ => some 7) (fun k => ?_) (Ev.now _)
            simp only [show_Check.l0, strings_IndexByte.f, Option.bind_some]
            rw [if_pos (by omega), if_pos h0, if_pos (by omega), hrd, if_neg c0', if_neg c1, if_neg c2, if_neg c3]
theorem check_ev (a b c d : Int) (l : List S42) (hl : (l.length : Int) ≤ 2305843009213693952) : Ev (fun k => show_Check.f k a b c d l) (checkSpec a b c d l) := by
  have h := check_from a b c d l hl l.length 0 0 0 (by omega) (by omega) (by omega) (by omega) (by omega)
  have e : told a b c d l (scanL (l.drop (0 : Int).toNat) 0 0) = checkSpec a b c d l := by
    unfold checkSpec
    show told a b c d l (scanL l 0 0) = _
    cases scanL l 0 0 with
    | inl e => rfl
    | inr p => rfl
  rw [e] at h
  exact h
end Go.Proofs.YthkcghiagnddiaaDoor.Pure
