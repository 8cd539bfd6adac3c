import Derived.Test.YthkcghiagnddiaaDoorXc
import Derived.Lib.ItoaLen
namespace Go.Proofs.YthkcghiagnddiaaDoor.Pure
open Go Go.RowKit X Go.Proofs.YthkcghiagnddiaaDoorW.PrintWords Go.Proofs.YthkcghiagnddiaaDoorW.PrintLast

theorem wrap_of {i : Int} (h0 : -9223372036854775808 ≤ i) (h : i ≤ 9223372036854775807) : wrap64 i = i := by
  unfold wrap64
  omega
theorem list_size (s : ByteArray) : s.data.toList.length = s.size := by rw [Array.length_toList]; rfl
theorem bt_get (s : ByteArray) (i : Int) (b : UInt8) (h : s.data.toList[i.toNat]? = some b) : bt s i = (b.toNat : Int) := by
  have hl := (List.getElem?_eq_some_iff.1 h).1
  rw [list_size] at hl
  rw [← bt_at s i hl]
  have h2 : s.data.toList[i.toNat]'(by rw [list_size]; exact hl) = b := (List.getElem?_eq_some_iff.1 h).2
  rw [← h2]
  rfl
theorem drop_cons {α : Type} {l : List α} {i : Int} (h0 : 0 ≤ i) (h : i < (l.length : Int)) : ∃ x, l[i.toNat]? = some x ∧ l.drop i.toNat = x :: l.drop (i + 1).toNat := by
  have hn : i.toNat < l.length := by omega
  exact ⟨l[i.toNat], List.getElem?_eq_getElem hn, by rw [show (i + 1).toNat = i.toNat + 1 by omega, List.drop_eq_getElem_cons hn]⟩
theorem rd42 {l : List S42} {i : Int} {x : S42} (h : l[i.toNat]? = some x) : rd_T42 l i = x := by
  unfold rd_T42
  rw [List.getD_eq_getElem?_getD, h]
  rfl
theorem rd26 {l : List S26} {i : Int} {x : S26} (h : l[i.toNat]? = some x) : rd_T26 l i = x := by
  unfold rd_T26
  rw [List.getD_eq_getElem?_getD, h]
  rfl
/-- A byte within a text. -/
def hasB (s : ByteArray) (c : Int) : Bool := s.data.toList.any fun b => (b.toNat : Int) == c

theorem index_list : ∀ l : List UInt8, 0 ≤ Lib.indexByte l (10 : Int).toNat.toUInt8 ↔ (l.any fun b => (b.toNat : Int) == 10) = true
  | [] => by simp [Lib.indexByte]
  | b :: l => by
    have ih := index_list l
    have h2 := Lib.indexByte_ge l (10 : Int).toNat.toUInt8
    rw [List.any_cons]
    unfold Lib.indexByte
    by_cases hb : b = (10 : Int).toNat.toUInt8
    · subst hb
      simp
    · have hn : ((b.toNat : Int) == 10) = false := by
        rw [beq_eq_false_iff_ne]
        intro e
        apply hb
        apply UInt8.toNat_inj.1
        show b.toNat = 10
        omega
      rw [hn, Bool.false_or, ← ih]
      rw [if_neg (by simpa using hb)]
      by_cases h3 : Lib.indexByte l (10 : Int).toNat.toUInt8 = -1
      · rw [if_pos (beq_iff_eq.2 h3)]
        omega
      · rw [if_neg (fun h => h3 (beq_iff_eq.1 h))]
        omega
theorem index_has (s : ByteArray) : (0 ≤ Lib.indexByte s.data.toList (10 : Int).toNat.toUInt8) ↔ hasB s 10 = true := index_list _

/-- The scan of a hunk's lines: an error, or how many old, new ones. -/
def scanL : List S42 → Int → Int → Int ⊕ (Int × Int)
  | [], o, n => .inr (o, n)
  | x :: t, o, n => if hasB x.f1 10 = true then .inl 14 else if x.f0 = 32 then scanL t (o + 1) (n + 1) else if x.f0 = 43 then scanL t o (n + 1) else if x.f0 = 45 then scanL t (o + 1) n else .inl 7
/-- May a line of a sign be its side's last one, with these behind it? -/
def lastB (t : List S42) (s : Int) : Bool := t.all fun y => !(y.f0 == 32) && (!(s == 32) && !(y.f0 == s))
theorem lastB_cons (x : S42) (t : List S42) (s : Int) : lastB (x :: t) s = ((!(x.f0 == 32) && (!(s == 32) && !(x.f0 == s))) && lastB t s) := List.all_cons
def bares : List S42 → Bool
  | [] => true
  | x :: t => (!x.f2 || lastB t x.f0) && bares t
def behind (a b c d : Int) (l : List S42) (o n : Int) : Int :=
  if a < 0 ∨ c < 0 ∨ a > 65536 ∨ c > 65536 then 2 else if o = b ∧ n = d ∧ o + n ≠ 0 then (if bares l = true then 0 else 15) else 13
def checkSpec (a b c d : Int) (l : List S42) : Int := match scanL l 0 0 with
  | .inl e => e
  | .inr (o, n) => behind a b c d l o n

theorem last_from (s : Int) (l : List S42) (hl : (l.length : Int) ≤ 2305843009213693952) : ∀ (d : Nat) (i : Int), 0 ≤ i → i ≤ l.length → (l.length : Int) - i = d → Ev (fun k => show_last.l0 k s l (l.length : Int) i) (lastB (l.drop i.toNat) s) := by
  intro d
  induction d with
  | zero =>
    intro i h0 h1 hd
    rw [List.drop_of_length_le (by omega)]
    refine Ev.step (f := fun _ => some true) (fun k => ?_) (Ev.now _)
    simp only [show_last.l0]
    rw [if_neg (by omega)]
  | succ d ih =>
    intro i h0 h1 hd
    obtain ⟨x, hx, hdr⟩ := drop_cons (l := l) h0 (by omega)
    rw [hdr]
    rw [lastB_cons]
    have hrd := rd42 hx
    by_cases c1 : x.f0 = 32
    · refine Ev.step (f := fun _ => some false) (fun k => ?_) ?_
      · simp only [show_last.l0]
        rw [if_pos (by omega), if_pos h0, if_pos (by omega), hrd, if_pos c1]
      · simp only [c1, beq_self_eq_true, Bool.not_true, Bool.false_and]
        exact Ev.now _
    · by_cases c2 : s = 32
      · refine Ev.step (f := fun _ => some false) (fun k => ?_) ?_
        · simp only [show_last.l0]
          rw [if_pos (by omega), if_pos h0, if_pos (by omega), hrd, if_neg c1, if_pos c2]
        · simp only [c2, beq_self_eq_true, Bool.not_true, Bool.false_and, Bool.and_false]
          exact Ev.now _
      · by_cases c3 : x.f0 = s
        · refine Ev.step (f := fun _ => some false) (fun k => ?_) ?_
          · simp only [show_last.l0]
            rw [if_pos (by omega), if_pos h0, if_pos (by omega), hrd, if_neg c1, if_neg c2, if_pos c3]
          · simp only [c3, beq_self_eq_true, Bool.not_true, Bool.false_and, Bool.and_false]
            exact Ev.now _
        · refine Ev.step (f := fun k => show_last.l0 k s l (l.length : Int) (i + 1)) (fun k => ?_) ?_
          · simp only [show_last.l0]
            rw [if_pos (by omega), if_pos h0, if_pos (by omega), hrd, if_neg c1, if_neg c2, if_neg c3, wrap_of (by omega) (by omega)]
          · rw [beq_eq_false_iff_ne.2 c1, beq_eq_false_iff_ne.2 c2, beq_eq_false_iff_ne.2 c3]
            simp only [Bool.not_false, Bool.true_and]
            exact ih (i + 1) (by omega) (by omega) (by omega)
theorem last_ev (s : Int) (l : List S42) (hl : (l.length : Int) ≤ 2305843009213693952) : Ev (fun k => show_last.f k l s) (lastB l s) := last_from s l hl l.length 0 (by omega) (by omega) (by omega)

/-- The second loop: the bare ones. -/
theorem bares_from (a b c d : Int) (l : List S42) (hl : (l.length : Int) ≤ 2305843009213693952) : ∀ (m : Nat) (i : Int), 0 ≤ i → i ≤ l.length → (l.length : Int) - i = m →
    Ev (fun k => show_Check.l1 k l (l.length : Int) i a b c d l) (if bares (l.drop i.toNat) = true then 0 else 15) := by
  intro m
  induction m with
  | zero =>
    intro i h0 h1 hd
    rw [List.drop_of_length_le (by omega)]
    refine Ev.step (f := fun _ => some 0) (fun k => ?_) (Ev.now _)
    simp only [show_Check.l1]
    rw [if_neg (by omega)]
  | succ m ih =>
    intro i h0 h1 hd
    obtain ⟨x, hx, hdr⟩ := drop_cons (l := l) h0 (by omega)
    rw [hdr]
    have hrd := rd42 hx
    have hi := ih (i + 1) (by omega) (by omega) (by omega)
    have hw : wrap64 (i + 1) = i + 1 := wrap_of (by omega) (by omega)
    by_cases c1 : x.f2 = true
    · refine Ev.step (f := fun k => (show_last.f k (l.drop (i + 1).toNat) x.f0).bind fun t => if t = true then show_Check.l1 k l (l.length : Int) (i + 1) a b c d l else some 15) (fun k => ?_) ?_
      · simp only [show_Check.l1]
        rw [if_pos (by omega), if_pos h0, if_pos (by omega), hrd, if_pos c1, hw, if_pos (by omega), if_pos (by omega)]
      · refine Ev.bind (last_ev x.f0 _ (by rw [List.length_drop]; omega)) ?_
        simp only [bares, c1, Bool.not_true, Bool.false_or]
        cases hb : lastB (l.drop (i + 1).toNat) x.f0 with
        | true =>
          simp only [Bool.true_and, if_true]
          exact hi
        | false => exact Ev.now _
    · refine Ev.step (f := fun k => show_Check.l1 k l (l.length : Int) (i + 1) a b c d l) (fun k => ?_) ?_
      · simp only [show_Check.l1]
        rw [if_pos (by omega), if_pos h0, if_pos (by omega), hrd, if_neg c1, hw]
      · have c2 : x.f2 = false := by simpa using c1
        simp only [bares, c2, Bool.not_false, Bool.true_or, Bool.true_and]
        exact hi

theorem scan_bounds : ∀ (l : List S42) (o n o' n' : Int), scanL l o n = .inr (o', n') → o ≤ o' ∧ n ≤ n' ∧ o' ≤ o + l.length ∧ n' ≤ n + l.length ∧ o + n + l.length ≤ o' + n' ∧ ∀ x ∈ l, x.f0 = 32 ∨ x.f0 = 43 ∨ x.f0 = 45
  | [], o, n, o', n', h => by
    injection h with h
    injection h with h1 h2
    subst h1
    subst h2
    simp
  | x :: t, o, n, o', n', h => by
    unfold scanL at h
    simp only [List.length_cons]
    split at h
    · cases h
    · split at h
      · rename_i hx
        obtain ⟨h1, h2, h3, h4, h5, h6⟩ := scan_bounds t _ _ _ _ h
        exact ⟨by omega, by omega, by omega, by omega, by omega, fun y hy => (List.mem_cons.1 hy).elim (fun e => by rw [e]; exact .inl hx) (h6 y)⟩
      · split at h
        · rename_i hx
          obtain ⟨h1, h2, h3, h4, h5, h6⟩ := scan_bounds t _ _ _ _ h
          exact ⟨by omega, by omega, by omega, by omega, by omega, fun y hy => (List.mem_cons.1 hy).elim (fun e => by rw [e]; exact .inr (.inl hx)) (h6 y)⟩
        · split at h
          · rename_i hx
            obtain ⟨h1, h2, h3, h4, h5, h6⟩ := scan_bounds t _ _ _ _ h
            exact ⟨by omega, by omega, by omega, by omega, by omega, fun y hy => (List.mem_cons.1 hy).elim (fun e => by rw [e]; exact .inr (.inr hx)) (h6 y)⟩
          · cases h
def told (a b c d : Int) (l : List S42) : Int ⊕ (Int × Int) → Int
  | .inl e => e
  | .inr (o, n) => behind a b c d l o n
theorem join1 (a b c d : Int) (l : List S42) (hl : (l.length : Int) ≤ 2305843009213693952) (o n : Int) (ho : 0 ≤ o ∧ o ≤ l.length) (hn : 0 ≤ n ∧ n ≤ l.length) (bad : Bool) (hb : bad = true ↔ (a < 0 ∨ c < 0 ∨ a > 65536 ∨ c > 65536)) :
    Ev (fun k => show_Check.j1 k o n bad a b c d l) (behind a b c d l o n) := by
  unfold behind
  cases bad with
  | true =>
    rw [if_pos (hb.1 rfl)]
    exact Ev.step (f := fun _ => some 2) (fun k => by simp only [show_Check.j1, if_true]) (Ev.now _)
  | false =>
    have hn' : ¬ (a < 0 ∨ c < 0 ∨ a > 65536 ∨ c > 65536) := fun h => by cases hb.2 h
    rw [if_neg hn']
    by_cases h1 : o = b
    · by_cases h2 : n = d
      · by_cases h3 : o + n = 0
        · rw [if_neg (fun h => h.2.2 h3)]
          refine Ev.step (f := fun _ => some 13) (fun k => ?_) (Ev.now _)
          simp only [show_Check.j1]
          rw [if_neg (by simp), if_pos h1, if_pos h2, wrap_of (by omega) (by omega), if_pos h3]
        · rw [if_pos ⟨h1, h2, h3⟩]
          refine Ev.step (f := fun k => show_Check.l1 k l (l.length : Int) 0 a b c d l) (fun k => ?_) (bares_from a b c d l hl l.length 0 (by omega) (by omega) (by omega))
          simp only [show_Check.j1]
          rw [if_neg (by simp), if_pos h1, if_pos h2, wrap_of (by omega) (by omega), if_neg h3]
      · rw [if_neg (fun h => h2 h.2.1)]
        refine Ev.step (f := fun _ => some 13) (fun k => ?_) (Ev.now _)
        simp only [show_Check.j1]
        rw [if_neg (by simp), if_pos h1, if_neg h2]
    · rw [if_neg (fun h => h1 h.1)]
      refine Ev.step (f := fun _ => some 13) (fun k => ?_) (Ev.now _)
      simp only [show_Check.j1]
      rw [if_neg (by simp), if_neg h1]
theorem check_from (a b c d : Int) (l : List S42) (hl : (l.length : Int) ≤ 2305843009213693952) : ∀ (m : Nat) (i o n : Int), 0 ≤ i → i ≤ l.length → (l.length : Int) - i = m → (0 ≤ o ∧ o ≤ i) → (0 ≤ n ∧ n ≤ i) →
    Ev (fun k => show_Check.l0 k o n l (l.length : Int) i a b c d l) (told a b c d l (scanL (l.drop i.toNat) o n)) := by
  intro m
  induction m with
  | zero =>
    intro i o n h0 h1 hd ho hn
    rw [List.drop_of_length_le (by omega)]
    show Ev _ (behind a b c d l o n)
    by_cases c1 : a < 0
    · refine Ev.step (f := fun k => show_Check.j1 k o n true a b c d l) (fun k => ?_) (join1 a b c d l hl o n (by omega) (by omega) true (by simp [c1]))
      simp only [show_Check.l0]
      rw [if_neg (by omega), if_pos c1]
    · by_cases c2 : c < 0
      · refine Ev.step (f := fun k => show_Check.j1 k o n true a b c d l) (fun k => ?_) (join1 a b c d l hl o n (by omega) (by omega) true (by simp [c2]))
        simp only [show_Check.l0]
        rw [if_neg (by omega), if_neg c1, if_pos c2]
      · by_cases c3 : a > 65536
        · refine Ev.step (f := fun k => show_Check.j1 k o n true a b c d l) (fun k => ?_) (join1 a b c d l hl o n (by omega) (by omega) true (by simp [c3]))
          simp only [show_Check.l0]
          rw [if_neg (by omega), if_neg c1, if_neg c2, if_pos c3]
        · refine Ev.step (f := fun k => show_Check.j1 k o n (decide (c > 65536)) a b c d l) (fun k => ?_) (join1 a b c d l hl o n (by omega) (by omega) _ (by simp; omega))
          simp only [show_Check.l0]
          rw [if_neg (by omega), if_neg c1, if_neg c2, if_neg c3]
  | succ m ih =>
    intro i o n h0 h1 hd ho hn
    obtain ⟨x, hx, hdr⟩ := drop_cons (l := l) h0 (by omega)
    rw [hdr]
    have hrd := rd42 hx
    have hw : wrap64 (i + 1) = i + 1 := wrap_of (by omega) (by omega)
    have hwo : wrap64 (o + 1) = o + 1 := wrap_of (by omega) (by omega)
    have hwn : wrap64 (n + 1) = n + 1 := wrap_of (by omega) (by omega)
    unfold scanL
    by_cases c0 : hasB x.f1 10 = true
    · rw [if_pos c0]
      refine Ev.step (f := fun _ => some 14) (fun k => ?_) (Ev.now _)
      simp only [show_Check.l0, strings_IndexByte.f, Option.bind_some]
      rw [if_pos (by omega), if_pos h0, if_pos (by omega), hrd, if_pos ((index_has _).2 c0)]
    · rw [if_neg c0]
      have c0' : ¬ Lib.indexByte x.f1.data.toList (10 : Int).toNat.toUInt8 ≥ 0 := fun h => c0 ((index_has _).1 h)
      by_cases c1 : x.f0 = 32
      · rw [if_pos c1]
        refine Ev.step (f := fun k => show_Check.l0 k (o + 1) (n + 1) l (l.length : Int) (i + 1) a b c d l) (fun k => ?_) (ih (i + 1) (o + 1) (n + 1) (by omega) (by omega) (by omega) (by omega) (by omega))
        simp only [show_Check.l0, strings_IndexByte.f, Option.bind_some]
        rw [if_pos (by omega), if_pos h0, if_pos (by omega), hrd, if_neg c0', if_pos c1, hw, hwo, hwn]
      · rw [if_neg c1]
        by_cases c2 : x.f0 = 43
        · rw [if_pos c2]
          refine Ev.step (f := fun k => show_Check.l0 k o (n + 1) l (l.length : Int) (i + 1) a b c d l) (fun k => ?_) (ih (i + 1) o (n + 1) (by omega) (by omega) (by omega) (by omega) (by omega))
          simp only [show_Check.l0, strings_IndexByte.f, Option.bind_some]
          rw [if_pos (by omega), if_pos h0, if_pos (by omega), hrd, if_neg c0', if_neg c1, if_pos c2, hw, hwn]
        · rw [if_neg c2]
          by_cases c3 : x.f0 = 45
          · rw [if_pos c3]
            refine Ev.step (f := fun k => show_Check.l0 k (o + 1) n l (l.length : Int) (i + 1) a b c d l) (fun k => ?_) (ih (i + 1) (o + 1) n (by omega) (by omega) (by omega) (by omega) (by omega))
            simp only [show_Check.l0, strings_IndexByte.f, Option.bind_some]
            rw [if_pos (by omega), if_pos h0, if_pos (by omega), hrd, if_neg c0', if_neg c1, if_neg c2, if_pos c3, hw, hwo]
          · rw [if_neg c3]
            refine Ev.step (f := fun _ => some 7) (fun k => ?_) (Ev.now _)
            simp only [show_Check.l0, strings_IndexByte.f, Option.bind_some]
            rw [if_pos (by omega), if_pos h0, if_pos (by omega), hrd, if_neg c0', if_neg c1, if_neg c2, if_neg c3]
theorem check_ev (a b c d : Int) (l : List S42) (hl : (l.length : Int) ≤ 2305843009213693952) : Ev (fun k => show_Check.f k a b c d l) (checkSpec a b c d l) := by
  have h := check_from a b c d l hl l.length 0 0 0 (by omega) (by omega) (by omega) (by omega) (by omega)
  have e : told a b c d l (scanL (l.drop (0 : Int).toNat) 0 0) = checkSpec a b c d l := by
    unfold checkSpec
    show told a b c d l (scanL l 0 0) = _
    cases scanL l 0 0 with
    | inl e => rfl
    | inr p => rfl
  rw [e] at h
  exact h


theorem bext {a b : ByteArray} (h : a.data.toList = b.data.toList) : a = b := by
  cases a
  cases b
  simp at h
  rw [h]
theorem cat (a b : ByteArray) : (a ++ b).data.toList = a.data.toList ++ b.data.toList := by simp
theorem cat_size (a b : ByteArray) : (a ++ b).size = a.size + b.size := by simp
/-- A number's text. -/
def dec (n : Int) : ByteArray := ⟨(Lib.itoa n).toArray⟩
theorem dec_size (n : Int) (h0 : -9223372036854775808 ≤ n) (h1 : n ≤ 9223372036854775807) : (dec n).size ≤ 21 := by
  have := Lib.itoa_length_le n h0 h1
  unfold dec
  show (Lib.itoa n).toArray.size ≤ 21
  simpa using this
theorem itoa_ev (n : Int) (h0 : -9223372036854775808 ≤ n) (h1 : n ≤ 9223372036854775807) : strconv_Itoa.f n = some (dec n) := by
  unfold strconv_Itoa.f
  rw [if_pos ⟨h0, h1⟩]
  rfl
/-- One side of a hunk's first line. -/
def sideT (a b : Int) : List UInt8 := (dec (if b > 0 then a + 1 else a)).data.toList ++ 44 :: (dec b).data.toList
def headT (a b c d : Int) : List UInt8 := [64, 64, 32, 45] ++ sideT a b ++ [32, 43] ++ sideT c d ++ [32, 64, 64, 10]
theorem side_len (a b : Int) (ha : 0 ≤ a ∧ a ≤ 9223372036854775000) (hb : 0 ≤ b ∧ b ≤ 9223372036854775000) : (sideT a b).length ≤ 43 := by
  unfold sideT
  have h1 := dec_size (if b > 0 then a + 1 else a) (by split <;> omega) (by split <;> omega)
  have h2 := dec_size b (by omega) (by omega)
  rw [List.length_append, List.length_cons, list_size, list_size]
  omega
theorem side_ev (s : ByteArray) (hs : s.size ≤ 1000) (a b : Int) (ha : 0 ≤ a ∧ a ≤ 9223372036854775000) (hb : 0 ≤ b ∧ b ≤ 9223372036854775000) : ∃ r, show_side.f s a b = some r ∧ r.data.toList = s.data.toList ++ sideT a b := by
  have hc : (⟨#[44]⟩ : ByteArray).size = 1 := rfl
  have h2 := dec_size b (by omega) (by omega)
  unfold show_side.f sideT
  by_cases hp : b > 0
  · have h1 := dec_size (a + 1) (by omega) (by omega)
    rw [if_pos hp, if_pos hp, wrap_of (by omega) (by omega), itoa_ev _ (by omega) (by omega), Option.bind_some, if_pos (by omega), if_pos (by rw [cat_size]; omega), itoa_ev _ (by omega) (by omega), Option.bind_some, if_pos (by rw [cat_size, cat_size]; omega)]
    exact ⟨_, rfl, by simp only [cat, List.append_assoc]; rfl⟩
  · have h1 := dec_size a (by omega) (by omega)
    rw [if_neg hp, if_neg hp, itoa_ev _ (by omega) (by omega), Option.bind_some, if_pos (by omega), if_pos (by rw [cat_size]; omega), itoa_ev _ (by omega) (by omega), Option.bind_some, if_pos (by rw [cat_size, cat_size]; omega)]
    exact ⟨_, rfl, by simp only [cat, List.append_assoc]; rfl⟩
theorem head_ev (a b c d : Int) (l : List S42) (ha : 0 ≤ a ∧ a ≤ 9223372036854775000) (hb : 0 ≤ b ∧ b ≤ 9223372036854775000) (hc : 0 ≤ c ∧ c ≤ 9223372036854775000) (hd : 0 ≤ d ∧ d ≤ 9223372036854775000) :
    ∃ r, show_Head.f a b c d l = some r ∧ r.data.toList = headT a b c d := by
  obtain ⟨r1, e1, d1⟩ := side_ev ⟨#[45]⟩ (by decide) a b ha hb
  obtain ⟨r2, e2, d2⟩ := side_ev ⟨#[43]⟩ (by decide) c d hc hd
  have l1 : r1.size ≤ 44 := by
    rw [← list_size, d1, List.length_append]
    have := side_len a b ha hb
    have h : (⟨#[45]⟩ : ByteArray).data.toList.length = 1 := rfl
    omega
  have l2 : r2.size ≤ 44 := by
    rw [← list_size, d2, List.length_append]
    have := side_len c d hc hd
    have h : (⟨#[43]⟩ : ByteArray).data.toList.length = 1 := rfl
    omega
  have h3 : (⟨#[64, 64, 32]⟩ : ByteArray).size = 3 := rfl
  have h4 : (⟨#[32]⟩ : ByteArray).size = 1 := rfl
  unfold show_Head.f
  rw [e1, Option.bind_some, if_pos (by omega), if_pos (by rw [cat_size]; omega), e2, Option.bind_some, if_pos (by rw [cat_size, cat_size]; omega), if_pos (by rw [cat_size, cat_size, cat_size]; omega)]
  refine ⟨_, rfl, ?_⟩
  simp only [cat, d1, d2, headT, List.append_assoc]
  rfl

/-- What a line weighs at most in a diff. -/
def wt (x : S42) : Nat := x.f1.size + 30
def wl (l : List S42) : Nat := (l.map wt).sum
def bareT : List UInt8 := [92, 32, 78, 111, 32, 110, 101, 119, 108, 105, 110, 101, 32, 97, 116, 32, 101, 110, 100, 32, 111, 102, 32, 102, 105, 108, 101, 10]
theorem line_len (x : S42) : (show_Print.line x).length ≤ wt x := by
  unfold show_Print.line wt
  simp only [List.length_cons, List.length_append, list_size]
  split <;> simp <;> omega
theorem lines_ev : ∀ (l : List S42) (acc : List UInt8), acc.length + wl l ≤ 140737488355328 → show_Print.lines l acc = some (acc ++ l.flatMap show_Print.line)
  | [], acc, _ => by simp [show_Print.lines]
  | x :: t, acc, h => by
    have h1 := line_len x
    have h2 : wl (x :: t) = wt x + wl t := by simp [wl]
    unfold show_Print.lines
    rw [if_pos (by rw [List.length_append]; omega), lines_ev t _ (by rw [List.length_append]; omega), List.flatMap_cons, List.append_assoc]
/-- A hunk is fit to be printed: what the two prints need of it. -/
def fit (h : S26) : Prop := h.f4.length ≤ 1000000 ∧ ∀ x ∈ h.f4, x.f1.size ≤ 1073741824
def wh (h : S26) : Nat := wl h.f4 + 200
theorem head_len (a b c d : Int) (ha : 0 ≤ a ∧ a ≤ 9223372036854775000) (hb : 0 ≤ b ∧ b ≤ 9223372036854775000) (hc : 0 ≤ c ∧ c ≤ 9223372036854775000) (hd : 0 ≤ d ∧ d ≤ 9223372036854775000) : (headT a b c d).length ≤ 200 := by
  have h1 := side_len a b ha hb
  have h2 := side_len c d hc hd
  unfold headT
  simp only [List.length_append, List.length_cons, List.length_nil]
  omega
theorem check_ok {a b c d : Int} {l : List S42} (hl : l.length ≤ 1000000) (h : checkSpec a b c d l = 0) : (0 ≤ a ∧ a ≤ 65536) ∧ (0 ≤ b ∧ b ≤ 1000000) ∧ (0 ≤ c ∧ c ≤ 65536) ∧ (0 ≤ d ∧ d ≤ 1000000) := by
  unfold checkSpec at h
  cases hs : scanL l 0 0 with
  | inl e =>
    rw [hs] at h
    simp only at h
    subst h
    exfalso
    have : ∀ (l : List S42) (o n : Int), scanL l o n ≠ .inl 0 := by
      intro l
      induction l with
      | nil => intro o n h; cases h
      | cons x t ih =>
        intro o n h
        unfold scanL at h
        split at h
        · cases h
        · split at h
          · exact ih _ _ h
          · split at h
            · exact ih _ _ h
            · split at h
              · exact ih _ _ h
              · cases h
    exact this _ _ _ hs
  | inr p =>
    obtain ⟨o, n⟩ := p
    rw [hs] at h
    obtain ⟨h1, h2, h3, h4, h5, _⟩ := scan_bounds l 0 0 o n hs
    simp only [behind] at h
    split at h
    · cases h
    · split at h
      · rename_i q1 q2
        omega
      · cases h
end Go.Proofs.YthkcghiagnddiaaDoor.Pure
