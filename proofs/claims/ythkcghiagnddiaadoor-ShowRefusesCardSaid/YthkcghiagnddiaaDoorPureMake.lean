import Derived.Test.YthkcghiagnddiaaDoorXc
import Derived.Test.YthkcghiagnddiaaDoorPureCore
namespace Go.Proofs.YthkcghiagnddiaaDoor.Pure
open Go Go.RowKit X Go.Proofs.YthkcghiagnddiaaDoorW.PrintWords Go.Proofs.YthkcghiagnddiaaDoorW.PrintLast
set_option linter.unusedVariables false
set_option linter.unusedSimpArgs false
theorem tl_inj {x y : ByteArray} (h : x.toList = y.toList) : x = y := by
  rw [ByteArray.toList_eq, ByteArray.toList_eq] at h
  exact bext h
/-- What differs between two lists of lines, from places on. -/
inductive Scr (A B : List ByteArray) : Nat → Nat → List S78 → Prop
  | done {i k : Nat} (h : A.drop i = B.drop k) : Scr A B i k []
  | step {i k : Nat} {c : S78} {L : List S78} (m o n : Nat) (h0 : c.f0 = (i + m : Nat)) (h1 : c.f1 = (o : Nat)) (h2 : c.f2 = (k + m : Nat)) (h3 : c.f3 = (n : Nat)) (hm : (A.drop i).take m = (B.drop k).take m)
    (ho : i + m + o ≤ A.length) (hn : k + m + n ≤ B.length) (hp : 0 < o + n) (ht : Scr A B (i + m + o) (k + m + n) L) : Scr A B i k (c :: L)
theorem take_more {α : Type} {A B : List α} {i k m o n : Nat} {x : α} {xs ys : List α} (hm : (A.drop i).take m = (B.drop k).take m) (hA : A.drop (i + m) = x :: xs) (hB : B.drop (k + m) = x :: ys) : (A.drop i).take (m + 1) = (B.drop k).take (m + 1) := by
  have e : ∀ (C : List α) (j : Nat) (zs : List α), C.drop (j + m) = x :: zs → (C.drop j).take (m + 1) = (C.drop j).take m ++ [x] := by
    intro C j zs h
    have h' : (C.drop j).drop m = x :: zs := by rw [List.drop_drop]; exact h
    have hl : m < (C.drop j).length := by
      rcases Nat.lt_or_ge m (C.drop j).length with h1 | h1
      · exact h1
      · rw [List.drop_of_length_le h1] at h'
        cases h'
    rw [List.take_succ_eq_append_getElem hl]
    rw [List.drop_eq_getElem_cons hl] at h'
    injection h' with h1 _
    rw [h1]
  rw [e A i xs hA, e B k ys hB, hm]
theorem drop_step {α : Type} {A : List α} {j : Nat} {x : α} {xs : List α} (h : A.drop j = x :: xs) : A.drop (j + 1) = xs ∧ j + 1 ≤ A.length := by
  have hl : j < A.length := by
    rcases Nat.lt_or_ge j A.length with h1 | h1
    · exact h1
    · rw [List.drop_of_length_le h1] at h
      cases h
  rw [List.drop_eq_getElem_cons hl] at h
  injection h with _ h2
  exact ⟨h2, hl⟩
theorem drop_same {α : Type} {A B : List α} {i k m : Nat} (hm : (A.drop i).take m = (B.drop k).take m) (h : A.drop (i + m) = B.drop (k + m)) : A.drop i = B.drop k := by
  rw [← List.take_append_drop m (A.drop i), ← List.take_append_drop m (B.drop k), hm, List.drop_drop, List.drop_drop, h]
theorem go_scr (A B T : List ByteArray) : ∀ (N : Nat) (xs ys : List ByteArray), xs.length + ys.length = N → ∀ (o n : Nat) (c : S78) (out : List S78) (c1 c3 : Nat), A.drop o = xs ++ T → B.drop n = ys ++ T → o ≤ A.length → n ≤ B.length → c.f1 = (c1 : Nat) → c.f3 = (c3 : Nat) → c.f0 + c1 = o → c.f2 + c3 = n →
    ∃ rest, chg.go xs ys o n c out = out ++ rest ∧ ∀ i k m : Nat, c.f0 = (i + m : Nat) → c.f2 = (k + m : Nat) → (A.drop i).take m = (B.drop k).take m → Scr A B i k rest := by
  intro N
  induction N using Nat.strongRecOn with
  | ind N ih =>
    intro xs ys hN o n c out c1 c3 hA hB lA lB e1 e3 e0 e2
    match xs, ys with
    | [], [] =>
      rw [chg.go, chg.flush]
      by_cases hc : 0 < c.f1 + c.f3
      · rw [if_pos hc]
        refine ⟨[c], rfl, fun i k m hi hk hm => .step m c1 c3 hi e1 hk e3 hm (by omega) (by omega) (by omega) (.done ?_)⟩
        rw [show i + m + c1 = o by omega, show k + m + c3 = n by omega, hA, hB]
      · rw [if_neg hc]
        refine ⟨[], by simp, fun i k m hi hk hm => .done (drop_same hm ?_)⟩
        rw [show i + m = o by omega, show k + m = n by omega, hA, hB]
    | x :: xs, [] =>
      rw [chg.go]
      obtain ⟨h1, h2⟩ := drop_step (xs := xs ++ T) hA
      obtain ⟨rest, hr, hs⟩ := ih (xs.length + 0) (by simp at hN ⊢; omega) xs [] (by simp) (o + 1) n ⟨c.f0, c.f1 + 1, c.f2, c.f3⟩ out (c1 + 1) c3 h1 hB h2 lB (by simp [e1]) e3 (by simp; omega) e2
      exact ⟨rest, by simpa using hr, hs⟩
    | [], y :: ys =>
      rw [chg.go]
      obtain ⟨h1, h2⟩ := drop_step (xs := ys ++ T) hB
      obtain ⟨rest, hr, hs⟩ := ih (0 + ys.length) (by simp at hN ⊢; omega) [] ys (by simp) o (n + 1) ⟨c.f0, c.f1, c.f2, c.f3 + 1⟩ out c1 (c3 + 1) hA h1 lA h2 e1 (by simp [e3]) e0 (by simp; omega)
      exact ⟨rest, by simpa using hr, hs⟩
    | x :: xs, y :: ys =>
      obtain ⟨h1, h2⟩ := drop_step (xs := xs ++ T) hA
      obtain ⟨h3, h4⟩ := drop_step (xs := ys ++ T) hB
      simp only [List.length_cons] at hN
      rw [chg.go]
      by_cases hxy : x.toList = y.toList
      · obtain rfl := tl_inj hxy
        rw [if_pos rfl]
        obtain ⟨rest, hr, hs⟩ := ih (xs.length + ys.length) (by omega) xs ys rfl (o + 1) (n + 1) ⟨(o : Int) + 1, 0, (n : Int) + 1, 0⟩ (chg.flush c out) 0 0 h1 h3 h2 h4 rfl rfl (by simp) (by simp)
        have hr' : chg.go xs ys ((o : Int) + 1) ((n : Int) + 1) ⟨(o : Int) + 1, 0, (n : Int) + 1, 0⟩ (chg.flush c out) = chg.flush c out ++ rest := by simpa using hr
        rw [hr', chg.flush]
        by_cases hc : 0 < c.f1 + c.f3
        · rw [if_pos hc]
          refine ⟨c :: rest, by simp, fun i k m hi hk hm => .step m c1 c3 hi e1 hk e3 hm (by omega) (by omega) (by omega) ?_⟩
          rw [show i + m + c1 = o by omega, show k + m + c3 = n by omega]
          refine hs o n 1 (by simp) (by simp) ?_
          rw [hA, hB]
          simp
        · rw [if_neg hc]
          refine ⟨rest, rfl, fun i k m hi hk hm => hs i k (m + 1) (by simp; omega) (by simp; omega) ?_⟩
          have ho : o = i + m := by omega
          have hn : n = k + m := by omega
          subst ho hn
          exact take_more (o := 0) (n := 0) hm hA hB
      · rw [if_neg hxy]
        by_cases hl : lcs (x :: xs) ys ≤ lcs xs (y :: ys)
        · rw [if_pos hl]
          obtain ⟨rest, hr, hs⟩ := ih (xs.length + (y :: ys).length) (by simp; omega) xs (y :: ys) rfl (o + 1) n ⟨c.f0, c.f1 + 1, c.f2, c.f3⟩ out (c1 + 1) c3 h1 hB h2 lB (by simp [e1]) e3 (by simp; omega) e2
          exact ⟨rest, by simpa using hr, hs⟩
        · rw [if_neg hl]
          obtain ⟨rest, hr, hs⟩ := ih ((x :: xs).length + ys.length) (by simp; omega) (x :: xs) ys rfl o (n + 1) ⟨c.f0, c.f1, c.f2, c.f3 + 1⟩ out c1 (c3 + 1) hA h3 lA h4 e1 (by simp [e3]) e0 (by simp; omega)
          exact ⟨rest, by simpa using hr, hs⟩
theorem pre_take : ∀ (a b : List ByteArray), chg.pre a b ≤ a.length ∧ chg.pre a b ≤ b.length ∧ a.take (chg.pre a b) = b.take (chg.pre a b)
  | x :: xs, y :: ys => by
    have := pre_take xs ys
    simp only [chg.pre, List.length_cons]
    split
    · rename_i h
      obtain rfl := tl_inj h
      exact ⟨by omega, by omega, by simp [this.2.2]⟩
    · simp
  | [], _ => by simp [chg.pre]
  | _ :: _, [] => by simp [chg.pre]
theorem suf_drop (a b : List ByteArray) : chg.suf a b ≤ a.length ∧ chg.suf a b ≤ b.length ∧ a.drop (a.length - chg.suf a b) = b.drop (b.length - chg.suf a b) := by
  have h := pre_take a.reverse b.reverse
  rw [List.length_reverse, List.length_reverse] at h
  refine ⟨h.1, h.2.1, ?_⟩
  have h2 := congrArg List.reverse h.2.2
  rw [List.take_reverse, List.take_reverse] at h2
  simpa [chg.suf] using h2
theorem scr_of (A B : List ByteArray) : Scr A B 0 0 (chg.f A B) := by
  obtain ⟨p1, p2, p3⟩ := pre_take A B
  unfold chg.f
  simp only
  generalize hp : chg.pre A B = p at *
  obtain ⟨s1, s2, s3⟩ := suf_drop (A.drop p) (B.drop p)
  generalize hs : chg.suf (A.drop p) (B.drop p) = s at *
  rw [List.length_drop] at s1 s2
  rw [List.length_drop, List.length_drop] at s3
  have hA : A.drop p = (A.drop p).take (A.length - p - s) ++ (A.drop p).drop (A.length - p - s) := (List.take_append_drop _ _).symm
  have hB : B.drop p = (B.drop p).take (B.length - p - s) ++ (A.drop p).drop (A.length - p - s) := by rw [s3]; exact (List.take_append_drop _ _).symm
  split
  · simp only [List.length_take, List.length_drop]
    refine .step p (A.length - p - s) (B.length - p - s) (by simp) (by show ((_ : Nat) : Int) = _; congr 1; omega) (by simp) (by show ((_ : Nat) : Int) = _; congr 1; omega) (by simpa using p3) (by omega) (by omega) ?_ (.done ?_)
    · rename_i h
      simp only [List.length_take, List.length_drop] at h
      omega
    · rw [List.drop_drop, List.drop_drop] at s3
      simpa using s3
  · obtain ⟨rest, hr, hs⟩ := go_scr A B ((A.drop p).drop (A.length - p - s)) _ _ _ rfl p p ⟨p, 0, p, 0⟩ [] 0 0 hA hB p1 p2 rfl rfl (by simp) (by simp)
    rw [hr]
    exact hs 0 0 p (by simp) (by simp) (by simpa using p3)

/-- Lines with their signs: the old ones, the new ones. -/
def olds (ls : List (Int × ByteArray)) : List ByteArray := (ls.filter fun x => x.1 != 43).map (·.2)
def news (ls : List (Int × ByteArray)) : List ByteArray := (ls.filter fun x => x.1 != 45).map (·.2)
theorem olds_app (a b : List (Int × ByteArray)) : olds (a ++ b) = olds a ++ olds b := by simp [olds]
theorem news_app (a b : List (Int × ByteArray)) : news (a ++ b) = news a ++ news b := by simp [news]
def signed (s : Int) (l : List ByteArray) : List (Int × ByteArray) := l.map fun x => (s, x)
theorem olds_signed (s : Int) (l : List ByteArray) : olds (signed s l) = if s = 43 then [] else l := by
  unfold olds signed
  by_cases h : s = 43
  · subst h
    rw [if_pos rfl, List.filter_eq_nil_iff.2]
    · rfl
    · simp
  · rw [if_neg h, List.filter_eq_self.2]
    · simp [Function.comp_def]
    · simp [h]
theorem news_signed (s : Int) (l : List ByteArray) : news (signed s l) = if s = 45 then [] else l := by
  unfold news signed
  by_cases h : s = 45
  · subst h
    rw [if_pos rfl, List.filter_eq_nil_iff.2]
    · rfl
    · simp
  · rw [if_neg h, List.filter_eq_self.2]
    · simp [Function.comp_def]
    · simp [h]
/-- A stretch of lines. -/
def cut (l : List ByteArray) (i j : Nat) : List ByteArray := (l.drop i).take (j - i)
theorem cut_app (l : List ByteArray) {i j k : Nat} (h1 : i ≤ j) (h2 : j ≤ k) : cut l i j ++ cut l j k = cut l i k := by
  unfold cut
  have h := List.take_append_drop (j - i) ((l.drop i).take (k - i))
  rw [List.take_take, List.drop_take, List.drop_drop, show min (j - i) (k - i) = j - i by omega, show i + (j - i) = j by omega, show k - i - (j - i) = k - j by omega] at h
  exact h
theorem cut_len (l : List ByteArray) {i j : Nat} (h1 : i ≤ j) (h2 : j ≤ l.length) : (cut l i j).length = j - i := by
  unfold cut
  rw [List.length_take, List.length_drop]
  omega
theorem cut_self (l : List ByteArray) (i : Nat) : cut l i i = [] := by simp [cut]
/-- The lines of changes, from a place on. -/
def lsOf (A B : List ByteArray) : Nat → List S78 → List (Int × ByteArray)
  | _, [] => []
  | i, c :: t => signed 32 (cut A i c.f0.toNat) ++ signed 45 (cut A c.f0.toNat (c.f0 + c.f1).toNat) ++ signed 43 (cut B c.f2.toNat (c.f2 + c.f3).toNat) ++ lsOf A B (c.f0 + c.f1).toNat t
def okSigns (ls : List (Int × ByteArray)) : Prop := ∀ x ∈ ls, x.1 = 32 ∨ x.1 = 45 ∨ x.1 = 43
theorem okSigns_app {a b : List (Int × ByteArray)} (h1 : okSigns a) (h2 : okSigns b) : okSigns (a ++ b) := fun x hx => (List.mem_append.1 hx).elim (h1 x) (h2 x)
theorem okSigns_signed {s : Int} (h : s = 32 ∨ s = 45 ∨ s = 43) (l : List ByteArray) : okSigns (signed s l) := by
  intro x hx
  obtain ⟨y, _, rfl⟩ := List.mem_map.1 hx
  exact h
theorem seg (A B : List ByteArray) (L' : List S78) : ∀ (G : List S78) (i k : Nat), i ≤ A.length → k ≤ B.length → Scr A B i k (G ++ L') → ∃ i' k' : Nat, i ≤ i' ∧ k ≤ k' ∧ i' ≤ A.length ∧ k' ≤ B.length ∧ Scr A B i' k' L' ∧
    (∀ c, G.getLast? = some c → (i' : Int) = c.f0 + c.f1) ∧ olds (lsOf A B i G) = cut A i i' ∧ news (lsOf A B i G) = cut B k k' ∧ okSigns (lsOf A B i G) ∧ (G ≠ [] → 0 < (i' - i) + (k' - k))
  | [], i, k, hi, hk, h => ⟨i, k, Nat.le_refl _, Nat.le_refl _, hi, hk, h, by simp, by simp [lsOf, olds, cut_self], by simp [lsOf, news, cut_self], by simp [lsOf, okSigns], by simp⟩
  | c :: G, i, k, hi, hk, h => by
    cases h with
    | step m o n h0 h1 h2 h3 hm ho hn hp ht =>
      obtain ⟨i', k', a1, a2, a3, a4, a5, a6, a7, a8, a9, a10⟩ := seg A B L' G _ _ ho hn ht
      have e0 : c.f0.toNat = i + m := by omega
      have e1 : (c.f0 + c.f1).toNat = i + m + o := by omega
      have e2 : c.f2.toNat = k + m := by omega
      have e3 : (c.f2 + c.f3).toNat = k + m + n := by omega
      have hc : cut A i (i + m) = cut B k (k + m) := by simpa [cut] using hm
      refine ⟨i', k', by omega, by omega, a3, a4, a5, ?_, ?_, ?_, ?_, fun _ => by omega⟩
      · intro d hd
        cases G with
        | nil =>
          simp at hd
          subst hd
          have := a7
          simp only [lsOf, olds, List.filter_nil, List.map_nil] at this
          have hl := congrArg List.length this
          rw [cut_len A a1 a3] at hl
          simp at hl
          omega
        | cons d' G' => exact a6 d (by simpa using hd)
      · rw [lsOf, e0, e1, e2, e3, olds_app, olds_app, olds_app, olds_signed, olds_signed, olds_signed, a7]
        simp only [if_pos, if_neg, show ¬ (32 : Int) = 43 by omega, show ¬ (45 : Int) = 43 by omega, if_false, if_true, List.append_nil]
        rw [cut_app A (by omega) (by omega), cut_app A (by omega) (by omega)]
      · rw [lsOf, e0, e1, e2, e3, news_app, news_app, news_app, news_signed, news_signed, news_signed, a8]
        simp only [show ¬ (32 : Int) = 45 by omega, show ¬ (43 : Int) = 45 by omega, if_false, if_true, List.append_nil]
        rw [hc, cut_app B (by omega) (by omega), cut_app B (by omega) (by omega)]
      · rw [lsOf]
        exact okSigns_app (okSigns_app (okSigns_app (okSigns_signed (.inl rfl) _) (okSigns_signed (.inr (.inl rfl)) _)) (okSigns_signed (.inr (.inr rfl)) _)) (by rw [e1]; exact a9)
theorem cut_sub {A B : List ByteArray} {i k m r : Nat} (h : (A.drop i).take m = (B.drop k).take m) (hr : r ≤ m) : (A.drop i).take r = (B.drop k).take r := by
  have := congrArg (List.take r) h
  rwa [List.take_take, List.take_take, show min r m = r by omega] at this
theorem cut_sub2 {A B : List ByteArray} {i k m r : Nat} (h : (A.drop i).take m = (B.drop k).take m) (hr : r ≤ m) : (A.drop (i + r)).take (m - r) = (B.drop (k + r)).take (m - r) := by
  have := congrArg (List.drop r) h
  rwa [List.drop_take, List.drop_take, List.drop_drop, List.drop_drop] at this
/-- A hunk of two lists of lines: from where on, its lines. -/
structure HOK (A B : List ByteArray) (p q : Nat) (h0 h1 h2 h3 : Int) (ls : List (Int × ByteArray)) : Prop where
  f0 : h0 = p
  f1 : h1 = ((olds ls).length : Nat)
  f2 : h2 = q
  f3 : h3 = ((news ls).length : Nat)
  so : cut A p (p + (olds ls).length) = olds ls
  sn : cut B q (q + (news ls).length) = news ls
  lo : p + (olds ls).length ≤ A.length
  ln : q + (news ls).length ≤ B.length
  sg : okSigns ls
  ne : 0 < (olds ls).length + (news ls).length
theorem hunk_step (A B : List ByteArray) (ctx : Nat) (c : S78) (G L' : List S78) (i k : Nat) (hi : i ≤ A.length) (hk : k ≤ B.length) (h : Scr A B i k (c :: G ++ L')) (hf : (i = 0 ∧ k = 0) ∨ ((ctx : Int) + i ≤ c.f0))
    (hg : ∀ d L'', L' = d :: L'' → ∀ e, (c :: G).getLast? = some e → 2 * (ctx : Int) < d.f0 - (e.f0 + e.f1)) :
    ∃ p q i' t : Nat, (p : Int) = c.f0 - min (ctx : Int) c.f0 ∧ (q : Int) = c.f2 - min (ctx : Int) c.f0 ∧ (∃ m, p = i + m ∧ q = k + m ∧ (A.drop i).take m = (B.drop k).take m) ∧ (∀ e, (c :: G).getLast? = some e → (i' : Int) = e.f0 + e.f1) ∧ t = min ctx (A.length - i') ∧ i' ≤ A.length ∧
      HOK A B p q p (olds (lsOf A B p (c :: G) ++ signed 32 (cut A i' (i' + t)))).length q (news (lsOf A B p (c :: G) ++ signed 32 (cut A i' (i' + t)))).length (lsOf A B p (c :: G) ++ signed 32 (cut A i' (i' + t))) ∧
      Scr A B (p + (olds (lsOf A B p (c :: G) ++ signed 32 (cut A i' (i' + t)))).length) (q + (news (lsOf A B p (c :: G) ++ signed 32 (cut A i' (i' + t)))).length) L' ∧
      ∀ d L'', L' = d :: L'' → (ctx : Int) + ((p + (olds (lsOf A B p (c :: G) ++ signed 32 (cut A i' (i' + t)))).length : Nat) : Int) ≤ d.f0 := by
  have h' := h
  cases h' with
  | step m o n h0 h1 h2 h3 hm ho hn hp ht =>
    -- the lead
    have hp1 : min (ctx : Int) c.f0 ≤ m := by omega
    obtain ⟨lead, hl⟩ : ∃ lead : Nat, min (ctx : Int) c.f0 = lead := ⟨(min (ctx : Int) c.f0).toNat, by omega⟩
    rw [hl] at hp1 ⊢
    have hle : lead ≤ m := by omega
    have hS : Scr A B (i + (m - lead)) (k + (m - lead)) (c :: G ++ L') := .step lead o n (by omega) h1 (by omega) h3 (by have := cut_sub2 hm (r := m - lead) (by omega); rwa [show m - (m - lead) = lead by omega] at this) (by omega) (by omega) hp (by
      rw [show i + (m - lead) + lead + o = i + m + o by omega, show k + (m - lead) + lead + n = k + m + n by omega]; exact ht)
    obtain ⟨i', k', a1, a2, a3, a4, a5, a6, a7, a8, a9, a10⟩ := seg A B L' (c :: G) _ _ (by omega) (by omega) hS
    have a10 := a10 (by simp)
    -- the trail
    obtain ⟨t, ht0⟩ : ∃ t, t = min ctx (A.length - i') := ⟨_, rfl⟩
    have hT : cut A i' (i' + t) = cut B k' (k' + t) ∧ k' + t ≤ B.length ∧ Scr A B (i' + t) (k' + t) L' ∧ ∀ d L'', L' = d :: L'' → (ctx : Int) + ((i' + t : Nat) : Int) ≤ d.f0 := by
      cases a5 with
      | done hd =>
        have hlen := congrArg List.length hd
        rw [List.length_drop, List.length_drop] at hlen
        refine ⟨by simp [cut, hd], by omega, .done ?_, by simp⟩
        rw [← List.drop_drop, ← List.drop_drop, hd]
      | step m2 o2 n2 g0 g1 g2 g3 gm go gn gp gt =>
        rename_i d L2
        obtain ⟨e, he⟩ : ∃ e, (c :: G).getLast? = some e := ⟨_, List.getLast?_eq_some_getLast (by simp)⟩
        have hgap := hg d L2 rfl e he
        rw [← a6 e he] at hgap
        have htm : t ≤ m2 := by omega
        refine ⟨?_, by omega, .step (m2 - t) o2 n2 (by omega) g1 (by omega) g3 (cut_sub2 gm htm) (by omega) (by omega) gp (by
          rw [show i' + t + (m2 - t) + o2 = i' + m2 + o2 by omega, show k' + t + (m2 - t) + n2 = k' + m2 + n2 by omega]; exact gt), ?_⟩
        · have := cut_sub gm htm
          simpa [cut] using this
        · rintro d' L'' he'
          injection he' with h1 _
          subst h1
          omega
    obtain ⟨b1, b2, b3, b4⟩ := hT
    have eO : olds (lsOf A B (i + (m - lead)) (c :: G) ++ signed 32 (cut A i' (i' + t))) = cut A (i + (m - lead)) (i' + t) := by
      rw [olds_app, olds_signed, if_neg (by omega), a7, cut_app A a1 (by omega)]
    have eN : news (lsOf A B (i + (m - lead)) (c :: G) ++ signed 32 (cut A i' (i' + t))) = cut B (k + (m - lead)) (k' + t) := by
      rw [news_app, news_signed, if_neg (by omega), a8, b1, cut_app B a2 (by omega)]
    have lO : (cut A (i + (m - lead)) (i' + t)).length = i' + t - (i + (m - lead)) := cut_len A (by omega) (by omega)
    have lN : (cut B (k + (m - lead)) (k' + t)).length = k' + t - (k + (m - lead)) := cut_len B (by omega) (by omega)
    have sO : i + (m - lead) + (i' + t - (i + (m - lead))) = i' + t := by omega
    have sN : k + (m - lead) + (k' + t - (k + (m - lead))) = k' + t := by omega
    refine ⟨i + (m - lead), k + (m - lead), i', t, by omega, by omega, ⟨m - lead, rfl, rfl, cut_sub hm (by omega)⟩, a6, ht0, a3, ⟨rfl, rfl, rfl, rfl, ?_, ?_, ?_, ?_, okSigns_app a9 (okSigns_signed (.inl rfl) _), ?_⟩, ?_, ?_⟩
    · rw [eO, lO, sO]
    · rw [eN, lN, sN]
    · rw [eO, lO]; omega
    · rw [eN, lN]; omega
    · rw [eO, eN, lO, lN]; omega
    · rw [eO, eN, lO, lN, sO, sN]; exact b3
    · rw [eO, lO, sO]; exact b4

/-- A line's text and whether a newline ends it, and back. -/
def lnBare (x : ByteArray) : Bool := !(x.data.toList.getLast? == some 10)
def lnText (x : ByteArray) : ByteArray := if lnBare x then x else ⟨x.data.toList.dropLast.toArray⟩
def lnBack (t : ByteArray) (bare : Bool) : ByteArray := if bare then t else t ++ ⟨#[10]⟩
theorem lnBack_ln (x : ByteArray) : lnBack (lnText x) (lnBare x) = x := by
  unfold lnBack lnText
  by_cases h : lnBare x = true
  · rw [if_pos h, if_pos h]
  · rw [if_neg h, if_neg h]
    apply bext
    have h' : x.data.toList.getLast? = some 10 := by simpa [lnBare] using h
    have h2 : x.data.toList.dropLast ++ [10] = x.data.toList := by
      have hne : x.data.toList ≠ [] := by intro e; rw [e] at h'; cases h'
      have e := List.dropLast_concat_getLast hne
      rw [List.getLast?_eq_some_getLast hne] at h'
      rw [Option.some.inj h'] at e
      exact e
    simpa using h2
def mkL (x : Int × ByteArray) : S42 := ⟨x.1, lnText x.2, lnBare x.2⟩
/-- Hunks of two lists of lines, from places on. -/
inductive Hks (A B : List ByteArray) : Nat → Nat → List S26 → Prop
  | done {i k : Nat} (h : A.drop i = B.drop k) : Hks A B i k []
  | step {i k : Nat} {h : S26} {hs : List S26} (m : Nat) (ls : List (Int × ByteArray)) (hm : (A.drop i).take m = (B.drop k).take m) (hk : HOK A B (i + m) (k + m) h.f0 h.f1 h.f2 h.f3 ls) (hl : h.f4 = ls.map mkL)
    (ht : Hks A B (i + m + (olds ls).length) (k + m + (news ls).length) hs) : Hks A B i k (h :: hs)
def swapS (s : Int) : Int := if s = 45 then 43 else if s = 43 then 45 else s
def swapL (x : S42) : S42 := ⟨swapS x.f0, x.f1, x.f2⟩
def swapH (h : S26) : S26 := ⟨h.f2, h.f3, h.f0, h.f1, h.f4.map swapL⟩
def swapP (ls : List (Int × ByteArray)) : List (Int × ByteArray) := ls.map fun x => (swapS x.1, x.2)
theorem olds_swap : ∀ (ls : List (Int × ByteArray)), okSigns ls → olds (swapP ls) = news ls ∧ news (swapP ls) = olds ls
  | [], _ => ⟨rfl, rfl⟩
  | x :: t, h => by
    obtain ⟨h1, h2⟩ := olds_swap t (fun y hy => h y (.tail _ hy))
    have e : swapP (x :: t) = (swapS x.1, x.2) :: swapP t := rfl
    have eo : ∀ (s : Int) (b : ByteArray) (l : List (Int × ByteArray)), olds ((s, b) :: l) = if s = 43 then olds l else b :: olds l := by
      intro s b l
      unfold olds
      by_cases hs : s = 43 <;> simp [List.filter_cons, hs]
    have en : ∀ (s : Int) (b : ByteArray) (l : List (Int × ByteArray)), news ((s, b) :: l) = if s = 45 then news l else b :: news l := by
      intro s b l
      unfold news
      by_cases hs : s = 45 <;> simp [List.filter_cons, hs]
    obtain ⟨s, b⟩ := x
    rw [e, eo, en, en, eo, h1, h2]
    rcases h (s, b) (.head _) with hs | hs | hs <;> (simp only at hs; subst hs; simp [swapS])
theorem okSigns_swap {ls : List (Int × ByteArray)} (h : okSigns ls) : okSigns (swapP ls) := by
  intro x hx
  obtain ⟨y, hy, rfl⟩ := List.mem_map.1 hx
  rcases h y hy with e | e | e <;> simp [e, swapS]
theorem Hks.swap {A B : List ByteArray} {i k : Nat} {hs : List S26} (h : Hks A B i k hs) : Hks B A k i (hs.map swapH) := by
  induction h with
  | done h => exact .done h.symm
  | step m ls hm hk hl ht ih =>
    obtain ⟨e1, e2⟩ := olds_swap ls hk.sg
    refine .step m (swapP ls) hm.symm ⟨hk.f2, by rw [e1]; exact hk.f3, hk.f0, by rw [e2]; exact hk.f1, by rw [e1]; exact hk.sn, by rw [e2]; exact hk.so, by rw [e1]; exact hk.ln, by rw [e2]; exact hk.lo, okSigns_swap hk.sg, by rw [e1, e2]; have := hk.ne; omega⟩ ?_ ?_
    · show List.map swapL _ = _
      rw [hl]
      simp [swapP, mkL, swapL, Function.comp_def]
    · rw [e1, e2]
      exact ih
/-- The lines with hunks done: what stands of the old text from a place on, what came out so far. -/
def apL (A : List ByteArray) : List S42 → Nat → List ByteArray → Option (Nat × List ByteArray)
  | [], at_, out => some (at_, out)
  | x :: t, at_, out =>
    if x.f0 ≠ 43 then (if A[at_]? = some (lnBack x.f1 x.f2) then apL A t (at_ + 1) (if x.f0 ≠ 45 then out ++ [lnBack x.f1 x.f2] else out) else none)
    else apL A t at_ (out ++ [lnBack x.f1 x.f2])
theorem apL_ok (A : List ByteArray) : ∀ (ls : List (Int × ByteArray)) (p : Nat) (out : List ByteArray), okSigns ls → cut A p (p + (olds ls).length) = olds ls → p + (olds ls).length ≤ A.length → apL A (ls.map mkL) p out = some (p + (olds ls).length, out ++ news ls)
  | [], p, out, _, _, _ => by simp [apL, olds, news]
  | (s, b) :: t, p, out, hs, ho, hl => by
    have eo : olds ((s, b) :: t) = if s = 43 then olds t else b :: olds t := by
      unfold olds
      by_cases hs : s = 43 <;> simp [List.filter_cons, hs]
    have en : news ((s, b) :: t) = if s = 45 then news t else b :: news t := by
      unfold news
      by_cases hs : s = 45 <;> simp [List.filter_cons, hs]
    have hst : okSigns t := fun y hy => hs y (.tail _ hy)
    rw [List.map_cons, apL]
    simp only [mkL, lnBack_ln]
    by_cases h43 : s = 43
    · subst h43
      rw [if_neg (by simp)]
      rw [eo, if_pos rfl] at ho hl ⊢
      rw [en, if_neg (by omega), apL_ok A t p _ hst ho hl]
      simp
    · rw [if_pos h43]
      rw [eo, if_neg h43] at ho hl ⊢
      simp only [List.length_cons] at ho hl ⊢
      have hp : p < A.length := by omega
      have e1 : cut A p (p + ((olds t).length + 1)) = A[p] :: cut A (p + 1) (p + 1 + (olds t).length) := by
        unfold cut
        rw [show p + ((olds t).length + 1) - p = (olds t).length + 1 by omega, show p + 1 + (olds t).length - (p + 1) = (olds t).length by omega, List.drop_eq_getElem_cons hp, List.take_succ_cons]
      rw [e1] at ho
      injection ho with h1 h2
      rw [if_pos (by rw [List.getElem?_eq_getElem hp, h1])]
      rw [apL_ok A t (p + 1) _ hst h2 (by omega), en]
      by_cases h45 : s = 45
      · simp [h45]; omega
      · simp [h45]; omega

/-- The lines of a text: no newline but at a line's end, and there of each but the last. -/
def GoodL (A : List ByteArray) : Prop := (∀ x ∈ A, hasB (lnText x) 10 = false) ∧ ∀ (i : Nat) (x : ByteArray), A[i]? = some x → lnBare x = true → i + 1 = A.length
theorem olds_cons (s : Int) (b : ByteArray) (l : List (Int × ByteArray)) : olds ((s, b) :: l) = if s = 43 then olds l else b :: olds l := by
  unfold olds
  by_cases hs : s = 43 <;> simp [List.filter_cons, hs]
theorem news_cons (s : Int) (b : ByteArray) (l : List (Int × ByteArray)) : news ((s, b) :: l) = if s = 45 then news l else b :: news l := by
  unfold news
  by_cases hs : s = 45 <;> simp [List.filter_cons, hs]
theorem scan_ls : ∀ (ls : List (Int × ByteArray)) (o n : Int), okSigns ls → (∀ x ∈ ls, hasB (lnText x.2) 10 = false) → scanL (ls.map mkL) o n = .inr (o + ((olds ls).length : Nat), n + ((news ls).length : Nat))
  | [], o, n, _, _ => by simp [scanL, olds, news]
  | (s, b) :: t, o, n, hs, ht => by
    have hst : okSigns t := fun y hy => hs y (.tail _ hy)
    have htt : ∀ x ∈ t, hasB (lnText x.2) 10 = false := fun y hy => ht y (.tail _ hy)
    have h0 := ht (s, b) (.head _)
    rw [List.map_cons, scanL, olds_cons, news_cons]
    rw [if_neg (by show ¬ hasB (lnText b) 10 = true; rw [h0]; exact Bool.false_ne_true)]
    simp only [mkL]
    rcases hs (s, b) (.head _) with e | e | e <;> (simp only at e; subst e)
    · simp only [if_true, show ¬ ((32 : Int) = 43) by omega, show ¬ ((32 : Int) = 45) by omega, if_false, List.length_cons]
      rw [scan_ls t _ _ hst htt]
      simp only [Sum.inr.injEq, Prod.mk.injEq]
      constructor <;> first | omega | trivial
    · simp only [if_true, show ¬ ((45 : Int) = 43) by omega, show ¬ ((45 : Int) = 32) by omega, if_false, List.length_cons]
      rw [scan_ls t _ _ hst htt]
      simp only [Sum.inr.injEq, Prod.mk.injEq]
      constructor <;> first | omega | trivial
    · simp only [if_true, show ¬ ((43 : Int) = 45) by omega, show ¬ ((43 : Int) = 32) by omega, if_false, List.length_cons]
      rw [scan_ls t _ _ hst htt]
      simp only [Sum.inr.injEq, Prod.mk.injEq]
      constructor <;> first | omega | trivial
theorem olds_nil_of {t : List (Int × ByteArray)} (h : olds t = []) : ∀ y ∈ t, y.1 = 43 := by
  intro y hy
  unfold olds at h
  have := List.map_eq_nil_iff.1 h
  have := List.filter_eq_nil_iff.1 this y hy
  simpa using this
theorem news_nil_of {t : List (Int × ByteArray)} (h : news t = []) : ∀ y ∈ t, y.1 = 45 := by
  intro y hy
  unfold news at h
  have := List.map_eq_nil_iff.1 h
  have := List.filter_eq_nil_iff.1 this y hy
  simpa using this
/-- A stretch's element is the list's. -/
theorem cut_get {A xs pre : List ByteArray} {p : Nat} {b : ByteArray} {t : List ByteArray} (h : cut A p (p + xs.length) = xs) (hx : xs = pre ++ b :: t) : A[p + pre.length]? = some b ∧ p + pre.length + 1 + t.length ≤ A.length := by
  have hl := congrArg List.length h
  unfold cut at h hl
  rw [List.length_take, List.length_drop] at hl
  have hxl : xs.length = pre.length + 1 + t.length := by rw [hx]; simp; omega
  refine ⟨?_, by omega⟩
  have h2 : xs[pre.length]? = some b := by rw [hx]; simp
  rw [← h, List.getElem?_take, if_pos (by omega), List.getElem?_drop] at h2
  exact h2
theorem bares_ls {A B : List ByteArray} (hA : GoodL A) (hB : GoodL B) {p q : Nat} {all : List (Int × ByteArray)} (ho : cut A p (p + (olds all).length) = olds all) (hn : cut B q (q + (news all).length) = news all) : ∀ (ls pre : List (Int × ByteArray)), all = pre ++ ls → okSigns ls → bares (ls.map mkL) = true
  | [], _, _, _ => rfl
  | (s, b) :: t, pre, he, hs => by
    have hst : okSigns t := fun y hy => hs y (.tail _ hy)
    rw [List.map_cons, bares, bares_ls hA hB ho hn t (pre ++ [(s, b)]) (by simp [he]) hst, Bool.and_true]
    by_cases hb : lnBare b = true
    · have h1 : s ≠ 43 → ∀ y ∈ t, y.1 = 43 := by
        intro h
        refine olds_nil_of (List.length_eq_zero_iff.1 ?_)
        have := cut_get (pre := olds pre) (b := b) (t := olds t) ho (by rw [he, olds_app, olds_cons, if_neg h])
        have := hA.2 _ _ this.1 hb
        omega
      have h2 : s ≠ 45 → ∀ y ∈ t, y.1 = 45 := by
        intro h
        refine news_nil_of (List.length_eq_zero_iff.1 ?_)
        have := cut_get (pre := news pre) (b := b) (t := news t) hn (by rw [he, news_app, news_cons, if_neg h])
        have := hB.2 _ _ this.1 hb
        omega
      have : lastB (t.map mkL) s = true := by
        unfold lastB
        rw [List.all_eq_true]
        intro y hy
        obtain ⟨z, hz, rfl⟩ := List.mem_map.1 hy
        rcases hs (s, b) (.head _) with e | e | e <;> (simp only at e; subst e)
        · have e1 := h1 (by omega) z hz
          have e2 := h2 (by omega) z hz
          omega
        · have e1 := h1 (by omega) z hz
          simp [mkL, e1]
        · have e2 := h2 (by omega) z hz
          simp [mkL, e2]
      simp [mkL, this]
    · simp [mkL, hb]
theorem mem_olds_or_news {ls : List (Int × ByteArray)} {x : Int × ByteArray} (hx : x ∈ ls) : x.2 ∈ olds ls ∨ x.2 ∈ news ls := by
  by_cases h : x.1 = 43
  · right
    exact List.mem_map.2 ⟨x, List.mem_filter.2 ⟨hx, by simp [h]⟩, rfl⟩
  · left
    exact List.mem_map.2 ⟨x, List.mem_filter.2 ⟨hx, by simp [h]⟩, rfl⟩
theorem mem_cut {A : List ByteArray} {i j : Nat} {x : ByteArray} (h : x ∈ cut A i j) : x ∈ A := List.mem_of_mem_drop (List.mem_of_mem_take h)
theorem hok_check {A B : List ByteArray} (hA : GoodL A) (hB : GoodL B) (lA : A.length ≤ 65536) (lB : B.length ≤ 65536) {p q : Nat} {a b c d : Int} {ls : List (Int × ByteArray)} (h : HOK A B p q a b c d ls) : checkSpec a b c d (ls.map mkL) = 0 := by
  have ht : ∀ x ∈ ls, hasB (lnText x.2) 10 = false := by
    intro x hx
    rcases mem_olds_or_news hx with h1 | h1
    · rw [← h.so] at h1; exact hA.1 _ (mem_cut h1)
    · rw [← h.sn] at h1; exact hB.1 _ (mem_cut h1)
  unfold checkSpec
  rw [scan_ls ls 0 0 h.sg ht]
  simp only [behind]
  have h1 := h.lo
  have h2 := h.ln
  have h3 := h.ne
  have e0 := h.f0
  have e1 := h.f1
  have e2 := h.f2
  have e3 := h.f3
  rw [if_neg (by omega), if_pos (by omega), bares_ls hA hB h.so h.sn ls [] rfl h.sg, if_pos rfl]
end Go.Proofs.YthkcghiagnddiaaDoor.Pure
namespace Go.Proofs.YthkcghiagnddiaaDoor.Pure
open Go Go.RowKit X Go.Proofs.YthkcghiagnddiaaDoorW.PrintWords Go.Proofs.YthkcghiagnddiaaDoorW.PrintLast
set_option linter.unusedVariables false
set_option linter.unusedSimpArgs false
/-- Bytes as lines, with what was taken of the line under way. -/
def nlA : List Int → List Int → List (List Int)
  | cur, [] => if cur = [] then [] else [cur]
  | cur, x :: t => if x = 10 then (cur ++ [x]) :: nlA [] t else nlA (cur ++ [x]) t
def segs : List Int → Int → List (Int × Int)
  | [], _ => []
  | [a], n => if a = n then [] else [(a, n)]
  | a :: b :: r, n => (a, b) :: segs (b :: r) n
theorem rd_cons (a : Int) (l : List Int) (i : Nat) : rd (a :: l) ((i : Int) + 1) = rd l i := by
  unfold rd
  rw [show ((i : Int) + 1).toNat = i + 1 by omega, show (i : Int).toNat = i by omega]
  rfl
theorem segs_range {β : Type} (g : Int → Int → β) (n : Nat) : ∀ (r : List Int) (a : Int), (List.range (lines_Lines.f (a :: r) n).toNat).map (fun (i : Nat) => g (lines_Span.at_ (a :: r) ((i : Int) + 1)) (lines_Span.end_ (a :: r) n ((i : Int) + 1))) = (segs (a :: r) n).map fun x => g x.1 x.2
  | [], a => by
    unfold lines_Lines.f
    simp only [List.length_singleton, segs]
    by_cases h : a = n
    · rw [if_pos (by simpa [rd] using h), if_pos h]
      rfl
    · rw [if_neg (by simpa [rd] using h), if_neg h]
      show [g _ _] = [g _ _]
      congr 1
  | b :: r, a => by
    have ih := segs_range g n r b
    have hN : (lines_Lines.f (a :: b :: r) n).toNat = (lines_Lines.f (b :: r) n).toNat + 1 := by
      unfold lines_Lines.f
      have e : rd (a :: b :: r) (((a :: b :: r).length : Int) - 1) = rd (b :: r) (((b :: r).length : Int) - 1) := by
        have := rd_cons a (b :: r) r.length
        simp only [List.length_cons]
        rw [show ((r.length + 1 + 1 : Nat) : Int) - 1 = (r.length : Int) + 1 by omega, this, show ((r.length + 1 : Nat) : Int) - 1 = (r.length : Int) by omega]
      rw [e]
      simp only [List.length_cons]
      split <;> omega
    rw [hN, List.range_succ_eq_map, List.map_cons, List.map_map, segs, List.map_cons]
    congr 1
    · show g (rd _ _) (if _ then _ else _) = _
      rw [if_pos (by simp only [List.length_cons]; omega)]
      rfl
    · rw [← ih]
      apply List.map_congr_left
      intro i _
      have e1 : lines_Span.at_ (a :: b :: r) (((i + 1 : Nat) : Int) + 1) = lines_Span.at_ (b :: r) ((i : Int) + 1) := by
        unfold lines_Span.at_
        rw [show ((i + 1 : Nat) : Int) + 1 - 1 = (i : Int) + 1 by omega, rd_cons, show (i : Int) + 1 - 1 = i by omega]
      have e2 : lines_Span.end_ (a :: b :: r) n (((i + 1 : Nat) : Int) + 1) = lines_Span.end_ (b :: r) n ((i : Int) + 1) := by
        unfold lines_Span.end_
        rw [rd_cons]
        simp only [List.length_cons]
        by_cases h : (i : Int) + 1 < (r.length + 1 : Nat)
        · rw [if_pos (by omega), if_pos h]
          rfl
        · rw [if_neg (by omega), if_neg h]
      show g _ _ = g _ _
      rw [← e1, ← e2]
theorem segs_nl (l : List Int) : ∀ (t pre : List Int) (a : Nat), l = pre ++ t → a ≤ pre.length → (segs ((a : Int) :: lines_New.from_ t pre.length) l.length).map (fun x => (l.take x.2.toNat).drop x.1.toNat) = nlA (pre.drop a) t
  | [], pre, a, hl, ha => by
    subst hl
    simp only [lines_New.from_, segs, nlA, List.append_nil]
    by_cases h : a = pre.length
    · subst h
      simp
    · rw [if_neg (by omega), if_neg (by intro e; have := congrArg List.length e; rw [List.length_drop] at this; simp at this; omega)]
      simp
  | x :: t, pre, a, hl, ha => by
    have hl2 : l = (pre ++ [x]) ++ t := by rw [hl]; simp
    have e1 : ((pre ++ [x]).length : Int) = (pre.length : Int) + 1 := by simp
    simp only [lines_New.from_, nlA]
    by_cases hx : x = 10
    · rw [if_pos hx, if_pos hx, segs, List.map_cons]
      have ih := segs_nl l t (pre ++ [x]) (pre.length + 1) hl2 (by simp)
      rw [e1] at ih
      rw [show ((pre.length + 1 : Nat) : Int) = (pre.length : Int) + 1 by omega] at ih
      rw [ih]
      congr 1
      · simp only
        rw [show ((pre.length : Int) + 1).toNat = pre.length + 1 by omega, show (a : Int).toNat = a by omega, hl2, List.take_append_of_le_length (by simp), List.take_of_length_le (by simp), List.drop_append_of_le_length ha]
      · rw [List.drop_of_length_le (by simp)]
    · rw [if_neg hx, if_neg hx]
      have ih := segs_nl l t (pre ++ [x]) a hl2 (by simp; omega)
      rw [e1, List.drop_append_of_le_length ha] at ih
      exact ih
/-- Bytes as lines. -/
def nl (l : List Int) : List (List Int) := nlA [] l
theorem split_nl (l : List Int) : lSplit.f l = (nl l).map strOfNums := by
  unfold lSplit.f lSplit.upto lSplit.cut lines_New.begins
  rw [segs_range (fun a b => strOfNums ((l.take b.toNat).drop a.toNat)) l.length (lines_New.from_ l 0) 0]
  have := segs_nl l l [] 0 rfl (Nat.le_refl _)
  simp only [List.drop_nil] at this
  rw [nl, ← this, List.map_map]
  rfl
theorem nlA_flat : ∀ (t cur : List Int), (nlA cur t).flatten = cur ++ t
  | [], cur => by
    unfold nlA
    split
    · rename_i h; simp [h]
    · simp
  | x :: t, cur => by
    unfold nlA
    split
    · rw [List.flatten_cons, nlA_flat t []]; simp
    · rw [nlA_flat t]; simp
theorem nl_flat (l : List Int) : (nl l).flatten = l := nlA_flat l []
/-- A line: it has bytes, and a newline at its end alone. -/
def lineP (s : List Int) : Prop := ∃ t, s = t ++ [10] ∧ (10 : Int) ∉ t
theorem nlA_lines : ∀ (t cur : List Int), (10 : Int) ∉ cur → (∀ s ∈ (nlA cur t).dropLast, lineP s) ∧ ∀ s, (nlA cur t).getLast? = some s → lineP s ∨ (s ≠ [] ∧ (10 : Int) ∉ s)
  | [], cur, h => by
    unfold nlA
    split
    · simp
    · rename_i hne
      refine ⟨by simp, fun s hs => .inr ?_⟩
      simp at hs
      subst hs
      exact ⟨hne, h⟩
  | x :: t, cur, h => by
    unfold nlA
    split
    · rename_i hx
      subst hx
      obtain ⟨h1, h2⟩ := nlA_lines t [] (by simp)
      have h0 : lineP (cur ++ [10]) := ⟨cur, rfl, h⟩
      cases hn : nlA [] t with
      | nil =>
        refine ⟨by simp, fun s hs => .inl ?_⟩
        simp at hs
        subst hs
        exact h0
      | cons u r =>
        rw [hn] at h1 h2
        refine ⟨fun s hs => ?_, fun s hs => h2 s (by simpa using hs)⟩
        rw [List.dropLast_cons_of_ne_nil (by simp)] at hs
        rcases List.mem_cons.1 hs with rfl | hs
        · exact h0
        · exact h1 s hs
    · rename_i hx
      exact nlA_lines t (cur ++ [x]) (by simp [h]; omega)
theorem nlA_len : ∀ (t cur : List Int), (nlA cur t).length ≤ t.length + 1
  | [], cur => by unfold nlA; split <;> simp
  | x :: t, cur => by
    unfold nlA
    split
    · have := nlA_len t []; simp; omega
    · have := nlA_len t (cur ++ [x]); simp; omega

def bytesOk (l : List Int) : Prop := ∀ x ∈ l, 0 ≤ x ∧ x ≤ 255
theorem son_list (l : List Int) : (strOfNums l).data.toList = l.map fun x => UInt8.ofNat x.toNat := by unfold strOfNums; simp
theorem u8_ten {x : Int} (h : 0 ≤ x ∧ x ≤ 255) : UInt8.ofNat x.toNat = 10 ↔ x = 10 := by
  constructor
  · intro e
    have := congrArg UInt8.toNat e
    rw [UInt8.toNat_ofNat'] at this
    have e2 : (10 : UInt8).toNat = 10 := rfl
    rw [e2] at this
    omega
  · rintro rfl; rfl
theorem has_ten {l : List Int} (hb : bytesOk l) (h : (10 : Int) ∉ l) : hasB (strOfNums l) 10 = false := by
  unfold hasB
  rw [son_list, List.any_map, List.any_eq_false]
  intro x hx
  simp only [Function.comp_apply, beq_iff_eq]
  intro e
  have hr := hb x hx
  rw [UInt8.toNat_ofNat'] at e
  have : x = 10 := by omega
  exact h (this ▸ hx)
theorem ln_line {t : List Int} (hb : bytesOk t) : lnBare (strOfNums (t ++ [10])) = false ∧ lnText (strOfNums (t ++ [10])) = strOfNums t := by
  have h1 : lnBare (strOfNums (t ++ [10])) = false := by
    unfold lnBare
    rw [son_list]
    simp
  refine ⟨h1, ?_⟩
  unfold lnText
  rw [h1, if_neg Bool.false_ne_true]
  apply bext
  rw [son_list, son_list]
  simp
theorem ln_bare {s : List Int} (hb : bytesOk s) (h : (10 : Int) ∉ s) : lnBare (strOfNums s) = true ∧ lnText (strOfNums s) = strOfNums s := by
  have h1 : lnBare (strOfNums s) = true := by
    unfold lnBare
    rw [son_list, List.getLast?_map]
    cases hl : s.getLast? with
    | none => rfl
    | some x =>
      have hx : x ∈ s := List.mem_of_getLast? hl
      have : ¬ UInt8.ofNat x.toNat = 10 := fun e => h ((u8_ten (hb x hx)).1 e ▸ hx)
      simp [this]
  exact ⟨h1, by unfold lnText; rw [if_pos h1]⟩
theorem bytes_sub {l s : List Int} (hb : bytesOk l) (h : s ∈ nl l) : bytesOk s := by
  intro x hx
  refine hb x ?_
  rw [← nl_flat l]
  exact List.mem_flatten.2 ⟨s, h, hx⟩
theorem good_split {l : List Int} (hb : bytesOk l) : GoodL (lSplit.f l) := by
  obtain ⟨h1, h2⟩ := nlA_lines l [] (by simp)
  have key : ∀ s ∈ nl l, lineP s ∨ (s ≠ [] ∧ (10 : Int) ∉ s) := by
    intro s hs
    rcases List.eq_nil_or_concat (nl l) with e | ⟨u, v, e⟩
    · rw [e] at hs; cases hs
    · rw [List.concat_eq_append] at e
      rw [e] at hs
      rcases List.mem_append.1 hs with hs | hs
      · refine .inl (h1 s ?_)
        show s ∈ (nl l).dropLast
        rw [e]; simpa using hs
      · refine h2 s ?_
        show (nl l).getLast? = some s
        rw [e]; simp at hs; simp [hs]
  rw [split_nl]
  refine ⟨fun x hx => ?_, fun i x hi hx => ?_⟩
  · obtain ⟨s, hs, rfl⟩ := List.mem_map.1 hx
    have hbs := bytes_sub hb hs
    rcases key s hs with ⟨t, rfl, ht⟩ | ⟨_, ht⟩
    · have hbt : bytesOk t := fun y hy => hbs y (by simp [hy])
      rw [(ln_line hbt).2]
      exact has_ten hbt ht
    · rw [(ln_bare hbs ht).2]
      exact has_ten hbs ht
  · rw [List.getElem?_map] at hi
    obtain ⟨s, hs, rfl⟩ := Option.map_eq_some_iff.1 hi
    have hlt := (List.getElem?_eq_some_iff.1 hs).1
    rw [List.length_map]
    rcases Nat.lt_or_ge (i + 1) (nl l).length with h | h
    · exfalso
      have hm : s ∈ (nl l).dropLast := by
        refine List.mem_iff_getElem?.2 ⟨i, ?_⟩
        rw [List.getElem?_dropLast, if_pos (by omega)]
        exact hs
      obtain ⟨t, rfl, ht⟩ := h1 s hm
      have hbs := bytes_sub hb (List.mem_of_getElem? hs)
      rw [(ln_line (fun y hy => hbs y (by simp [hy]))).1] at hx
      cases hx
    · omega
theorem split_len (l : List Int) : (lSplit.f l).length ≤ l.length + 1 := by
  rw [split_nl, List.length_map]
  exact nlA_len l []
theorem split_size {l : List Int} {x : ByteArray} (h : x ∈ lSplit.f l) : x.size ≤ l.length := by
  rw [split_nl] at h
  obtain ⟨s, hs, rfl⟩ := List.mem_map.1 h
  have e : (strOfNums s).size = s.length := by rw [← list_size, son_list, List.length_map]
  rw [e, ← nl_flat l]
  have := List.sublist_flatten_of_mem hs
  have h2 := this.length_le
  rwa [nl_flat] at h2 ⊢
end Go.Proofs.YthkcghiagnddiaaDoor.Pure
namespace Go.Proofs.YthkcghiagnddiaaDoor.Pure
open Go Go.RowKit X Go.Proofs.YthkcghiagnddiaaDoorW.PrintWords Go.Proofs.YthkcghiagnddiaaDoorW.PrintLast
set_option linter.unusedVariables false
set_option linter.unusedSimpArgs false
theorem w64 {x : Int} (h : -9223372036854775808 ≤ x ∧ x ≤ 9223372036854775807) : wrap64 x = x := wrap_of h.1 h.2
theorem last_get (x : ByteArray) (h : 1 ≤ x.size) : (x.data.toList.drop (x.size - 1)) = [x.data.toList.getLast (by intro e; rw [← list_size, e] at h; simp at h)] := by
  have hne : x.data.toList ≠ [] := by intro e; rw [← list_size, e] at h; simp at h
  have e := List.dropLast_concat_getLast hne
  conv => lhs; rw [← e]
  rw [List.drop_append_of_le_length (by rw [List.length_dropLast, list_size]; exact Nat.le_refl _), List.drop_of_length_le (by rw [List.length_dropLast, list_size]; exact Nat.le_refl _)]
  rfl
theorem line_ev (s : Int) (x : ByteArray) (hx : x.size ≤ 1000000000000) : hunks_line.f s x = some (s, lnText x, lnBare x) := by
  unfold hunks_line.f strings_CutSuffix.f stringslite_CutSuffix.f stringslite_HasSuffix.f
  have e1 : ((⟨#[10]⟩ : ByteArray).size : Int) = 1 := rfl
  rw [e1]
  by_cases h : 1 ≤ x.size
  · have w1 : wrap64 ((x.size : Int) - 1) = (x.size : Int) - 1 := w64 (by omega)
    have ht : ((x.size : Int) - 1).toNat = x.size - 1 := by omega
    rw [if_pos (by omega), w1, if_pos (by omega), if_pos (by omega), ht]
    have hd : (x.extract (x.size - 1) x.size).toList = x.data.toList.drop (x.size - 1) := by rw [ByteArray.toList_eq, Lib.extract_to_end]
    have hne : x.data.toList ≠ [] := by intro e; rw [← list_size, e] at h; simp at h
    rw [hd, last_get x h]
    have hl : lnBare x = !(x.data.toList.getLast hne == 10) := by
      unfold lnBare
      rw [List.getLast?_eq_some_getLast hne]
      rfl
    have e2 : (⟨#[10]⟩ : ByteArray).toList = [10] := by rw [ByteArray.toList_eq]
    rw [e2]
    by_cases hc : x.data.toList.getLast hne = 10
    · have hb : lnBare x = false := by rw [hl, hc]; rfl
      have : ([x.data.toList.getLast hne] == [(10 : UInt8)]) = true := by rw [hc]; rfl
      rw [this]
      simp only [Option.bind_some, if_true, Bool.not_true]
      rw [if_pos (by omega), if_pos (by omega)]
      simp only [Option.bind_some, Bool.not_true]
      rw [hb]
      have : lnText x = x.extract 0 (x.size - 1) := by
        unfold lnText
        rw [hb, if_neg Bool.false_ne_true]
        apply bext
        rw [Lib.extract_data]
        show x.data.toList.dropLast = _
        rw [List.dropLast_eq_take, list_size]
        simp
      rw [this]
    · have hb : lnBare x = true := by
        rw [hl, beq_eq_false_iff_ne.2 hc]
        rfl
      have : ([x.data.toList.getLast hne] == [(10 : UInt8)]) = false := by
        apply beq_eq_false_iff_ne.2
        intro e
        injection e with e _
        exact hc e
      rw [this]
      simp only [Option.bind_some, Bool.false_eq_true, if_false, Bool.not_false]
      unfold lnText
      rw [hb, if_pos rfl]
  · rw [if_neg (by omega)]
    have hb : lnBare x = true := by
      unfold lnBare
      have : x.data.toList = [] := List.eq_nil_of_length_eq_zero (by rw [list_size]; omega)
      rw [this]; rfl
    simp only [Option.bind_some, Bool.false_eq_true, if_false, Bool.not_false]
    unfold lnText
    rw [hb, if_pos rfl]
theorem put_ev (s : Int) : ∀ (x : List ByteArray) (acc : List S42), (∀ y ∈ x, y.size ≤ 1000000000000) → acc.length + x.length ≤ 1000000000 → hunks_hunk.put s x acc = some (acc ++ (signed s x).map mkL)
  | [], acc, _, _ => by simp [hunks_hunk.put, signed]
  | y :: t, acc, hx, hl => by
    simp only [List.length_cons] at hl
    simp only [hunks_hunk.put, line_ev s y (hx y (.head _)), Option.bind_some]
    rw [if_pos (by omega), put_ev s t _ (fun z hz => hx z (.tail _ hz)) (by simp; omega)]
    simp [signed, mkL]
theorem putB_ev (s : Int) (x : List ByteArray) (acc : List S42) (hx : ∀ y ∈ x, y.size ≤ 1000000000000) (hl : acc.length + x.length ≤ 1000000000) : hunks_hunk.putB s x acc = some (acc ++ (signed s x).map mkL) := by
  unfold hunks_hunk.putB
  rw [if_pos hl, put_ev s x acc hx hl]
theorem cutB_ev (l : List ByteArray) {i j : Int} (h0 : 0 ≤ i) (h1 : i ≤ j) (h2 : j ≤ l.length) : hunks_hunk.cutB l i j = some (cut l i.toNat j.toNat) := by
  unfold hunks_hunk.cutB cut
  rw [if_pos ⟨h0, h1, h2⟩, List.drop_take]
def smalls (A : List ByteArray) : Prop := A.length ≤ 1000000 ∧ ∀ x ∈ A, x.size ≤ 1000000000000
theorem smalls_cut {A : List ByteArray} (h : smalls A) (i j : Nat) : ∀ y ∈ cut A i j, y.size ≤ 1000000000000 := fun y hy => h.2 y (mem_cut hy)
theorem signed_len (s : Int) (l : List ByteArray) : (signed s l).length = l.length := by simp [signed]
theorem loop_ev (A B : List ByteArray) (hA : smalls A) (hB : smalls B) (L' : List S78) : ∀ (G : List S78) (i k : Nat) (acc : List S42), i ≤ A.length → k ≤ B.length → Scr A B i k (G ++ L') → acc.length + (A.length - i) + (B.length - k) ≤ 1000000000 →
    ∃ e : Int, hunks_hunk.loop A B G i acc = some (e, acc ++ (lsOf A B i G).map mkL) ∧ (∀ c, G.getLast? = some c → e = c.f0 + c.f1) ∧ acc.length + (lsOf A B i G).length ≤ 1000000000 ∧ (G = [] → e = i)
  | [], i, k, acc, _, _, _, hl => ⟨i, by simp [hunks_hunk.loop, lsOf], by simp, by simp [lsOf]; omega, fun _ => rfl⟩
  | c :: G, i, k, acc, hi, hk, h, hl => by
    cases h with
    | step m o n h0 h1 h2 h3 hm ho hn hp ht =>
      have a1 := hA.1
      have a2 := hB.1
      have hok : hunks_hunk.okC c := by unfold hunks_hunk.okC; omega
      have e0 : c.f0.toNat = i + m := by omega
      have e1 : (c.f0 + c.f1).toNat = i + m + o := by omega
      have e2 : c.f2.toNat = k + m := by omega
      have e3 : (c.f2 + c.f3).toNat = k + m + n := by omega
      have l1 : (cut A i (i + m)).length = m := by rw [cut_len A (by omega) (by omega)]; omega
      have l2 : (cut A (i + m) (i + m + o)).length = o := by rw [cut_len A (by omega) (by omega)]; omega
      have l3 : (cut B (k + m) (k + m + n)).length = n := by rw [cut_len B (by omega) (by omega)]; omega
      obtain ⟨e, hr, he, hll, hnil⟩ := loop_ev A B hA hB L' G (i + m + o) (k + m + n) (acc ++ (signed 32 (cut A i (i + m)) ++ signed 45 (cut A (i + m) (i + m + o)) ++ signed 43 (cut B (k + m) (k + m + n))).map mkL) ho hn ht (by
        simp only [List.length_append, List.length_map, signed_len, l1, l2, l3]; omega)
      refine ⟨e, ?_, ?_, ?_, by simp⟩
      · rw [hunks_hunk.loop, if_pos hok, cutB_ev A (by omega) (by omega) (by omega), e0, show (i : Int).toNat = i by omega, Option.bind_some, putB_ev 32 _ _ (smalls_cut hA _ _) (by rw [l1]; omega), Option.bind_some,
          cutB_ev A (by omega) (by omega) (by omega), e0, e1, Option.bind_some, putB_ev 45 _ _ (smalls_cut hA _ _) (by rw [l2, List.length_append, List.length_map, signed_len, l1]; omega), Option.bind_some,
          cutB_ev B (by omega) (by omega) (by omega), e2, e3, Option.bind_some, putB_ev 43 _ _ (smalls_cut hB _ _) (by rw [l3, List.length_append, List.length_append, List.length_map, List.length_map, signed_len, signed_len, l1, l2]; omega), Option.bind_some]
        rw [lsOf, e0, e1, e2, e3]
        rw [show c.f0 + c.f1 = ((i + m + o : Nat) : Int) by omega]
        have ea : acc ++ List.map mkL (signed 32 (cut A i (i + m))) ++ List.map mkL (signed 45 (cut A (i + m) (i + m + o))) ++ List.map mkL (signed 43 (cut B (k + m) (k + m + n))) = acc ++ (signed 32 (cut A i (i + m)) ++ signed 45 (cut A (i + m) (i + m + o)) ++ signed 43 (cut B (k + m) (k + m + n))).map mkL := by simp
        rw [ea, hr]
        simp
      · intro d hd
        cases G with
        | nil =>
          simp at hd
          subst hd
          rw [hnil rfl]
          omega
        | cons d' G' => exact he d (by simpa using hd)
      · rw [lsOf, e0, e1, e2, e3]
        simp only [List.length_append, List.length_map, signed_len] at hll ⊢
        omega
theorem count_from (sg : Int) (l : List S42) (hl : l.length ≤ 1000000000) : ∀ (d : Nat) (i n : Int), 0 ≤ i → i ≤ l.length → (l.length : Int) - i = d → 0 ≤ n → n ≤ i →
    Ev (fun k => hunks_count.l0 k sg n l (l.length : Int) i) (n + (((l.drop i.toNat).filter fun x => x.f0 == sg).length : Nat)) := by
  intro d
  induction d with
  | zero =>
    intro i n h0 h1 hd hn0 hn
    rw [List.drop_of_length_le (by omega)]
    refine Ev.step (f := fun _ => some n) (fun k => ?_) (by simpa using Ev.now n)
    simp only [hunks_count.l0]
    rw [if_neg (by omega)]
  | succ d ih =>
    intro i n h0 h1 hd hn0 hn
    obtain ⟨x, hx, hdr⟩ := drop_cons h0 (show i < (l.length : Int) by omega)
    have hw : wrap64 (i + 1) = i + 1 := w64 (by omega)
    have hw2 : wrap64 (n + 1) = n + 1 := w64 (by omega)
    rw [hdr, List.filter_cons]
    by_cases hs : x.f0 = sg
    · rw [if_pos (by simpa using hs)]
      have := ih (i + 1) (n + 1) (by omega) (by omega) (by omega) (by omega) (by omega)
      refine Ev.step (f := fun k => hunks_count.l0 k sg (n + 1) l (l.length : Int) (i + 1)) (fun k => ?_) (by
        have e : n + (((x :: (l.drop (i + 1).toNat).filter fun x => x.f0 == sg).length : Nat) : Int) = n + 1 + (((l.drop (i + 1).toNat).filter fun x => x.f0 == sg).length : Nat) := by simp only [List.length_cons]; omega
        rw [e]; exact this)
      simp only [hunks_count.l0]
      rw [if_pos (by omega), if_pos h0, if_pos (by omega), rd42 hx, if_pos hs, hw, hw2]
    · rw [if_neg (by simpa using hs)]
      have := ih (i + 1) n (by omega) (by omega) (by omega) (by omega) (by omega)
      refine Ev.step (f := fun k => hunks_count.l0 k sg n l (l.length : Int) (i + 1)) (fun k => ?_) this
      simp only [hunks_count.l0]
      rw [if_pos (by omega), if_pos h0, if_pos (by omega), rd42 hx, if_neg hs, hw]
theorem count_ev (sg : Int) (l : List S42) (hl : l.length ≤ 1000000000) : Ev (fun k => hunks_count.f k l sg) (((l.filter fun x => x.f0 == sg).length : Nat) : Int) := by
  have := count_from sg l hl l.length 0 0 (by omega) (by omega) (by omega) (by omega) (by omega)
  rw [Int.zero_add] at this
  exact this
theorem count_olds : ∀ (ls : List (Int × ByteArray)), (olds ls).length + ((ls.map mkL).filter fun x => x.f0 == 43).length = ls.length ∧ (news ls).length + ((ls.map mkL).filter fun x => x.f0 == 45).length = ls.length
  | [] => by simp [olds, news]
  | (s, b) :: t => by
    obtain ⟨h1, h2⟩ := count_olds t
    rw [olds_cons, news_cons, List.map_cons, List.filter_cons, List.filter_cons]
    constructor
    · by_cases hs : s = 43
      · simp [mkL, hs]; omega
      · simp [mkL, hs]; omega
    · by_cases hs : s = 45
      · simp [mkL, hs]; omega
      · simp [mkL, hs]; omega
theorem hunk_ev (A B : List ByteArray) (hA : smalls A) (hB : smalls B) (ctx : Nat) (hctx : ctx ≤ 1000) (c : S78) (G L' : List S78) (i k : Nat) (hi : i ≤ A.length) (hk : k ≤ B.length) (h : Scr A B i k (c :: G ++ L')) (hf : (i = 0 ∧ k = 0) ∨ ((ctx : Int) + i ≤ c.f0)) (hGl : (c :: G).length ≤ 3000000)
    (hg : ∀ d L'', L' = d :: L'' → ∀ e, (c :: G).getLast? = some e → 2 * (ctx : Int) < d.f0 - (e.f0 + e.f1)) :
    ∃ (m : Nat) (ls : List (Int × ByteArray)), (A.drop i).take m = (B.drop k).take m ∧ HOK A B (i + m) (k + m) ((i + m : Nat) : Int) ((olds ls).length : Nat) ((k + m : Nat) : Int) ((news ls).length : Nat) ls ∧ Scr A B (i + m + (olds ls).length) (k + m + (news ls).length) L' ∧
      (∀ d L'', L' = d :: L'' → (ctx : Int) + ((i + m + (olds ls).length : Nat) : Int) ≤ d.f0) ∧ ls.length ≤ 1000000000 ∧
      Ev (fun r => hunks_hunk.f r A B (c :: G) ctx) (((i + m : Nat) : Int), ((olds ls).length : Nat), ((k + m : Nat) : Int), ((news ls).length : Nat), ls.map mkL) := by
  have a1 := hA.1
  have a2 := hB.1
  obtain ⟨p, q, i', t, ep, eq_, ⟨m, rfl, rfl, hm⟩, e1, et, hi', hk', hS, hfin⟩ := hunk_step A B ctx c G L' i k hi hk h hf hg
  have h' := h
  cases h' with
  | step m0 o0 n0 b0 b1 b2 b3 bm bo bn bp bt =>
    -- the script, from the lead on
    obtain ⟨lead, hl⟩ : ∃ lead : Nat, min (ctx : Int) c.f0 = lead := ⟨(min (ctx : Int) c.f0).toNat, by omega⟩
    have hmm : m = m0 - lead := by omega
    have hle : lead ≤ m0 := by omega
    have hS2 : Scr A B (i + m) (k + m) (c :: G ++ L') := .step lead o0 n0 (by omega) b1 (by omega) b3 (by have := cut_sub2 bm (r := m0 - lead) (by omega); rwa [show m0 - (m0 - lead) = lead by omega, ← hmm] at this) (by omega) (by omega) bp (by
      rw [show i + m + lead + o0 = i + m0 + o0 by omega, show k + m + lead + n0 = k + m0 + n0 by omega]; exact bt)
    obtain ⟨e, hr, he, hll, _⟩ := loop_ev A B hA hB L' (c :: G) (i + m) (k + m) [] (by omega) (by omega) hS2 (by simp; omega)
    obtain ⟨lst, hlst⟩ : ∃ x, (c :: G).getLast? = some x := ⟨_, List.getLast?_eq_some_getLast (by simp)⟩
    have hei : e = i' := by rw [he lst hlst, e1 lst hlst]
    subst hei
    have lT : (cut A i' (i' + t)).length = t := by rw [cut_len A (by omega) (by omega)]; omega
    have hlen : (lsOf A B (i + m) (c :: G)).length + t ≤ 1000000000 := by
      have h1 := hk'.lo
      have h2 := hk'.ln
      have h3 := (count_olds (lsOf A B (i + m) (c :: G))).1
      have h4 : (lsOf A B (i + m) (c :: G)).length ≤ (olds (lsOf A B (i + m) (c :: G))).length + (news (lsOf A B (i + m) (c :: G))).length := by
        have key : ∀ ls : List (Int × ByteArray), ls.length ≤ (olds ls).length + (news ls).length := by
          intro ls
          induction ls with
          | nil => simp
          | cons x t ih =>
            obtain ⟨s, b⟩ := x
            rw [olds_cons, news_cons]
            by_cases h1 : s = 43
            · rw [if_pos h1, if_neg (by omega)]; simp; omega
            · rw [if_neg h1]
              split <;> simp <;> omega
        exact key _
      rw [olds_app, List.length_append] at h1
      rw [news_app, List.length_append] at h2
      omega
    refine ⟨m, _, hm, hk', hS, hfin, ?_, ?_⟩
    · rw [List.length_append, signed_len, lT]
      exact hlen
    have hc0 : rd_T78 (c :: G) 0 = c := rfl
    have hok : hunks_hunk.okC c := by unfold hunks_hunk.okC; omega
    have hmin : min ((i' : Int) + (ctx : Int)) (A.length : Int) = ((i' + t : Nat) : Int) := by omega
    have hco := count_olds (lsOf A B (i + m) (c :: G) ++ signed 32 (cut A i' (i' + t)))
    have hll2 : ((lsOf A B (i + m) (c :: G) ++ signed 32 (cut A i' (i' + t))).map mkL).length ≤ 1000000000 := by
      rw [List.length_map, List.length_append, signed_len, lT]
      exact hlen
    have hc1 := count_ev 43 ((lsOf A B (i + m) (c :: G) ++ signed 32 (cut A i' (i' + t))).map mkL) hll2
    have hc2 := count_ev 45 ((lsOf A B (i + m) (c :: G) ++ signed 32 (cut A i' (i' + t))).map mkL) hll2
    have hfold : ∀ r, hunks_hunk.f r A B (c :: G) ctx = (hunks_count.f r ((lsOf A B (i + m) (c :: G) ++ signed 32 (cut A i' (i' + t))).map mkL) 43).bind fun n => (hunks_count.f r ((lsOf A B (i + m) (c :: G) ++ signed 32 (cut A i' (i' + t))).map mkL) 45).bind fun n2 =>
        some (((i + m : Nat) : Int), wrap64 (((lsOf A B (i + m) (c :: G) ++ signed 32 (cut A i' (i' + t))).map mkL).length - n), ((k + m : Nat) : Int), wrap64 (((lsOf A B (i + m) (c :: G) ++ signed 32 (cut A i' (i' + t))).map mkL).length - n2), (lsOf A B (i + m) (c :: G) ++ signed 32 (cut A i' (i' + t))).map mkL) := by
      intro r
      unfold hunks_hunk.f hunks_hunk.lead
      rw [hc0, if_pos ⟨by simp, by omega, by omega, by omega, by omega, by omega, hok⟩, ← ep, ← eq_, hr, Option.bind_some]
      simp only
      rw [hmin, cutB_ev A (by omega) (by omega) (by omega), Option.bind_some, show ((i' : Int)).toNat = i' by omega, show (((i' + t : Nat) : Int)).toNat = i' + t by omega, putB_ev 32 _ _ (smalls_cut hA _ _) (by rw [lT, List.nil_append, List.length_map]; exact hlen), Option.bind_some]
      simp only [List.nil_append, List.map_append]
    refine Ev.congr hfold ?_
    refine Ev.bind hc1 (Ev.bind hc2 ?_)
    have hlm : ((lsOf A B (i + m) (c :: G) ++ signed 32 (cut A i' (i' + t))).map mkL).length = (lsOf A B (i + m) (c :: G) ++ signed 32 (cut A i' (i' + t))).length := List.length_map _
    rw [hlm] at hll2
    rw [w64 (by rw [hlm]; omega), w64 (by rw [hlm]; omega), hlm]
    have z1 : (((lsOf A B (i + m) (c :: G) ++ signed 32 (cut A i' (i' + t))).length : Nat) : Int) - ((((lsOf A B (i + m) (c :: G) ++ signed 32 (cut A i' (i' + t))).map mkL).filter fun x => x.f0 == 43).length : Nat) = ((olds (lsOf A B (i + m) (c :: G) ++ signed 32 (cut A i' (i' + t)))).length : Nat) := by omega
    have z2 : (((lsOf A B (i + m) (c :: G) ++ signed 32 (cut A i' (i' + t))).length : Nat) : Int) - ((((lsOf A B (i + m) (c :: G) ++ signed 32 (cut A i' (i' + t))).map mkL).filter fun x => x.f0 == 45).length : Nat) = ((news (lsOf A B (i + m) (c :: G) ++ signed 32 (cut A i' (i' + t)))).length : Nat) := by omega
    rw [z1, z2]
    exact Ev.now _
theorem rd78 {l : List S78} {i : Nat} {x : S78} (h : l[i]? = some x) : rd_T78 l i = x := by
  unfold rd_T78
  rw [Int.toNat_natCast, List.getD_eq_getElem?_getD, h]
  rfl
/-- Changes that rise. -/
theorem scr_bound {A B : List ByteArray} (hA : smalls A) (hB : smalls B) : ∀ {L : List S78} {i k : Nat}, Scr A B i k L → ∀ c ∈ L, (0 ≤ c.f0 ∧ c.f0 ≤ 1000000) ∧ (0 ≤ c.f1 ∧ c.f1 ≤ 1000000)
  | _, _, _, .done _, c, hc => by cases hc
  | _, _, _, .step m o n h0 h1 h2 h3 hm ho hn hp ht, c, hc => by
    have a1 := hA.1
    rcases List.mem_cons.1 hc with rfl | hc
    · omega
    · exact scr_bound hA hB ht c hc
theorem scr_len {A B : List ByteArray} : ∀ {L : List S78} {i k : Nat}, Scr A B i k L → i ≤ A.length → k ≤ B.length → L.length + i + k ≤ A.length + B.length
  | _, _, _, .done _, h1, h2 => by simp; omega
  | _, _, _, .step m o n h0 h1 h2 h3 hm ho hn hp ht, _, _ => by
    have := scr_len ht ho hn
    simp only [List.length_cons]
    omega
theorem make_l1 (A B : List ByteArray) (hA : smalls A) (hB : smalls B) (ctx : Nat) (hctx : ctx ≤ 16) (out : List S26) (L : List S78) (hL : L.length ≤ 2000000) (hbd : ∀ c ∈ L, (0 ≤ c.f0 ∧ c.f0 ≤ 1000000) ∧ (0 ≤ c.f1 ∧ c.f1 ≤ 1000000)) : ∀ (d n : Nat), 1 ≤ n → n ≤ L.length → L.length - n = d →
    ∃ n', n ≤ n' ∧ n' ≤ L.length ∧ (∀ x e, L[n']? = some x → L[n' - 1]? = some e → 2 * (ctx : Int) < x.f0 - (e.f0 + e.f1)) ∧ ∀ r, Ev (fun k => (hunks_hunk.f k A B (L.take n') ctx).bind fun bt => if out.length < 2513169434916 then hunks_Make.l0 k ctx A B (out ++ [(⟨bt.1, bt.2.1, bt.2.2.1, bt.2.2.2.1, bt.2.2.2.2⟩ : S26)]) (L.drop n') else none) r → Ev (fun k => hunks_Make.l1 k ctx A B out L n) r := by
  intro d
  induction d with
  | zero =>
    intro n h1 h2 hd
    have hn : L.length = n := by omega
    refine ⟨n, Nat.le_refl _, h2, fun x e hx _ => ?_, fun r hr => Ev.step (fun k => ?_) hr⟩
    · rw [List.getElem?_eq_none (by omega)] at hx; cases hx
    · simp only [hunks_Make.l1]
      rw [if_neg (by omega), if_pos (by omega), if_pos (by omega), Int.toNat_natCast]
  | succ d ih =>
    intro n h1 h2 hd
    have hlt : n < L.length := by omega
    obtain ⟨X, hx⟩ : ∃ X, L[n]? = some X := ⟨_, List.getElem?_eq_getElem hlt⟩
    obtain ⟨E, he⟩ : ∃ E, L[n - 1]? = some E := ⟨_, List.getElem?_eq_getElem (by omega)⟩
    have b1 := hbd _ (List.mem_of_getElem? hx)
    have b2 := hbd _ (List.mem_of_getElem? he)
    have W1 := Aside0.mk (show wrap64 ((n : Int) - 1) = ((n - 1 : Nat) : Int) from by rw [w64 (by omega)]; omega)
    have W2 := Aside0.mk (show wrap64 (E.f0 + E.f1) = E.f0 + E.f1 from w64 (by omega))
    have W3 := Aside0.mk (show wrap64 (X.f0 - (E.f0 + E.f1)) = X.f0 - (E.f0 + E.f1) from w64 (by omega))
    have W4 := Aside0.mk (show wrap64 (2 * (ctx : Int)) = 2 * (ctx : Int) from w64 (by omega))
    have W5 := Aside0.mk (show wrap64 ((n : Int) + 1) = ((n + 1 : Nat) : Int) from by rw [w64 (by omega)]; omega)
    by_cases hg : X.f0 - (E.f0 + E.f1) ≤ 2 * (ctx : Int)
    · obtain ⟨n', a1, a2, a3, a4⟩ := ih (n + 1) (by omega) (by omega) (by omega)
      refine ⟨n', by omega, a2, a3, fun r hr => Ev.step (fun k => ?_) (a4 r hr)⟩
      simp only [hunks_Make.l1]
      rw [if_pos (by omega), if_pos (by omega), W1.out, if_pos (by omega), if_pos (by omega), rd78 hx, rd78 he, W2.out, W3.out, W4.out, if_pos hg, W5.out]
    · refine ⟨n, Nat.le_refl _, h2, fun x e hx' he' => ?_, fun r hr => Ev.step (fun k => ?_) hr⟩
      · rw [hx] at hx'
        rw [he] at he'
        obtain rfl := Option.some.inj hx'
        obtain rfl := Option.some.inj he'
        omega
      · simp only [hunks_Make.l1]
        rw [if_pos (by omega), if_pos (by omega), W1.out, if_pos (by omega), if_pos (by omega), rd78 hx, rd78 he, W2.out, W3.out, W4.out, if_neg hg, if_pos (by omega), Int.toNat_natCast]
theorem make_l0 (A B : List ByteArray) (hA : smalls A) (hB : smalls B) (ctx : Nat) (hctx : ctx ≤ 16) : ∀ (N : Nat) (L : List S78) (i k : Nat) (out : List S26), L.length = N → i ≤ A.length → k ≤ B.length → Scr A B i k L → ((i = 0 ∧ k = 0) ∨ ∀ c t, L = c :: t → (ctx : Int) + i ≤ c.f0) → out.length + L.length ≤ 100000000 →
    ∃ hs, Ev (fun r => hunks_Make.l0 r ctx A B out L) (out ++ hs, 0) ∧ Hks A B i k hs ∧ hs.length ≤ L.length ∧ (hs = [] → L = []) := by
  intro N
  induction N using Nat.strongRecOn with
  | ind N ih =>
    intro L i k out hN hi hk hS hf ho
    cases L with
    | nil =>
      refine ⟨[], Ev.step (f := fun _ => some (out, 0)) (fun r => ?_) (by simpa using Ev.now _), ?_, by simp, fun _ => rfl⟩
      · simp only [hunks_Make.l0]
        rw [if_neg (by simp)]
      · cases hS with
        | done h => exact .done h
    | cons c t =>
      have hbd := scr_bound hA hB hS
      have hsl := scr_len hS hi hk
      have a1 := hA.1
      have a2 := hB.1
      obtain ⟨n', b1, b2, b3, b4⟩ := make_l1 A B hA hB ctx hctx out (c :: t) (by omega) hbd _ 1 (Nat.le_refl _) (by simp) rfl
      obtain ⟨m0, rfl⟩ : ∃ m0, n' = m0 + 1 := ⟨n' - 1, by omega⟩
      have hsplit : c :: t.take m0 ++ t.drop m0 = c :: t := by rw [List.cons_append, List.take_append_drop]
      have hlast : (c :: t.take m0).getLast? = (c :: t)[m0]? := by
        rw [List.getLast?_eq_getElem?]
        simp only [List.length_cons] at b2
        have : (c :: t.take m0).length - 1 = m0 := by simp; omega
        rw [this, ← List.take_succ_cons, List.getElem?_take, if_pos (by omega)]
      obtain ⟨m, ls, d1, d2, d3, d4, d5, d6⟩ := hunk_ev A B hA hB ctx (by omega) c (t.take m0) (t.drop m0) i k hi hk (by rw [hsplit]; exact hS) (hf.imp id (fun h => h c t rfl)) (by simp only [List.length_cons, List.length_take] at hsl ⊢; omega) (fun d L'' hd e he => by
        refine b3 d e ?_ ?_
        · have : (t.drop m0)[0]? = some d := by rw [hd]; rfl
          rw [List.getElem?_drop] at this
          simpa using this
        · rw [hlast] at he
          exact he)
      have hdl : (t.drop m0).length < N := by rw [← hN, List.length_drop, List.length_cons]; omega
      obtain ⟨hs, e1, e2, e3, e4⟩ := ih _ hdl (t.drop m0) (i + m + (olds ls).length) (k + m + (news ls).length) (out ++ [(⟨((i + m : Nat) : Int), ((olds ls).length : Nat), ((k + m : Nat) : Int), ((news ls).length : Nat), ls.map mkL⟩ : S26)]) rfl d2.lo d2.ln d3 (.inr fun c' t' h' => d4 c' t' h') (by
        rw [List.length_append, List.length_singleton, List.length_drop]
        simp only [List.length_cons] at ho b2
        omega)
      refine ⟨_ :: hs, ?_, .step (h := ⟨((i + m : Nat) : Int), ((olds ls).length : Nat), ((k + m : Nat) : Int), ((news ls).length : Nat), ls.map mkL⟩) m ls d1 d2 rfl e2, ?_, by simp⟩
      · refine Ev.step (f := fun r => hunks_Make.l1 r ctx A B out (c :: t) 1) (fun r => ?_) (b4 _ ?_)
        · simp only [hunks_Make.l0]
          rw [if_pos (by simp only [List.length_cons]; omega)]
        · rw [List.take_succ_cons, List.drop_succ_cons]
          refine Ev.bind d6 ?_
          refine Ev.congr (f := fun r => hunks_Make.l0 r ctx A B (out ++ [(⟨((i + m : Nat) : Int), ((olds ls).length : Nat), ((k + m : Nat) : Int), ((news ls).length : Nat), ls.map mkL⟩ : S26)]) (t.drop m0)) (fun r => ?_) (by rw [List.append_assoc] at e1; exact e1)
          rw [if_pos (by simp only [List.length_cons] at ho; omega)]
      · simp only [List.length_cons, List.length_drop] at e3 b2 ⊢
        omega
/-- Hunks of two texts. -/
theorem make_ev (ta tb : List Int) (ha : ta.length ≤ 100000) (hb : tb.length ≤ 100000) (ctx : Nat) (hctx : ctx ≤ 16) :
    ∃ hs, Ev (fun r => hunks_Make.f r ta tb ctx) (hs, 0) ∧ Hks (lSplit.f ta) (lSplit.f tb) 0 0 hs ∧ hs.length ≤ ta.length + tb.length + 2 := by
  have hA : smalls (lSplit.f ta) := ⟨by have := split_len ta; omega, fun x hx => by have := split_size hx; omega⟩
  have hB : smalls (lSplit.f tb) := ⟨by have := split_len tb; omega, fun x hx => by have := split_size hx; omega⟩
  have hS := scr_of (lSplit.f ta) (lSplit.f tb)
  have hl := scr_len hS (by omega) (by omega)
  have l1 := split_len ta
  have l2 := split_len tb
  obtain ⟨hs, h1, h2, h3, _⟩ := make_l0 _ _ hA hB ctx hctx _ (chg.f (lSplit.f ta) (lSplit.f tb)) 0 0 [] rfl (by omega) (by omega) hS (.inl ⟨rfl, rfl⟩) (by simp; omega)
  refine ⟨hs, ?_, h2, by omega⟩
  refine Ev.congr (f := fun r => hunks_Make.j0 r ta tb ctx (decide ((ctx : Int) > 16))) (fun r => by unfold hunks_Make.f; rw [if_neg (by omega)]) ?_
  refine Ev.step (f := fun r => hunks_Make.l0 r ctx (lSplit.f ta) (lSplit.f tb) [] (chg.f (lSplit.f ta) (lSplit.f tb))) (fun r => ?_) (by simpa using h1)
  simp only [hunks_Make.j0]
  rw [if_neg (by simp; omega)]
  unfold lines_Split.f hunks_Changes.f
  rw [if_pos (by omega), if_pos (by omega), Option.bind_some, Option.bind_some, if_pos (by omega), Option.bind_some]
end Go.Proofs.YthkcghiagnddiaaDoor.Pure
