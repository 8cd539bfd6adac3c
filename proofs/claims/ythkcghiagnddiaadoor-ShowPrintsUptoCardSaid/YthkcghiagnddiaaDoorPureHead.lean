import Derived.Test.YthkcghiagnddiaaDoorPureRefCheck
import Derived.Lib.ItoaLen
namespace Go.Proofs.YthkcghiagnddiaaDoor.Pure
open Go Go.RowKit X Go.Proofs.YthkcghiagnddiaaDoorW.PrintWords Go.Proofs.YthkcghiagnddiaaDoorW.PrintLast

theorem bext {a b : ByteArray} (h : a.data.toList = b.data.toList) : a = b := by
  cases a
  cases b
  simp at h
  rw [h]
theorem cat (a b : ByteArray) : (a ++ b).data.toList = a.data.toList ++ b.data.toList := by simp
theorem cat_size (a b : ByteArray) : (a ++ b).size = a.size + b.size := by simp
/-- A number's text. -/
def dec (n : Int) : ByteArray := ⟨(Lib.itoa n).toArray⟩
theorem dec_size (n : Int) (h0 : -9223372036854775808 ≤ n) (h1 : n ≤ 9223372036854775807) : (dec n).size ≤ 21 := by
  have := Lib.itoa_length_le n h0 h1
  unfold dec
  show (Lib.itoa n).toArray.size ≤ 21
  simpa using this
theorem itoa_ev (n : Int) (h0 : -9223372036854775808 ≤ n) (h1 : n ≤ 9223372036854775807) : strconv_Itoa.f n = some (dec n) := by
  unfold strconv_Itoa.f
  rw [if_pos ⟨h0, h1⟩]
  rfl
theorem refitoa_nat (u : Nat) : (u : Int) ≤ 9223372036854775807 → Ev (fun k => redpenref18_Itoa.f k (u : Int)) (dec u) := by
  induction u using Nat.strongRecOn with
  | _ u ih =>
    intro hu
    have hm : Int.tmod (u : Int) 10 = ((u % 10 : Nat) : Int) := by
      rw [Int.tmod_eq_emod_of_nonneg (by omega)]
      omega
    have hdv : Int.tdiv (u : Int) 10 = ((u / 10 : Nat) : Int) := by
      rw [Int.tdiv_eq_ediv_of_nonneg (by omega)]
      omega
    have hy : strOfNums [(wrap64 (48 + (Int.tmod (u : Int) 10))) % 256] = (⟨#[UInt8.ofNat (48 + u % 10)]⟩ : ByteArray) := by
      rw [hm, wrap_of (by omega) (by omega)]
      unfold strOfNums
      have : ((48 + ((u % 10 : Nat) : Int)) % 256).toNat = 48 + u % 10 := by omega
      simp only [List.map_cons, List.map_nil, this]
    by_cases h9 : u < 10
    · refine Ev.step (f := fun _ => some (dec u)) (fun k => ?_) (Ev.now _)
      simp only [redpenref18_Itoa.f, Option.bind_some]
      rw [if_neg (by omega), if_neg (by omega), hy]
      unfold dec
      rw [Lib.itoa_nonneg, Lib.decDigits_one h9, Nat.mod_eq_of_lt h9]
    · have hr := ih (u / 10) (by omega) (by omega)
      have hsz := dec_size ((u / 10 : Nat) : Int) (by omega) (by omega)
      refine Ev.step (f := fun k => (redpenref18_Itoa.f k ((u / 10 : Nat) : Int)).bind fun t => if t.size + (⟨#[UInt8.ofNat (48 + u % 10)]⟩ : ByteArray).size ≤ 9223372036854775807 then some (t ++ (⟨#[UInt8.ofNat (48 + u % 10)]⟩ : ByteArray)) else none) (fun k => ?_) (Ev.bind hr ?_)
      · simp only [redpenref18_Itoa.f, Option.bind_some]
        rw [if_neg (by omega), if_pos (by omega), hdv, wrap_of (by omega) (by omega), hy]
      · have h1 : (⟨#[UInt8.ofNat (48 + u % 10)]⟩ : ByteArray).size = 1 := rfl
        refine Ev.congr (f := fun _ => some (dec u)) (fun k => ?_) (Ev.now _)
        rw [if_pos (by omega)]
        congr 1
        apply bext
        rw [cat]
        unfold dec
        rw [Lib.itoa_nonneg, Lib.itoa_nonneg, Lib.decDigits.eq_1 u, dif_neg h9]
theorem refitoa_ev (n : Int) (h0 : 0 ≤ n) (h1 : n ≤ 9223372036854775807) : Ev (fun k => redpenref18_Itoa.f k n) (dec n) := by
  obtain ⟨u, rfl⟩ : ∃ u : Nat, n = u := ⟨n.toNat, by omega⟩
  exact refitoa_nat u h1

/-- One side of a hunk's first line. -/
def sideT (a b : Int) : List UInt8 := (dec (if b > 0 then a + 1 else a)).data.toList ++ 44 :: (dec b).data.toList
def headT (a b c d : Int) : List UInt8 := [64, 64, 32, 45] ++ sideT a b ++ [32, 43] ++ sideT c d ++ [32, 64, 64, 10]
theorem side_len (a b : Int) (ha : 0 ≤ a ∧ a ≤ 9223372036854775000) (hb : 0 ≤ b ∧ b ≤ 9223372036854775000) : (sideT a b).length ≤ 43 := by
  unfold sideT
  have h1 := dec_size (if b > 0 then a + 1 else a) (by split <;> omega) (by split <;> omega)
  have h2 := dec_size b (by omega) (by omega)
  rw [List.length_append, List.length_cons, list_size, list_size]
  omega
theorem side_ev (s : ByteArray) (hs : s.size ≤ 1000) (a b : Int) (ha : 0 ≤ a ∧ a ≤ 9223372036854775000) (hb : 0 ≤ b ∧ b ≤ 9223372036854775000) : ∃ r, show_side.f s a b = some r ∧ r.data.toList = s.data.toList ++ sideT a b := by
  have hc : (⟨#[44]⟩ : ByteArray).size = 1 := rfl
  have h2 := dec_size b (by omega) (by omega)
  unfold show_side.f sideT
  by_cases hp : b > 0
  · have h1 := dec_size (a + 1) (by omega) (by omega)
    rw [if_pos hp, if_pos hp, wrap_of (by omega) (by omega), itoa_ev _ (by omega) (by omega), Option.bind_some, if_pos (by omega), if_pos (by rw [cat_size]; omega), itoa_ev _ (by omega) (by omega), Option.bind_some, if_pos (by rw [cat_size, cat_size]; omega)]
    exact ⟨_, rfl, by simp only [cat, List.append_assoc]; rfl⟩
  · have h1 := dec_size a (by omega) (by omega)
    rw [if_neg hp, if_neg hp, itoa_ev _ (by omega) (by omega), Option.bind_some, if_pos (by omega), if_pos (by rw [cat_size]; omega), itoa_ev _ (by omega) (by omega), Option.bind_some, if_pos (by rw [cat_size, cat_size]; omega)]
    exact ⟨_, rfl, by simp only [cat, List.append_assoc]; rfl⟩
theorem head_ev (a b c d : Int) (l : List S42) (ha : 0 ≤ a ∧ a ≤ 9223372036854775000) (hb : 0 ≤ b ∧ b ≤ 9223372036854775000) (hc : 0 ≤ c ∧ c ≤ 9223372036854775000) (hd : 0 ≤ d ∧ d ≤ 9223372036854775000) :
    ∃ r, show_Head.f a b c d l = some r ∧ r.data.toList = headT a b c d := by
  obtain ⟨r1, e1, d1⟩ := side_ev ⟨#[45]⟩ (by decide) a b ha hb
  obtain ⟨r2, e2, d2⟩ := side_ev ⟨#[43]⟩ (by decide) c d hc hd
  have l1 : r1.size ≤ 44 := by
    rw [← list_size, d1, List.length_append]
    have := side_len a b ha hb
    have h : (⟨#[45]⟩ : ByteArray).data.toList.length = 1 := rfl
    omega
  have l2 : r2.size ≤ 44 := by
    rw [← list_size, d2, List.length_append]
    have := side_len c d hc hd
    have h : (⟨#[43]⟩ : ByteArray).data.toList.length = 1 := rfl
    omega
  have h3 : (⟨#[64, 64, 32]⟩ : ByteArray).size = 3 := rfl
  have h4 : (⟨#[32]⟩ : ByteArray).size = 1 := rfl
  unfold show_Head.f
  rw [e1, Option.bind_some, if_pos (by omega), if_pos (by rw [cat_size]; omega), e2, Option.bind_some, if_pos (by rw [cat_size, cat_size]; omega), if_pos (by rw [cat_size, cat_size, cat_size]; omega)]
  refine ⟨_, rfl, ?_⟩
  simp only [cat, d1, d2, headT, List.append_assoc]
  rfl
theorem refside_ev (a b : Int) (ha : 0 ≤ a ∧ a ≤ 9223372036854775000) (hb : 0 ≤ b ∧ b ≤ 9223372036854775000) : ∃ r, Ev (fun k => redpenref18_side.f k a b) r ∧ r.data.toList = sideT a b := by
  have hc : (⟨#[44]⟩ : ByteArray).size = 1 := rfl
  have h2 := dec_size b (by omega) (by omega)
  unfold sideT
  by_cases hp : b > 0
  · have h1 := dec_size (a + 1) (by omega) (by omega)
    rw [if_pos hp]
    refine ⟨dec (a + 1) ++ ⟨#[44]⟩ ++ dec b, ?_, by simp only [cat, List.append_assoc]; rfl⟩
    refine Ev.congr (f := fun k => (redpenref18_Itoa.f k (a + 1)).bind fun t135 => (if t135.size + 1 ≤ 9223372036854775807 then ((redpenref18_Itoa.f k b).bind fun t136 => (if (t135 ++ (⟨#[44]⟩ : ByteArray)).size + t136.size ≤ 9223372036854775807 then (some ((t135 ++ (⟨#[44]⟩ : ByteArray)) ++ t136)) else (none))) else (none))) (fun k => by unfold redpenref18_side.f; rw [if_pos hp, wrap_of (by omega) (by omega)]) ?_
    refine Ev.bind (refitoa_ev _ (by omega) (by omega)) ?_
    refine Ev.congr (fun k => if_pos (by omega)) ?_
    refine Ev.bind (refitoa_ev _ (by omega) (by omega)) ?_
    refine Ev.congr (fun k => if_pos (by rw [cat_size]; omega)) ?_
    exact Ev.now _
  · have h1 := dec_size a (by omega) (by omega)
    rw [if_neg hp]
    refine ⟨dec a ++ ⟨#[44]⟩ ++ dec b, ?_, by simp only [cat, List.append_assoc]; rfl⟩
    refine Ev.congr (f := fun k => (redpenref18_Itoa.f k a).bind fun t135 => (if t135.size + 1 ≤ 9223372036854775807 then ((redpenref18_Itoa.f k b).bind fun t136 => (if (t135 ++ (⟨#[44]⟩ : ByteArray)).size + t136.size ≤ 9223372036854775807 then (some ((t135 ++ (⟨#[44]⟩ : ByteArray)) ++ t136)) else (none))) else (none))) (fun k => by unfold redpenref18_side.f; rw [if_neg hp]) ?_
    refine Ev.bind (refitoa_ev _ (by omega) (by omega)) ?_
    refine Ev.congr (fun k => if_pos (by omega)) ?_
    refine Ev.bind (refitoa_ev _ (by omega) (by omega)) ?_
    refine Ev.congr (fun k => if_pos (by rw [cat_size]; omega)) ?_
    exact Ev.now _
theorem refhead_ev (a b c d : Int) (l : List S42) (ha : 0 ≤ a ∧ a ≤ 9223372036854775000) (hb : 0 ≤ b ∧ b ≤ 9223372036854775000) (hc : 0 ≤ c ∧ c ≤ 9223372036854775000) (hd : 0 ≤ d ∧ d ≤ 9223372036854775000) :
    ∃ r, Ev (fun k => redpenref18_Head.f k a b c d l) r ∧ r.data.toList = headT a b c d := by
  obtain ⟨r1, e1, d1⟩ := refside_ev a b ha hb
  obtain ⟨r2, e2, d2⟩ := refside_ev c d hc hd
  have l1 : r1.size ≤ 43 := by
    rw [← list_size, d1]
    exact side_len a b ha hb
  have l2 : r2.size ≤ 43 := by
    rw [← list_size, d2]
    exact side_len c d hc hd
  have h3 : (⟨#[64, 64, 32, 45]⟩ : ByteArray).size = 4 := rfl
  have h4 : (⟨#[32, 43]⟩ : ByteArray).size = 2 := rfl
  refine ⟨⟨#[64, 64, 32, 45]⟩ ++ r1 ++ ⟨#[32, 43]⟩ ++ r2 ++ ⟨#[32, 64, 64, 10]⟩, ?_, by simp only [cat, d1, d2, headT, List.append_assoc]⟩
  unfold redpenref18_Head.f
  refine Ev.bind e1 ?_
  refine Ev.congr (fun k => if_pos (by omega)) ?_
  refine Ev.congr (fun k => if_pos (by rw [cat_size]; omega)) ?_
  refine Ev.bind e2 ?_
  refine Ev.congr (fun k => if_pos (by rw [cat_size, cat_size]; omega)) ?_
  refine Ev.congr (fun k => if_pos (by rw [cat_size, cat_size, cat_size]; omega)) ?_
  exact Ev.now _
end Go.Proofs.YthkcghiagnddiaaDoor.Pure
