/- For every two lists of bytes, two bools and two bytes ShowRefuses returns true and leaves its arguments as they were; the listed tables hold what the program's text lays. -/
import Derived.Test.YthkcghiagnddiaaDoorCards
import Derived.Test.YthkcghiagnddiaaDoorTie
import Derived.Test.YthkcghiagnddiaaDoorShowRefusesWalk
import Derived.Test.YthkcghiagnddiaaDoorPureShowRefuses
import Derived.Test.YthkcghiagnddiaaDoorOpen
import Derived.WalkKit
import Derived.ProofKit
import Derived.OpenShut
import Derived.ShutString
import Derived.Deep.DeepHandedRow
import Derived.SizedLaws
namespace Go.Proofs.YthkcghiagnddiaaDoor.showRefuses
open Go Go.ChangeShapes Go.WideShapes Go.ChangeAt Go.RowKit
open Go.ChangeMaps (open_string shut_string)
set_option linter.unusedVariables false

theorem own : ownKnob Tryd.prog.godebug = none := by kernel_rfl
theorem laidOut : laidOutB Tryd.prog = true := by kernel_rfl

set_option maxRecDepth 100000 in
theorem contract (H : Type) (enc : TypeId × Value → H) (W : World) (base : Nat) (args : Array Value) (ds gs : List (DataW H)) (before : List MemPlace)
    (hval0 : ∀ (j : Nat) t v, Tryd.f5.params[j]? = some t → args[j]? = some v → Value.okWide Tryd.prog W .any base t v)
    (hW : DataW.Whole enc Tryd.prog Tryd.f5.params.toList Rows.showRefusesSpec.vars false W args.toList ds gs before)
    (hL : laidMetH Tryd.prog Rows.showRefusesRow.laid W) :
    Calls Tryd.prog 5 args W fun e W' => ∃ v, e = .returned v ∧ Rows.showRefusesSpec.post enc Tryd.prog Tryd.f5 false true false false W args v W' := by
  have hval : ∀ (j : Nat) t v, Tryd.f5.params[j]? = some t → args[j]? = some v → Value.okWide Tryd.prog W .any base t v := hval0
  have hW' := hW
  obtain ⟨p, q, hA0, hV, rfl, hfz, hnd⟩ := hW
  have hA : DataW.TrodAll enc Tryd.prog W 0 (fun _ => true) true Tryd.f5.params.toList args.toList ds p := hA0
  rw [Tryd.params5] at hA hval
  obtain ⟨v0, vs0, d0, ds0, p0, q0, hargs, rfl, rfl, h0, r0⟩ := trodAll_cons hA
  obtain ⟨v1, vs1, d1, ds1, p1, q1, rfl, rfl, rfl, h1, r1⟩ := trodAll_cons r0
  obtain ⟨v2, vs2, d2, ds2, p2, q2, rfl, rfl, rfl, h2, r2⟩ := trodAll_cons r1
  obtain ⟨v3, vs3, d3, ds3, p3, q3, rfl, rfl, rfl, h3, r3⟩ := trodAll_cons r2
  obtain ⟨v4, vs4, d4, ds4, p4, q4, rfl, rfl, rfl, h4, r4⟩ := trodAll_cons r3
  obtain ⟨v5, vs5, d5, ds5, p5, q5, rfl, rfl, rfl, h5, r5⟩ := trodAll_cons r4
  obtain ⟨rfl, rfl, rfl⟩ := trodAll_nil r5
  obtain rfl : args = #[v0, v1, v2, v3, v4, v5] := by cases args; simp_all
  obtain ⟨rfl, rfl⟩ := trodVars_none hV
  obtain ⟨A0, len0, c0, rfl⟩ := okWide_slice Tryd.underlying34 (hval 0 34 v0 rfl rfl)
  have k0 := h0
  have lt0 : ∀ x ∈ p0, x.block < W.heap.size := by
    obtain ⟨m, hm⟩ := k0
    exact DataW.trod_lt m _ _ _ hm
  obtain ⟨l0, ⟨A, c, hcs, hc0, hC0⟩, hl0, hb0⟩ : ∃ l0 : List Int, (YthkcghiagnddiaaDoorW.PrintWords.Kd.slice 5 (YthkcghiagnddiaaDoorW.PrintWords.Kd.int .u8)).K W l0 [.slice A0 len0 c0] ∧ (l0.length : Int) ≤ 9223372036854775807 ∧ ∀ x ∈ l0, 0 ≤ x ∧ x ≤ 255 := by
    obtain ⟨fuel, hf⟩ := h0
    exact Open.opens_bytes enc W _ fuel _ (d0, p0) hf
  simp only [List.cons.injEq, Value.slice.injEq, and_true] at hcs
  obtain ⟨rfl, rfl, rfl⟩ := hcs
  obtain ⟨A1, len1, c1, rfl⟩ := okWide_slice Tryd.underlying34 (hval 1 34 v1 rfl rfl)
  have k1 := h1
  have lt1 : ∀ x ∈ p1, x.block < W.heap.size := by
    obtain ⟨m, hm⟩ := k1
    exact DataW.trod_lt m _ _ _ hm
  obtain ⟨l1, ⟨A, c, hcs, hc1, hC1⟩, hl1, hb1⟩ : ∃ l1 : List Int, (YthkcghiagnddiaaDoorW.PrintWords.Kd.slice 5 (YthkcghiagnddiaaDoorW.PrintWords.Kd.int .u8)).K W l1 [.slice A1 len1 c1] ∧ (l1.length : Int) ≤ 9223372036854775807 ∧ ∀ x ∈ l1, 0 ≤ x ∧ x ≤ 255 := by
    obtain ⟨fuel, hf⟩ := h1
    exact Open.opens_bytes enc W _ fuel _ (d1, p1) hf
  simp only [List.cons.injEq, Value.slice.injEq, and_true] at hcs
  obtain ⟨rfl, rfl, rfl⟩ := hcs
  obtain ⟨a2, rfl, rfl, rfl⟩ := open_bool Tryd.underlying4 (hval 2 4 v2 rfl rfl) h2
  obtain ⟨a3, rfl, rfl, rfl⟩ := open_bool Tryd.underlying4 (hval 3 4 v3 rfl rfl) h3
  obtain ⟨a4, rfl, rfl, rfl, y4⟩ := open_int Tryd.underlying5 (hval 4 5 v4 rfl rfl) h4
  have z4 := Open.wf_u8 y4
  obtain ⟨a5, rfl, rfl, rfl, y5⟩ := open_int Tryd.underlying5 (hval 5 5 v5 rfl rfl) h5
  have z5 := Open.wf_u8 y5
  clear hA0 hval0
  obtain ⟨k, ta, tb, l, e1, e2, e3, e4, e5⟩ := Pure.refuses l0 l1 a2 a3 a4 a5 hl0 hl1 hb0 hb1 z4 z5
  have hcall := X.showRefuses_walk k A0 c0 l0 A1 c1 l1 a2 a3 a4 a5 W hC0 hc0 hC1 hc1 z4.1 z4.2 z5.1 z5.2 (Laid.pow_of (List.mem_filter.2 ⟨.tail _ (.tail _ (.head _)), rfl⟩) hL) ta tb l e1 e2 e3 e4 Pure.awake20' e5
  refine hcall.mono fun e W' ⟨he, bel⟩ => ?_
  subst he
  exact ⟨_, rfl, _, _, _, [], _, [], hW', trodAll_mk1 (shut_bool Tryd.underlying4 _), trodAll_cons_mk (Below.trod laidOut (by kernel_rfl) (of_decide_eq_true (by kernel_rfl)) k0 bel lt0) (trodAll_cons_mk (Below.trod laidOut (by kernel_rfl) (of_decide_eq_true (by kernel_rfl)) k1 bel lt1) (trodAll_cons_mk (shut_bool Tryd.underlying4 _) (trodAll_cons_mk (shut_bool Tryd.underlying4 _) (trodAll_cons_mk (shut_int Tryd.underlying5 y4) (trodAll_cons_mk (shut_int Tryd.underlying5 y5) (trodAll_mk0)))))), rfl, bel.frame _, fun h => by cases h⟩

/-- A world for the witness: the settled one, the listed tables holding what their initialisers lay. -/
noncomputable def laidWorld (os : Os) : World :=
  Laid.lay (Laid.lay (Laid.lay (World.holding Tryd.prog os ⟨#[], #[], []⟩) 2 (Laid.cellsV Rows.laid_internal_strconv_uint64pow10)) 7 (Laid.cellsV Rows.laid_math_bits_deBruijn32tab)) 8 (Laid.cellsV Rows.laid_math_bits_deBruijn64tab)
noncomputable abbrev zeros : Array Value := #[.slice none 0 0, .slice none 0 0, .bool false, .bool false, .int .u8 0, .int .u8 0]
theorem laid_met (os : Os) : laidMetH Tryd.prog Rows.showRefusesRow.laid ((laidWorld os).forCall (fun _ _ => 0) ⟨#[], zeros, []⟩).memory :=
  laidMetH_of_parts (laidMet_of_run' 8 (by kernel_rfl) (by kernel_rfl)) (by kernel_rfl)
theorem reads (os : Os) {H : Type} (enc : TypeId × Value → H) : ∃ places, DataW.whole enc Tryd.prog ((laidWorld os).forCall (fun _ _ => 0) ⟨#[], zeros, []⟩).memory Tryd.f5.params.toList Rows.showRefusesSpec.vars false zeros.toList 8 = some ([.nil, .nil, .lit (.bool false), .lit (.bool false), .lit (.int .u8 0), .lit (.int .u8 0)], [], places) :=
  ⟨[], by kernel_rfl⟩

set_option maxRecDepth 100000 in
theorem lifted (os : Os) (started : os.Started) (H : Type) (enc : TypeId × Value → H) (F : Stop.Interp) :
    ReturnsInHanded {} Tryd.checked os 5 .any ((OpenSpec.ofChange Rows.showRefusesSpec).preRow enc Tryd.prog Tryd.f5 Rows.showRefusesRow.domain false Rows.showRefusesRow.laid) (((OpenSpec.ofChange Rows.showRefusesSpec).at F).post enc Tryd.prog Tryd.f5 false true false false) := by
  obtain ⟨places, hx⟩ := reads os enc
  refine returnsInHanded_of_row (C := Tryd.checked) (s := OpenSpec.ofChange Rows.showRefusesSpec) own started (by kernel_rfl) Tryd.func5
    (witness_row_at (enc := enc) (C := Tryd.checked) false (laidWorld os) zeros rfl (by kernel_rfl) (by kernel_rfl) (by kernel_rfl)
      (OpenSpec.preRow_of_cond 8 hx (by kernel_rfl) (fun k hk => by cases hk) (by kernel_rfl) (laid_met os))) ?_
  intro W base args ds gs before hval hW _ hcond _ hL _ _
  exact contract H enc W base args ds gs before hval hW hL

theorem said : Rows.ShowRefusesSaid :=
  OpenClaim.holds_of_cond 5 Tryd.f5 rfl rfl rfl rfl rfl rfl rfl ⟨rfl, rfl, rfl, rfl, rfl⟩ rfl rfl rfl rfl rfl (by kernel_rfl) Tryd.func5 (by kernel_rfl)
    (of_decide_eq_true (by kernel_rfl)) (by unfold Func.isWrapper; first | (rw [if_pos (by decide +kernel)]; kernel_rfl) | (rw [if_neg (by decide +kernel)]; exact ⟨rfl, rfl⟩))
    (fun os started H enc _ F => by rw [OpenClaim.pre_eq_preRow]; exact lifted os started H enc F)

set_option maxRecDepth 100000 in
/-- No parameter wants a stand-in; the program's own looks are off. -/
theorem plain (f : FuncId) (fn : Func) (hf : Tryd.pinned.checked.prog.funcNamed "redpen/redpenlaw20.ShowRefuses" = some f) (hfn : Tryd.pinned.checked.prog.funcs[f]? = some fn) :
    Rows.showRefusesCard.stood.looks = Tryd.pinned.checked.prog.looks [] ∧ ∀ (j : Nat) t, fn.params[j]? = some t → Tryd.pinned.checked.prog.wantsStandIn t = false := by
  obtain rfl : f = 5 := Option.some.inj ((show Tryd.prog.funcNamed "redpen/redpenlaw20.ShowRefuses" = some 5 by kernel_rfl).symm.trans hf) |>.symm
  obtain rfl : fn = Tryd.f5 := (Option.some.inj (Tryd.func5.symm.trans hfn)).symm
  refine ⟨by kernel_rfl, fun j t ht => ?_⟩
  rw [Tryd.params5] at ht
  have hm := Array.mem_of_getElem? ht
  have key : ∀ t ∈ [34, 34, 4, 4, 5, 5], Tryd.prog.wantsStandIn t = false := by
    intro t ht
    simp only [List.mem_cons, List.not_mem_nil, or_false] at ht
    rcases ht with rfl | rfl | rfl | rfl | rfl | rfl <;> kernel_rfl
  exact key t (by simpa using hm)

theorem card : Rows.ShowRefusesCardSaid :=
  Claim7.holds_tied_plain_at .later [] _ _ _ _ said (fun _ h => by cases h) (by kernel_rfl) (fun _ h => by cases h) showRefuses_row_tie rfl ⟨rfl, rfl⟩ (by kernel_rfl) rfl plain (by kernel_rfl)
end Go.Proofs.YthkcghiagnddiaaDoor.showRefuses
namespace Go.Proofs.YthkcghiagnddiaaDoor
/-- The card, under a short name, for the claim. -/
theorem showRefuses_holds : Rows.ShowRefusesCardSaid := showRefuses.card
#print axioms showRefuses_holds
end Go.Proofs.YthkcghiagnddiaaDoor
