import Derived.Test.YthkcghiagnddiaaDoorOpen
import Derived.OpenShut
import Derived.Test.YthkcghiagnddiaaDoorX0
namespace Go.Proofs.YthkcghiagnddiaaDoor.Open
open Go Go.ChangeShapes Go.WideShapes Go.RowKit Go.Proofs.YthkcghiagnddiaaDoorW.PrintWords Go.Proofs.YthkcghiagnddiaaDoor.X

def okLine (x : S42) : Prop := 0 ≤ x.f0 ∧ x.f0 ≤ 255
def wLine (x : S42) : Nat := x.f1.size + 4
theorem wf_u8 {n : Int} (h : (Lit.int .u8 n).wf = true) : 0 ≤ n ∧ n ≤ 255 := bounds_u8 h
theorem wf_i64 {n : Int} (h : (Lit.int .i64 n).wf = true) : -9223372036854775808 ≤ n ∧ n ≤ 9223372036854775807 := bounds_i64 h
theorem take_drop1 {cs : List Value} {i : Nat} {v : Value} (h : (cs.drop i).take 1 = [v]) : cs[i]? = some v := by
  have := congrArg (fun l => l[0]?) h
  simpa [List.getElem?_take, List.getElem?_drop] using this
theorem take_dropc {cs : List Value} {i t : Nat} {v : Value} (hc : Tryd.prog.cellsOf t = 1) (h : (cs.drop i).take (Tryd.prog.cellsOf t) = [v]) : cs[i]? = some v := take_drop1 (by rw [hc] at h; exact h)
theorem list3 {cs : List Value} {a b c : Value} (hl : cs.length = 3) (e0 : cs[0]? = some a) (e1 : cs[1]? = some b) (e2 : cs[2]? = some c) : cs = [a, b, c] := by
  match cs, hl with
  | [x, y, z], _ => simp at e0 e1 e2; rw [e0, e1, e2]
theorem list5 {cs : List Value} {a b c d e : Value} (hl : cs.length = 5) (e0 : cs[0]? = some a) (e1 : cs[1]? = some b) (e2 : cs[2]? = some c) (e3 : cs[3]? = some d) (e4 : cs[4]? = some e) : cs = [a, b, c, d, e] := by
  match cs, hl with
  | [x, y, z, u, v], _ => simp at e0 e1 e2 e3 e4; rw [e0, e1, e2, e3, e4]
theorem opens_line : Opens 42 k42 okLine wLine := by
  intro H enc w spare fuel cs x h
  obtain ⟨y0, y1, y2, n, rfl, hl, h0, h1, h2⟩ := Deep.trod_struct3 Tryd.underlying42 h
  have c5 : Tryd.prog.cellsOf 5 = 1 := by kernel_rfl
  have c9 : Tryd.prog.cellsOf 9 = 1 := by kernel_rfl
  have c4 : Tryd.prog.cellsOf 4 = 1 := by kernel_rfl
  have c42 : Tryd.prog.cellsOf 42 = 3 := by kernel_rfl
  obtain ⟨s, e0, rfl, w0⟩ := DataW.trod_int Tryd.underlying5 h0
  obtain ⟨t, e1, rfl, _⟩ := DataW.trod_string Tryd.underlying9 h1
  obtain ⟨b, e2, rfl⟩ := DataW.trod_bool Tryd.underlying4 h2
  obtain rfl : cs = [.int .u8 s, .string t, .bool b] := list3 (hl.trans c42) (take_dropc c5 e0) (take_dropc c9 e1) (take_dropc c4 e2)
  refine ⟨⟨s, t, b⟩, k42_mk w ⟨s, t, b⟩, wf_u8 w0, ?_⟩
  have et : t.data.toList.length = t.size := by rw [Array.length_toList]; rfl
  simp [Rows.uptoBulk, Rows.uptoBulkAll, wLine]
  omega

def okHunk (x : S26) : Prop := (-9223372036854775808 ≤ x.f0 ∧ x.f0 ≤ 9223372036854775807) ∧ (-9223372036854775808 ≤ x.f1 ∧ x.f1 ≤ 9223372036854775807) ∧ (-9223372036854775808 ≤ x.f2 ∧ x.f2 ≤ 9223372036854775807) ∧ (-9223372036854775808 ≤ x.f3 ∧ x.f3 ≤ 9223372036854775807) ∧ ∀ y ∈ x.f4, okLine y
def wHunk (x : S26) : Nat := (x.f4.map wLine).sum + 6
theorem opens_lines : Opens 24 (Kd.slice 42 k42) (fun xs => xs.length ≤ maxLen ∧ ∀ x ∈ xs, okLine x) (fun xs => (xs.map wLine).sum + 1) := opens_slice Tryd.underlying24 (by kernel_rfl) opens_line
theorem opens_hunk : Opens 26 k26 okHunk wHunk := by
  intro H enc w spare fuel cs x h
  obtain ⟨xs, n, _, rfl, hl, hlen, hf⟩ := DataW.trod_struct Tryd.underlying26 h
  have c3 : Tryd.prog.cellsOf 3 = 1 := by kernel_rfl
  have c24 : Tryd.prog.cellsOf 24 = 1 := by kernel_rfl
  have c26 : Tryd.prog.cellsOf 26 = 5 := by kernel_rfl
  match xs, hlen with
  | [y0, y1, y2, y3, y4], _ =>
  have h0 := hf 0 _ rfl
  have h1 := hf 1 _ rfl
  have h2 := hf 2 _ rfl
  have h3 := hf 3 _ rfl
  have h4 := hf 4 _ rfl
  clear hf h
  obtain ⟨a0, e0, rfl, w0⟩ := DataW.trod_int Tryd.underlying3 h0
  obtain ⟨a1, e1, rfl, w1⟩ := DataW.trod_int Tryd.underlying3 h1
  obtain ⟨a2, e2, rfl, w2⟩ := DataW.trod_int Tryd.underlying3 h2
  obtain ⟨a3, e3, rfl, w3⟩ := DataW.trod_int Tryd.underlying3 h3
  obtain ⟨ls, ⟨A, c, e4, hc, hC⟩, ⟨_, hq⟩, hw⟩ := opens_lines enc w spare n _ y4 h4
  obtain rfl : cs = [.int .i64 a0, .int .i64 a1, .int .i64 a2, .int .i64 a3, .slice A ls.length c] := list5 (hl.trans c26) (take_dropc c3 e0) (take_dropc c3 e1) (take_dropc c3 e2) (take_dropc c3 e3) (take_dropc c24 e4)
  refine ⟨⟨a0, a1, a2, a3, ls⟩, k26_mk w ⟨a0, a1, a2, a3, ls⟩ hc hC, ⟨wf_i64 w0, wf_i64 w1, wf_i64 w2, wf_i64 w3, hq⟩, ?_⟩
  have hw' : (ls.map wLine).sum + 1 ≤ Rows.uptoBulk y4.1 := hw
  simp only [List.map_cons, List.map_nil, Rows.uptoBulk, Rows.uptoBulkAll, wHunk]
  omega
theorem opens_hunks : Opens 22 (Kd.slice 26 k26) (fun xs => xs.length ≤ maxLen ∧ ∀ x ∈ xs, okHunk x) (fun xs => (xs.map wHunk).sum + 1) := opens_slice Tryd.underlying22 (by kernel_rfl) opens_hunk
end Go.Proofs.YthkcghiagnddiaaDoor.Open
