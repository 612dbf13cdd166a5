/- Chapter 30: arguments opened. -/
import Derived.Test.YtaijjmhannhkcaaOpen
import Derived.Test.YtaijjmhannhkcaaHEv
namespace Go.Proofs.Ytaijjmhannhkcaa
open Go.ChangeShapes Go.WideShapes Go.ChangeAt Go.RowKit Go.Deep

section
variable {H : Type} {enc : TypeId × Value → H} {w : World}
theorem struct_at {P : Program} {fs : Array Field} {t : TypeId} (ht : P.underlying t = some (.struct fs)) {n : Nat} {cs : List Value} {y : DataW H × List MemPlace}
    (h : DataW.trod enc P w 0 (fun _ => true) true n t cs = some y) :
    cs.length = P.cellsOf t ∧ ∃ m, ∀ (j : Nat) (fd : Field), fs[j]? = some fd → ∃ z, DataW.trod enc P w 0 (fun _ => true) true m fd.type ((cs.drop fd.offset).take (P.cellsOf fd.type)) = some z := by
  obtain ⟨ys, m, _, _, hl, hyl, hf⟩ := DataW.trod_struct ht h
  refine ⟨hl, m, fun j fd hj => ?_⟩
  have hjl : j < fs.size := (Array.getElem?_eq_some_iff.1 hj).1
  have h1 := hf j fd hj
  rw [show ys[j]? = some (ys[j]'(by omega)) from List.getElem?_eq_getElem (by omega)] at h1
  exact ⟨_, h1⟩

theorem len6_of {l : List Value} (h : l.length = 6) : ∃ a0 a1 a2 a3 a4 a5, l = [a0, a1, a2, a3, a4, a5] := by
  match l, h with
  | [a0, a1, a2, a3, a4, a5], _ => exact ⟨a0, a1, a2, a3, a4, a5, rfl⟩

set_option maxRecDepth 100000 in
theorem size_api_Op : Try.prog.cellsOf 24 = 6 := by kernel_rfl

set_option maxRecDepth 100000 in
theorem size_int : Try.prog.cellsOf 3 = 1 := by kernel_rfl

set_option maxRecDepth 100000 in
theorem size_string : Try.prog.cellsOf 9 = 1 := by kernel_rfl

set_option maxRecDepth 100000 in
theorem elem_op : ∀ n cs' y, DataW.trod enc Try.prog w 0 (fun _ => true) true n 24 cs' = some y → ∃ (x0 : Int) (x1 : Int) (x2 : Int) (x3 : ByteArray) (x4 : ByteArray) (x5 : ByteArray), cs' = [.int .i64 x0, .int .i64 x1, .int .i64 x2, .string x3, .string x4, .string x5] ∧ (Lit.int .i64 x0).wf = true ∧ (Lit.int .i64 x1).wf = true ∧ (Lit.int .i64 x2).wf = true ∧ x3.size ≤ maxLen ∧ x4.size ≤ maxLen ∧ x5.size ≤ maxLen := by
  intro n cs' y h
  obtain ⟨hl, m, hf⟩ := struct_at Try.underlying24 h
  rw [size_api_Op] at hl
  obtain ⟨a0, a1, a2, a3, a4, a5, rfl⟩ := len6_of hl
  obtain ⟨z0, f0⟩ := hf 0 _ rfl
  change DataW.trod enc Try.prog w 0 (fun _ => true) true m 3 (List.take (Try.prog.cellsOf 3) [a0, a1, a2, a3, a4, a5]) = some z0 at f0
  rw [size_int] at f0
  change DataW.trod enc Try.prog w 0 (fun _ => true) true m 3 [a0] = some z0 at f0
  obtain ⟨z1, f1⟩ := hf 1 _ rfl
  change DataW.trod enc Try.prog w 0 (fun _ => true) true m 3 (List.take (Try.prog.cellsOf 3) [a1, a2, a3, a4, a5]) = some z1 at f1
  rw [size_int] at f1
  change DataW.trod enc Try.prog w 0 (fun _ => true) true m 3 [a1] = some z1 at f1
  obtain ⟨z2, f2⟩ := hf 2 _ rfl
  change DataW.trod enc Try.prog w 0 (fun _ => true) true m 3 (List.take (Try.prog.cellsOf 3) [a2, a3, a4, a5]) = some z2 at f2
  rw [size_int] at f2
  change DataW.trod enc Try.prog w 0 (fun _ => true) true m 3 [a2] = some z2 at f2
  obtain ⟨z3, f3⟩ := hf 3 _ rfl
  change DataW.trod enc Try.prog w 0 (fun _ => true) true m 9 (List.take (Try.prog.cellsOf 9) [a3, a4, a5]) = some z3 at f3
  rw [size_string] at f3
  change DataW.trod enc Try.prog w 0 (fun _ => true) true m 9 [a3] = some z3 at f3
  obtain ⟨z4, f4⟩ := hf 4 _ rfl
  change DataW.trod enc Try.prog w 0 (fun _ => true) true m 9 (List.take (Try.prog.cellsOf 9) [a4, a5]) = some z4 at f4
  rw [size_string] at f4
  change DataW.trod enc Try.prog w 0 (fun _ => true) true m 9 [a4] = some z4 at f4
  obtain ⟨z5, f5⟩ := hf 5 _ rfl
  change DataW.trod enc Try.prog w 0 (fun _ => true) true m 9 (List.take (Try.prog.cellsOf 9) [a5]) = some z5 at f5
  rw [size_string] at f5
  change DataW.trod enc Try.prog w 0 (fun _ => true) true m 9 [a5] = some z5 at f5
  obtain ⟨x0, c0, _, q0⟩ := DataW.trod_int Try.underlying3 f0
  injection c0 with c0 _
  subst c0
  obtain ⟨x1, c1, _, q1⟩ := DataW.trod_int Try.underlying3 f1
  injection c1 with c1 _
  subst c1
  obtain ⟨x2, c2, _, q2⟩ := DataW.trod_int Try.underlying3 f2
  injection c2 with c2 _
  subst c2
  obtain ⟨x3, c3, _, q3⟩ := DataW.trod_string Try.underlying9 f3
  injection c3 with c3 _
  subst c3
  obtain ⟨x4, c4, _, q4⟩ := DataW.trod_string Try.underlying9 f4
  injection c4 with c4 _
  subst c4
  obtain ⟨x5, c5, _, q5⟩ := DataW.trod_string Try.underlying9 f5
  injection c5 with c5 _
  subst c5
  exact ⟨x0, x1, x2, x3, x4, x5, rfl, q0, q1, q2, q3, q4, q5⟩

theorem len3_of {l : List Value} (h : l.length = 3) : ∃ a0 a1 a2, l = [a0, a1, a2] := by
  match l, h with
  | [a0, a1, a2], _ => exact ⟨a0, a1, a2, rfl⟩

set_option maxRecDepth 100000 in
theorem size_api_Reply : Try.prog.cellsOf 27 = 3 := by kernel_rfl

set_option maxRecDepth 100000 in
theorem size_api_Errno : Try.prog.cellsOf 25 = 1 := by kernel_rfl

set_option maxRecDepth 100000 in
theorem elem_reply : ∀ n cs' y, DataW.trod enc Try.prog w 0 (fun _ => true) true n 27 cs' = some y → ∃ (x0 : Int) (x1 : ByteArray) (x2 : Int), cs' = [.int .i64 x0, .string x1, .int .i64 x2] ∧ (Lit.int .i64 x0).wf = true ∧ x1.size ≤ maxLen ∧ (Lit.int .i64 x2).wf = true := by
  intro n cs' y h
  obtain ⟨hl, m, hf⟩ := struct_at Try.underlying27 h
  rw [size_api_Reply] at hl
  obtain ⟨a0, a1, a2, rfl⟩ := len3_of hl
  obtain ⟨z0, f0⟩ := hf 0 _ rfl
  change DataW.trod enc Try.prog w 0 (fun _ => true) true m 25 (List.take (Try.prog.cellsOf 25) [a0, a1, a2]) = some z0 at f0
  rw [size_api_Errno] at f0
  change DataW.trod enc Try.prog w 0 (fun _ => true) true m 25 [a0] = some z0 at f0
  obtain ⟨z1, f1⟩ := hf 1 _ rfl
  change DataW.trod enc Try.prog w 0 (fun _ => true) true m 9 (List.take (Try.prog.cellsOf 9) [a1, a2]) = some z1 at f1
  rw [size_string] at f1
  change DataW.trod enc Try.prog w 0 (fun _ => true) true m 9 [a1] = some z1 at f1
  obtain ⟨z2, f2⟩ := hf 2 _ rfl
  change DataW.trod enc Try.prog w 0 (fun _ => true) true m 3 (List.take (Try.prog.cellsOf 3) [a2]) = some z2 at f2
  rw [size_int] at f2
  change DataW.trod enc Try.prog w 0 (fun _ => true) true m 3 [a2] = some z2 at f2
  obtain ⟨x0, c0, _, q0⟩ := DataW.trod_int Try.underlying25 f0
  injection c0 with c0 _
  subst c0
  obtain ⟨x1, c1, _, q1⟩ := DataW.trod_string Try.underlying9 f1
  injection c1 with c1 _
  subst c1
  obtain ⟨x2, c2, _, q2⟩ := DataW.trod_int Try.underlying3 f2
  injection c2 with c2 _
  subst c2
  exact ⟨x0, x1, x2, rfl, q0, q1, q2⟩

theorem len14_of {l : List Value} (h : l.length = 14) : ∃ a0 a1 a2 a3 a4 a5 a6 a7 a8 a9 a10 a11 a12 a13, l = [a0, a1, a2, a3, a4, a5, a6, a7, a8, a9, a10, a11, a12, a13] := by
  match l, h with
  | [a0, a1, a2, a3, a4, a5, a6, a7, a8, a9, a10, a11, a12, a13], _ => exact ⟨a0, a1, a2, a3, a4, a5, a6, a7, a8, a9, a10, a11, a12, a13, rfl⟩

set_option maxRecDepth 100000 in
theorem size_hist_Event : Try.prog.cellsOf 29 = 14 := by kernel_rfl

set_option maxRecDepth 100000 in
theorem size_bool : Try.prog.cellsOf 4 = 1 := by kernel_rfl

set_option maxRecDepth 100000 in
theorem elem_event : ∀ n cs' y, DataW.trod enc Try.prog w 0 (fun _ => true) true n 29 cs' = some y → ∃ (x0 : Int) (x1 : Int) (x2 : Int) (x3 : Int) (x4 : Int) (x5 : ByteArray) (x6 : ByteArray) (x7 : ByteArray) (x8 : Int) (x9 : ByteArray) (x10 : Int) (x11 : Int) (x12 : Int) (x13 : Bool), cs' = [.int .i64 x0, .int .i64 x1, .int .i64 x2, .int .i64 x3, .int .i64 x4, .string x5, .string x6, .string x7, .int .i64 x8, .string x9, .int .i64 x10, .int .i64 x11, .int .i64 x12, .bool x13] ∧ (Lit.int .i64 x0).wf = true ∧ (Lit.int .i64 x1).wf = true ∧ (Lit.int .i64 x2).wf = true ∧ (Lit.int .i64 x3).wf = true ∧ (Lit.int .i64 x4).wf = true ∧ x5.size ≤ maxLen ∧ x6.size ≤ maxLen ∧ x7.size ≤ maxLen ∧ (Lit.int .i64 x8).wf = true ∧ x9.size ≤ maxLen ∧ (Lit.int .i64 x10).wf = true ∧ (Lit.int .i64 x11).wf = true ∧ (Lit.int .i64 x12).wf = true := by
  intro n cs' y h
  obtain ⟨hl, m, hf⟩ := struct_at Try.underlying29 h
  rw [size_hist_Event] at hl
  obtain ⟨a0, a1, a2, a3, a4, a5, a6, a7, a8, a9, a10, a11, a12, a13, rfl⟩ := len14_of hl
  obtain ⟨z0, f0⟩ := hf 0 _ rfl
  change DataW.trod enc Try.prog w 0 (fun _ => true) true m 3 (List.take (Try.prog.cellsOf 3) [a0, a1, a2, a3, a4, a5, a6, a7, a8, a9, a10, a11, a12, a13]) = some z0 at f0
  rw [size_int] at f0
  change DataW.trod enc Try.prog w 0 (fun _ => true) true m 3 [a0] = some z0 at f0
  obtain ⟨z1, f1⟩ := hf 1 _ rfl
  change DataW.trod enc Try.prog w 0 (fun _ => true) true m 3 (List.take (Try.prog.cellsOf 3) [a1, a2, a3, a4, a5, a6, a7, a8, a9, a10, a11, a12, a13]) = some z1 at f1
  rw [size_int] at f1
  change DataW.trod enc Try.prog w 0 (fun _ => true) true m 3 [a1] = some z1 at f1
  obtain ⟨z2, f2⟩ := hf 2 _ rfl
  change DataW.trod enc Try.prog w 0 (fun _ => true) true m 24 (List.take (Try.prog.cellsOf 24) [a2, a3, a4, a5, a6, a7, a8, a9, a10, a11, a12, a13]) = some z2 at f2
  rw [size_api_Op] at f2
  change DataW.trod enc Try.prog w 0 (fun _ => true) true m 24 [a2, a3, a4, a5, a6, a7] = some z2 at f2
  obtain ⟨z3, f3⟩ := hf 3 _ rfl
  change DataW.trod enc Try.prog w 0 (fun _ => true) true m 27 (List.take (Try.prog.cellsOf 27) [a8, a9, a10, a11, a12, a13]) = some z3 at f3
  rw [size_api_Reply] at f3
  change DataW.trod enc Try.prog w 0 (fun _ => true) true m 27 [a8, a9, a10] = some z3 at f3
  obtain ⟨z4, f4⟩ := hf 4 _ rfl
  change DataW.trod enc Try.prog w 0 (fun _ => true) true m 3 (List.take (Try.prog.cellsOf 3) [a11, a12, a13]) = some z4 at f4
  rw [size_int] at f4
  change DataW.trod enc Try.prog w 0 (fun _ => true) true m 3 [a11] = some z4 at f4
  obtain ⟨z5, f5⟩ := hf 5 _ rfl
  change DataW.trod enc Try.prog w 0 (fun _ => true) true m 3 (List.take (Try.prog.cellsOf 3) [a12, a13]) = some z5 at f5
  rw [size_int] at f5
  change DataW.trod enc Try.prog w 0 (fun _ => true) true m 3 [a12] = some z5 at f5
  obtain ⟨z6, f6⟩ := hf 6 _ rfl
  change DataW.trod enc Try.prog w 0 (fun _ => true) true m 4 (List.take (Try.prog.cellsOf 4) [a13]) = some z6 at f6
  rw [size_bool] at f6
  change DataW.trod enc Try.prog w 0 (fun _ => true) true m 4 [a13] = some z6 at f6
  obtain ⟨x0, c0, _, q0⟩ := DataW.trod_int Try.underlying3 f0
  injection c0 with c0 _
  subst c0
  obtain ⟨x1, c1, _, q1⟩ := DataW.trod_int Try.underlying3 f1
  injection c1 with c1 _
  subst c1
  obtain ⟨x2, x3, x4, x5, x6, x7, c2, q2, q3, q4, q5, q6, q7⟩ := elem_op _ _ _ f2
  simp only [List.cons.injEq, and_true] at c2
  obtain ⟨rfl, rfl, rfl, rfl, rfl, rfl⟩ := c2
  obtain ⟨x8, x9, x10, c3, q8, q9, q10⟩ := elem_reply _ _ _ f3
  simp only [List.cons.injEq, and_true] at c3
  obtain ⟨rfl, rfl, rfl⟩ := c3
  obtain ⟨x11, c4, _, q11⟩ := DataW.trod_int Try.underlying3 f4
  injection c4 with c4 _
  subst c4
  obtain ⟨x12, c5, _, q12⟩ := DataW.trod_int Try.underlying3 f5
  injection c5 with c5 _
  subst c5
  obtain ⟨x13, c6, _⟩ := DataW.trod_bool Try.underlying4 f6
  injection c6 with c6 _
  subst c6
  exact ⟨x0, x1, x2, x3, x4, x5, x6, x7, x8, x9, x10, x11, x12, x13, rfl, q0, q1, q2, q3, q4, q5, q6, q7, q8, q9, q10, q11, q12⟩

theorem len13_of {l : List Value} (h : l.length = 13) : ∃ a0 a1 a2 a3 a4 a5 a6 a7 a8 a9 a10 a11 a12, l = [a0, a1, a2, a3, a4, a5, a6, a7, a8, a9, a10, a11, a12] := by
  match l, h with
  | [a0, a1, a2, a3, a4, a5, a6, a7, a8, a9, a10, a11, a12], _ => exact ⟨a0, a1, a2, a3, a4, a5, a6, a7, a8, a9, a10, a11, a12, rfl⟩

set_option maxRecDepth 100000 in
theorem size_arboretum_arboretumlaw30_Op : Try.prog.cellsOf 36 = 13 := by kernel_rfl

set_option maxRecDepth 100000 in
theorem elem_hop : ∀ n cs' y, DataW.trod enc Try.prog w 0 (fun _ => true) true n 36 cs' = some y → ∃ (x0 : Int) (x1 : Int) (x2 : Int) (x3 : Int) (x4 : Int) (x5 : Int) (x6 : Int) (x7 : ByteArray) (x8 : ByteArray) (x9 : ByteArray) (x10 : Int) (x11 : ByteArray) (x12 : Int), cs' = [.int .i64 x0, .int .i64 x1, .int .i64 x2, .int .i64 x3, .int .i64 x4, .int .i64 x5, .int .i64 x6, .string x7, .string x8, .string x9, .int .i64 x10, .string x11, .int .i64 x12] ∧ (Lit.int .i64 x0).wf = true ∧ (Lit.int .i64 x1).wf = true ∧ (Lit.int .i64 x2).wf = true ∧ (Lit.int .i64 x3).wf = true ∧ (Lit.int .i64 x4).wf = true ∧ (Lit.int .i64 x5).wf = true ∧ (Lit.int .i64 x6).wf = true ∧ x7.size ≤ maxLen ∧ x8.size ≤ maxLen ∧ x9.size ≤ maxLen ∧ (Lit.int .i64 x10).wf = true ∧ x11.size ≤ maxLen ∧ (Lit.int .i64 x12).wf = true := by
  intro n cs' y h
  obtain ⟨hl, m, hf⟩ := struct_at Try.underlying36 h
  rw [size_arboretum_arboretumlaw30_Op] at hl
  obtain ⟨a0, a1, a2, a3, a4, a5, a6, a7, a8, a9, a10, a11, a12, rfl⟩ := len13_of hl
  obtain ⟨z0, f0⟩ := hf 0 _ rfl
  change DataW.trod enc Try.prog w 0 (fun _ => true) true m 3 (List.take (Try.prog.cellsOf 3) [a0, a1, a2, a3, a4, a5, a6, a7, a8, a9, a10, a11, a12]) = some z0 at f0
  rw [size_int] at f0
  change DataW.trod enc Try.prog w 0 (fun _ => true) true m 3 [a0] = some z0 at f0
  obtain ⟨z1, f1⟩ := hf 1 _ rfl
  change DataW.trod enc Try.prog w 0 (fun _ => true) true m 3 (List.take (Try.prog.cellsOf 3) [a1, a2, a3, a4, a5, a6, a7, a8, a9, a10, a11, a12]) = some z1 at f1
  rw [size_int] at f1
  change DataW.trod enc Try.prog w 0 (fun _ => true) true m 3 [a1] = some z1 at f1
  obtain ⟨z2, f2⟩ := hf 2 _ rfl
  change DataW.trod enc Try.prog w 0 (fun _ => true) true m 3 (List.take (Try.prog.cellsOf 3) [a2, a3, a4, a5, a6, a7, a8, a9, a10, a11, a12]) = some z2 at f2
  rw [size_int] at f2
  change DataW.trod enc Try.prog w 0 (fun _ => true) true m 3 [a2] = some z2 at f2
  obtain ⟨z3, f3⟩ := hf 3 _ rfl
  change DataW.trod enc Try.prog w 0 (fun _ => true) true m 3 (List.take (Try.prog.cellsOf 3) [a3, a4, a5, a6, a7, a8, a9, a10, a11, a12]) = some z3 at f3
  rw [size_int] at f3
  change DataW.trod enc Try.prog w 0 (fun _ => true) true m 3 [a3] = some z3 at f3
  obtain ⟨z4, f4⟩ := hf 4 _ rfl
  change DataW.trod enc Try.prog w 0 (fun _ => true) true m 24 (List.take (Try.prog.cellsOf 24) [a4, a5, a6, a7, a8, a9, a10, a11, a12]) = some z4 at f4
  rw [size_api_Op] at f4
  change DataW.trod enc Try.prog w 0 (fun _ => true) true m 24 [a4, a5, a6, a7, a8, a9] = some z4 at f4
  obtain ⟨z5, f5⟩ := hf 5 _ rfl
  change DataW.trod enc Try.prog w 0 (fun _ => true) true m 27 (List.take (Try.prog.cellsOf 27) [a10, a11, a12]) = some z5 at f5
  rw [size_api_Reply] at f5
  change DataW.trod enc Try.prog w 0 (fun _ => true) true m 27 [a10, a11, a12] = some z5 at f5
  obtain ⟨x0, c0, _, q0⟩ := DataW.trod_int Try.underlying3 f0
  injection c0 with c0 _
  subst c0
  obtain ⟨x1, c1, _, q1⟩ := DataW.trod_int Try.underlying3 f1
  injection c1 with c1 _
  subst c1
  obtain ⟨x2, c2, _, q2⟩ := DataW.trod_int Try.underlying3 f2
  injection c2 with c2 _
  subst c2
  obtain ⟨x3, c3, _, q3⟩ := DataW.trod_int Try.underlying3 f3
  injection c3 with c3 _
  subst c3
  obtain ⟨x4, x5, x6, x7, x8, x9, c4, q4, q5, q6, q7, q8, q9⟩ := elem_op _ _ _ f4
  simp only [List.cons.injEq, and_true] at c4
  obtain ⟨rfl, rfl, rfl, rfl, rfl, rfl⟩ := c4
  obtain ⟨x10, x11, x12, c5, q10, q11, q12⟩ := elem_reply _ _ _ f5
  simp only [List.cons.injEq, and_true] at c5
  obtain ⟨rfl, rfl, rfl⟩ := c5
  exact ⟨x0, x1, x2, x3, x4, x5, x6, x7, x8, x9, x10, x11, x12, rfl, q0, q1, q2, q3, q4, q5, q6, q7, q8, q9, q10, q11, q12⟩

end
def i64w (n : Int) : Prop := (Lit.int .i64 n).wf = true
def evok (x : Ev) : Prop := i64w x.frm ∧ i64w x.to ∧ x.val.size ≤ maxLen

theorem elem_ev {H : Type} {enc : TypeId × Value → H} {w : World} : ∀ n cs' y, DataW.trod enc Try.prog w 0 (fun _ => true) true n 29 cs' = some y → ∃ x : Ev, cs' = evc x ∧ evok x := by
  intro n cs' y h
  obtain ⟨x0, x1, x2, x3, x4, x5, x6, x7, x8, x9, x10, x11, x12, x13, rfl, hh⟩ := elem_event n cs' y h
  exact ⟨⟨x0, x1, x2, x3, x4, x5, x6, x7, x8, x9, x10, x11, x12, x13⟩, rfl, hh.2.2.2.2.2.2.2.2.2.2.2.1, hh.2.2.2.2.2.2.2.2.2.2.2.2, hh.2.2.2.2.2.2.1⟩

set_option maxRecDepth 100000 in
theorem open_events {H : Type} {enc : TypeId × Value → H} {w : World} {fuel : Nat} {p : Option Addr} {len cap : Nat} {x : DataW H × List MemPlace}
    (h : DataW.trod enc Try.prog w 0 (fun _ => true) true fuel 33 [.slice p len cap] = some x) : ∃ zs : List Ev, RdG evc w w.heap.size p len zs ∧ ∀ z ∈ zs, evok z :=
  open_rows evc evc_length (by omega) evok Try.underlying33 size_hist_Event elem_ev h

/-- A thing that is done, as an argument. -/
structure HOp where
  kind : Int
  client : Int
  num : Int
  at' : Int
  ev : Ev
def hopV (o : HOp) : Value := .agg #[.int .i64 o.kind, .int .i64 o.client, .int .i64 o.num, .int .i64 o.at', .int .i64 o.ev.kind, .int .i64 o.ev.sess, .int .i64 o.ev.sq, .string o.ev.key, .string o.ev.val, .string o.ev.old, .int .i64 o.ev.err, .string o.ev.rval, .int .i64 o.ev.rnum]

set_option maxRecDepth 100000 in
theorem open_hop {H : Type} {enc : TypeId × Value → H} {w : World} {r : Reach} {b0 : Nat} {v : Value} {d : DataW H} {p : List MemPlace} (hv : Value.okWide Try.prog w r b0 36 v)
    (h : DataW.Trod enc Try.prog w 0 (fun _ => true) true 36 v d p) : ∃ o : HOp, v = hopV o ∧ True := by
  obtain ⟨cs, rfl, _⟩ := okWide_struct Try.underlying36 hv
  obtain ⟨n, hf⟩ := h
  obtain ⟨x0, x1, x2, x3, x4, x5, x6, x7, x8, x9, x10, x11, x12, hc, _⟩ := elem_hop _ _ _ hf
  refine ⟨⟨x0, x1, x2, x3, ⟨0, 0, x4, x5, x6, x7, x8, x9, x10, x11, x12, 0, 0, false⟩⟩, ?_, trivial⟩
  have e : cs.toList = _ := hc
  unfold hopV
  congr 1
  exact Array.toList_inj.1 e
end Go.Proofs.Ytaijjmhannhkcaa
