/- net's dues: '==' of two of them; compare, as slices.SortFunc asks it; find's closure. -/
import Derived.Test.YthdpajgnigilhaaNetW
import Derived.Laws.StructEq
import Derived.Sort.Grow
namespace Go.Proofs.Ythdpajgnigilhaa
open Go.RowKit Go.Sort

/-- '==' of two dues. -/
def eqD (x y : Nd) : Bool := x.fr == y.fr && (x.to == y.to && x.da.toList == y.da.toList) && (x.at' == y.at' && x.sq == y.sq)
theorem eqD_eq (x y : Nd) : eqD x y = true ↔ x = y := by
  obtain ⟨a, b, c, d, e⟩ := x
  obtain ⟨a', b', c', d', e'⟩ := y
  simp only [eqD, Bool.and_eq_true, beq_iff_eq, Nd.mk.injEq]
  rw [ByteArray.toList_eq, ByteArray.toList_eq]
  constructor
  · rintro ⟨⟨h1, h2, h3⟩, h4, h5⟩
    refine ⟨h1, h2, ?_, h4, h5⟩
    obtain ⟨⟨x⟩⟩ := c
    obtain ⟨⟨y⟩⟩ := c'
    simp at h3
    rw [h3]
  · rintro ⟨h1, h2, h3, h4, h5⟩
    exact ⟨⟨h1, h2, by rw [h3]⟩, h4, h5⟩

set_option maxRecDepth 100000 in
theorem run_eqPkt (d : Nat) (x y : Nd) (w : World) : (Op.equalIn (d + 1 + 1) 34 (pkv x.fr x.to x.da) (pkv y.fr y.to y.da)).run Try.prog w = .ok (x.fr == y.fr && (x.to == y.to && x.da.toList == y.da.toList)) w := by
  have u3 := Try.underlying3
  have a3 := Try.isAgg3
  have z3 := Try.sizeOf3
  have u9 := Try.underlying9
  have a9 := Try.isAgg9
  have z9 := Try.sizeOf9
  have hS2 : Try.prog.underlying 34 = some (.struct (Try.prog.fieldsOf 34)) := by kernel_rfl
  have hp2 : Try.prog.stoodInHeld 34 = false := by kernel_rfl
  unfold pkv
  rw [run_equalIn_agg w (d + 1) 34 _ _ hS2 hp2]
  simp only [Program.fieldsOf, Try.underlying34]
  go_simp
  by_cases h1 : x.fr = y.fr <;> by_cases h2 : x.to = y.to <;> by_cases h3 : x.da.toList = y.da.toList <;> simp [h1, h2, h3]

set_option maxRecDepth 100000 in
theorem run_eqDue (d : Nat) (x y : Nd) (w : World) : (Op.equalIn (d + 1 + 1 + 1) 75 (dv x) (dv y)).run Try.prog w = .ok (eqD x y) w := by
  have u3 := Try.underlying3
  have a3 := Try.isAgg3
  have z3 := Try.sizeOf3
  have a34 := Try.isAgg34
  have z34 := Try.sizeOf34
  have hS : Try.prog.underlying 75 = some (.struct (Try.prog.fieldsOf 75)) := by kernel_rfl
  have hp : Try.prog.stoodInHeld 75 = false := by kernel_rfl
  have hP := run_eqPkt d x y
  unfold dv
  unfold pkv at hP
  unfold eqD
  rw [run_equalIn_agg w (d + 1 + 1) 75 _ _ hS hp]
  simp only [Program.fieldsOf, Try.underlying75]
  generalize (x.fr == y.fr && (x.to == y.to && x.da.toList == y.da.toList)) = r at *
  go_simp
  cases r <;> by_cases h1 : x.at' = y.at' <;> by_cases h2 : x.sq = y.sq <;> simp [h1, h2]

theorem run_eqD (x y : Nd) (w : World) : (binOp .eql 75 (dv x) (dv y)).run Try.prog w = .ok (.bool (eqD x y)) w := by
  unfold dv
  rw [run_eql_struct, show (10000 : Nat) = 9997 + 1 + 1 + 1 from rfl, run_eqDue]
  rfl

set_option maxHeartbeats 400000 in
set_option maxRecDepth 100000 in
/-- 'compare', as the sort asks it: it draws, and lays blocks. -/
theorem compare_lays (x y : Nd) (w : World) :
    Calls Try.prog 47 #[dv x, dv y] w fun e w' => e = .returned (.int .i64 (cmpD x y)) ∧ ∃ q os, w' = grow (w.drewN q) os := by
  obtain ⟨f1, o1, b1, a1, s1⟩ := x
  obtain ⟨f2, o2, b2, a2, s2⟩ := y
  unfold dv
  go_enter Try.func47, Try.ntmps47
  go_wp2_with fail
  refine region_tail 10 (by kernel_rfl) (by kernel_rfl) (fun V => V.cell? ⟨w.heap.size, 0 + 3, none⟩ = some (.int .i64 a1) ∧ V.cell? ⟨w.heap.size, 0 + 4, none⟩ = some (.int .i64 s1) ∧ V.cell? ⟨w.heap.size + 1, 0 + 3, none⟩ = some (.int .i64 a2) ∧ V.cell? ⟨w.heap.size + 1, 0 + 4, none⟩ = some (.int .i64 s2) ∧ ∃ os, V = grow (w.drewN 1) os) ⟨by go_simp, by go_simp, by go_simp, by go_simp, _, by rw [alloc_eq_grow, alloc_eq_grow, grow_grow, drew_grow]; rfl⟩ ?_
  rintro V ⟨c1, c2, c3, c4, hb⟩
  have HB := Lib.hid hb
  clear hb
  simp only [List.take_succ_cons, List.take_zero, List.drop_succ_cons, List.drop_zero]
  iterate 4 still_step
  still_call (still_of (compare_int _ _ _))
  iterate 4 still_step
  still_call (still_of (compare_int _ _ _))
  refine wpStill_nil ?_
  go_wp2_with fail
  refine (or_int V.heap.size 0 [cmpI a1 a2, cmpI s1 s2] 2 _ (by simp) (or_cells V _ _ _)).mono ?_
  rintro e w' ⟨rfl, rfl⟩
  go_wp2
  go_ret
  obtain ⟨os, rfl⟩ := HB.out
  exact ⟨rfl, 1, _, by rw [alloc_eq_grow, grow_grow]⟩

set_option maxRecDepth 100000 in
/-- find's closure: is it the wanted one? -/
theorem find_is (x y : Nd) (B : Nat) (W : World) (hy : W.cell? ⟨B, 0, none⟩ = some (.int .i64 y.fr) ∧ W.cell? ⟨B, 0 + 1, none⟩ = some (.int .i64 y.to) ∧ W.cell? ⟨B, 0 + 2, none⟩ = some (.string y.da) ∧ W.cell? ⟨B, 0 + 3, none⟩ = some (.int .i64 y.at') ∧ W.cell? ⟨B, 0 + 4, none⟩ = some (.int .i64 y.sq)) :
    Calls Try.prog 49 #[dv x, .pointer (some ⟨B, 0, none⟩)] W fun e w' => e = .returned (.bool (eqD x y)) ∧ Below W.heap.size W w' := by
  obtain ⟨y0, y1, y2, y3, y4⟩ := hy
  have hlt := cell_lt y0
  have hq := run_eqD x y
  unfold dv at *
  generalize eqD x y = r at *
  go_enter Try.func49, Try.ntmps49
  go_wp2
  go_ret
  exact ⟨rfl, (Below.refl _ _).alloc (Nat.le_refl _) _⟩
end Go.Proofs.Ythdpajgnigilhaa
