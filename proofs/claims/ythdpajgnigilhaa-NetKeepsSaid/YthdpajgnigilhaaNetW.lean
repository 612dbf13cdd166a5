/- slices.AppendSeq, Collect over net's dues: a new row that holds just what they hold. -/
import Derived.Test.YthdpajgnigilhaaNetV
namespace Go.Proofs.Ythdpajgnigilhaa
open Go.RowKit Go.Shelf
attribute [local go_sem] Oper.semAt_some

/-- A due's block: the loop variable. -/
def DueBox (W : World) (B : Nat) (x : Nd) : Prop := W.heap[B]? = some (.cells #[.int .i64 x.fr, .int .i64 x.to, .string x.da, .int .i64 x.at', .int .i64 x.sq] 75 (0, 0))
theorem DueBox.lt {W : World} {B : Nat} {x : Nd} (h : DueBox W B x) : B < W.heap.size := (Array.getElem?_eq_some_iff.1 h).1
theorem DueBox.own {B : Nat} {x : Nd} : Own (fun (_ : Unit) W => DueBox W B x) := by
  rintro s X Y row hv hg hrow
  refine (hg.block B (DueBox.lt hv) (fun e' => ?_)).trans hv
  obtain ⟨o, ho, hc⟩ := hrow B e'.symm
  rw [show X.heap[B]? = _ from hv] at ho; cases ho; cases hc
theorem DueBox.cells {W : World} {B : Nat} {x : Nd} (h : DueBox W B x) : W.cell? ⟨B, 0, none⟩ = some (.int .i64 x.fr) ∧ W.cell? ⟨B, 0 + 1, none⟩ = some (.int .i64 x.to) ∧ W.cell? ⟨B, 0 + 2, none⟩ = some (.string x.da) ∧ W.cell? ⟨B, 0 + 3, none⟩ = some (.int .i64 x.at') ∧ W.cell? ⟨B, 0 + 4, none⟩ = some (.int .i64 x.sq) := by
  unfold DueBox at h
  simp [World.cell?, h]

set_option maxRecDepth 100000 in
set_option maxHeartbeats 4000000 in
theorem dappend_seq (n : Nat) (hn : 3 ≤ n) (Bs len cap : Nat) (p : Option Addr) (zs : List Nd) (hbig : len ≤ 1000000) (w : World) (hBs : Bs < w.heap.size) (hc : w.cell? ⟨Bs, 0, none⟩ = some (.slice p len cap)) (hR : RdG wcells w w.heap.size p len zs) :
    CallsIn Fence.wide n Try.prog 56 #[.slice none 0 0, .func (.func 53) #[] #[.pointer (some ⟨Bs, 0, none⟩)]] w fun e w' =>
      ∃ v, e = .returned v ∧ w'.ownsRow w.heap.size 75 5 v zs.length (rowOf wcells zs) ∧ Below w.heap.size w w' := by
  have h1 : 1 ≤ n := by omega
  have hlen := hR.1
  have HC := Lib.hid hc
  have HR := Lib.hid hR
  clear hc hR
  obtain ⟨i0, hi, hz0, hz1, hz2⟩ := info_parts info_wt
  refine callsIn_of_wp_marks Try.func56 rfl trivial ?_ rfl
  simp only [Try.ntmps56, List.size_toArray, List.length_cons, List.length_nil, Nat.reduceAdd, Nat.reduceSub, Array.replicate_succ, Array.replicate_zero, List.push_toArray, List.append_toArray, List.nil_append, List.cons_append]
  gi_wp2
  have bO := Boxed.new w 46 (.slice none 0 0)
  have hB0 : Below w.heap.size w (w.alloc (.cells #[.slice none 0 0] 46)) := (Below.refl _ w).alloc (Nat.le_refl _) _
  refine wpIn_rangeFunc_ownH rfl h1 (gf := 53) (lb := #[.pointer (some ⟨Bs, 0, none⟩)]) rfl trivial (enters_of Try.func53 (by kernel_rfl) rfl)
    (dvalues_stops (n - 1) (by omega) Bs w.heap.size len cap p zs hbig (w.alloc (.cells #[.slice none 0 0] 46)) (by simp; omega) (by simp) ((hB0.cell (p := ⟨Bs, 0, none⟩) hBs).trans HC.out) (HR.out.below hB0)) belowK_t (belowK_b (by simp)) (Below.refl _ _) (fun _ => rfl)
    (fun pre W => (∃ v, Boxed W w.heap.size 46 v ∧ W.ownsRow w.heap.size 75 5 v pre.length (rowOf wcells pre) ∧ True) ∧ Below w.heap.size w W)
    (fun _ _ _ => False)
    (OwnFrom.and (Own.from (holdsRow_own w.heap.size w.heap.size 46 75 5 (fun pre : List Nd => pre.length) (fun pre : List Nd => rowOf wcells pre) (fun _ _ => True)) _) (ownFrom_below (Nat.le_refl _) (by simp)))
    (fun _ _ _ _ _ hs _ _ => hs)
    ⟨⟨_, bO, World.ownsRow_nil _ _ _ _, trivial⟩, hB0⟩
    (fun x a' W => ∃ Bx, w.heap.size < Bx ∧ DueBox W Bx x ∧ a' = { tmps := #[.slice none 0 0, .func (.func 53) #[] #[.pointer (some ⟨Bs, 0, none⟩)], .pointer (some ⟨w.heap.size, 0, none⟩), undef, .slice none 0 0, .pointer (some ⟨Bx, 0, none⟩), .func (.func 53) #[] #[.pointer (some ⟨Bs, 0, none⟩)], dv x, undef, undef, undef, undef, undef], defers := [] })
    (fun x a' _ X Y row hs hg hr => by obtain ⟨Bx, h1, h2, h3⟩ := hs; exact ⟨Bx, h1, DueBox.own () X Y row h2 hg (fun r e => (hr r e).2), h3⟩)
    ?assign ?body ?done ?stop
  case assign =>
    rintro l pre x W K ⟨⟨v, hv, hrow, _⟩, hB⟩ hK
    gi_wp2
    exact hK _ _ ((KeepsOthers.alloc _ _).from _) ((Below.refl _ W).alloc hB.size _) ⟨⟨v, hv.alloc _, hrow.alloc _, trivial⟩, hB.alloc hB.size _⟩ ⟨W.heap.size, hv.lt, World.alloc_heap_new W _, rfl⟩
  case body =>
    rintro l pre x a' W hl ⟨r, hr⟩ ⟨⟨v, hv, hrow, _⟩, hB⟩ ⟨Bx, hBx, bX, rfl⟩ hlt
    have hc := hv.cell
    obtain ⟨x0, x1, x2, x3, x4⟩ := bX.cells
    gi_wp2_with (gi_at_builtin; refine wpListIn_append_own _ rfl _ _ 46 rfl w.heap.size 75 i0 _ 5 48 Try.underlying46 hi hz0 hz1 hz2 rfl (by decide) _ _ _ rfl (hrow.alloc _) ⟨W.heap.size, 0, none⟩ 1 1 (wcells x) rfl rfl (new_cells W [.int .i64 x.fr, .int .i64 x.to, .string x.da, .int .i64 x.at', .int .i64 x.sq] 75) (by intro u hu; simp [wcells] at hu; rcases hu with rfl | rfl | rfl | rfl | rfl <;> rfl) (by unfold maxLen; omega) (by omega) (by have := hB.size; simp; omega) ?_; intro v' w1 hown' hgrow _; obtain ⟨g', cap', rfl⟩ := ownsRow_succ hown'; obtain ⟨hv1, hv2, hr2, hk2, hb2⟩ := hv.appended (by decide) hrow hB.size (Nat.le_refl _) hown' hgrow; have hc1 := hv1.cell; have hf1 := hv1.frozen)
    exact ⟨hk2.from _, hb2, ⟨_, hv2, by rw [rowOf_append, rowOf_one, List.length_append]; exact hr2, trivial⟩, hB.trans hb2⟩
  case done =>
    rintro D ys W hD rfl ⟨⟨v, hv, hrow, _⟩, hB⟩ hK
    have hc := hv.cell
    gi_wp2
    refine ⟨by simp, .inl ⟨_, _, rfl, run_takeDeferred hK, ?_⟩⟩
    exact ⟨_, results_tmp rfl _ _ _, v, rfl, ownsRow_putObj hrow _ hK rfl, hB.trans (belowK_b (w := w) (Nat.le_refl _) W D _ _ (by simp at hD; omega) hK rfl rfl)⟩
  case stop =>
    rintro D c pre W _ _ h _
    exact h.elim

set_option maxRecDepth 100000 in
theorem dcollect_seq (Bs len cap : Nat) (p : Option Addr) (zs : List Nd) (hbig : len ≤ 1000000) (w : World) (hBs : Bs < w.heap.size) (hc : w.cell? ⟨Bs, 0, none⟩ = some (.slice p len cap)) (hR : RdG wcells w w.heap.size p len zs) :
    Calls Try.prog 51 #[.func (.func 53) #[] #[.pointer (some ⟨Bs, 0, none⟩)]] w fun e w' =>
      ∃ v, e = .returned v ∧ w'.ownsRow w.heap.size 75 5 v zs.length (rowOf wcells zs) ∧ Below w.heap.size w w' := by
  have HA := Lib.hid (callsIn_wide.1 (dappend_seq 3 (by omega) Bs len cap p zs hbig w hBs hc hR))
  clear hc hR
  go_enter Try.func51, Try.ntmps51
  go_wp2_with fail
  refine HA.out.mono ?_
  rintro e w' ⟨v, rfl, h⟩
  go_wp2
  go_ret
  exact ⟨v, rfl, h⟩
end Go.Proofs.Ythdpajgnigilhaa
