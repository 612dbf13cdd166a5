/- raft: New's refusals. -/
import Derived.Test.YtaodldagmmephaaGreatB1
namespace Go.Proofs.YtaodldagmmephaaGreat
open Go.RowKit Go.Maps
namespace RF
section
variable {w : World}
set_option maxHeartbeats 2000000 in
set_option maxRecDepth 100000 in
theorem rf_new_log (id term vote commit ix tm : Int) (ms : List Int) (pm : Option Addr) (cm : Nat) (l : List En) (p : Option Addr) (n c : Nat) (hw3 : ix ≤ 4611686018427387904)
    (HE : RdG ecells w w.heap.size p n l) (hn : n ≤ 10000) (hno : newOk ix tm l = false) :
    Calls Tryz.prog 14 #[.int .i64 id, .agg #[.int .i64 term, .int .i64 vote, .int .i64 commit], .agg #[.int .i64 ix, .int .i64 tm, .slice pm ms.length cm], .slice p n c] w fun e w' => e = .returned (.tuple #[.pointer none, .int .i64 1]) ∧ Below w.heap.size w w' := by
  have HNW := Lib.hid (fun (W : World) (hW : Below w.heap.size w W) => lg_new_no ix tm p n c l W (rdg_wide (HE.below hW) hW.size) hw3 (by omega) hno)
  clear HE hno
  go_enter Tryz.func14, Tryz.ntmps14
  go_upto_region 1 with fail
  have B1 : Below w.heap.size w (w.alloc (.cells #[.int .i64 term, .int .i64 vote, .int .i64 commit] 31)) := (Below.refl _ w).alloc (Nat.le_refl _) _
  have hs1 : (w.alloc (.cells #[.int .i64 term, .int .i64 vote, .int .i64 commit] 31)).heap.size = w.heap.size + 1 := World.size_alloc _ _
  have X6 := CBox.fresh (w.alloc (.cells #[.int .i64 term, .int .i64 vote, .int .i64 commit] 31)) [.int .i64 ix, .int .i64 tm, .slice pm ms.length cm] 34
  have B2 := B1.alloc B1.size (.cells #[.int .i64 ix, .int .i64 tm, .slice pm ms.length cm] 34)
  rw [hs1] at X6
  dsimp only [List.toArray] at X6
  have HB2 := Lib.hid B2
  have a0 := X6.1 0 _ rfl
  have a1 := X6.1 1 _ rfl
  clear B1 hs1 B2 X6
  generalize (w.alloc (.cells #[.int .i64 term, .int .i64 vote, .int .i64 commit] 31)).alloc (.cells #[.int .i64 ix, .int .i64 tm, .slice pm ms.length cm] 34) = W0 at *
  have HN0 := Lib.hid (HNW.out W0 HB2.out)
  clear HNW
  go_wp2_with fail
  with_reducible refine (HN0.out).mono ?_
  rintro e w1 ⟨rfl, hb1⟩
  have HB1 := Lib.hid (HB2.out.trans (hb1.mono HB2.out.size))
  clear hb1
  go_wp2_with fail
  go_ret2
  exact ⟨rfl, HB1.out⟩
set_option maxHeartbeats 2000000 in
set_option maxRecDepth 100000 in
theorem rf_new_term (id term vote commit ix tm : Int) (ms : List Int) (pm : Option Addr) (cm : Nat) (l : List En) (p : Option Addr) (n c : Nat) (hw3 : ix ≤ 4611686018427387904)
    (HE : RdG ecells w w.heap.size p n l) (hp : (∃ b o, p = some ⟨b, o, none⟩) ∨ p = none ∧ c = 0) (hn : n ≤ 10000) (hd : ∀ i, i < n → (HL.el l i).da.size ≤ 2000000) (h1 : newOk ix tm l = true) (h2 : 1 ≤ id ∧ id ≤ 64) (h4 : 0 ≤ vote) (h5 : 0 ≤ commit) (h6 : 1152921504606846976 < term) :
    Calls Tryz.prog 14 #[.int .i64 id, .agg #[.int .i64 term, .int .i64 vote, .int .i64 commit], .agg #[.int .i64 ix, .int .i64 tm, .slice pm ms.length cm], .slice p n c] w fun e w' => e = .returned (.tuple #[.pointer none, .int .i64 1]) ∧ Below w.heap.size w w' := by
  have HNW := Lib.hid (fun (W : World) (hW : Below w.heap.size w W) => lg_new ix tm p n c l W (rdg_wide (HE.below hW) hW.size) hp hw3 hn hd h1)
  have HID := Lib.hid (fun (W : World) => is_id id W)
  have d0 : decide (1 ≤ id ∧ id ≤ 64) = true := decide_eq_true h2
  rw [d0] at HID
  have e1 : decide (term < 0) = false := decide_eq_false (by omega)
  have e2 : decide (vote < 0) = false := decide_eq_false (Int.not_lt.2 h4)
  have e3 : decide (commit < 0) = false := decide_eq_false (Int.not_lt.2 h5)
  have e4 : ¬ min (min term vote) commit < 0 := by omega
  have dt : decide (1152921504606846976 < term) = true := decide_eq_true h6
  have HX5 := Lib.hid (CBox.fresh w [.int .i64 term, .int .i64 vote, .int .i64 commit] 31)
  clear HE hp hd d0 h1
  go_enter Tryz.func14, Tryz.ntmps14
  go_upto_region 1 with fail
  have B1 : Below w.heap.size w (w.alloc (.cells #[.int .i64 term, .int .i64 vote, .int .i64 commit] 31)) := (Below.refl _ w).alloc (Nat.le_refl _) _
  have hs1 : (w.alloc (.cells #[.int .i64 term, .int .i64 vote, .int .i64 commit] 31)).heap.size = w.heap.size + 1 := World.size_alloc _ _
  have X6 := CBox.fresh (w.alloc (.cells #[.int .i64 term, .int .i64 vote, .int .i64 commit] 31)) [.int .i64 ix, .int .i64 tm, .slice pm ms.length cm] 34
  have B2 := B1.alloc B1.size (.cells #[.int .i64 ix, .int .i64 tm, .slice pm ms.length cm] 34)
  have X5 := HX5.out.below ((Below.refl _ (w.alloc (.cells #[.int .i64 term, .int .i64 vote, .int .i64 commit] 31))).alloc (Nat.le_refl _) (.cells #[.int .i64 ix, .int .i64 tm, .slice pm ms.length cm] 34))
  rw [hs1] at X6
  dsimp only [List.toArray] at X5 X6
  clear HX5 B1 hs1
  have HB2 := Lib.hid B2
  have HX5 := Lib.hid X5
  have a0 := X6.1 0 _ rfl
  have a1 := X6.1 1 _ rfl
  clear B2 X5 X6
  generalize (w.alloc (.cells #[.int .i64 term, .int .i64 vote, .int .i64 commit] 31)).alloc (.cells #[.int .i64 ix, .int .i64 tm, .slice pm ms.length cm] 34) = W0 at *
  have HN0 := Lib.hid (HNW.out W0 HB2.out)
  go_upto_region 2 with (with_reducible refine HN0.out.mono ?_; rintro e w1 ⟨xb, v, rfl, hl1, hb1⟩)
  have HB1 := Lib.hid (HB2.out.trans (hb1.mono HB2.out.size))
  have X5 := HX5.out.below hb1
  have b0 := X5.1 0 _ rfl
  have b1 := X5.1 1 _ rfl
  have b2 := X5.1 2 _ rfl
  have HI1 := Lib.hid (HID.out w1)
  clear hl1 hb1 a0 a1 X5 HN0 HNW HID HB2 HX5
  go_wp2_with (first | (with_reducible refine HI1.out.mono ?_; rintro e w2 ⟨rfl, hw2⟩; have hw2 := hw2.symm; subst hw2) | fail)
  all_goals (go_ret2; exact ⟨rfl, HB1.out⟩)
end
end RF
end Go.Proofs.YtaodldagmmephaaGreat
