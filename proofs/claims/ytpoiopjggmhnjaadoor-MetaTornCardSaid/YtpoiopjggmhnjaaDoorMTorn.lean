/- arboretumlaw5.MetaTorn: the walk. -/
import Derived.Test.YtpoiopjggmhnjaaDoorMTornL
import Derived.Test.YtpoiopjggmhnjaaDoorMNext
import Derived.Test.YtpoiopjggmhnjaaDoorMPutB
import Derived.Test.YtpoiopjggmhnjaaDoorMetaArg
namespace Go.Proofs.YtpoiopjggmhnjaaDoor
open Go.RowKit Go.Conc

/-- Put of any numbers. -/
theorem put_any (a b c d : Int) : ∃ s k, ∀ w, Calls Tryd.prog 7 #[.agg #[.int .i64 a, .int .i64 b, .int .i64 c, .int .i64 d]] w fun e w' => e = .returned (.tuple #[.string s, .int .i64 k]) ∧ Below w.heap.size w w' := by
  by_cases h : ∃ k, k < 4 ∧ ¬ ok48 (q4 a b c d k)
  · exact ⟨_, _, fun w => meta_put_bad a b c d w h⟩
  · have hk : ∀ k, k < 4 → ok48 (q4 a b c d k) := fun k hk => Classical.byContradiction (fun hn => h ⟨k, hk, hn⟩)
    have h0 : ok48 a := hk 0 (by omega)
    have h1 : ok48 b := hk 1 (by omega)
    have h2 : ok48 c := hk 2 (by omega)
    have h3 : ok48 d := hk 3 (by omega)
    obtain ⟨a, rfl⟩ := Int.eq_ofNat_of_zero_le h0.1
    obtain ⟨b, rfl⟩ := Int.eq_ofNat_of_zero_le h1.1
    obtain ⟨c, rfl⟩ := Int.eq_ofNat_of_zero_le h2.1
    obtain ⟨d, rfl⟩ := Int.eq_ofNat_of_zero_le h3.1
    exact ⟨_, _, fun w => meta_put ⟨a, b, c, d⟩ w (Mt.ok_of (by have := h0.2; simp only; omega) (by have := h1.2; simp only; omega) (by have := h2.2; simp only; omega) (by have := h3.2; simp only; omega))⟩

set_option maxHeartbeats 2000000 in
set_option maxRecDepth 100000 in
theorem torn_out (a b c d a2 b2 c2 d2 keep : Int) (w : World) (h : a < 0 ∨ 1099511627776 < a ∨ 16777216 ≤ d2) : Calls Tryd.prog 5 #[.agg #[.int .i64 a, .int .i64 b, .int .i64 c, .int .i64 d], .agg #[.int .i64 a2, .int .i64 b2, .int .i64 c2, .int .i64 d2], .int .i64 keep] w fun e w' => e = .returned (.bool true) ∧ Below w.heap.size w w' := by
  have HA := Lib.hid (fun w => malive_true w)
  have h6 : a < 0 ∨ (¬ a < 0 ∧ 1099511627776 < a) ∨ (¬ a < 0 ∧ ¬ 1099511627776 < a ∧ 16777216 ≤ d2) := by omega
  clear h
  have HB0 : Hid (∀ A B, Below w.heap.size w ((w.alloc A).alloc B)) := Lib.hid (fun A B => ((Below.refl _ w).alloc (Nat.le_refl _) A).alloc (by simp) B)
  rcases h6 with h1 | ⟨h1, h2⟩ | ⟨h1, h2, h3⟩
  all_goals
    go_enter Tryd.func5, Tryd.ntmps5
    go_wp2_with fail
    refine (HA.out _).mono ?_
    rintro e w3 ⟨rfl, hb3⟩
    have HB := Lib.hid ((HB0.out _ _).trans (hb3.mono (HB0.out _ _).size))
    clear hb3
    go_wp2
    go_ret
    exact ⟨rfl, HB.out⟩

/-- A box of four numbers. -/
def Box (B : Nat) (a b c d : Int) (w : World) : Prop := ∀ i, i < 4 → w.cell? ⟨B, i, none⟩ = some (.int .i64 (q4 a b c d i))
theorem Box.fresh (w : World) (a b c d : Int) : Box w.heap.size a b c d (w.alloc (.cells #[.int .i64 a, .int .i64 b, .int .i64 c, .int .i64 d] 23)) := fun i hi => by
  rw [cell_of_row _ _ _ _ _ _ (heap_alloc_new w _)]
  match i, hi with
  | 0, _ => rfl
  | 1, _ => rfl
  | 2, _ => rfl
  | 3, _ => rfl
theorem Box.below {B S : Nat} {a b c d : Int} {w w' : World} (h : Box B a b c d w) (hb : Below S w w') (hB : B < S) : Box B a b c d w' := fun i hi =>
  (hb.cell (p := ⟨B, i, none⟩) hB).trans (h i hi)
theorem Box.cells {B : Nat} {a b c d : Int} {w : World} (h : Box B a b c d w) : w.cell? ⟨B, 0, none⟩ = some (.int .i64 a) ∧ w.cell? ⟨B, 1, none⟩ = some (.int .i64 b) ∧ w.cell? ⟨B, 2, none⟩ = some (.int .i64 c) ∧ w.cell? ⟨B, 3, none⟩ = some (.int .i64 d) :=
  ⟨h 0 (by omega), h 1 (by omega), h 2 (by omega), h 3 (by omega)⟩
def Boxes (B : Nat) (a b c d a2 b2 c2 d2 : Int) (w : World) : Prop := Box B a b c d w ∧ Box (B + 1) a2 b2 c2 d2 w ∧ B + 2 ≤ w.heap.size
theorem boxes_fresh (w : World) (a b c d a2 b2 c2 d2 : Int) : Boxes w.heap.size a b c d a2 b2 c2 d2 ((w.alloc (.cells #[.int .i64 a, .int .i64 b, .int .i64 c, .int .i64 d] 23)).alloc (.cells #[.int .i64 a2, .int .i64 b2, .int .i64 c2, .int .i64 d2] 23)) := by
  refine ⟨(Box.fresh w a b c d).below ((Below.refl _ _).alloc (Nat.le_refl _) _) (by simp), ?_, by simp⟩
  have h := Box.fresh (w.alloc (.cells #[.int .i64 a, .int .i64 b, .int .i64 c, .int .i64 d] 23)) a2 b2 c2 d2
  rw [World.size_alloc] at h
  exact h
theorem Boxes.below {B S : Nat} {a b c d a2 b2 c2 d2 : Int} {w w' : World} (h : Boxes B a b c d a2 b2 c2 d2 w) (hb : Below S w w') (hB : B + 2 ≤ S) : Boxes B a b c d a2 b2 c2 d2 w' :=
  ⟨h.1.below hb (by omega), h.2.1.below hb (by omega), Nat.le_trans h.2.2 hb.size⟩

set_option maxHeartbeats 2000000 in
set_option maxRecDepth 100000 in
theorem torn_bad1 (a b c d a2 b2 c2 d2 keep : Int) (w : World) (h1 : 0 ≤ a) (h2 : a ≤ 1099511627776) (h3 : d2 < 16777216) (h : ∃ k, k < 4 ∧ ¬ ok48 (q4 a b c d k)) : Calls Tryd.prog 5 #[.agg #[.int .i64 a, .int .i64 b, .int .i64 c, .int .i64 d], .agg #[.int .i64 a2, .int .i64 b2, .int .i64 c2, .int .i64 d2], .int .i64 keep] w fun e w' => e = .returned (.bool true) ∧ Below w.heap.size w w' := by
  have HA := Lib.hid (fun w => malive_true w)
  have HP := Lib.hid (fun w => meta_put_bad a b c d w h)
  obtain ⟨s, k, hq⟩ := put_any (a + 1) b2 c2 d2
  have HQ := Lib.hid hq
  have HB0 : Hid (∀ A B, Below w.heap.size w ((w.alloc A).alloc B)) := Lib.hid (fun A B => ((Below.refl _ w).alloc (Nat.le_refl _) A).alloc (by simp) B)
  have HX := Lib.hid (boxes_fresh w a b c d (a + 1) b2 c2 d2)
  clear h hq
  go_enter Tryd.func5, Tryd.ntmps5
  go_wp2_with fail
  refine (HP.out _).mono ?_
  rintro e w1 ⟨rfl, hb1⟩
  obtain ⟨c0, c1, c2', c3⟩ := (HX.out.below hb1 HX.out.2.2).2.1.cells
  have HB1 : Hid (Below w.heap.size w w1) := Lib.hid ((HB0.out _ _).trans (hb1.mono (HB0.out _ _).size))
  clear hb1 HX HP HB0
  go_wp2_with fail
  refine (HQ.out _).mono ?_
  rintro e w2 ⟨rfl, hb2⟩
  have HB2 : Hid (Below w.heap.size w w2) := Lib.hid (HB1.out.trans (hb2.mono HB1.out.size))
  clear hb2 HQ HB1 c0 c1 c2' c3
  go_wp2_with fail
  refine (HA.out _).mono ?_
  rintro e w3 ⟨rfl, hb3⟩
  have HB3 : Hid (Below w.heap.size w w3) := Lib.hid (HB2.out.trans (hb3.mono HB2.out.size))
  clear hb3 HB2
  go_wp2
  go_ret
  exact ⟨rfl, HB3.out⟩

set_option maxHeartbeats 2000000 in
set_option maxRecDepth 100000 in
theorem torn_bad2 (m : Mt) (hm : m.ok) (a2 b2 c2 d2 keep : Int) (w : World) (h2 : m.txn ≤ 1099511627776) (h3 : d2 < 16777216) (h : ∃ k, k < 4 ∧ ¬ ok48 (q4 ((m.txn : Int) + 1) b2 c2 d2 k)) : Calls Tryd.prog 5 #[mtv m, .agg #[.int .i64 a2, .int .i64 b2, .int .i64 c2, .int .i64 d2], .int .i64 keep] w fun e w' => e = .returned (.bool true) ∧ Below w.heap.size w w' := by
  have HA := Lib.hid (fun w => malive_true w)
  have HP := Lib.hid (fun w => meta_put m w hm)
  have HQ := Lib.hid (fun w => meta_put_bad ((m.txn : Int) + 1) b2 c2 d2 w h)
  have HB0 : Hid (∀ A B, Below w.heap.size w ((w.alloc A).alloc B)) := Lib.hid (fun A B => ((Below.refl _ w).alloc (Nat.le_refl _) A).alloc (by simp) B)
  have HX := Lib.hid (boxes_fresh w m.txn m.root m.free m.pages ((m.txn : Int) + 1) b2 c2 d2)
  have h1 : ¬ ((m.txn : Int) < 0) := by omega
  have h2' : ¬ (1099511627776 < (m.txn : Int)) := by omega
  unfold mtv at *
  generalize metaP m = pg at *
  clear h hm h2
  go_enter Tryd.func5, Tryd.ntmps5
  go_wp2_with fail
  refine (HP.out _).mono ?_
  rintro e w1 ⟨rfl, hb1⟩
  obtain ⟨c0, c1, c2', c3⟩ := (HX.out.below hb1 HX.out.2.2).2.1.cells
  have HB1 : Hid (Below w.heap.size w w1) := Lib.hid ((HB0.out _ _).trans (hb1.mono (HB0.out _ _).size))
  clear hb1 HX HP HB0
  go_wp2_with fail
  refine (HQ.out _).mono ?_
  rintro e w2 ⟨rfl, hb2⟩
  have HB2 : Hid (Below w.heap.size w w2) := Lib.hid (HB1.out.trans (hb2.mono HB1.out.size))
  clear hb2 HQ HB1 c0 c1 c2' c3
  go_wp2_with fail
  refine (HA.out _).mono ?_
  rintro e w3 ⟨rfl, hb3⟩
  have HB3 : Hid (Below w.heap.size w w3) := Lib.hid (HB2.out.trans (hb3.mono HB2.out.size))
  clear hb3 HB2
  go_wp2
  go_ret
  exact ⟨rfl, HB3.out⟩
end Go.Proofs.YtpoiopjggmhnjaaDoor
