/- chapter 30: HistUnsure. -/
import Derived.Test.YtaijjmhannhkcaaHAl
namespace Go.Proofs.Ytaijjmhannhkcaa
open Go.RowKit

def upE (v : ByteArray) : Ev := ⟨0, 0, 1, 0, 0, ⟨#[107]⟩, v, ⟨#[]⟩, 0, ⟨#[]⟩, 0, 50, 0, false⟩
def utE (v : ByteArray) (x : Int) : Ev := ⟨1, 0, 4, 0, 0, ⟨#[107]⟩, ⟨#[]⟩, ⟨#[]⟩, 0, v, 0, x, x + 5, true⟩
def unE (x : Int) : Ev := ⟨1, 0, 4, 0, 0, ⟨#[107]⟩, ⟨#[]⟩, ⟨#[]⟩, 7, ⟨#[]⟩, 0, x, x + 5, true⟩
def ulE (x : Int) : Ev := ⟨2, 0, 4, 0, 0, ⟨#[107]⟩, ⟨#[]⟩, ⟨#[]⟩, 7, ⟨#[]⟩, 0, x + 10, x + 11, true⟩

theorem good3 (x y z : Ev) (h : x.key = y.key) (h' : x.key = z.key) (hx : 1 ≤ x.kind ∧ x.kind ≤ 4) (hy : 1 ≤ y.kind ∧ y.kind ≤ 4) (hz : 1 ≤ z.kind ∧ z.kind ≤ 4) : ∀ i, i < 3 → GoodE [x, y, z] i := by
  intro i hi
  match i, hi with
  | 0, _ => exact ⟨rfl, hx⟩
  | 1, _ => exact ⟨h.symm, hy⟩
  | 2, _ => exact ⟨h'.symm, hz⟩

theorem size3 (x y z : Ev) (hx : x.val.size ≤ maxLen) (hy : y.val.size ≤ maxLen) (hz : z.val.size ≤ maxLen) : ∀ i, i < 3 → (([x, y, z] : List Ev).getD i default).val.size ≤ maxLen := by
  intro i hi
  match i, hi with
  | 0, _ => exact hx
  | 1, _ => exact hy
  | 2, _ => exact hz

theorem two_at (w : World) (x y : Ev) (T : TypeId) : ∃ W, W = ((w.alloc (.cells (evc x).toArray T)).alloc (.cells (evc y).toArray T)) ∧ W.heap.size = w.heap.size + 2 ∧ Below w.heap.size w W ∧
    EvAt W w.heap.size x ∧ EvAt W (w.heap.size + 1) y := by
  refine ⟨_, rfl, by simp, ((Below.refl _ w).alloc (Nat.le_refl _) _).alloc (by simp) _, (EvAt.fresh w x T).alloc (by simp) _, ?_⟩
  have h := EvAt.fresh (w.alloc (.cells (evc x).toArray T)) y T
  simpa using h

def LinR (zs : List Ev) (m : Nat) (b : Bool) : Prop := ∀ (T : TypeId) (W : World), Calls Try.prog 7 #[.slice (some ⟨W.heap.size, 0, none⟩) m m] (W.alloc (.cells (rowOf evc zs).toArray T)) fun e w' => e = .returned (.tuple #[.bool b, .int .i64 0]) ∧ Below W.heap.size W w'

set_option maxHeartbeats 1000000 in
set_option maxRecDepth 100000 in
theorem unsure_out (v : ByteArray) (told : Bool) (x : Int) (w : World) (h : 300 < v.size ∨ x < 0 ∨ 100 < x) :
    Calls Try.prog 3 #[.string v, .bool told, .int .i64 x] w fun e w' => e = .returned (.bool true) ∧ Below w.heap.size w w' := by
  by_cases h1 : (300 : Int) < (v.size : Int)
  · clear h
    go_enter Try.func3, Try.ntmps3
    go_wp2_with fail
    refine (alive_true _).mono ?_
    rintro e w1 ⟨rfl, hb1⟩
    go_wp2
    go_ret
    exact ⟨rfl, hb1⟩
  · by_cases h2 : x < 0
    · clear h
      go_enter Try.func3, Try.ntmps3
      go_wp2_with fail
      refine (alive_true _).mono ?_
      rintro e w1 ⟨rfl, hb1⟩
      go_wp2
      go_ret
      exact ⟨rfl, hb1⟩
    · have h3 : 100 < x := by omega
      clear h
      go_enter Try.func3, Try.ntmps3
      go_wp2_with fail
      refine (alive_true _).mono ?_
      rintro e w1 ⟨rfl, hb1⟩
      go_wp2
      go_ret
      exact ⟨rfl, hb1⟩

set_option maxHeartbeats 4000000 in
set_option maxRecDepth 100000 in
theorem unsure_early (v : ByteArray) (x : Int) (w : World) (h1 : ¬ (300 : Int) < (v.size : Int)) (h2 : ¬ x < 0) (h3 : ¬ 100 < x) (he : ¬ 50 ≤ x + 5) (L1 : LinR [upE v, utE v x] 2 false) (L2 : LinR [upE v, utE v x, ulE x] 3 false) :
    Calls Try.prog 3 #[.string v, .bool true, .int .i64 x] w fun e w' => e = .returned (.bool true) ∧ Below w.heap.size w w' := by
  have hd : decide (50 ≤ x + 5) = false := decide_eq_false he
  clear he
  have H1 := Lib.hid L1
  have H2 := Lib.hid L2
  have HA := Lib.hid alive_true
  clear L1 L2
  go_enter Try.func3, Try.ntmps3
  go_wp2_with fail
  obtain ⟨W0, hW0, hz0, hb0, hp0, hg0⟩ := two_at w (upE v) (utE v x) 29
  have E1 := H1.out 29 W0
  rw [hz0] at E1
  rw [hW0] at E1
  refine E1.mono ?_
  clear E1
  rintro e w1 ⟨rfl, hb1⟩
  rw [← hW0] at hb1
  rw [← hz0] at hb1
  have HB1 := Lib.hid (hb0.trans (hb1.mono (by omega)))
  have HP := Lib.hid (hp0.below hb1 (by omega))
  have HGG := Lib.hid (hg0.below hb1 (by omega))
  have hz1 := hb1.size
  have l0 : w.heap.size < w1.heap.size := by omega
  have l1 : w.heap.size + 1 < w1.heap.size := by omega
  clear hp0 hg0 hb0 hb1

  have a0 : w1.cell? ⟨w.heap.size, 0, none⟩ = some (.int .i64 (upE v).client) := HP.out 0 (by omega)
  have a1 : w1.cell? ⟨w.heap.size, 1, none⟩ = some (.int .i64 (upE v).num) := HP.out 1 (by omega)
  have a2 : w1.cell? ⟨w.heap.size, 2, none⟩ = some (.int .i64 (upE v).kind) := HP.out 2 (by omega)
  have a3 : w1.cell? ⟨w.heap.size, 3, none⟩ = some (.int .i64 (upE v).sess) := HP.out 3 (by omega)
  have a4 : w1.cell? ⟨w.heap.size, 4, none⟩ = some (.int .i64 (upE v).sq) := HP.out 4 (by omega)
  have a5 : w1.cell? ⟨w.heap.size, 5, none⟩ = some (.string (upE v).key) := HP.out 5 (by omega)
  have a6 : w1.cell? ⟨w.heap.size, 6, none⟩ = some (.string (upE v).val) := HP.out 6 (by omega)
  have a7 : w1.cell? ⟨w.heap.size, 7, none⟩ = some (.string (upE v).old) := HP.out 7 (by omega)
  have a8 : w1.cell? ⟨w.heap.size, 8, none⟩ = some (.int .i64 (upE v).err) := HP.out 8 (by omega)
  have a9 : w1.cell? ⟨w.heap.size, 9, none⟩ = some (.string (upE v).rval) := HP.out 9 (by omega)
  have a10 : w1.cell? ⟨w.heap.size, 10, none⟩ = some (.int .i64 (upE v).rnum) := HP.out 10 (by omega)
  have a11 : w1.cell? ⟨w.heap.size, 11, none⟩ = some (.int .i64 (upE v).frm) := HP.out 11 (by omega)
  have a12 : w1.cell? ⟨w.heap.size, 12, none⟩ = some (.int .i64 (upE v).to) := HP.out 12 (by omega)
  have a13 : w1.cell? ⟨w.heap.size, 13, none⟩ = some (.bool (upE v).done) := HP.out 13 (by omega)
  have n0 : w1.cell? ⟨w.heap.size + 1, 0, none⟩ = some (.int .i64 (utE v x).client) := HGG.out 0 (by omega)
  have n1 : w1.cell? ⟨w.heap.size + 1, 1, none⟩ = some (.int .i64 (utE v x).num) := HGG.out 1 (by omega)
  have n2 : w1.cell? ⟨w.heap.size + 1, 2, none⟩ = some (.int .i64 (utE v x).kind) := HGG.out 2 (by omega)
  have n3 : w1.cell? ⟨w.heap.size + 1, 3, none⟩ = some (.int .i64 (utE v x).sess) := HGG.out 3 (by omega)
  have n4 : w1.cell? ⟨w.heap.size + 1, 4, none⟩ = some (.int .i64 (utE v x).sq) := HGG.out 4 (by omega)
  have n5 : w1.cell? ⟨w.heap.size + 1, 5, none⟩ = some (.string (utE v x).key) := HGG.out 5 (by omega)
  have n6 : w1.cell? ⟨w.heap.size + 1, 6, none⟩ = some (.string (utE v x).val) := HGG.out 6 (by omega)
  have n7 : w1.cell? ⟨w.heap.size + 1, 7, none⟩ = some (.string (utE v x).old) := HGG.out 7 (by omega)
  have n8 : w1.cell? ⟨w.heap.size + 1, 8, none⟩ = some (.int .i64 (utE v x).err) := HGG.out 8 (by omega)
  have n9 : w1.cell? ⟨w.heap.size + 1, 9, none⟩ = some (.string (utE v x).rval) := HGG.out 9 (by omega)
  have n10 : w1.cell? ⟨w.heap.size + 1, 10, none⟩ = some (.int .i64 (utE v x).rnum) := HGG.out 10 (by omega)
  have n11 : w1.cell? ⟨w.heap.size + 1, 11, none⟩ = some (.int .i64 (utE v x).frm) := HGG.out 11 (by omega)
  have n12 : w1.cell? ⟨w.heap.size + 1, 12, none⟩ = some (.int .i64 (utE v x).to) := HGG.out 12 (by omega)
  have n13 : w1.cell? ⟨w.heap.size + 1, 13, none⟩ = some (.bool (utE v x).done) := HGG.out 13 (by omega)
  go_wp2_with fail
  have E2 := H2.out 29 (w1.alloc (.cells (evc (ulE x)).toArray 29))
  rw [show (w1.alloc (.cells (evc (ulE x)).toArray 29)).heap.size = w1.heap.size + 1 by simp] at E2
  refine E2.mono ?_
  clear E2
  rintro e w2 ⟨rfl, hb2⟩
  have HB2 : Hid (Below w.heap.size w w2) := Lib.hid ((HB1.out.alloc (by omega) (.cells (evc (ulE x)).toArray 29)).trans (hb2.mono (by omega)))
  clear hb2 a0 a1 a2 a3 a4 a5 a6 a7 a8 a9 a10 a11 a12 a13 n0 n1 n2 n3 n4 n5 n6 n7 n8 n9 n10 n11 n12 n13 HP HGG
  go_wp2_with fail
  refine (HA.out _).mono ?_
  rintro e w3 ⟨rfl, hb3⟩
  have HB3 := Lib.hid (HB2.out.trans (hb3.mono HB2.out.size))
  clear hb3
  go_wp2
  go_ret
  exact ⟨rfl, HB3.out⟩

set_option maxHeartbeats 4000000 in
set_option maxRecDepth 100000 in
theorem unsure_late (v : ByteArray) (x : Int) (w : World) (h1 : ¬ (300 : Int) < (v.size : Int)) (h2 : ¬ x < 0) (h3 : ¬ 100 < x) (he : 50 ≤ x + 5) (L1 : LinR [upE v, utE v x] 2 true) (L2 : LinR [upE v, utE v x, ulE x] 3 false) :
    Calls Try.prog 3 #[.string v, .bool true, .int .i64 x] w fun e w' => e = .returned (.bool true) ∧ Below w.heap.size w w' := by
  have hd : decide (50 ≤ x + 5) = true := decide_eq_true he
  clear he
  have H1 := Lib.hid L1
  have H2 := Lib.hid L2
  have HA := Lib.hid alive_true
  clear L1 L2
  go_enter Try.func3, Try.ntmps3
  go_wp2_with fail
  obtain ⟨W0, hW0, hz0, hb0, hp0, hg0⟩ := two_at w (upE v) (utE v x) 29
  have E1 := H1.out 29 W0
  rw [hz0] at E1
  rw [hW0] at E1
  refine E1.mono ?_
  clear E1
  rintro e w1 ⟨rfl, hb1⟩
  rw [← hW0] at hb1
  rw [← hz0] at hb1
  have HB1 := Lib.hid (hb0.trans (hb1.mono (by omega)))
  have HP := Lib.hid (hp0.below hb1 (by omega))
  have HGG := Lib.hid (hg0.below hb1 (by omega))
  have hz1 := hb1.size
  have l0 : w.heap.size < w1.heap.size := by omega
  have l1 : w.heap.size + 1 < w1.heap.size := by omega
  clear hp0 hg0 hb0 hb1

  have a0 : w1.cell? ⟨w.heap.size, 0, none⟩ = some (.int .i64 (upE v).client) := HP.out 0 (by omega)
  have a1 : w1.cell? ⟨w.heap.size, 1, none⟩ = some (.int .i64 (upE v).num) := HP.out 1 (by omega)
  have a2 : w1.cell? ⟨w.heap.size, 2, none⟩ = some (.int .i64 (upE v).kind) := HP.out 2 (by omega)
  have a3 : w1.cell? ⟨w.heap.size, 3, none⟩ = some (.int .i64 (upE v).sess) := HP.out 3 (by omega)
  have a4 : w1.cell? ⟨w.heap.size, 4, none⟩ = some (.int .i64 (upE v).sq) := HP.out 4 (by omega)
  have a5 : w1.cell? ⟨w.heap.size, 5, none⟩ = some (.string (upE v).key) := HP.out 5 (by omega)
  have a6 : w1.cell? ⟨w.heap.size, 6, none⟩ = some (.string (upE v).val) := HP.out 6 (by omega)
  have a7 : w1.cell? ⟨w.heap.size, 7, none⟩ = some (.string (upE v).old) := HP.out 7 (by omega)
  have a8 : w1.cell? ⟨w.heap.size, 8, none⟩ = some (.int .i64 (upE v).err) := HP.out 8 (by omega)
  have a9 : w1.cell? ⟨w.heap.size, 9, none⟩ = some (.string (upE v).rval) := HP.out 9 (by omega)
  have a10 : w1.cell? ⟨w.heap.size, 10, none⟩ = some (.int .i64 (upE v).rnum) := HP.out 10 (by omega)
  have a11 : w1.cell? ⟨w.heap.size, 11, none⟩ = some (.int .i64 (upE v).frm) := HP.out 11 (by omega)
  have a12 : w1.cell? ⟨w.heap.size, 12, none⟩ = some (.int .i64 (upE v).to) := HP.out 12 (by omega)
  have a13 : w1.cell? ⟨w.heap.size, 13, none⟩ = some (.bool (upE v).done) := HP.out 13 (by omega)
  have n0 : w1.cell? ⟨w.heap.size + 1, 0, none⟩ = some (.int .i64 (utE v x).client) := HGG.out 0 (by omega)
  have n1 : w1.cell? ⟨w.heap.size + 1, 1, none⟩ = some (.int .i64 (utE v x).num) := HGG.out 1 (by omega)
  have n2 : w1.cell? ⟨w.heap.size + 1, 2, none⟩ = some (.int .i64 (utE v x).kind) := HGG.out 2 (by omega)
  have n3 : w1.cell? ⟨w.heap.size + 1, 3, none⟩ = some (.int .i64 (utE v x).sess) := HGG.out 3 (by omega)
  have n4 : w1.cell? ⟨w.heap.size + 1, 4, none⟩ = some (.int .i64 (utE v x).sq) := HGG.out 4 (by omega)
  have n5 : w1.cell? ⟨w.heap.size + 1, 5, none⟩ = some (.string (utE v x).key) := HGG.out 5 (by omega)
  have n6 : w1.cell? ⟨w.heap.size + 1, 6, none⟩ = some (.string (utE v x).val) := HGG.out 6 (by omega)
  have n7 : w1.cell? ⟨w.heap.size + 1, 7, none⟩ = some (.string (utE v x).old) := HGG.out 7 (by omega)
  have n8 : w1.cell? ⟨w.heap.size + 1, 8, none⟩ = some (.int .i64 (utE v x).err) := HGG.out 8 (by omega)
  have n9 : w1.cell? ⟨w.heap.size + 1, 9, none⟩ = some (.string (utE v x).rval) := HGG.out 9 (by omega)
  have n10 : w1.cell? ⟨w.heap.size + 1, 10, none⟩ = some (.int .i64 (utE v x).rnum) := HGG.out 10 (by omega)
  have n11 : w1.cell? ⟨w.heap.size + 1, 11, none⟩ = some (.int .i64 (utE v x).frm) := HGG.out 11 (by omega)
  have n12 : w1.cell? ⟨w.heap.size + 1, 12, none⟩ = some (.int .i64 (utE v x).to) := HGG.out 12 (by omega)
  have n13 : w1.cell? ⟨w.heap.size + 1, 13, none⟩ = some (.bool (utE v x).done) := HGG.out 13 (by omega)
  go_wp2_with fail
  have E2 := H2.out 29 (w1.alloc (.cells (evc (ulE x)).toArray 29))
  rw [show (w1.alloc (.cells (evc (ulE x)).toArray 29)).heap.size = w1.heap.size + 1 by simp] at E2
  refine E2.mono ?_
  clear E2
  rintro e w2 ⟨rfl, hb2⟩
  have HB2 : Hid (Below w.heap.size w w2) := Lib.hid ((HB1.out.alloc (by omega) (.cells (evc (ulE x)).toArray 29)).trans (hb2.mono (by omega)))
  clear hb2 a0 a1 a2 a3 a4 a5 a6 a7 a8 a9 a10 a11 a12 a13 n0 n1 n2 n3 n4 n5 n6 n7 n8 n9 n10 n11 n12 n13 HP HGG
  go_wp2_with fail
  refine (HA.out _).mono ?_
  rintro e w3 ⟨rfl, hb3⟩
  have HB3 := Lib.hid (HB2.out.trans (hb3.mono HB2.out.size))
  clear hb3
  go_wp2
  go_ret
  exact ⟨by first | rfl | (show Ending.returned (.bool (decide (50 ≤ x + 5))) = _; rw [hd]), HB3.out⟩

set_option maxHeartbeats 4000000 in
set_option maxRecDepth 100000 in
theorem unsure_none (v : ByteArray) (x : Int) (w : World) (h1 : ¬ (300 : Int) < (v.size : Int)) (h2 : ¬ x < 0) (h3 : ¬ 100 < x) (L1 : LinR [upE v, unE x] 2 true) (L2 : LinR [upE v, unE x, ulE x] 3 true) :
    Calls Try.prog 3 #[.string v, .bool false, .int .i64 x] w fun e w' => e = .returned (.bool true) ∧ Below w.heap.size w w' := by
  have H1 := Lib.hid L1
  have H2 := Lib.hid L2
  have HA := Lib.hid alive_true
  clear L1 L2
  go_enter Try.func3, Try.ntmps3
  go_wp2_with fail
  obtain ⟨W0, hW0, hz0, hb0, hp0, hg0⟩ := two_at w (upE v) (unE x) 29
  have E1 := H1.out 29 W0
  rw [hz0] at E1
  rw [hW0] at E1
  refine E1.mono ?_
  clear E1
  rintro e w1 ⟨rfl, hb1⟩
  rw [← hW0] at hb1
  rw [← hz0] at hb1
  have HB1 := Lib.hid (hb0.trans (hb1.mono (by omega)))
  have HP := Lib.hid (hp0.below hb1 (by omega))
  have HGG := Lib.hid (hg0.below hb1 (by omega))
  have hz1 := hb1.size
  have l0 : w.heap.size < w1.heap.size := by omega
  have l1 : w.heap.size + 1 < w1.heap.size := by omega
  clear hp0 hg0 hb0 hb1

  have a0 : w1.cell? ⟨w.heap.size, 0, none⟩ = some (.int .i64 (upE v).client) := HP.out 0 (by omega)
  have a1 : w1.cell? ⟨w.heap.size, 1, none⟩ = some (.int .i64 (upE v).num) := HP.out 1 (by omega)
  have a2 : w1.cell? ⟨w.heap.size, 2, none⟩ = some (.int .i64 (upE v).kind) := HP.out 2 (by omega)
  have a3 : w1.cell? ⟨w.heap.size, 3, none⟩ = some (.int .i64 (upE v).sess) := HP.out 3 (by omega)
  have a4 : w1.cell? ⟨w.heap.size, 4, none⟩ = some (.int .i64 (upE v).sq) := HP.out 4 (by omega)
  have a5 : w1.cell? ⟨w.heap.size, 5, none⟩ = some (.string (upE v).key) := HP.out 5 (by omega)
  have a6 : w1.cell? ⟨w.heap.size, 6, none⟩ = some (.string (upE v).val) := HP.out 6 (by omega)
  have a7 : w1.cell? ⟨w.heap.size, 7, none⟩ = some (.string (upE v).old) := HP.out 7 (by omega)
  have a8 : w1.cell? ⟨w.heap.size, 8, none⟩ = some (.int .i64 (upE v).err) := HP.out 8 (by omega)
  have a9 : w1.cell? ⟨w.heap.size, 9, none⟩ = some (.string (upE v).rval) := HP.out 9 (by omega)
  have a10 : w1.cell? ⟨w.heap.size, 10, none⟩ = some (.int .i64 (upE v).rnum) := HP.out 10 (by omega)
  have a11 : w1.cell? ⟨w.heap.size, 11, none⟩ = some (.int .i64 (upE v).frm) := HP.out 11 (by omega)
  have a12 : w1.cell? ⟨w.heap.size, 12, none⟩ = some (.int .i64 (upE v).to) := HP.out 12 (by omega)
  have a13 : w1.cell? ⟨w.heap.size, 13, none⟩ = some (.bool (upE v).done) := HP.out 13 (by omega)
  have n0 : w1.cell? ⟨w.heap.size + 1, 0, none⟩ = some (.int .i64 (unE x).client) := HGG.out 0 (by omega)
  have n1 : w1.cell? ⟨w.heap.size + 1, 1, none⟩ = some (.int .i64 (unE x).num) := HGG.out 1 (by omega)
  have n2 : w1.cell? ⟨w.heap.size + 1, 2, none⟩ = some (.int .i64 (unE x).kind) := HGG.out 2 (by omega)
  have n3 : w1.cell? ⟨w.heap.size + 1, 3, none⟩ = some (.int .i64 (unE x).sess) := HGG.out 3 (by omega)
  have n4 : w1.cell? ⟨w.heap.size + 1, 4, none⟩ = some (.int .i64 (unE x).sq) := HGG.out 4 (by omega)
  have n5 : w1.cell? ⟨w.heap.size + 1, 5, none⟩ = some (.string (unE x).key) := HGG.out 5 (by omega)
  have n6 : w1.cell? ⟨w.heap.size + 1, 6, none⟩ = some (.string (unE x).val) := HGG.out 6 (by omega)
  have n7 : w1.cell? ⟨w.heap.size + 1, 7, none⟩ = some (.string (unE x).old) := HGG.out 7 (by omega)
  have n8 : w1.cell? ⟨w.heap.size + 1, 8, none⟩ = some (.int .i64 (unE x).err) := HGG.out 8 (by omega)
  have n9 : w1.cell? ⟨w.heap.size + 1, 9, none⟩ = some (.string (unE x).rval) := HGG.out 9 (by omega)
  have n10 : w1.cell? ⟨w.heap.size + 1, 10, none⟩ = some (.int .i64 (unE x).rnum) := HGG.out 10 (by omega)
  have n11 : w1.cell? ⟨w.heap.size + 1, 11, none⟩ = some (.int .i64 (unE x).frm) := HGG.out 11 (by omega)
  have n12 : w1.cell? ⟨w.heap.size + 1, 12, none⟩ = some (.int .i64 (unE x).to) := HGG.out 12 (by omega)
  have n13 : w1.cell? ⟨w.heap.size + 1, 13, none⟩ = some (.bool (unE x).done) := HGG.out 13 (by omega)
  go_wp2_with fail
  have E2 := H2.out 29 (w1.alloc (.cells (evc (ulE x)).toArray 29))
  rw [show (w1.alloc (.cells (evc (ulE x)).toArray 29)).heap.size = w1.heap.size + 1 by simp] at E2
  refine E2.mono ?_
  clear E2
  rintro e w2 ⟨rfl, hb2⟩
  have HB2 : Hid (Below w.heap.size w w2) := Lib.hid ((HB1.out.alloc (by omega) (.cells (evc (ulE x)).toArray 29)).trans (hb2.mono (by omega)))
  clear hb2 a0 a1 a2 a3 a4 a5 a6 a7 a8 a9 a10 a11 a12 a13 n0 n1 n2 n3 n4 n5 n6 n7 n8 n9 n10 n11 n12 n13 HP HGG
  go_wp2_with fail
  refine (HA.out _).mono ?_
  rintro e w3 ⟨rfl, hb3⟩
  have HB3 := Lib.hid (HB2.out.trans (hb3.mono HB2.out.size))
  clear hb3
  go_wp2
  go_ret
  exact ⟨rfl, HB3.out⟩

theorem unsure_walk (v : ByteArray) (told : Bool) (x : Int) (w : World) :
    Calls Try.prog 3 #[.string v, .bool told, .int .i64 x] w fun e w' => e = .returned (.bool true) ∧ Below w.heap.size w w' := by
  by_cases h : 300 < v.size ∨ x < 0 ∨ 100 < x
  · exact unsure_out v told x w h
  · have hv : v.size ≤ maxLen := by have : (300 : Nat) ≤ maxLen := by decide
                                    omega
    have he : (⟨#[]⟩ : ByteArray).size ≤ maxLen := by decide
    cases told
    · refine unsure_none v x w (by omega) (by omega) (by omega) ?_ ?_
      · exact lin_row_true _ 2 rfl (by decide) (good2 _ _ rfl ⟨by show (1 : Int) ≤ 1; omega, by show (1 : Int) ≤ 4; omega⟩ ⟨by show (1 : Int) ≤ 4; omega, by show (4 : Int) ≤ 4; omega⟩) (size2 _ _ hv he) (two_none rfl rfl rfl rfl)
      · exact lin_row_true _ 3 rfl (by decide) (good3 _ _ _ rfl rfl ⟨by show (1 : Int) ≤ 1; omega, by show (1 : Int) ≤ 4; omega⟩ ⟨by show (1 : Int) ≤ 4; omega, by show (4 : Int) ≤ 4; omega⟩ ⟨by show (1 : Int) ≤ 4; omega, by show (4 : Int) ≤ 4; omega⟩) (size3 _ _ _ hv he he) (three_none rfl rfl rfl rfl rfl rfl rfl (by show ¬ x + 11 < x; omega))
    · have H3 : LinR [upE v, utE v x, ulE x] 3 false := lin_row_false _ 3 rfl (by decide) (good3 _ _ _ rfl rfl ⟨by show (1 : Int) ≤ 1; omega, by show (1 : Int) ≤ 4; omega⟩ ⟨by show (1 : Int) ≤ 4; omega, by show (4 : Int) ≤ 4; omega⟩ ⟨by show (1 : Int) ≤ 4; omega, by show (4 : Int) ≤ 4; omega⟩) (size3 _ _ _ hv he he) (three_told rfl rfl rfl rfl rfl rfl rfl (by show x + 5 < x + 10; omega))
      by_cases he2 : 50 ≤ x + 5
      · exact unsure_late v x w (by omega) (by omega) (by omega) he2 (lin_row_true _ 2 rfl (by decide) (good2 _ _ rfl ⟨by show (1 : Int) ≤ 1; omega, by show (1 : Int) ≤ 4; omega⟩ ⟨by show (1 : Int) ≤ 4; omega, by show (4 : Int) ≤ 4; omega⟩) (size2 _ _ hv he) ((two_told rfl rfl rfl rfl rfl).2 (by show ¬ x + 5 < 50; omega))) H3
      · exact unsure_early v x w (by omega) (by omega) (by omega) he2 (lin_row_false _ 2 rfl (by decide) (good2 _ _ rfl ⟨by show (1 : Int) ≤ 1; omega, by show (1 : Int) ≤ 4; omega⟩ ⟨by show (1 : Int) ≤ 4; omega, by show (4 : Int) ≤ 4; omega⟩) (size2 _ _ hv he) (fun h => ((two_told rfl rfl rfl rfl rfl).1 h) (by show x + 5 < 50; omega))) H3
end Go.Proofs.Ytaijjmhannhkcaa
