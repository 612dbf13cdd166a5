/- chapter 30: HistNone. -/
import Derived.Test.YtaijjmhannhkcaaHAl
import Derived.Test.YtaijjmhannhkcaaHNil
import Derived.Test.YtaijjmhannhkcaaHOpen
namespace Go.Proofs.Ytaijjmhannhkcaa
open Go.RowKit

theorem lin_none (w : World) : Calls Try.prog 7 #[.slice none 0 0] w fun e w' => e = .returned (.tuple #[.bool true, .int .i64 0]) ∧ Below w.heap.size w w' := by
  refine (linear_ok none 0 0 [] w RdG.nil (by omega) (fun i hi => by omega) (fun i hi => by omega)).mono ?_
  rintro e w' ⟨h | h, hb⟩
  · exact ⟨h.1, hb⟩
  · exact absurd (Ord.fin (fun i hi _ => by
      have := hi.1
      simp at this)) h.2

def hopc (o : HOp) : List Value := [.int .i64 o.kind, .int .i64 o.client, .int .i64 o.num, .int .i64 o.at', .int .i64 o.ev.kind, .int .i64 o.ev.sess, .int .i64 o.ev.sq, .string o.ev.key, .string o.ev.val, .string o.ev.old, .int .i64 o.ev.err, .string o.ev.rval, .int .i64 o.ev.rnum]
def HopAt (w : World) (b : Nat) (o : HOp) : Prop := ∀ c, c < 13 → w.cell? ⟨b, c, none⟩ = (hopc o)[c]?
theorem HopAt.below {w w' : World} {b n : Nat} {o : HOp} (h : HopAt w b o) (hb : Below n w w') (hn : b < n) : HopAt w' b o := fun c hc => by
  rw [hb.cell (p := ⟨b, c, none⟩) hn]
  exact h c hc
theorem HopAt.fresh (w : World) (o : HOp) (T : TypeId) : HopAt (w.alloc (.cells (hopc o).toArray T)) w.heap.size o := fun c hc => by
  rw [cell_of_row _ _ _ _ _ _ (heap_alloc_new w _)]
  simp

set_option maxHeartbeats 4000000 in
set_option maxRecDepth 100000 in
theorem histNone_walk (o : HOp) (w : World) : Calls Try.prog 5 #[hopV o] w fun e w' => e = .returned (.bool true) ∧ Below w.heap.size w w' := by
  have HS := Lib.hid (hist_small o.ev)
  unfold opV at HS
  have HC := Lib.hid (fun c n a => nil_call c n a o.ev)
  unfold opV at HC
  have HA := Lib.hid alive_true
  unfold hopV
  go_enter Try.func5, Try.ntmps5
  go_wp2_with fail
  refine (HS.out _).mono ?_
  rintro e w1 ⟨rfl, hb1⟩
  cases hsm : smallE o.ev
  · have HB1 := Lib.hid (((Below.refl _ w).alloc (Nat.le_refl _) _).trans (hb1.mono (by simp)))
    clear hb1 hsm
    go_wp2_with fail
    refine (HA.out _).mono ?_
    rintro e w2 ⟨rfl, hb2⟩
    have HB2 := Lib.hid (HB1.out.trans (hb2.mono HB1.out.size))
    clear hb2
    go_wp2
    go_ret
    exact ⟨rfl, HB2.out⟩
  · have hx1 : HopAt w1 w.heap.size o := (HopAt.fresh w o 36).below hb1 (by simp)
    have hl1 : w.heap.size < w1.heap.size := by have := hb1.size; simp at this; omega
    have HB1 := Lib.hid (((Below.refl _ w).alloc (Nat.le_refl _) _).trans (hb1.mono (by simp)))
    clear hb1 hsm
    go_wp2_with fail
    refine (nil_judge _).mono ?_
    rintro e w2 ⟨rfl, rfl⟩
    go_wp2_with fail
    refine (lin_none _).mono ?_
    rintro e w3 ⟨rfl, hb3⟩
    have hx3 := hx1.below hb3 hl1
    have hl3 : w.heap.size < w3.heap.size := Nat.lt_of_lt_of_le hl1 hb3.size
    have HB3 := Lib.hid (HB1.out.trans (hb3.mono HB1.out.size))
    clear hb3 hx1 hl1 HB1
    go_wp2_with fail
    refine (HA.out _).mono ?_
    rintro e w4 ⟨rfl, hb4⟩
    have hx4 := hx3.below hb4 hl3
    have hl4 : w.heap.size < w4.heap.size := Nat.lt_of_lt_of_le hl3 hb4.size
    have HB4 := Lib.hid (HB3.out.trans (hb4.mono HB3.out.size))
    have HX4 := Lib.hid hx4
    have a1 : w4.cell? ⟨w.heap.size, 1, none⟩ = some (.int .i64 o.client) := hx4 1 (by omega)
    have a2 : w4.cell? ⟨w.heap.size, 2, none⟩ = some (.int .i64 o.num) := hx4 2 (by omega)
    have a3 : w4.cell? ⟨w.heap.size, 3, none⟩ = some (.int .i64 o.at') := hx4 3 (by omega)
    have a4 : w4.cell? ⟨w.heap.size, 4, none⟩ = some (.int .i64 o.ev.kind) := hx4 4 (by omega)
    have a5 : w4.cell? ⟨w.heap.size, 5, none⟩ = some (.int .i64 o.ev.sess) := hx4 5 (by omega)
    have a6 : w4.cell? ⟨w.heap.size, 6, none⟩ = some (.int .i64 o.ev.sq) := hx4 6 (by omega)
    have a7 : w4.cell? ⟨w.heap.size, 7, none⟩ = some (.string o.ev.key) := hx4 7 (by omega)
    have a8 : w4.cell? ⟨w.heap.size, 8, none⟩ = some (.string o.ev.val) := hx4 8 (by omega)
    have a9 : w4.cell? ⟨w.heap.size, 9, none⟩ = some (.string o.ev.old) := hx4 9 (by omega)
    clear hb4 hx3 hl3 HB3 hx4
    go_wp2_with fail
    refine (HC.out _ _ _ _).mono ?_
    rintro e w5 ⟨rfl, hb5⟩
    have hx5 := HX4.out.below hb5 hl4
    have HB5 := Lib.hid (HB4.out.trans (hb5.mono HB4.out.size))
    have b1 : w5.cell? ⟨w.heap.size, 1, none⟩ = some (.int .i64 o.client) := hx5 1 (by omega)
    have b2 : w5.cell? ⟨w.heap.size, 2, none⟩ = some (.int .i64 o.num) := hx5 2 (by omega)
    have b3 : w5.cell? ⟨w.heap.size, 3, none⟩ = some (.int .i64 o.at') := hx5 3 (by omega)
    have b10 : w5.cell? ⟨w.heap.size, 10, none⟩ = some (.int .i64 o.ev.err) := hx5 10 (by omega)
    have b11 : w5.cell? ⟨w.heap.size, 11, none⟩ = some (.string o.ev.rval) := hx5 11 (by omega)
    have b12 : w5.cell? ⟨w.heap.size, 12, none⟩ = some (.int .i64 o.ev.rnum) := hx5 12 (by omega)
    clear hb5 HX4 hl4 HB4 hx5 a1 a2 a3 a4 a5 a6 a7 a8 a9
    go_wp2_with fail
    refine (nil_return _ _ _ _ _ _ _).mono ?_
    rintro e w6 ⟨rfl, hb6⟩
    have HB6 := Lib.hid (HB5.out.trans (hb6.mono HB5.out.size))
    clear hb6 HB5 b1 b2 b3 b10 b11 b12
    go_wp2_with fail
    refine (nil_list _).mono ?_
    rintro e w7 ⟨rfl, rfl⟩
    go_wp2_with fail
    refine (nil_of _ _).mono ?_
    rintro e w8 ⟨rfl, hb8⟩
    have HB8 := Lib.hid (HB6.out.trans (hb8.mono HB6.out.size))
    clear hb8 HB6
    go_wp2_with fail
    refine (nil_keys _).mono ?_
    rintro e w9 ⟨rfl, rfl⟩
    go_wp2
    go_ret
    exact ⟨rfl, HB8.out⟩
end Go.Proofs.Ytaijjmhannhkcaa
