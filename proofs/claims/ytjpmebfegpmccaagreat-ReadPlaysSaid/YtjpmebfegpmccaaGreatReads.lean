/- read's reads as a heap.Interface: the contracts of its methods. -/
import Derived.Test.YtjpmebfegpmccaaGreatHeapE
import Derived.Test.YtjpmebfegpmccaaGreatHeapI
import Derived.Test.YtjpmebfegpmccaaGreatOrd
import Derived.Test.YtjpmebfegpmccaaGreatFr
import Derived.Deep.RegionLaw
import Derived.BigRegion
import Derived.Deep.AppendLies
namespace Go.Proofs.YtjpmebfegpmccaaGreat
open Go.RowKit

/-- A read that waits: what, index, round, number. -/
abbrev Wt := Int × Int × Int × Int
abbrev wv (x : Wt) : Value := .agg #[.int .i64 x.1, .int .i64 x.2.1, .int .i64 x.2.2.1, .int .i64 x.2.2.2]

def cmpW (x y : Wt) : Int := orI [cmpI x.2.2.1 y.2.2.1, cmpI x.2.1 y.2.1, cmpI x.2.2.2 y.2.2.2]

theorem or_cells3 (V : World) (x y z : Int) (t : TypeId) : ∀ i, i < [x, y, z].length → (V.alloc (.cells #[.int .i64 x, .int .i64 y, .int .i64 z] t)).cell? ⟨V.heap.size, 0 + i, none⟩ = some (.int .i64 ([x, y, z].getD i 0)) := by
  intro i hi
  have hi' : i < 3 := hi
  rw [Nat.zero_add]
  match i, hi' with
  | 0, _ => go_simp
  | 1, _ => go_simp
  | 2, _ => go_simp

set_option maxHeartbeats 1000000 in
set_option maxRecDepth 100000 in
theorem compare_reads (x y : Wt) (w : World) :
    Calls Tryz.prog 121 #[wv x, wv y] w fun e w' => e = .returned (.int .i64 (cmpW x y)) ∧ Below w.heap.size w w' := by
  obtain ⟨a1, b1, c1, d1⟩ := x
  obtain ⟨a2, b2, c2, d2⟩ := y
  unfold wv
  go_enter Tryz.func121, Tryz.ntmps121
  go_wp2_with fail
  refine region_tail 19 (by kernel_rfl) (by kernel_rfl) (fun V => V.cell? ⟨w.heap.size, 0 + 1, none⟩ = some (.int .i64 b1) ∧ V.cell? ⟨w.heap.size, 0 + 2, none⟩ = some (.int .i64 c1) ∧ V.cell? ⟨w.heap.size, 0 + 3, none⟩ = some (.int .i64 d1) ∧
    V.cell? ⟨w.heap.size + 1, 0 + 1, none⟩ = some (.int .i64 b2) ∧ V.cell? ⟨w.heap.size + 1, 0 + 2, none⟩ = some (.int .i64 c2) ∧ V.cell? ⟨w.heap.size + 1, 0 + 3, none⟩ = some (.int .i64 d2) ∧ Below w.heap.size w V)
    ⟨by go_simp, by go_simp, by go_simp, by go_simp, by go_simp, by go_simp, (((Below.refl _ _).alloc (Nat.le_refl _) _).alloc (by simp) _).drew⟩ ?_
  rintro V ⟨h1, h2, h3, h4, h5, h6, hb⟩
  simp only [List.take_succ_cons, List.take_zero, List.drop_succ_cons, List.drop_zero]
  iterate 6 still_step
  still_call (still_of (compare_int _ _ _))
  iterate 6 still_step
  still_call (still_of (compare_int _ _ _))
  iterate 4 still_step
  still_call (still_of (compare_int _ _ _))
  refine wpStill_nil ?_
  go_wp2_with fail
  refine (or_int V.heap.size 0 [cmpI c1 c2, cmpI b1 b2, cmpI d1 d2] 3 _ (by simp) (or_cells3 V _ _ _ _)).mono ?_
  rintro e w' ⟨rfl, rfl⟩
  go_wp2
  go_ret
  exact ⟨rfl, hb.alloc (by have := hb.size; omega) _⟩

set_option maxHeartbeats 400000 in
set_option maxRecDepth 100000 in
theorem less_reads (g n cap : Nat) (i j : Int) (x y : Wt) (w : World) (hi0 : 0 ≤ i) (hi : i < n) (hj0 : 0 ≤ j) (hj : j < n)
    (hx : w.cell? ⟨g, i.toNat * 4, none⟩ = some (.int .i64 x.1) ∧ w.cell? ⟨g, i.toNat * 4 + 1, none⟩ = some (.int .i64 x.2.1) ∧ w.cell? ⟨g, i.toNat * 4 + 2, none⟩ = some (.int .i64 x.2.2.1) ∧ w.cell? ⟨g, i.toNat * 4 + 3, none⟩ = some (.int .i64 x.2.2.2))
    (hy : w.cell? ⟨g, j.toNat * 4, none⟩ = some (.int .i64 y.1) ∧ w.cell? ⟨g, j.toNat * 4 + 1, none⟩ = some (.int .i64 y.2.1) ∧ w.cell? ⟨g, j.toNat * 4 + 2, none⟩ = some (.int .i64 y.2.2.1) ∧ w.cell? ⟨g, j.toNat * 4 + 3, none⟩ = some (.int .i64 y.2.2.2)) :
    Calls Tryz.prog 119 #[.slice (some ⟨g, 0, none⟩) n cap, .int .i64 i, .int .i64 j] w fun e w' => e = .returned (.bool (decide (cmpW x y < 0))) ∧ Below w.heap.size w w' := by
  have HX := Lib.hid (And.intro hx hy)
  clear hx hy
  go_enter Tryz.func119, Tryz.ntmps119
  go_wp2_with fail
  refine region_tail 8 (by kernel_rfl) (by kernel_rfl) (fun V => ((V.cell? ⟨g, i.toNat * 4, none⟩ = some (.int .i64 x.1) ∧ V.cell? ⟨g, i.toNat * 4 + 1, none⟩ = some (.int .i64 x.2.1) ∧ V.cell? ⟨g, i.toNat * 4 + 2, none⟩ = some (.int .i64 x.2.2.1) ∧ V.cell? ⟨g, i.toNat * 4 + 3, none⟩ = some (.int .i64 x.2.2.2)) ∧
    (V.cell? ⟨g, j.toNat * 4, none⟩ = some (.int .i64 y.1) ∧ V.cell? ⟨g, j.toNat * 4 + 1, none⟩ = some (.int .i64 y.2.1) ∧ V.cell? ⟨g, j.toNat * 4 + 2, none⟩ = some (.int .i64 y.2.2.1) ∧ V.cell? ⟨g, j.toNat * 4 + 3, none⟩ = some (.int .i64 y.2.2.2))) ∧ Below w.heap.size w V) ⟨HX.out, (Below.refl _ _).drew⟩ ?_
  rintro V ⟨⟨⟨x0, x1, x2, x3⟩, ⟨y0, y1, y2, y3⟩⟩, hb⟩
  simp only [List.take_succ_cons, List.take_zero, List.drop_succ_cons, List.drop_zero]
  iterate 8 still_step
  refine wpStill_nil ?_
  go_wp2_with (go_at_call 121; (with_reducible refine (compare_reads x y V).mono ?_); rintro e w' ⟨rfl, hb'⟩)
  go_ret
  exact ⟨rfl, hb.trans (hb'.mono hb.size)⟩

/-- Four cells written. -/
def put4 (w : World) (g k : Nat) (x : Wt) : World :=
  (((w.setCell ⟨g, k * 4, none⟩ (.int .i64 x.1)).setCell ⟨g, k * 4 + 1, none⟩ (.int .i64 x.2.1)).setCell ⟨g, k * 4 + 2, none⟩ (.int .i64 x.2.2.1)).setCell ⟨g, k * 4 + 3, none⟩ (.int .i64 x.2.2.2)

set_option maxHeartbeats 1000000 in
set_option maxRecDepth 100000 in
theorem swap_reads (g n cap : Nat) (i j : Nat) (x y : Wt) (w : World) (hi : i < n) (hj : j < n) (hij : ¬ i = j)
    (hx : w.cell? ⟨g, i * 4, none⟩ = some (.int .i64 x.1) ∧ w.cell? ⟨g, i * 4 + 1, none⟩ = some (.int .i64 x.2.1) ∧ w.cell? ⟨g, i * 4 + 2, none⟩ = some (.int .i64 x.2.2.1) ∧ w.cell? ⟨g, i * 4 + 3, none⟩ = some (.int .i64 x.2.2.2))
    (hy : w.cell? ⟨g, j * 4, none⟩ = some (.int .i64 y.1) ∧ w.cell? ⟨g, j * 4 + 1, none⟩ = some (.int .i64 y.2.1) ∧ w.cell? ⟨g, j * 4 + 2, none⟩ = some (.int .i64 y.2.2.1) ∧ w.cell? ⟨g, j * 4 + 3, none⟩ = some (.int .i64 y.2.2.2))
    (hf : ∀ k, w.frozen? ⟨g, k, none⟩ = false) :
    Calls Tryz.prog 120 #[.slice (some ⟨g, 0, none⟩) n cap, .int .i64 i, .int .i64 j] w fun e w' => e = .returned (.tuple #[]) ∧ w' = (put4 (put4 w g i y) g j x).drew := by
  obtain ⟨x0, x1, x2, x3⟩ := hx
  obtain ⟨y0, y1, y2, y3⟩ := hy
  unfold put4
  go_enter Tryz.func120, Tryz.ntmps120
  go_wp2
  go_region
  go_end0
  exact ⟨rfl, rfl⟩

set_option maxHeartbeats 1000000 in
set_option maxRecDepth 100000 in
theorem swap_reads_same (g n cap : Nat) (i : Nat) (x : Wt) (w : World) (hi : i < n)
    (hx : w.cell? ⟨g, i * 4, none⟩ = some (.int .i64 x.1) ∧ w.cell? ⟨g, i * 4 + 1, none⟩ = some (.int .i64 x.2.1) ∧ w.cell? ⟨g, i * 4 + 2, none⟩ = some (.int .i64 x.2.2.1) ∧ w.cell? ⟨g, i * 4 + 3, none⟩ = some (.int .i64 x.2.2.2))
    (hf : ∀ k, w.frozen? ⟨g, k, none⟩ = false) :
    Calls Tryz.prog 120 #[.slice (some ⟨g, 0, none⟩) n cap, .int .i64 i, .int .i64 i] w fun e w' => e = .returned (.tuple #[]) ∧ w' = (put4 (put4 w g i x) g i x).drew := by
  obtain ⟨x0, x1, x2, x3⟩ := hx
  unfold put4
  go_enter Tryz.func120, Tryz.ntmps120
  go_wp2
  go_region
  go_end0
  exact ⟨rfl, rfl⟩

theorem info_wt : (Tryz.prog.info? 66).map (fun i => (i.zero, i.size, i.bytes)) = some (some (.agg #[.int .i64 0, .int .i64 0, .int .i64 0, .int .i64 0]), 4, 32) := by kernel_rfl
theorem ta_wt (v : Value) (w : World) : (Instr.typeAssert (.iface 66 v) 20 66 false).run Tryz.prog w = .ok v w := by kernel_rfl

set_option maxHeartbeats 400000 in
set_option maxRecDepth 100000 in
theorem push_reads (ab ao : Nat) (v : Value) (base n : Nat) (xs : List Value) (x : Wt) (w : World) (hc : w.cell? ⟨ab, ao, none⟩ = some v) (hf : w.frozen? ⟨ab, ao, none⟩ = false)
    (ho : w.ownsRow base 66 4 v n xs) (hne : v.ownBlock ≠ some ab) (hn : n ≤ 1000000) (hb : base ≤ w.heap.size) :
    Calls Tryz.prog 126 #[.pointer (some ⟨ab, ao, none⟩), .iface 66 (wv x)] w fun e w' => e = .returned (.tuple #[]) ∧
      ∃ g cap, w'.cell? ⟨ab, ao, none⟩ = some (.slice (some ⟨g, 0, none⟩) (n + 1) cap) ∧ w'.frozen? ⟨ab, ao, none⟩ = false ∧ w'.ownsRow base 66 4 (.slice (some ⟨g, 0, none⟩) (n + 1) cap) (n + 1) (xs ++ [.int .i64 x.1, .int .i64 x.2.1, .int .i64 x.2.2.1, .int .i64 x.2.2.2]) ∧
        Fr (fun k => k = ab ∨ v.ownBlock = some k) w w' ∧ Lies v g w.heap.size ∧ g ≠ ab ∧ Others ab ao w w' := by
  obtain ⟨i0, hi0, hz0, hz1, hz2⟩ := info_parts info_wt
  have hlt := cell_lt hc
  obtain ⟨p, c, rfl⟩ := owns_slice ho
  have HO := Lib.hid ho; clear ho
  have HN := Lib.hid hne; clear hne
  have hta := ta_wt
  go_enter Tryz.func126, Tryz.ntmps126
  go_wp2
  go_region_law (refine step_append_lies _ rfl _ _ 31 rfl base 66 i0 _ 4 32 Tryz.underlying31 hi0 hz0 hz1 hz2 rfl (by omega) (.slice p n c) n xs rfl (HO.out.drew.alloc _) ⟨w.heap.size, 0, none⟩ 1 1 [.int .i64 x.1, .int .i64 x.2.1, .int .i64 x.2.2.1, .int .i64 x.2.2.2] rfl rfl (new_cells w.drew _ _) (by simp [Value.oneCell']) (by omega) (by unfold maxLen; omega) (by omega) (by simp; omega) (w.heap.size + 1) (by simp) ?_; intro g cap w1 hown hgr hat hg; have HOWN := Lib.hid hown; clear hown; have hpf := push_facts hlt HN.out hgr; have HFR := Lib.hid hpf; have hc1 := (World.cell?_of_block (a := ⟨ab, ao, none⟩) hpf.1).trans hc; have hf1 := (World.frozen?_of_block (a := ⟨ab, ao, none⟩) hpf.1).trans hf; have HAT := Lib.hid hat; clear hpf hat hgr)
  all_goals
    go_end0
    exact ⟨rfl, g, cap, push_end hlt HN.out HFR.out HOWN.out HAT.out (by omega) hc1 hf1⟩

set_option maxHeartbeats 400000 in
set_option maxRecDepth 100000 in
theorem pop_reads (ab ao g n cap : Nat) (x : Wt) (w : World) (hc : w.cell? ⟨ab, ao, none⟩ = some (.slice (some ⟨g, 0, none⟩) (n + 1) cap)) (hf : w.frozen? ⟨ab, ao, none⟩ = false)
    (hx : w.cell? ⟨g, n * 4, none⟩ = some (.int .i64 x.1) ∧ w.cell? ⟨g, n * 4 + 1, none⟩ = some (.int .i64 x.2.1) ∧ w.cell? ⟨g, n * 4 + 2, none⟩ = some (.int .i64 x.2.2.1) ∧ w.cell? ⟨g, n * 4 + 3, none⟩ = some (.int .i64 x.2.2.2)) (hn : n + 1 ≤ cap) (hm : n ≤ 1000000) :
    Calls Tryz.prog 125 #[.pointer (some ⟨ab, ao, none⟩)] w fun e w' => e = .returned (.iface 66 (wv x)) ∧ w' = (w.setCell ⟨ab, ao, none⟩ (.slice (some ⟨g, 0, none⟩) n cap)).alloc (.cells #[.int .i64 x.1, .int .i64 x.2.1, .int .i64 x.2.2.1, .int .i64 x.2.2.2] 66) := by
  obtain ⟨x0, x1, x2, x3⟩ := hx
  have hlt := cell_lt hc
  have hlg := cell_lt x0
  go_enter Tryz.func125, Tryz.ntmps125
  go_wp2
  go_ret
  exact ⟨rfl, rfl⟩

theorem len_reads (p : Option Addr) (n c : Nat) (w : World) :
    Calls Tryz.prog 118 #[.slice p n c] w fun e w' => e = .returned (.int .i64 n) ∧ w = w' := by
  go_enter Tryz.func118, Tryz.ntmps118
  go_wp2
  go_ret
  exact ⟨rfl, rfl⟩
end Go.Proofs.YtjpmebfegpmccaaGreat
