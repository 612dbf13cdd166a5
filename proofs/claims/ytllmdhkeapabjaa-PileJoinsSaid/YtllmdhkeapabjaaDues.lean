/- pile's dues as a heap.Interface: the contracts of its methods. -/
import Derived.Test.YtllmdhkeapabjaaHeapE
import Derived.Test.YtllmdhkeapabjaaOrd
import Derived.Test.YtllmdhkeapabjaaFr
import Derived.StillTailTactics
import Derived.Deep.AppendLies
import Derived.Deep.RegionHeld3
import Derived.Deep.RegionLaw
import Derived.BigRegion
import Derived.Laws.OwnMore
namespace Go.Proofs.Ytllmdhkeapabjaa
open Go.RowKit

theorem inv_dues_len (a : Addr) (v : Value) (w : World) (h : w.cell? a = some v) :
    (invoke (.fn (.method "Len") #[]) #[.iface 48 (.pointer (some a))]).run Try.prog w = .ok (.enter 95 #[v]) w := by
  have e : (invoke (.fn (.method "Len") #[]) #[.iface 48 (.pointer (some a))]).run Try.prog w = (match w.cell? a with
      | some v => .ok (.enter 95 #[v]) w
      | none => match w.farLoad Try.prog a false with
        | .ok (v, _) => .ok (.enter 95 #[v]) w
        | .error h => .halt h w) := by kernel_rfl
  rw [e, h]
theorem or_cells (V : World) (x y : Int) (t : TypeId) : ∀ i, i < [x, y].length → (V.alloc (.cells #[.int .i64 x, .int .i64 y] t)).cell? ⟨V.heap.size, 0 + i, none⟩ = some (.int .i64 ([x, y].getD i 0)) := by
  intro i hi
  have hi' : i < 2 := hi
  rw [Nat.zero_add]
  match i, hi' with
  | 0, _ => go_simp
  | 1, _ => go_simp

/-- What 'compare' answers. -/
def cmpD (x y : Int × Int × Int) : Int := orI [cmpI x.1 y.1, cmpI x.2.1 y.2.1]

abbrev dv (x : Int × Int × Int) : Value := .agg #[.int .i64 x.1, .int .i64 x.2.1, .int .i64 x.2.2]

set_option maxHeartbeats 400000 in
set_option maxRecDepth 100000 in
theorem compare_dues (x y : Int × Int × Int) (w : World) :
    Calls Try.prog 33 #[dv x, dv y] w fun e w' => e = .returned (.int .i64 (cmpD x y)) ∧ Below w.heap.size w w' := by
  obtain ⟨a1, s1, t1⟩ := x
  obtain ⟨a2, s2, t2⟩ := y
  unfold dv
  go_enter Try.func33, Try.ntmps33
  go_wp2_with fail
  refine region_tail 10 (by kernel_rfl) (by kernel_rfl) (fun V => V.cell? ⟨w.heap.size, 0, none⟩ = some (.int .i64 a1) ∧ V.cell? ⟨w.heap.size, 0 + 1, none⟩ = some (.int .i64 s1) ∧ V.cell? ⟨w.heap.size + 1, 0, none⟩ = some (.int .i64 a2) ∧ V.cell? ⟨w.heap.size + 1, 0 + 1, none⟩ = some (.int .i64 s2) ∧ Below w.heap.size w V) ⟨by go_simp, by go_simp, by go_simp, by go_simp, (((Below.refl _ _).alloc (Nat.le_refl _) _).alloc (by simp) _).drew⟩ ?_
  rintro V ⟨c1, c2, c3, c4, hb⟩
  simp only [List.take_succ_cons, List.take_zero, List.drop_succ_cons, List.drop_zero]
  iterate 4 still_step
  still_call (still_of (compare_int _ _ _))
  iterate 4 still_step
  still_call (still_of (compare_int _ _ _))
  refine wpStill_nil ?_
  go_wp2_with fail
  refine (or_int V.heap.size 0 [cmpI a1 a2, cmpI s1 s2] 2 _ (by simp) (or_cells V _ _ _)).mono ?_
  rintro e w' ⟨rfl, rfl⟩
  go_wp2
  go_ret
  exact ⟨rfl, hb.alloc (by have := hb.size; omega) _⟩

set_option maxHeartbeats 400000 in
set_option maxRecDepth 100000 in
theorem less_dues (g n cap : Nat) (i j : Int) (x y : Int × Int × Int) (w : World) (hi0 : 0 ≤ i) (hi : i < n) (hj0 : 0 ≤ j) (hj : j < n)
    (hx0 : w.cell? ⟨g, i.toNat * 3, none⟩ = some (.int .i64 x.1)) (hx1 : w.cell? ⟨g, i.toNat * 3 + 1, none⟩ = some (.int .i64 x.2.1)) (hx2 : w.cell? ⟨g, i.toNat * 3 + 2, none⟩ = some (.int .i64 x.2.2))
    (hy0 : w.cell? ⟨g, j.toNat * 3, none⟩ = some (.int .i64 y.1)) (hy1 : w.cell? ⟨g, j.toNat * 3 + 1, none⟩ = some (.int .i64 y.2.1)) (hy2 : w.cell? ⟨g, j.toNat * 3 + 2, none⟩ = some (.int .i64 y.2.2)) :
    Calls Try.prog 96 #[.slice (some ⟨g, 0, none⟩) n cap, .int .i64 i, .int .i64 j] w fun e w' => e = .returned (.bool (decide (cmpD x y < 0))) ∧ Below w.heap.size w w' := by
  have HX := Lib.hid (And.intro hx0 (And.intro hx1 (And.intro hx2 (And.intro hy0 (And.intro hy1 hy2)))))
  clear hx0 hx1 hx2 hy0 hy1 hy2
  go_enter Try.func96, Try.ntmps96
  go_wp2_with fail
  refine region_tail 8 (by kernel_rfl) (by kernel_rfl) (fun V => (V.cell? ⟨g, i.toNat * 3, none⟩ = some (.int .i64 x.1) ∧ V.cell? ⟨g, i.toNat * 3 + 1, none⟩ = some (.int .i64 x.2.1) ∧ V.cell? ⟨g, i.toNat * 3 + 2, none⟩ = some (.int .i64 x.2.2) ∧ V.cell? ⟨g, j.toNat * 3, none⟩ = some (.int .i64 y.1) ∧ V.cell? ⟨g, j.toNat * 3 + 1, none⟩ = some (.int .i64 y.2.1) ∧ V.cell? ⟨g, j.toNat * 3 + 2, none⟩ = some (.int .i64 y.2.2)) ∧ Below w.heap.size w V) ⟨HX.out, (Below.refl _ _).drew⟩ ?_
  rintro V ⟨⟨hx0, hx1, hx2, hy0, hy1, hy2⟩, hb⟩
  simp only [List.take_succ_cons, List.take_zero, List.drop_succ_cons, List.drop_zero]
  iterate 8 still_step
  refine wpStill_nil ?_
  go_wp2_with (go_at_call 33; (with_reducible refine (compare_dues x y V).mono ?_); rintro e w' ⟨rfl, hb'⟩)
  go_ret
  exact ⟨rfl, hb.trans (hb'.mono hb.size)⟩

set_option maxHeartbeats 400000 in
set_option maxRecDepth 100000 in
theorem swap_dues (g n cap : Nat) (i j : Nat) (x y : Int × Int × Int) (w : World) (hi : i < n) (hj : j < n) (hij : ¬ i = j)
    (hx0 : w.cell? ⟨g, i * 3, none⟩ = some (.int .i64 x.1)) (hx1 : w.cell? ⟨g, i * 3 + 1, none⟩ = some (.int .i64 x.2.1)) (hx2 : w.cell? ⟨g, i * 3 + 2, none⟩ = some (.int .i64 x.2.2))
    (hy0 : w.cell? ⟨g, j * 3, none⟩ = some (.int .i64 y.1)) (hy1 : w.cell? ⟨g, j * 3 + 1, none⟩ = some (.int .i64 y.2.1)) (hy2 : w.cell? ⟨g, j * 3 + 2, none⟩ = some (.int .i64 y.2.2))
    (hf : ∀ k, w.frozen? ⟨g, k, none⟩ = false) :
    Calls Try.prog 97 #[.slice (some ⟨g, 0, none⟩) n cap, .int .i64 i, .int .i64 j] w fun e w' => e = .returned (.tuple #[]) ∧ w' = ((((((w.setCell ⟨g, i * 3, none⟩ (.int .i64 y.1)).setCell ⟨g, i * 3 + 1, none⟩ (.int .i64 y.2.1)).setCell ⟨g, i * 3 + 2, none⟩ (.int .i64 y.2.2)).setCell ⟨g, j * 3, none⟩ (.int .i64 x.1)).setCell ⟨g, j * 3 + 1, none⟩ (.int .i64 x.2.1)).setCell ⟨g, j * 3 + 2, none⟩ (.int .i64 x.2.2)).drew := by
  go_enter Try.func97, Try.ntmps97
  go_wp2
  go_region
  go_end0
  exact ⟨rfl, rfl⟩

set_option maxHeartbeats 400000 in
set_option maxRecDepth 100000 in
theorem swap_dues_same (g n cap : Nat) (i : Nat) (x : Int × Int × Int) (w : World) (hi : i < n)
    (hx0 : w.cell? ⟨g, i * 3, none⟩ = some (.int .i64 x.1)) (hx1 : w.cell? ⟨g, i * 3 + 1, none⟩ = some (.int .i64 x.2.1)) (hx2 : w.cell? ⟨g, i * 3 + 2, none⟩ = some (.int .i64 x.2.2))
    (hf : ∀ k, w.frozen? ⟨g, k, none⟩ = false) :
    Calls Try.prog 97 #[.slice (some ⟨g, 0, none⟩) n cap, .int .i64 i, .int .i64 i] w fun e w' => e = .returned (.tuple #[]) ∧ w' = ((((((w.setCell ⟨g, i * 3, none⟩ (.int .i64 x.1)).setCell ⟨g, i * 3 + 1, none⟩ (.int .i64 x.2.1)).setCell ⟨g, i * 3 + 2, none⟩ (.int .i64 x.2.2)).setCell ⟨g, i * 3, none⟩ (.int .i64 x.1)).setCell ⟨g, i * 3 + 1, none⟩ (.int .i64 x.2.1)).setCell ⟨g, i * 3 + 2, none⟩ (.int .i64 x.2.2)).drew := by
  go_enter Try.func97, Try.ntmps97
  go_wp2
  go_region
  go_end0
  exact ⟨rfl, rfl⟩

theorem info_due : (Try.prog.info? 28).map (fun i => (i.zero, i.size, i.bytes)) = some (some (.agg #[.int .i64 0, .int .i64 0, .int .i64 0]), 3, 24) := by kernel_rfl

theorem ta_due (v : Value) (w : World) : (Instr.typeAssert (.iface 28 v) 20 28 false).run Try.prog w = .ok v w := by kernel_rfl

set_option maxHeartbeats 400000 in
set_option maxRecDepth 100000 in
theorem push_dues (ab ao : Nat) (v : Value) (base n : Nat) (xs : List Value) (x : Int × Int × Int) (w : World) (hc : w.cell? ⟨ab, ao, none⟩ = some v) (hf : w.frozen? ⟨ab, ao, none⟩ = false)
    (ho : w.ownsRow base 28 3 v n xs) (hne : v.ownBlock ≠ some ab) (hn : n ≤ 1000000) (hb : base ≤ w.heap.size) :
    Calls Try.prog 99 #[.pointer (some ⟨ab, ao, none⟩), .iface 28 (dv x)] w fun e w' => e = .returned (.tuple #[]) ∧
      ∃ g cap, w'.cell? ⟨ab, ao, none⟩ = some (.slice (some ⟨g, 0, none⟩) (n + 1) cap) ∧ w'.frozen? ⟨ab, ao, none⟩ = false ∧ w'.ownsRow base 28 3 (.slice (some ⟨g, 0, none⟩) (n + 1) cap) (n + 1) (xs ++ [.int .i64 x.1, .int .i64 x.2.1, .int .i64 x.2.2]) ∧
        Fr (fun k => k = ab ∨ v.ownBlock = some k) w w' ∧ Lies v g w.heap.size ∧ g ≠ ab ∧ Others ab ao w w' := by
  obtain ⟨i0, hi0, hz0, hz1, hz2⟩ := info_parts info_due
  have hlt := cell_lt hc
  obtain ⟨p, c, rfl⟩ := owns_slice ho
  have HO := Lib.hid ho; clear ho
  have HN := Lib.hid hne; clear hne
  have hta := ta_due
  go_enter Try.func99, Try.ntmps99
  go_wp2
  go_region_law (refine step_append_lies _ rfl _ _ 44 rfl base 28 i0 _ 3 24 Try.underlying44 hi0 hz0 hz1 hz2 rfl (by omega) (.slice p n c) n xs rfl (HO.out.drew.alloc _) ⟨w.heap.size, 0, none⟩ 1 1 [.int .i64 x.1, .int .i64 x.2.1, .int .i64 x.2.2] rfl rfl (new_cells w.drew _ _) (by simp [Value.oneCell']) (by omega) (by unfold maxLen; omega) (by omega) (by simp; omega) (w.heap.size + 1) (by simp) ?_; intro g cap w1 hown hgr hat hg; have HOWN := Lib.hid hown; clear hown; have hpf := push_facts hlt HN.out hgr; have HFR := Lib.hid hpf; have hc1 := (World.cell?_of_block (a := ⟨ab, ao, none⟩) hpf.1).trans hc; have hf1 := (World.frozen?_of_block (a := ⟨ab, ao, none⟩) hpf.1).trans hf; have HAT := Lib.hid hat; clear hpf hat hgr)
  all_goals
    go_end0
    exact ⟨rfl, g, cap, push_end hlt HN.out HFR.out HOWN.out HAT.out (by omega) hc1 hf1⟩
set_option maxHeartbeats 400000 in
set_option maxRecDepth 100000 in
theorem pop_dues (ab ao g n cap : Nat) (x : Int × Int × Int) (w : World) (hc : w.cell? ⟨ab, ao, none⟩ = some (.slice (some ⟨g, 0, none⟩) (n + 1) cap)) (hf : w.frozen? ⟨ab, ao, none⟩ = false)
    (hx0 : w.cell? ⟨g, n * 3, none⟩ = some (.int .i64 x.1)) (hx1 : w.cell? ⟨g, n * 3 + 1, none⟩ = some (.int .i64 x.2.1)) (hx2 : w.cell? ⟨g, n * 3 + 2, none⟩ = some (.int .i64 x.2.2)) (hn : n + 1 ≤ cap) (hm : n ≤ 1000000) :
    Calls Try.prog 98 #[.pointer (some ⟨ab, ao, none⟩)] w fun e w' => e = .returned (.iface 28 (dv x)) ∧ w' = (w.setCell ⟨ab, ao, none⟩ (.slice (some ⟨g, 0, none⟩) n cap)).alloc (.cells #[.int .i64 x.1, .int .i64 x.2.1, .int .i64 x.2.2] 28) := by
  have hlt := cell_lt hc
  have hlg := cell_lt hx0
  go_enter Try.func98, Try.ntmps98
  go_wp2
  go_ret
  exact ⟨rfl, rfl⟩

theorem len_dues (p : Option Addr) (n c : Nat) (w : World) :
    Calls Try.prog 95 #[.slice p n c] w fun e w' => e = .returned (.int .i64 n) ∧ w = w' := by
  go_enter Try.func95, Try.ntmps95
  go_wp2
  go_ret
  exact ⟨rfl, rfl⟩
end Go.Proofs.Ytllmdhkeapabjaa
