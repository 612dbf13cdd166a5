/- pile's numbers as a heap.Interface: the contracts of its methods. -/
import Derived.Test.YtmfidemkmmbioaaGreatHeapE
import Derived.Test.YtmfidemkmmbioaaGreatHeapI
import Derived.Test.YtmfidemkmmbioaaGreatFr
import Derived.Test.YtmfidemkmmbioaaGreatInts
import Derived.Deep.QuietTactic
import Derived.BigQuiet
import Derived.Deep.RegionLaw
import Derived.BigRegion
import Derived.Deep.AppendLies
namespace Go.Proofs.YtmfidemkmmbioaaGreat
open Go.RowKit

theorem len_nums (p : Option Addr) (n c : Nat) (w : World) :
    Calls Tryz.prog 167 #[.slice p n c] w fun e w' => e = .returned (.int .i64 n) ∧ w = w' := by
  go_enter Tryz.func167, Tryz.ntmps167
  go_wp2
  go_ret
  exact ⟨rfl, rfl⟩

set_option maxHeartbeats 400000 in
set_option maxRecDepth 100000 in
theorem less_nums (g n cap i j : Nat) (x y : Int) (w : World) (hi : i < n) (hj : j < n) (hx : w.cell? ⟨g, i, none⟩ = some (.int .i64 x)) (hy : w.cell? ⟨g, j, none⟩ = some (.int .i64 y)) :
    Calls Tryz.prog 168 #[.slice (some ⟨g, 0, none⟩) n cap, .int .i64 i, .int .i64 j] w fun e w' => e = .returned (.bool (decide (x < y))) ∧ ∃ m, w' = w.drewN m := by
  go_enter Tryz.func168, Tryz.ntmps168
  go_wp2
  go_quiet (fail)
  go_wp2
  go_ret
  exact ⟨rfl, _, rfl⟩

set_option maxHeartbeats 400000 in
set_option maxRecDepth 100000 in
theorem swap_nums (g n cap i j : Nat) (x y : Int) (w : World) (hi : i < n) (hj : j < n) (hij : ¬ i = j) (hx : w.cell? ⟨g, i, none⟩ = some (.int .i64 x)) (hy : w.cell? ⟨g, j, none⟩ = some (.int .i64 y)) (hf : ∀ k, w.frozen? ⟨g, k, none⟩ = false) :
    Calls Tryz.prog 169 #[.slice (some ⟨g, 0, none⟩) n cap, .int .i64 i, .int .i64 j] w fun e w' => e = .returned (.tuple #[]) ∧ w' = ((w.setCell ⟨g, i, none⟩ (.int .i64 y)).setCell ⟨g, j, none⟩ (.int .i64 x)).drew := by
  go_enter Tryz.func169, Tryz.ntmps169
  go_wp2
  go_region
  go_end0
  exact ⟨rfl, rfl⟩

set_option maxHeartbeats 400000 in
set_option maxRecDepth 100000 in
theorem swap_nums_same (g n cap i : Nat) (x : Int) (w : World) (hi : i < n) (hx : w.cell? ⟨g, i, none⟩ = some (.int .i64 x)) (hf : ∀ k, w.frozen? ⟨g, k, none⟩ = false) :
    Calls Tryz.prog 169 #[.slice (some ⟨g, 0, none⟩) n cap, .int .i64 i, .int .i64 i] w fun e w' => e = .returned (.tuple #[]) ∧ w' = ((w.setCell ⟨g, i, none⟩ (.int .i64 x)).setCell ⟨g, i, none⟩ (.int .i64 x)).drew := by
  go_enter Tryz.func169, Tryz.ntmps169
  go_wp2
  go_region
  go_end0
  exact ⟨rfl, rfl⟩

theorem ta_int (v : Value) (w : World) : (Instr.typeAssert (.iface 3 v) 20 3 false).run Tryz.prog w = .ok v w := by kernel_rfl

set_option maxHeartbeats 400000 in
set_option maxRecDepth 100000 in
theorem push_nums (ab ao : Nat) (v : Value) (base n : Nat) (xs : List Value) (x : Int) (w : World) (hc : w.cell? ⟨ab, ao, none⟩ = some v) (hf : w.frozen? ⟨ab, ao, none⟩ = false)
    (ho : w.ownsRow base 3 1 v n xs) (hne : v.ownBlock ≠ some ab) (hn : n ≤ 1000000) (hb : base ≤ w.heap.size) :
    Calls Tryz.prog 170 #[.pointer (some ⟨ab, ao, none⟩), .iface 3 (.int .i64 x)] w fun e w' => e = .returned (.tuple #[]) ∧
      ∃ g cap, w'.cell? ⟨ab, ao, none⟩ = some (.slice (some ⟨g, 0, none⟩) (n + 1) cap) ∧ w'.frozen? ⟨ab, ao, none⟩ = false ∧ w'.ownsRow base 3 1 (.slice (some ⟨g, 0, none⟩) (n + 1) cap) (n + 1) (xs ++ [.int .i64 x]) ∧
        Fr (fun k => k = ab ∨ v.ownBlock = some k) w w' ∧ Lies v g w.heap.size ∧ g ≠ ab ∧ Others ab ao w w' := by
  obtain ⟨i0, hi0, hz0, hz1, hz2⟩ := info_parts info_int
  have hlt := cell_lt hc
  obtain ⟨p, c, rfl⟩ := owns_slice ho
  have HO := Lib.hid ho; clear ho
  have HN := Lib.hid hne; clear hne
  have hta := ta_int
  go_enter Tryz.func170, Tryz.ntmps170
  go_wp2
  go_region_law (refine step_append_lies _ rfl _ _ 85 rfl base 3 i0 _ 1 8 Tryz.underlying85 hi0 hz0 hz1 hz2 rfl (by omega) (.slice p n c) n xs rfl (HO.out.drew.alloc _) ⟨w.heap.size, 0, none⟩ 1 1 [.int .i64 x] rfl rfl (new_cells w.drew _ _) (by simp [Value.oneCell']) (by omega) (by unfold maxLen; omega) (by omega) (by simp; omega) (w.heap.size + 1) (by simp) ?_; intro g cap w1 hown hgr hat hg; have HOWN := Lib.hid hown; clear hown; have hpf := push_facts hlt HN.out hgr; have HFR := Lib.hid hpf; have hc1 := (World.cell?_of_block (a := ⟨ab, ao, none⟩) hpf.1).trans hc; have hf1 := (World.frozen?_of_block (a := ⟨ab, ao, none⟩) hpf.1).trans hf; have HAT := Lib.hid hat; clear hpf hat hgr)
  all_goals
    go_end0
    exact ⟨rfl, g, cap, push_end hlt HN.out HFR.out HOWN.out HAT.out (by omega) hc1 hf1⟩

end Go.Proofs.YtmfidemkmmbioaaGreat
