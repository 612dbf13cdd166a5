/- hist's begins: the methods of its heap.Interface. -/
import Derived.Test.YtaijjmhannhkcaaHEv
import Derived.Test.YtaijjmhannhkcaaHeapE
import Derived.Test.YtaijjmhannhkcaaLater
import Derived.Deep.RegionLaw
import Derived.BigRegion
import Derived.Deep.AppendLies
namespace Go.Proofs.Ytaijjmhannhkcaa
open Go.RowKit

theorem len_beg (hb : Nat) (p : Option Addr) (n c : Nat) (w : World) (h : w.cell? ⟨hb, 1, none⟩ = some (.slice p n c)) :
    Calls Try.prog 29 #[.pointer (some ⟨hb, 0, none⟩)] w fun e w' => e = .returned (.int .i64 n) ∧ w = w' := by
  go_enter Try.func29, Try.ntmps29
  go_wp2
  go_ret
  exact ⟨rfl, rfl⟩

set_option maxHeartbeats 2000000 in
set_option maxRecDepth 100000 in
theorem less_beg (hb g n cap i j b o m ec x y : Nat) (fx fy : Int) (w : World) (h0 : w.cell? ⟨hb, 0, none⟩ = some (.slice (some ⟨b, o, none⟩) m ec)) (h1 : w.cell? ⟨hb, 1, none⟩ = some (.slice (some ⟨g, 0, none⟩) n cap)) (hi : i < n) (hj : j < n)
    (hx : w.cell? ⟨g, i, none⟩ = some (.int .i64 x)) (hy : w.cell? ⟨g, j, none⟩ = some (.int .i64 y)) (hxm : x < m) (hym : y < m) (hfx : w.cell? ⟨b, o + x * 14 + 11, none⟩ = some (.int .i64 fx)) (hfy : w.cell? ⟨b, o + y * 14 + 11, none⟩ = some (.int .i64 fy)) :
    Calls Try.prog 74 #[.pointer (some ⟨hb, 0, none⟩), .int .i64 i, .int .i64 j] w fun e w' => e = .returned (.bool (decide (fx < fy) || (fx == fy && decide (x < y)))) ∧ Below w.heap.size w w' := by
  have l0 := cell_lt h0
  have l1 := cell_lt h1
  have lx := cell_lt hx
  have ly := cell_lt hy
  have lfx := cell_lt hfx
  have lfy := cell_lt hfy
  have q0 : ∀ q : Later w, q.1.cell? ⟨hb, 0, none⟩ = some (.slice (some ⟨b, o, none⟩) m ec) := fun q => (q.2.cell l0).trans h0
  have q1 : ∀ q : Later w, q.1.cell? ⟨hb, 1, none⟩ = some (.slice (some ⟨g, 0, none⟩) n cap) := fun q => (q.2.cell l1).trans h1
  have qx : ∀ q : Later w, q.1.cell? ⟨g, i, none⟩ = some (.int .i64 x) := fun q => (q.2.cell lx).trans hx
  have qy : ∀ q : Later w, q.1.cell? ⟨g, j, none⟩ = some (.int .i64 y) := fun q => (q.2.cell ly).trans hy
  have HFX : Hid (∀ W, Below w.heap.size w W → W.cell? ⟨b, o + x * 14 + 11, none⟩ = some (.int .i64 fx) ∧ W.cell? ⟨b, o + y * 14 + 11, none⟩ = some (.int .i64 fy) ∧ W.cell? ⟨hb, 0, none⟩ = some (.slice (some ⟨b, o, none⟩) m ec)) := Lib.hid (fun W hW => ⟨(hW.cell lfx).trans hfx, (hW.cell lfy).trans hfy, (hW.cell l0).trans h0⟩)
  have HQ : Hid (∀ {W W' : World}, Below w.heap.size w W → Below W.heap.size W W' → Below w.heap.size w W') := Lib.hid (fun h k => h.trans (k.mono h.size))
  have hxI : (x : Int) < (m : Int) := by omega
  have hyI : (y : Int) < (m : Int) := by omega
  have hiI : (i : Int) < (n : Int) := by omega
  have hjI : (j : Int) < (n : Int) := by omega
  clear l0 l1 lx ly lfx lfy h0 h1 hx hy hfx hfy
  cases hlt : decide (fx < fy)
  · cases heq : (fx == fy)
    · go_enter Try.func74, Try.ntmps74
      go_wp2
      refine wp_region_later (by kernel_rfl) (by kernel_rfl) ?_
      repeat (go_big_quiet_step (fail))
      refine wpQuiet_nil ?_
      intro W1 hw'
      obtain ⟨⟨wq, hq⟩, hw''⟩ := hw'
      subst hw''
      have p0 : ∀ q : Later W1, q.1.cell? ⟨hb, 0, none⟩ = some (.slice (some ⟨b, o, none⟩) m ec) := fun q => (HFX.out _ (HQ.out hq q.2)).2.2
      have pfx : ∀ q : Later W1, q.1.cell? ⟨b, o + x * 14 + 11, none⟩ = some (.int .i64 fx) := fun q => (HFX.out _ (HQ.out hq q.2)).1
      have pfy : ∀ q : Later W1, q.1.cell? ⟨b, o + y * 14 + 11, none⟩ = some (.int .i64 fy) := fun q => (HFX.out _ (HQ.out hq q.2)).2.1
      have HQ1 := Lib.hid hq
      clear q0 q1 qx qy hiI hjI hq HFX
      go_wp2
      refine wp_region_later (by kernel_rfl) (by kernel_rfl) ?_
      repeat (go_big_quiet_step (fail))
      refine wpQuiet_nil ?_
      intro W2 hw'
      obtain ⟨⟨wq, hq⟩, hw''⟩ := hw'
      subst hw''
      have HB2 := Lib.hid (HQ.out HQ1.out hq)
      clear p0 pfx pfy hq HQ
      go_wp2
      go_ret
      exact ⟨rfl, HB2.out⟩
    · go_enter Try.func74, Try.ntmps74
      go_wp2
      refine wp_region_later (by kernel_rfl) (by kernel_rfl) ?_
      repeat (go_big_quiet_step (fail))
      refine wpQuiet_nil ?_
      intro W1 hw'
      obtain ⟨⟨wq, hq⟩, hw''⟩ := hw'
      subst hw''
      have p0 : ∀ q : Later W1, q.1.cell? ⟨hb, 0, none⟩ = some (.slice (some ⟨b, o, none⟩) m ec) := fun q => (HFX.out _ (HQ.out hq q.2)).2.2
      have pfx : ∀ q : Later W1, q.1.cell? ⟨b, o + x * 14 + 11, none⟩ = some (.int .i64 fx) := fun q => (HFX.out _ (HQ.out hq q.2)).1
      have pfy : ∀ q : Later W1, q.1.cell? ⟨b, o + y * 14 + 11, none⟩ = some (.int .i64 fy) := fun q => (HFX.out _ (HQ.out hq q.2)).2.1
      have HQ1 := Lib.hid hq
      clear q0 q1 qx qy hiI hjI hq HFX
      go_wp2
      refine wp_region_later (by kernel_rfl) (by kernel_rfl) ?_
      repeat (go_big_quiet_step (fail))
      refine wpQuiet_nil ?_
      intro W2 hw'
      obtain ⟨⟨wq, hq⟩, hw''⟩ := hw'
      subst hw''
      have HB2 := Lib.hid (HQ.out HQ1.out hq)
      clear p0 pfx pfy hq HQ
      go_wp2
      go_ret
      exact ⟨rfl, HB2.out⟩
  · go_enter Try.func74, Try.ntmps74
    go_wp2
    refine wp_region_later (by kernel_rfl) (by kernel_rfl) ?_
    repeat (go_big_quiet_step (fail))
    refine wpQuiet_nil ?_
    intro W1 hw'
    obtain ⟨⟨wq, hq⟩, hw''⟩ := hw'
    subst hw''
    have p0 : ∀ q : Later W1, q.1.cell? ⟨hb, 0, none⟩ = some (.slice (some ⟨b, o, none⟩) m ec) := fun q => (HFX.out _ (HQ.out hq q.2)).2.2
    have pfx : ∀ q : Later W1, q.1.cell? ⟨b, o + x * 14 + 11, none⟩ = some (.int .i64 fx) := fun q => (HFX.out _ (HQ.out hq q.2)).1
    have pfy : ∀ q : Later W1, q.1.cell? ⟨b, o + y * 14 + 11, none⟩ = some (.int .i64 fy) := fun q => (HFX.out _ (HQ.out hq q.2)).2.1
    have HQ1 := Lib.hid hq
    clear q0 q1 qx qy hiI hjI hq HFX
    go_wp2
    refine wp_region_later (by kernel_rfl) (by kernel_rfl) ?_
    repeat (go_big_quiet_step (fail))
    refine wpQuiet_nil ?_
    intro W2 hw'
    obtain ⟨⟨wq, hq⟩, hw''⟩ := hw'
    subst hw''
    have HB2 := Lib.hid (HQ.out HQ1.out hq)
    clear p0 pfx pfy hq HQ
    go_wp2
    go_ret
    exact ⟨rfl, HB2.out⟩

set_option maxHeartbeats 2000000 in
set_option maxRecDepth 100000 in
theorem swap_beg (hb g n cap i j : Nat) (x y : Int) (w : World) (h1 : w.cell? ⟨hb, 1, none⟩ = some (.slice (some ⟨g, 0, none⟩) n cap)) (hi : i < n) (hj : j < n) (hij : ¬ i = j) (hgb : ¬ g = hb) (hx : w.cell? ⟨g, i, none⟩ = some (.int .i64 x)) (hy : w.cell? ⟨g, j, none⟩ = some (.int .i64 y)) (hf : ∀ k, w.frozen? ⟨g, k, none⟩ = false) :
    Calls Try.prog 77 #[.pointer (some ⟨hb, 0, none⟩), .int .i64 i, .int .i64 j] w fun e w' => e = .returned (.tuple #[]) ∧ w' = ((w.setCell ⟨g, i, none⟩ (.int .i64 y)).setCell ⟨g, j, none⟩ (.int .i64 x)).drew := by
  go_enter Try.func77, Try.ntmps77
  go_wp2
  go_region
  go_end0
  exact ⟨rfl, rfl⟩

set_option maxHeartbeats 2000000 in
set_option maxRecDepth 100000 in
theorem swap_beg_same (hb g n cap i : Nat) (x : Int) (w : World) (h1 : w.cell? ⟨hb, 1, none⟩ = some (.slice (some ⟨g, 0, none⟩) n cap)) (hi : i < n) (hx : w.cell? ⟨g, i, none⟩ = some (.int .i64 x)) (hf : ∀ k, w.frozen? ⟨g, k, none⟩ = false) :
    Calls Try.prog 77 #[.pointer (some ⟨hb, 0, none⟩), .int .i64 i, .int .i64 i] w fun e w' => e = .returned (.tuple #[]) ∧ w' = ((w.setCell ⟨g, i, none⟩ (.int .i64 x)).setCell ⟨g, i, none⟩ (.int .i64 x)).drew := by
  go_enter Try.func77, Try.ntmps77
  go_wp2
  go_region
  go_end0
  exact ⟨rfl, rfl⟩

theorem beg_ta (v : Value) (w : World) : (Instr.typeAssert (.iface 3 v) 20 3 false).run Try.prog w = .ok v w := by kernel_rfl

set_option maxHeartbeats 2000000 in
set_option maxRecDepth 100000 in
theorem push_beg (hb : Nat) (v : Value) (base n : Nat) (xs : List Value) (x : Int) (w : World) (hc : w.cell? ⟨hb, 1, none⟩ = some v) (hf : w.frozen? ⟨hb, 1, none⟩ = false)
    (ho : w.ownsRow base 3 1 v n xs) (hne : v.ownBlock ≠ some hb) (hn : n ≤ 1000000) (hb' : base ≤ w.heap.size) :
    Calls Try.prog 76 #[.pointer (some ⟨hb, 0, none⟩), .iface 3 (.int .i64 x)] w fun e w' => e = .returned (.tuple #[]) ∧
      ∃ g cap, w'.cell? ⟨hb, 1, none⟩ = some (.slice (some ⟨g, 0, none⟩) (n + 1) cap) ∧ w'.frozen? ⟨hb, 1, none⟩ = false ∧ w'.ownsRow base 3 1 (.slice (some ⟨g, 0, none⟩) (n + 1) cap) (n + 1) (xs ++ [.int .i64 x]) ∧
        Fr (fun k => k = hb ∨ v.ownBlock = some k) w w' ∧ Lies v g w.heap.size ∧ g ≠ hb ∧ Others hb 1 w w' := by
  obtain ⟨i0, hi0, hz0, hz1, hz2⟩ := info_parts info_int
  have hlt := cell_lt hc
  obtain ⟨p, c, rfl⟩ := owns_slice ho
  have HO := Lib.hid ho; clear ho
  have HN := Lib.hid hne; clear hne
  have hta := beg_ta
  go_enter Try.func76, Try.ntmps76
  go_wp2
  go_region_law (refine step_append_lies _ rfl _ _ 67 rfl base 3 i0 _ 1 8 Try.underlying67 hi0 hz0 hz1 hz2 rfl (by omega) (.slice p n c) n xs rfl (HO.out.drew.alloc _) ⟨w.heap.size, 0, none⟩ 1 1 [.int .i64 x] rfl rfl (new_cells w.drew _ _) (by simp [Value.oneCell']) (by omega) (by unfold maxLen; omega) (by omega) (by simp; omega) (w.heap.size + 1) (by simp) ?_; intro g cap w1 hown hgr hat hg; have HOWN := Lib.hid hown; clear hown; have hpf := push_facts hlt HN.out hgr; have HFR := Lib.hid hpf; have hc1 := (World.cell?_of_block (a := ⟨hb, 1, none⟩) hpf.1).trans hc; have hf1 := (World.frozen?_of_block (a := ⟨hb, 1, none⟩) hpf.1).trans hf; have HAT := Lib.hid hat; clear hpf hat hgr)
  all_goals
    go_end0
    exact ⟨rfl, g, cap, push_end hlt HN.out HFR.out HOWN.out HAT.out (by omega) hc1 hf1⟩

set_option maxHeartbeats 1000000 in
set_option maxRecDepth 100000 in
theorem pop_beg (hb g n cap : Nat) (x : Int) (w : World) (hc : w.cell? ⟨hb, 1, none⟩ = some (.slice (some ⟨g, 0, none⟩) (n + 1) cap)) (hf : w.frozen? ⟨hb, 1, none⟩ = false)
    (hx : w.cell? ⟨g, n, none⟩ = some (.int .i64 x)) (hn : n + 1 ≤ cap) (hm : n ≤ 1000000) :
    Calls Try.prog 75 #[.pointer (some ⟨hb, 0, none⟩)] w fun e w' => e = .returned (.iface 3 (.int .i64 x)) ∧ w' = w.setCell ⟨hb, 1, none⟩ (.slice (some ⟨g, 0, none⟩) n cap) := by
  have hlt := cell_lt hc
  have hlg := cell_lt hx
  go_enter Try.func75, Try.ntmps75
  go_wp2
  go_ret
  exact ⟨rfl, rfl⟩
end Go.Proofs.Ytaijjmhannhkcaa
