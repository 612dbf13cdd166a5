/- net's dues as a heap.Interface: the contracts of its methods. -/
import Derived.Test.YthdpajgnigilhaaHeapE
import Derived.Test.YthdpajgnigilhaaOrd
import Derived.Test.YthdpajgnigilhaaFr
import Derived.StillTailTactics
import Derived.Deep.AppendLies
import Derived.Deep.RegionHeld3
import Derived.Deep.RegionLaw
import Derived.BigRegion
import Derived.Laws.OwnMore
namespace Go.Proofs.Ythdpajgnigilhaa
open Go.RowKit

theorem inv_dues_len (a : Addr) (v : Value) (w : World) (h : w.cell? a = some v) :
    (invoke (.fn (.method "Len") #[]) #[.iface 77 (.pointer (some a))]).run Try.prog w = .ok (.enter 92 #[v]) w := by
  have e : (invoke (.fn (.method "Len") #[]) #[.iface 77 (.pointer (some a))]).run Try.prog w = (match w.cell? a with
      | some v => .ok (.enter 92 #[v]) w
      | none => match w.farLoad Try.prog a false with
        | .ok (v, _) => .ok (.enter 92 #[v]) w
        | .error h => .halt h w) := by kernel_rfl
  rw [e, h]
theorem or_cells (V : World) (x y : Int) (t : TypeId) : ∀ i, i < [x, y].length → (V.alloc (.cells #[.int .i64 x, .int .i64 y] t)).cell? ⟨V.heap.size, 0 + i, none⟩ = some (.int .i64 ([x, y].getD i 0)) := by
  intro i hi
  have hi' : i < 2 := hi
  rw [Nat.zero_add]
  match i, hi' with
  | 0, _ => go_simp
  | 1, _ => go_simp

/-- A packet, when it is due, and its number. -/
structure Nd where
  fr : Int
  to : Int
  da : ByteArray
  at' : Int
  sq : Int
deriving Inhabited
/-- What 'compare' answers. -/
def cmpD (x y : Nd) : Int := orI [cmpI x.at' y.at', cmpI x.sq y.sq]

abbrev dv (x : Nd) : Value := .agg #[.int .i64 x.fr, .int .i64 x.to, .string x.da, .int .i64 x.at', .int .i64 x.sq]

set_option maxHeartbeats 400000 in
set_option maxRecDepth 100000 in
theorem compare_dues (x y : Nd) (w : World) :
    Calls Try.prog 47 #[dv x, dv y] w fun e w' => e = .returned (.int .i64 (cmpD x y)) ∧ Below w.heap.size w w' := by
  obtain ⟨f1, o1, b1, a1, s1⟩ := x
  obtain ⟨f2, o2, b2, a2, s2⟩ := y
  unfold dv
  go_enter Try.func47, Try.ntmps47
  go_wp2_with fail
  refine region_tail 10 (by kernel_rfl) (by kernel_rfl) (fun V => V.cell? ⟨w.heap.size, 0 + 3, none⟩ = some (.int .i64 a1) ∧ V.cell? ⟨w.heap.size, 0 + 4, none⟩ = some (.int .i64 s1) ∧ V.cell? ⟨w.heap.size + 1, 0 + 3, none⟩ = some (.int .i64 a2) ∧ V.cell? ⟨w.heap.size + 1, 0 + 4, none⟩ = some (.int .i64 s2) ∧ Below w.heap.size w V) ⟨by go_simp, by go_simp, by go_simp, by go_simp, (((Below.refl _ _).alloc (Nat.le_refl _) _).alloc (by simp) _).drew⟩ ?_
  rintro V ⟨c1, c2, c3, c4, hb⟩
  simp only [List.take_succ_cons, List.take_zero, List.drop_succ_cons, List.drop_zero]
  iterate 4 still_step
  still_call (still_of (compare_int _ _ _))
  iterate 4 still_step
  still_call (still_of (compare_int _ _ _))
  refine wpStill_nil ?_
  go_wp2_with fail
  refine (or_int V.heap.size 0 [cmpI a1 a2, cmpI s1 s2] 2 _ (by simp) (or_cells V _ _ _)).mono ?_
  rintro e w' ⟨rfl, rfl⟩
  go_wp2
  go_ret
  exact ⟨rfl, hb.alloc (by have := hb.size; omega) _⟩

theorem rowOf_set5 {α : Type} (f : α → List Value) (hf : ∀ x, (f x).length = 5) (l : List α) (k : Nat) (x : α) (a b c d e : Value) (hx : f x = [a, b, c, d, e]) (hk : k < l.length) :
    (((((rowOf f l).set (k * 5) a).set (k * 5 + 1) b).set (k * 5 + 2) c).set (k * 5 + 3) d).set (k * 5 + 4) e = rowOf f (l.set k x) := by
  induction l generalizing k with
  | nil => simp at hk
  | cons y l ih =>
    cases k with
    | zero =>
      have hy := hf y
      match hfy : f y, hy with
      | [p, q, r, s, t], _ => simp [rowOf, hfy, hx]
    | succ k =>
      have h1 : rowOf f (y :: l) = f y ++ rowOf f l := by simp [rowOf]
      have h2 : rowOf f ((y :: l).set (k + 1) x) = f y ++ rowOf f (l.set k x) := by simp [rowOf]
      rw [h1, h2, ← ih k (by simpa using hk)]
      have hl := hf y
      rw [List.set_append_right _ _ (by omega), List.set_append_right _ _ (by omega), List.set_append_right _ _ (by omega), List.set_append_right _ _ (by omega), List.set_append_right _ _ (by omega), hl,
        show (k + 1) * 5 - 5 = k * 5 by omega, show (k + 1) * 5 + 1 - 5 = k * 5 + 1 by omega, show (k + 1) * 5 + 2 - 5 = k * 5 + 2 by omega, show (k + 1) * 5 + 3 - 5 = k * 5 + 3 by omega, show (k + 1) * 5 + 4 - 5 = k * 5 + 4 by omega]

set_option maxHeartbeats 400000 in
set_option maxRecDepth 100000 in
theorem less_nets (g n cap : Nat) (i j : Int) (x y : Nd) (w : World) (hi0 : 0 ≤ i) (hi : i < n) (hj0 : 0 ≤ j) (hj : j < n)
    (hx : w.cell? ⟨g, i.toNat * 5, none⟩ = some (.int .i64 x.fr) ∧ w.cell? ⟨g, i.toNat * 5 + 1, none⟩ = some (.int .i64 x.to) ∧ w.cell? ⟨g, i.toNat * 5 + 2, none⟩ = some (.string x.da) ∧ w.cell? ⟨g, i.toNat * 5 + 3, none⟩ = some (.int .i64 x.at') ∧ w.cell? ⟨g, i.toNat * 5 + 4, none⟩ = some (.int .i64 x.sq))
    (hy : w.cell? ⟨g, j.toNat * 5, none⟩ = some (.int .i64 y.fr) ∧ w.cell? ⟨g, j.toNat * 5 + 1, none⟩ = some (.int .i64 y.to) ∧ w.cell? ⟨g, j.toNat * 5 + 2, none⟩ = some (.string y.da) ∧ w.cell? ⟨g, j.toNat * 5 + 3, none⟩ = some (.int .i64 y.at') ∧ w.cell? ⟨g, j.toNat * 5 + 4, none⟩ = some (.int .i64 y.sq)) :
    Calls Try.prog 93 #[.slice (some ⟨g, 0, none⟩) n cap, .int .i64 i, .int .i64 j] w fun e w' => e = .returned (.bool (decide (cmpD x y < 0))) ∧ Below w.heap.size w w' := by
  have HX := Lib.hid (And.intro hx hy)
  clear hx hy
  go_enter Try.func93, Try.ntmps93
  go_wp2_with fail
  refine region_tail 8 (by kernel_rfl) (by kernel_rfl) (fun V => ((V.cell? ⟨g, i.toNat * 5, none⟩ = some (.int .i64 x.fr) ∧ V.cell? ⟨g, i.toNat * 5 + 1, none⟩ = some (.int .i64 x.to) ∧ V.cell? ⟨g, i.toNat * 5 + 2, none⟩ = some (.string x.da) ∧ V.cell? ⟨g, i.toNat * 5 + 3, none⟩ = some (.int .i64 x.at') ∧ V.cell? ⟨g, i.toNat * 5 + 4, none⟩ = some (.int .i64 x.sq)) ∧
    (V.cell? ⟨g, j.toNat * 5, none⟩ = some (.int .i64 y.fr) ∧ V.cell? ⟨g, j.toNat * 5 + 1, none⟩ = some (.int .i64 y.to) ∧ V.cell? ⟨g, j.toNat * 5 + 2, none⟩ = some (.string y.da) ∧ V.cell? ⟨g, j.toNat * 5 + 3, none⟩ = some (.int .i64 y.at') ∧ V.cell? ⟨g, j.toNat * 5 + 4, none⟩ = some (.int .i64 y.sq))) ∧ Below w.heap.size w V) ⟨HX.out, (Below.refl _ _).drew⟩ ?_
  rintro V ⟨⟨⟨x0, x1, x2, x3, x4⟩, ⟨y0, y1, y2, y3, y4⟩⟩, hb⟩
  simp only [List.take_succ_cons, List.take_zero, List.drop_succ_cons, List.drop_zero]
  iterate 8 still_step
  refine wpStill_nil ?_
  go_wp2_with (go_at_call 47; (with_reducible refine (compare_dues x y V).mono ?_); rintro e w' ⟨rfl, hb'⟩)
  go_ret
  exact ⟨rfl, hb.trans (hb'.mono hb.size)⟩

/-- Five cells written. -/
def put5 (w : World) (g k : Nat) (x : Nd) : World :=
  ((((w.setCell ⟨g, k * 5, none⟩ (.int .i64 x.fr)).setCell ⟨g, k * 5 + 1, none⟩ (.int .i64 x.to)).setCell ⟨g, k * 5 + 2, none⟩ (.string x.da)).setCell ⟨g, k * 5 + 3, none⟩ (.int .i64 x.at')).setCell ⟨g, k * 5 + 4, none⟩ (.int .i64 x.sq)

set_option maxHeartbeats 1000000 in
set_option maxRecDepth 100000 in
theorem swap_nets (g n cap : Nat) (i j : Nat) (x y : Nd) (w : World) (hi : i < n) (hj : j < n) (hij : ¬ i = j)
    (hx : w.cell? ⟨g, i * 5, none⟩ = some (.int .i64 x.fr) ∧ w.cell? ⟨g, i * 5 + 1, none⟩ = some (.int .i64 x.to) ∧ w.cell? ⟨g, i * 5 + 2, none⟩ = some (.string x.da) ∧ w.cell? ⟨g, i * 5 + 3, none⟩ = some (.int .i64 x.at') ∧ w.cell? ⟨g, i * 5 + 4, none⟩ = some (.int .i64 x.sq))
    (hy : w.cell? ⟨g, j * 5, none⟩ = some (.int .i64 y.fr) ∧ w.cell? ⟨g, j * 5 + 1, none⟩ = some (.int .i64 y.to) ∧ w.cell? ⟨g, j * 5 + 2, none⟩ = some (.string y.da) ∧ w.cell? ⟨g, j * 5 + 3, none⟩ = some (.int .i64 y.at') ∧ w.cell? ⟨g, j * 5 + 4, none⟩ = some (.int .i64 y.sq))
    (hf : ∀ k, w.frozen? ⟨g, k, none⟩ = false) :
    Calls Try.prog 94 #[.slice (some ⟨g, 0, none⟩) n cap, .int .i64 i, .int .i64 j] w fun e w' => e = .returned (.tuple #[]) ∧ w' = (put5 (put5 w g i y) g j x).drew := by
  obtain ⟨x0, x1, x2, x3, x4⟩ := hx
  obtain ⟨y0, y1, y2, y3, y4⟩ := hy
  unfold put5
  go_enter Try.func94, Try.ntmps94
  go_wp2
  go_region
  go_end0
  exact ⟨rfl, rfl⟩

set_option maxHeartbeats 1000000 in
set_option maxRecDepth 100000 in
theorem swap_nets_same (g n cap : Nat) (i : Nat) (x : Nd) (w : World) (hi : i < n)
    (hx : w.cell? ⟨g, i * 5, none⟩ = some (.int .i64 x.fr) ∧ w.cell? ⟨g, i * 5 + 1, none⟩ = some (.int .i64 x.to) ∧ w.cell? ⟨g, i * 5 + 2, none⟩ = some (.string x.da) ∧ w.cell? ⟨g, i * 5 + 3, none⟩ = some (.int .i64 x.at') ∧ w.cell? ⟨g, i * 5 + 4, none⟩ = some (.int .i64 x.sq))
    (hf : ∀ k, w.frozen? ⟨g, k, none⟩ = false) :
    Calls Try.prog 94 #[.slice (some ⟨g, 0, none⟩) n cap, .int .i64 i, .int .i64 i] w fun e w' => e = .returned (.tuple #[]) ∧ w' = (put5 (put5 w g i x) g i x).drew := by
  obtain ⟨x0, x1, x2, x3, x4⟩ := hx
  unfold put5
  go_enter Try.func94, Try.ntmps94
  go_wp2
  go_region
  go_end0
  exact ⟨rfl, rfl⟩

theorem info_wt : (Try.prog.info? 75).map (fun i => (i.zero, i.size, i.bytes)) = some (some (.agg #[.int .i64 0, .int .i64 0, .string ByteArray.empty, .int .i64 0, .int .i64 0]), 5, 48) := by kernel_rfl
theorem ta_wt (v : Value) (w : World) : (Instr.typeAssert (.iface 75 v) 20 75 false).run Try.prog w = .ok v w := by kernel_rfl

set_option maxHeartbeats 400000 in
set_option maxRecDepth 100000 in
theorem push_nets (ab ao : Nat) (v : Value) (base n : Nat) (xs : List Value) (x : Nd) (w : World) (hc : w.cell? ⟨ab, ao, none⟩ = some v) (hf : w.frozen? ⟨ab, ao, none⟩ = false)
    (ho : w.ownsRow base 75 5 v n xs) (hne : v.ownBlock ≠ some ab) (hn : n ≤ 1000000) (hb : base ≤ w.heap.size) :
    Calls Try.prog 96 #[.pointer (some ⟨ab, ao, none⟩), .iface 75 (dv x)] w fun e w' => e = .returned (.tuple #[]) ∧
      ∃ g cap, w'.cell? ⟨ab, ao, none⟩ = some (.slice (some ⟨g, 0, none⟩) (n + 1) cap) ∧ w'.frozen? ⟨ab, ao, none⟩ = false ∧ w'.ownsRow base 75 5 (.slice (some ⟨g, 0, none⟩) (n + 1) cap) (n + 1) (xs ++ [.int .i64 x.fr, .int .i64 x.to, .string x.da, .int .i64 x.at', .int .i64 x.sq]) ∧
        Fr (fun k => k = ab ∨ v.ownBlock = some k) w w' ∧ Lies v g w.heap.size ∧ g ≠ ab ∧ Others ab ao w w' := by
  obtain ⟨i0, hi0, hz0, hz1, hz2⟩ := info_parts info_wt
  have hlt := cell_lt hc
  obtain ⟨p, c, rfl⟩ := owns_slice ho
  have HO := Lib.hid ho; clear ho
  have HN := Lib.hid hne; clear hne
  have hta := ta_wt
  go_enter Try.func96, Try.ntmps96
  go_wp2
  go_region_law (refine step_append_lies _ rfl _ _ 47 rfl base 75 i0 _ 5 48 Try.underlying47 hi0 hz0 hz1 hz2 rfl (by omega) (.slice p n c) n xs rfl (HO.out.drew.alloc _) ⟨w.heap.size, 0, none⟩ 1 1 [.int .i64 x.fr, .int .i64 x.to, .string x.da, .int .i64 x.at', .int .i64 x.sq] rfl rfl (new_cells w.drew _ _) (by simp [Value.oneCell']) (by omega) (by unfold maxLen; omega) (by omega) (by simp; omega) (w.heap.size + 1) (by simp) ?_; intro g cap w1 hown hgr hat hg; have HOWN := Lib.hid hown; clear hown; have hpf := push_facts hlt HN.out hgr; have HFR := Lib.hid hpf; have hc1 := (World.cell?_of_block (a := ⟨ab, ao, none⟩) hpf.1).trans hc; have hf1 := (World.frozen?_of_block (a := ⟨ab, ao, none⟩) hpf.1).trans hf; have HAT := Lib.hid hat; clear hpf hat hgr)
  all_goals
    go_end0
    exact ⟨rfl, g, cap, push_end hlt HN.out HFR.out HOWN.out HAT.out (by omega) hc1 hf1⟩

set_option maxHeartbeats 400000 in
set_option maxRecDepth 100000 in
theorem pop_nets (ab ao g n cap : Nat) (x : Nd) (w : World) (hc : w.cell? ⟨ab, ao, none⟩ = some (.slice (some ⟨g, 0, none⟩) (n + 1) cap)) (hf : w.frozen? ⟨ab, ao, none⟩ = false)
    (hx : w.cell? ⟨g, n * 5, none⟩ = some (.int .i64 x.fr) ∧ w.cell? ⟨g, n * 5 + 1, none⟩ = some (.int .i64 x.to) ∧ w.cell? ⟨g, n * 5 + 2, none⟩ = some (.string x.da) ∧ w.cell? ⟨g, n * 5 + 3, none⟩ = some (.int .i64 x.at') ∧ w.cell? ⟨g, n * 5 + 4, none⟩ = some (.int .i64 x.sq)) (hn : n + 1 ≤ cap) (hm : n ≤ 1000000) :
    Calls Try.prog 95 #[.pointer (some ⟨ab, ao, none⟩)] w fun e w' => e = .returned (.iface 75 (dv x)) ∧ w' = (w.setCell ⟨ab, ao, none⟩ (.slice (some ⟨g, 0, none⟩) n cap)).alloc (.cells #[.int .i64 x.fr, .int .i64 x.to, .string x.da, .int .i64 x.at', .int .i64 x.sq] 75) := by
  obtain ⟨x0, x1, x2, x3, x4⟩ := hx
  have hlt := cell_lt hc
  have hlg := cell_lt x0
  go_enter Try.func95, Try.ntmps95
  go_wp2
  go_ret
  exact ⟨rfl, rfl⟩

theorem len_nets (p : Option Addr) (n c : Nat) (w : World) :
    Calls Try.prog 92 #[.slice p n c] w fun e w' => e = .returned (.int .i64 n) ∧ w = w' := by
  go_enter Try.func92, Try.ntmps92
  go_wp2
  go_ret
  exact ⟨rfl, rfl⟩
end Go.Proofs.Ythdpajgnigilhaa
