/- read's Queue: Ready, Clear; of a nil queue. -/
import Derived.Test.YtjpmebfegpmccaaGreatTake
namespace Go.Proofs.YtjpmebfegpmccaaGreat
open Go.RowKit

def pickR (a b : Int) (x : Rd) : Bool := decide (x.2.2 ≤ a) && decide (x.2.1 ≤ b)

set_option maxHeartbeats 400000 in
set_option maxRecDepth 100000 in
theorem ready_pick (a b : Int) (cb : Nat) (x : Rd) (w : World) (ha : w.cell? ⟨cb, 0, none⟩ = some (.int .i64 a)) (hb : w.cell? ⟨cb + 1, 0, none⟩ = some (.int .i64 b)) :
    Calls Tryz.prog 18 #[rv x, .pointer (some ⟨cb, 0, none⟩), .pointer (some ⟨cb + 1, 0, none⟩)] w fun e w' => e = .returned (.bool (pickR a b x)) ∧ Below w.heap.size w w' := by
  obtain ⟨x0, x1, x2⟩ := x
  have l1 := cell_lt ha
  have l2 := cell_lt hb
  have hp : pickR a b (x0, x1, x2) = (decide (x2 ≤ a) && decide (x1 ≤ b)) := rfl
  rw [hp]
  unfold rv
  cases h1 : decide (x2 ≤ a) with
  | true =>
    cases h2 : decide (x1 ≤ b) with
    | true =>
      have h1' := of_decide_eq_true h1
      have h2' := of_decide_eq_true h2
      clear h1 h2 hp
      go_enter Tryz.func18, Tryz.ntmps18
      go_wp2
      go_ret
      exact ⟨rfl, (Below.refl _ _).alloc (Nat.le_refl _) _⟩
    | false =>
      have h1' := of_decide_eq_true h1
      have h2' := of_decide_eq_false h2
      clear h1 hp
      go_enter Tryz.func18, Tryz.ntmps18
      go_wp2
      go_ret
      exact ⟨rfl, (Below.refl _ _).alloc (Nat.le_refl _) _⟩
  | false =>
    have h1' := of_decide_eq_false h1
    clear hp
    go_enter Tryz.func18, Tryz.ntmps18
    go_wp2
    go_ret
    exact ⟨by simp, (Below.refl _ _).alloc (Nat.le_refl _) _⟩

theorem call_ready (cb : Nat) (x : Rd) (w : World) :
    (do let d ← Deferred.ofValue (.func (.func 18) #[] #[.pointer (some ⟨cb, 0, none⟩), .pointer (some ⟨cb + 1, 0, none⟩)]) #[rv x]; invoke d.target d.args : Sem Next).run Tryz.prog w =
      .ok (.enter 18 #[rv x, .pointer (some ⟨cb, 0, none⟩), .pointer (some ⟨cb + 1, 0, none⟩)]) w := by kernel_rfl

theorem clear_pick (x : Rd) (w : World) :
    Calls Tryz.prog 20 #[rv x] w fun e w' => e = .returned (.bool true) ∧ Below w.heap.size w w' := by
  go_enter Tryz.func20, Tryz.ntmps20
  go_wp2
  go_ret
  exact ⟨rfl, by first | exact Below.refl _ _ | exact (Below.refl _ _).alloc (Nat.le_refl _) _⟩

theorem call_clear (x : Rd) (w : World) :
    (do let d ← Deferred.ofValue (.func (.func 20) #[] #[]) #[rv x]; invoke d.target d.args : Sem Next).run Tryz.prog w = .ok (.enter 20 #[rv x]) w := by kernel_rfl

set_option maxHeartbeats 400000 in
set_option maxRecDepth 100000 in
theorem queue_ready (qb base : Nat) (v : Value) (l0 : List Wt) (seq a b : Int) (w : World) (h : QueueI qb base v l0 seq w) :
    Calls Tryz.prog 8 #[.pointer (some ⟨qb, 0, none⟩), .int .i64 a, .int .i64 b] w (TakePost (pickR a b) qb base v l0 seq w) := by
  have hlt := h.lt
  have hA : Fr (fun _ => False) w ((w.alloc (.cells #[.int .i64 a] 3)).alloc (.cells #[.int .i64 b] 3)) := ((Fr.refl _ w).alloc _).alloc _
  have HT := Lib.hid (queue_take (pickR a b) (.func (.func 18) #[] #[.pointer (some ⟨w.heap.size, 0, none⟩), .pointer (some ⟨w.heap.size + 1, 0, none⟩)]) qb base v l0 seq _ (h.keep hA (fun _ _ h => h)) (fun W hW x => by
    have n1 : ¬ queueF qb v w.heap.size := fun hh => by have := hlt _ hh; omega
    have n2 : ¬ queueF qb v (w.heap.size + 1) := fun hh => by have := hlt _ hh; omega
    have c1 : W.cell? ⟨w.heap.size, 0, none⟩ = some (.int .i64 a) := by rw [hW.cell (p := ⟨w.heap.size, 0, none⟩) (by simp; omega) n1]; go_simp
    have c2 : W.cell? ⟨w.heap.size + 1, 0, none⟩ = some (.int .i64 b) := by rw [hW.cell (p := ⟨w.heap.size + 1, 0, none⟩) (by simp) n2]; go_simp
    exact ⟨_, _, call_ready w.heap.size x W, (ready_pick a b w.heap.size x W c1 c2).mono fun e W' ⟨he, hb⟩ => ⟨_, he, rfl, hb⟩⟩))
  have HA := Lib.hid hA
  clear h hlt hA
  go_enter Tryz.func8, Tryz.ntmps8
  go_wp2_with fail
  refine HT.out.mono ?_
  rintro e w2 ⟨ov, T, v', l', rfl, hp, hs, ho, hq, hl', hF, hge⟩
  have HFIN : Hid (TakePost (pickR a b) qb base v l0 seq w (.returned ov) w2) := ⟨ov, T, v', l', rfl, hp, hs, owns_base ho (by simp; omega), hq, hl', Fr.trans (HA.out.mono (fun _ _ h => h.elim)) hF (fun i hi _ => hi), fun g hg => by have := hge g hg; simp at this; omega⟩
  clear hp hs ho hq hl' hF hge
  go_wp2
  go_ret
  exact HFIN.out

set_option maxHeartbeats 400000 in
set_option maxRecDepth 100000 in
theorem queue_clear (qb base : Nat) (v : Value) (l0 : List Wt) (seq : Int) (w : World) (h : QueueI qb base v l0 seq w) :
    Calls Tryz.prog 12 #[.pointer (some ⟨qb, 0, none⟩)] w (TakePost (fun _ => true) qb base v l0 seq w) := by
  have HT := Lib.hid (queue_take (fun _ => true) (.func (.func 20) #[] #[]) qb base v l0 seq w h (fun W hW x =>
    ⟨_, _, call_clear x W, (clear_pick x W).mono fun e W' ⟨he, hb⟩ => ⟨_, he, rfl, hb⟩⟩))
  clear h
  go_enter Tryz.func12, Tryz.ntmps12
  go_wp2_with fail
  refine HT.out.mono ?_
  rintro e w2 ⟨ov, T, v', l', rfl, hp, hs, ho, hq, hl', hF, hge⟩
  have HFIN : Hid (TakePost (fun _ => true) qb base v l0 seq w (.returned ov) w2) := ⟨ov, T, v', l', rfl, hp, hs, ho, hq, hl', hF, hge⟩
  clear hp hs ho hq hl' hF hge
  go_wp2
  go_ret
  exact HFIN.out
end Go.Proofs.YtjpmebfegpmccaaGreat
