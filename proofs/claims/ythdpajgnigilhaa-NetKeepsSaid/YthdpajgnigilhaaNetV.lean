/- slices.Values, AppendSeq, Collect over net's dues. -/
import Derived.Test.YthdpajgnigilhaaNetS
import Derived.Test.YthdpajgnigilhaaInts
import Derived.RangeFuncNested
import Derived.RangeFuncBound
import Derived.RangeFuncBox
import Derived.RangeFuncCalls
import Derived.RangeFuncLeaves
import Derived.Shelf.Abstract
import Derived.Shelf.RegionOpen
import Derived.OwnWalkIn
import Derived.TacticsInMore
import Derived.LoopNIn
import Derived.LoopIn
import Derived.Maps.AppendAt
namespace Go.Proofs.Ythdpajgnigilhaa
open Go.RowKit Go.Shelf
attribute [local go_sem] Oper.semAt_some

/-- What has come when k rounds are over. -/
def uptoG {α : Type} (f : Nat → α) (k : Nat) : List α := (List.range k).map f
theorem uptoG_succ {α : Type} (f : Nat → α) (k : Nat) : uptoG f (k + 1) = uptoG f k ++ [f k] := by simp [uptoG, List.range_succ]
theorem uptoG_length {α : Type} (f : Nat → α) (k : Nat) : (uptoG f k).length = k := by simp [uptoG]
theorem uptoG_take {α : Type} [Inhabited α] (zs : List α) {k : Nat} (hk : k ≤ zs.length) : uptoG (fun j => HL.el zs j) k = zs.take k := by
  apply List.ext_getElem
  · simp [uptoG]; omega
  · intro i h1 h2
    have : i < zs.length := by simp [uptoG] at h1; omega
    simp [uptoG, HL.el, this]
theorem uptoG_all {α : Type} [Inhabited α] (zs : List α) : uptoG (fun j => HL.el zs j) zs.length = zs := by
  rw [uptoG_take zs (Nat.le_refl _), List.take_length]

/-- The five cells of the k-th due of a row that reads. -/
theorem rd_due {w : World} {n : Nat} {b o : Nat} {zs : List Nd} (hz : zs.length = n) (hc : ∀ j u, (rowOf wcells zs)[j]? = some u → w.cell? ⟨b, o + j, none⟩ = some u) (k : Nat) (hk : k < n) :
    w.cell? ⟨b, o + k * 5, none⟩ = some (.int .i64 (HL.el zs k).fr) ∧ w.cell? ⟨b, o + k * 5 + 1, none⟩ = some (.int .i64 (HL.el zs k).to) ∧ w.cell? ⟨b, o + k * 5 + 2, none⟩ = some (.string (HL.el zs k).da) ∧
      w.cell? ⟨b, o + k * 5 + 3, none⟩ = some (.int .i64 (HL.el zs k).at') ∧ w.cell? ⟨b, o + k * 5 + 4, none⟩ = some (.int .i64 (HL.el zs k).sq) := by
  have r := fun c hcl => rowOf_at wcells wcells_length zs k c (by omega) hcl
  have e : ∀ c, o + (k * 5 + c) = o + k * 5 + c := fun c => by omega
  refine ⟨?_, ?_, ?_, ?_, ?_⟩
  · exact hc _ _ ((r 0 (by omega)).trans rfl)
  · rw [← e]; exact hc _ _ ((r 1 (by omega)).trans rfl)
  · rw [← e]; exact hc _ _ ((r 2 (by omega)).trans rfl)
  · rw [← e]; exact hc _ _ ((r 3 (by omega)).trans rfl)
  · rw [← e]; exact hc _ _ ((r 4 (by omega)).trans rfl)

theorem abides_alloc {β : Type} {B : Nat} {J : β → World → Prop} (h : AbidesFrom B J) {s : β} {W : World} (o : Obj) (hs : J s W) : J s (W.alloc o) :=
  h s W _ none hs (World.grownBy_alloc W o none) (fun r e => by cases e)

set_option maxRecDepth 100000 in
set_option maxHeartbeats 2000000 in
theorem dvalues1_in (n : Nat) (hn : 1 ≤ n) (l Bs n0 len cap : Nat) (p : Option Addr) (zs : List Nd) (hbig : len ≤ 1000000) (J Jx : List Nd → World → Prop)
    (hY : ∀ pre x W, J pre W → pre.length < len → YieldAt Fence.wide (n - 1) Try.prog l #[dv x] W fun e W' =>
      (e = .returned (.bool true) ∧ J (pre ++ [x]) W' ∧ Below n0 W W') ∨ (e = .returned (.bool false) ∧ Jx (pre ++ [x]) W'))
    (W : World) (hJa : AbidesFrom W.heap.size J) (hn0 : n0 ≤ W.heap.size) (hBs : W.cell? ⟨Bs, 0, none⟩ = some (.slice p len cap)) (hR : RdG wcells W n0 p len zs) (h0 : J [] W) :
    CallsIn Fence.wide n Try.prog 53 #[.func (.yield l) #[] #[], .pointer (some ⟨Bs, 0, none⟩)] W fun e W' => (∃ v, e = .returned v) ∧
      ((∃ ys, ys = zs ∧ J ys W') ∨ (∃ pre, pre <+: zs ∧ Jx pre W')) := by
  have hz := hR.1
  have HR := Lib.hid hR
  have HZ := Lib.hid hz
  have HJ := Lib.hid hJa
  clear hR hz hJa
  refine callsIn_of_wp Try.func53 rfl trivial ?_ rfl
  simp only [Try.ntmps53, List.size_toArray, List.length_cons, List.length_nil, Nat.reduceAdd, Nat.reduceSub, Array.replicate_succ, Array.replicate_zero, List.push_toArray, List.append_toArray, List.nil_append, List.cons_append]
  gi_wp2
  gi_loopw [7] (fun i wr => ∃ k : Nat, k ≤ len ∧ i = .int .i64 k ∧ J (uptoG (fun j => HL.el zs j) k) wr ∧ Below n0 W wr)
    (fun i _ => len - (intOf i).toNat)
  case atStart => exact ⟨0, Nat.zero_le _, rfl, h0, Below.refl _ _⟩
  case round =>
    obtain ⟨k, hk, rfl, hJs, hnx⟩ := hrel
    by_cases hlt : k < len
    · obtain ⟨b, o, hp, hb, hc⟩ := HR.out.2 (by omega)
      subst hp
      have hx := rd_due HZ.out (fun j u hu => (hnx.cell (p := ⟨b, o + j, none⟩) hb).trans (hc j u hu)) k hlt
      clear hc
      have hsz := hnx.size
      have hbw : b < wr.heap.size := by omega
      have hJ1 : J (uptoG (fun j => HL.el zs j) k) (wr.alloc (.cells #[.int .i64 (HL.el zs k).fr, .int .i64 (HL.el zs k).to, .string (HL.el zs k).da, .int .i64 (HL.el zs k).at', .int .i64 (HL.el zs k).sq] 75)) := by
        refine HJ.out _ wr _ none hJs (World.grownBy_alloc _ _ none) (fun r e => by cases e)
      obtain ⟨fn, tmps, assign, body, hy, hRo⟩ := hY _ (HL.el zs k) _ hJ1 (by rw [uptoG_length]; exact hlt)
      have hup : uptoG (fun j => HL.el zs j) (k + 1) = uptoG (fun j => HL.el zs j) k ++ [HL.el zs k] := uptoG_succ _ _
      rw [← hup] at hRo
      have HUP := Lib.hid hup
      clear hup hJ1
      generalize HL.el zs k = x at *
      obtain ⟨x0, x1, x2, x3, x4⟩ := hx
      gi_wp2
      refine hRo.mono ?_
      rintro e W3 (⟨rfl, hJ3, hk3⟩ | ⟨rfl, hJx3⟩)
      · gi_wp2
        go_roundw
        case rel => exact ⟨k + 1, by omega, by simp, hJ3, (hnx.alloc (by omega) _).trans hk3⟩
        case measure => simp [intOf]; omega
      · gi_wp2
        refine bodyPost_ret (results_none rfl _ _ _) rfl ?_
        refine ⟨⟨_, rfl⟩, .inr ⟨_, ?_, hJx3⟩⟩
        rw [uptoG_take zs (by have := HZ.out; omega)]
        exact List.take_prefix _ _
    · obtain rfl : k = len := by omega
      gi_wp2
      go_end0
      refine ⟨⟨_, rfl⟩, .inl ⟨_, ?_, hJs⟩⟩
      rw [← HZ.out]
      exact uptoG_all zs

theorem dvalues_stops (n : Nat) (hn : 1 ≤ n) (Bs n0 len cap : Nat) (p : Option Addr) (zs : List Nd) (hbig : len ≤ 1000000) (w : World) (hBs : Bs < w.heap.size) (hn0 : n0 ≤ w.heap.size)
    (hc : w.cell? ⟨Bs, 0, none⟩ = some (.slice p len cap)) (hR : RdG wcells w n0 p len zs) :
    SeqStopsK Fence.wide n Try.prog 53 #[.pointer (some ⟨Bs, 0, none⟩)] (fun x : Nd => #[dv x]) (Below n0) (fun ys => ys = zs) (fun pre => pre <+: zs) len w :=
  fun l J Jx W hW hJ _ hY h0 =>
    dvalues1_in n hn l Bs n0 len cap p zs hbig J Jx hY W hJ (Nat.le_trans hn0 hW.size) ((hW.cell (p := ⟨Bs, 0, none⟩) hBs).trans hc) (hR.below (hW.mono hn0)) h0

set_option maxRecDepth 100000 in
theorem dvalues_call (p : Option Addr) (len cap : Nat) (w : World) :
    Calls Try.prog 46 #[.slice p len cap] w fun e w' => e = .returned (.func (.func 53) #[] #[.pointer (some ⟨w.heap.size, 0, none⟩)]) ∧ w' = w.alloc (.cells #[.slice p len cap] 47) := by
  go_enter Try.func46, Try.ntmps46
  go_wp2
  go_ret
  exact ⟨rfl, rfl⟩
end Go.Proofs.Ythdpajgnigilhaa
