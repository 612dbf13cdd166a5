/- slices.Backward at texts: its closure. -/
import Derived.Test.YtlocadmiomglaaaGreatDoorRange
import Derived.Test.YtlocadmiomglaaaGreatDoorB4
import Derived.Test.YtlocadmiomglaaaGreatDoorB1
import Derived.Shelf.Abstract
import Derived.WalkKit
import Derived.OwnWalkIn
import Derived.TacticsInMore
import Derived.LoopNIn
import Derived.LoopIn
namespace Go.Proofs.YtlocadmiomglaaaGreatDoor
open Go.RowKit Go.Shelf
attribute [local go_sem] Oper.semAt_some

/-- What has come when k rounds are over. -/
def bkL (zs : List ByteArray) (k : Nat) : List (Nat × ByteArray) := (List.range k).map (fun j => (zs.length - 1 - j, zs.getD (zs.length - 1 - j) default))
theorem bkL_succ (zs : List ByteArray) (k : Nat) : bkL zs (k + 1) = bkL zs k ++ [(zs.length - 1 - k, zs.getD (zs.length - 1 - k) default)] := by simp [bkL, List.range_succ]
theorem bkL_length (zs : List ByteArray) (k : Nat) : (bkL zs k).length = k := by simp [bkL]

/-- What comes next. -/
def BkOk (zs : List ByteArray) (pre : List (Nat × ByteArray)) (x : Nat × ByteArray) : Prop := pre.length < zs.length ∧ pre = bkL zs pre.length ∧ x = (zs.length - 1 - pre.length, zs.getD (zs.length - 1 - pre.length) default)

/-- What the closure reads lies as it lay. -/
def KpB (Bs : Nat) (p : Option Addr) (W W' : World) : Prop := W.heap.size ≤ W'.heap.size ∧ ∀ k, (k = Bs ∨ (∃ a, p = some a ∧ a.block = k)) → W'.heap[k]? = W.heap[k]?
theorem KpB.refl (Bs : Nat) (p : Option Addr) (W : World) : KpB Bs p W W := ⟨Nat.le_refl _, fun _ _ => rfl⟩
theorem KpB.trans {Bs : Nat} {p : Option Addr} {A B C : World} (h : KpB Bs p A B) (k : KpB Bs p B C) : KpB Bs p A C := ⟨Nat.le_trans h.1 k.1, fun i hi => (k.2 i hi).trans (h.2 i hi)⟩
theorem cell_of_heap {W W' : World} {b : Nat} (h : W'.heap[b]? = W.heap[b]?) (o : Nat) : W'.cell? ⟨b, o, none⟩ = W.cell? ⟨b, o, none⟩ := by
  unfold World.cell?
  simp only [h]

theorem str_cell {w : World} {B n : Nat} {p : Option Addr} {zs : List ByteArray} (h : RdG scells w B p n zs) (k : Nat) (hk : k < n) : ∃ b o, p = some ⟨b, o, none⟩ ∧ b < B ∧ w.cell? ⟨b, o + k, none⟩ = some (.string (zs.getD k default)) := by
  obtain ⟨b, o, e, hb, hc⟩ := h.2 (by omega)
  have e1 := rowOf_at scells scells_length zs k 0 (by rw [h.1]; exact hk) (by omega)
  rw [Nat.mul_one, Nat.add_zero] at e1
  exact ⟨b, o, e, hb, hc k _ (e1.trans rfl)⟩

set_option maxRecDepth 100000 in
set_option maxHeartbeats 2000000 in
theorem back1_in (n : Nat) (hn : 1 ≤ n) (l Bs len cap : Nat) (p : Option Addr) (zs : List ByteArray) (hbig : len ≤ 1000000) (J Jx : List (Nat × ByteArray) → World → Prop)
    (hY : ∀ pre x W, J pre W → BkOk zs pre x → YieldAt Fence.wide (n - 1) Tryz.prog l #[.int .i64 ((x : Nat × ByteArray).1 : Int), .string x.2] W fun e W' =>
      (e = .returned (.bool true) ∧ J (pre ++ [x]) W' ∧ KpB Bs p W W') ∨ (e = .returned (.bool false) ∧ Jx (pre ++ [x]) W'))
    (W : World) (hBs : W.cell? ⟨Bs, 0, none⟩ = some (.slice p len cap)) (hR : RdG scells W W.heap.size p len zs) (h0 : J [] W) :
    CallsIn Fence.wide n Tryz.prog 110 #[.func (.yield l) #[] #[], .pointer (some ⟨Bs, 0, none⟩)] W fun e W' => (∃ v, e = .returned v) ∧
      (J (bkL zs len) W' ∨ (∃ pre, Jx pre W')) := by
  have hz := hR.1
  have HR := Lib.hid hR
  have HZ := Lib.hid hz
  have HB := Lib.hid hBs
  clear hR hz
  have hw0 : IntKind.i64.wrap ((len : Int) - 1) = (len : Int) - 1 := by rw [IntKind.wrap_i64]; omega
  refine callsIn_of_wp Tryz.func110 rfl trivial ?_ rfl
  simp only [Tryz.ntmps110, List.size_toArray, List.length_cons, List.length_nil, Nat.reduceAdd, Nat.reduceSub, Array.replicate_succ, Array.replicate_zero, List.push_toArray, List.append_toArray, List.nil_append, List.cons_append]
  gi_wp2
  gi_loopw [3] (fun i wr => ∃ k : Nat, k ≤ len ∧ i = .int .i64 ((len : Int) - 1 - k) ∧ J (bkL zs k) wr ∧ KpB Bs p W wr)
    (fun i _ => (intOf i + 1).toNat)
  case atStart => exact ⟨0, Nat.zero_le _, by simp, h0, KpB.refl _ _ _⟩
  case round =>
    obtain ⟨k, hk, rfl, hJs, hnx⟩ := hrel
    have hbc := (cell_of_heap (hnx.2 Bs (.inl rfl)) 0).trans HB.out
    by_cases hlt : k < len
    · obtain ⟨b, o, hp, hb, hc⟩ := str_cell HR.out (len - 1 - k) (by omega)
      have hcx := (cell_of_heap (hnx.2 b (.inr ⟨_, hp, rfl⟩)) (o + (len - 1 - k))).trans hc
      subst hp
      have hq : (len : Int) - 1 - k = ((len - 1 - k : Nat) : Int) := by omega
      have hge : (0 : Int) ≤ (len : Int) - 1 - k := by omega
      have hlt2 : (len : Int) - 1 - k < (len : Int) := by omega
      have hup := bkL_succ zs k
      rw [HZ.out] at hup
      obtain ⟨fn, tmps, assign, body, hy, hRo⟩ := hY _ (len - 1 - k, zs.getD (len - 1 - k) default) wr hJs ⟨by rw [bkL_length, HZ.out]; exact hlt, by rw [bkL_length], by rw [bkL_length, HZ.out]⟩
      rw [← hup] at hRo
      have HUP := Lib.hid hup
      clear hup hc
      have hw1 : IntKind.i64.wrap (((len - 1 - k : Nat) : Int) - 1) = ((len - 1 - k : Nat) : Int) - 1 := by rw [IntKind.wrap_i64]; omega
      have hlq : len - 1 - k < len := by omega
      rw [hq]
      generalize zs.getD (len - 1 - k) default = x at *
      gi_wp2
      refine hRo.mono ?_
      rintro e W3 (⟨rfl, hJ3, hk3⟩ | ⟨rfl, hJx3⟩)
      · gi_wp2
        go_roundw
        case rel => exact ⟨k + 1, by omega, (by first | (congr 1; done) | (congr 1; omega)), hJ3, hnx.trans hk3⟩
        case measure => (first | (simp [intOf]; done) | (simp [intOf]; omega))
      · gi_wp2
        refine bodyPost_ret (results_none rfl _ _ _) rfl ?_
        exact ⟨⟨_, rfl⟩, .inr ⟨_, hJx3⟩⟩
    · obtain rfl : k = len := by omega
      have hlt2 : ¬ (0 : Int) ≤ (k : Int) - 1 - k := by omega
      gi_wp2
      go_end0
      exact ⟨⟨_, rfl⟩, .inl hJs⟩

set_option maxRecDepth 100000 in
theorem back_call (p : Option Addr) (len cap : Nat) (w : World) :
    Calls Tryz.prog 33 #[.slice p len cap] w fun e w' => e = .returned (.func (.func 110) #[] #[.pointer (some ⟨w.heap.size, 0, none⟩)]) ∧ w' = w.alloc (.cells #[.slice p len cap] 45) := by
  go_enter Tryz.func33, Tryz.ntmps33
  go_wp2
  go_ret
  exact ⟨rfl, rfl⟩
end Go.Proofs.YtlocadmiomglaaaGreatDoor
