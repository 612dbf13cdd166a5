/- slices.Chunk at ints, by sixties: its closure. -/
import Derived.Test.YtedcpckocedcoaaGreatRangeD
import Derived.Sort.BigQuietIn
import Derived.RangeFuncBox
import Derived.RangeFuncLeaves
import Derived.RangeFuncBound
import Derived.RangeFuncCalls
import Derived.Shelf.Abstract
import Derived.WalkKit
import Derived.OwnWalkIn
import Derived.TacticsInMore
import Derived.LoopNIn
import Derived.LoopIn
namespace Go.Proofs.YtedcpckocedcoaaGreat
open Go.RowKit Go.Shelf
attribute [local go_sem] Oper.semAt_some

/-- How many chunks; how long the k-th is; what is handed over. -/
def nCh (len : Nat) : Nat := (len + 59) / 60
def lCh (len k : Nat) : Nat := min 60 (len - 60 * k)
def partV (b o len k : Nat) : Value := .slice (some ⟨b, o + 60 * k, none⟩) (lCh len k) (lCh len k)
def ChOk (len : Nat) (pre : List Nat) (x : Nat) : Prop := pre.length < nCh len ∧ x = pre.length
/-- What the iterator reads lies as it lay. -/
def KpC (Bs Bn : Nat) (W W' : World) : Prop := W.heap.size ≤ W'.heap.size ∧ W'.heap[Bs]? = W.heap[Bs]? ∧ W'.heap[Bn]? = W.heap[Bn]?
theorem KpC.refl (Bs Bn : Nat) (W : World) : KpC Bs Bn W W := ⟨Nat.le_refl _, rfl, rfl⟩
theorem KpC.trans {Bs Bn : Nat} {A B C : World} (h : KpC Bs Bn A B) (h2 : KpC Bs Bn B C) : KpC Bs Bn A C := ⟨Nat.le_trans h.1 h2.1, h2.2.1.trans h.2.1, h2.2.2.trans h.2.2⟩
theorem KpC.drew {Bs Bn : Nat} {A B : World} (h : KpC Bs Bn A B) (m : Nat) : KpC Bs Bn A (B.drewN m) := ⟨h.1, h.2.1, h.2.2⟩
theorem cell_of_blk {W W' : World} {b : Nat} (h : W'.heap[b]? = W.heap[b]?) (k : Nat) : W'.cell? ⟨b, k, none⟩ = W.cell? ⟨b, k, none⟩ := by
  unfold World.cell?
  rw [h]

set_option maxRecDepth 100000 in
set_option maxHeartbeats 4000000 in
theorem chunk1_in (n : Nat) (hn : 1 ≤ n) (l Bs Bn b o len cap : Nat) (hbig : len ≤ 100000) (p : Option Addr) (hp : 0 < len → p = some ⟨b, o, none⟩) (hcap : len ≤ cap) (J Jx : List Nat → World → Prop)
    (hJd : ∀ pre W1 m, J pre W1 → J pre (W1.drewN m))
    (hY : ∀ pre x W, J pre W → ChOk len pre x → YieldAt Fence.wide (n - 1) Tryz.prog l #[partV b o len x] W fun e W' =>
      (e = .returned (.bool true) ∧ J (pre ++ [x]) W' ∧ KpC Bs Bn W W') ∨ (e = .returned (.bool false) ∧ Jx (pre ++ [x]) W'))
    (W : World) (hBs : W.cell? ⟨Bs, 0, none⟩ = some (.slice p len cap)) (hBn : W.cell? ⟨Bn, 0, none⟩ = some (.int .i64 60)) (h0 : J [] W) :
    CallsIn Fence.wide n Tryz.prog 134 #[.func (.yield l) #[] #[], .pointer (some ⟨Bs, 0, none⟩), .pointer (some ⟨Bn, 0, none⟩)] W fun e W' => (∃ v, e = .returned v) ∧
      (J (List.range (nCh len)) W' ∨ (∃ pre, Jx pre W')) := by
  have HB := Lib.hid hBs
  have HN := Lib.hid hBn
  clear hBs hBn
  refine callsIn_of_wp Tryz.func134 rfl trivial ?_ rfl
  simp only [Tryz.ntmps134, List.size_toArray, List.length_cons, List.length_nil, Nat.reduceAdd, Nat.reduceSub, Array.replicate_succ, Array.replicate_zero, List.push_toArray, List.append_toArray, List.nil_append, List.cons_append]
  gi_wp2
  gi_loopw [4] (fun i wr => ∃ k j : Nat, k ≤ nCh len ∧ i = .int .i64 (j : Int) ∧ Hid (j = 60 * k) ∧ J (List.range k) wr ∧ KpC Bs Bn W wr)
    (fun i _ => (len + 60) - (intOf i).toNat)
  case atStart => exact ⟨0, 0, Nat.zero_le _, rfl, Lib.hid rfl, h0, KpC.refl _ _ _⟩
  case round =>
    obtain ⟨k, j, hk, rfl, HJ, hJs, hnx⟩ := hrel
    by_cases hlt : j < len
    · have hkn : k < nCh len := by have := HJ.out; unfold nCh; omega
      have hbs := (cell_of_blk hnx.2.1 0).trans HB.out
      have hbn := (cell_of_blk hnx.2.2 0).trans HN.out
      have hpe := hp (by omega)
      subst hpe
      have hltI : (j : Int) < (len : Int) := by omega
      have HRG : Hid (List.range (k + 1) = List.range k ++ [k]) := Lib.hid List.range_succ
      obtain ⟨r, hr⟩ : ∃ r, len - j = r := ⟨_, rfl⟩
      have HPV : Hid (partV b o len k = .slice (some ⟨b, o + j, none⟩) (min 60 r) (min 60 r)) := Lib.hid (by unfold partV lCh; rw [← HJ.out, hr])
      have hjb : j ≤ 100000 := by omega
      have hrb : r ≤ 100000 := by omega
      by_cases h60 : 60 ≤ r
      · have hmn : ¬ ((r : Int) < 60) := by omega
        have hpv : partV b o len k = .slice (some ⟨b, o + j, none⟩) 60 60 := by rw [HPV.out, Nat.min_eq_left h60]
        have ht : ((j : Int) + 60).toNat - j = 60 := by omega
        have hle : (j : Int) + 60 ≤ (len : Int) := by omega
        have hlc : (j : Int) + 60 ≤ (cap : Int) := by omega
        have hk2 : k + 1 ≤ nCh len := hkn
        have HNXJ : Hid (j + 60 = 60 * (k + 1)) := Lib.hid (by have := HJ.out; omega)
        clear hkn
        have hkn : k < nCh len := hk2
        gi_wp2_with fail
        refine wpIn_region_quiet_lit rfl (by kernel_rfl) (by kernel_rfl) ?_
        repeat (gi_big_quiet_step (fail))
        refine wpQuietIn_nil ?_
        rintro w' ⟨m, rfl⟩
        have hcJ := hJd _ _ m hJs
        obtain ⟨fn, tmps, assign, body, hy, hRo⟩ := hY (List.range k) k (wr.drewN m) hcJ ⟨by rw [List.length_range]; exact hkn, by rw [List.length_range]⟩
        rw [hpv] at hy
        rw [← HRG.out] at hRo
        gi_wp2_with fail
        refine hRo.mono ?_
        rintro e W3 (⟨rfl, hJ3, hk3⟩ | ⟨rfl, hJx3⟩)
        · have HNX3 := Lib.hid (hnx.trans ⟨hk3.1, hk3.2.1, hk3.2.2⟩)
          have hbn3 := (cell_of_blk HNX3.out.2.2 0).trans HN.out
          have HJ3 := Lib.hid hJ3
          clear hk3 hJ3
          gi_wp2
          go_roundw
          case rel => exact ⟨k + 1, j + 60, hk2, by go_num, HNXJ, HJ3.out, HNX3.out⟩
          case measure => simp [intOf]; omega
        · gi_wp2
          refine bodyPost_ret (results_none rfl _ _ _) rfl ?_
          exact ⟨⟨_, rfl⟩, .inr ⟨_, hJx3⟩⟩
      · have hmn : (r : Int) < 60 := by omega
        have hpv : partV b o len k = .slice (some ⟨b, o + j, none⟩) r r := by rw [HPV.out, Nat.min_eq_right (by omega)]
        have ht : ((j : Int) + (r : Int)).toNat - j = r := by omega
        have hle : (j : Int) + (r : Int) ≤ (len : Int) := by omega
        have hlc : (j : Int) + (r : Int) ≤ (cap : Int) := by omega
        have hk2 : k + 1 ≤ nCh len := hkn
        have HNXJ : Hid (j + 60 = 60 * (k + 1)) := Lib.hid (by have := HJ.out; omega)
        clear hkn
        have hkn : k < nCh len := hk2
        gi_wp2_with fail
        refine wpIn_region_quiet_lit rfl (by kernel_rfl) (by kernel_rfl) ?_
        repeat (gi_big_quiet_step (fail))
        refine wpQuietIn_nil ?_
        rintro w' ⟨m, rfl⟩
        have hcJ := hJd _ _ m hJs
        obtain ⟨fn, tmps, assign, body, hy, hRo⟩ := hY (List.range k) k (wr.drewN m) hcJ ⟨by rw [List.length_range]; exact hkn, by rw [List.length_range]⟩
        rw [hpv] at hy
        rw [← HRG.out] at hRo
        gi_wp2_with fail
        refine hRo.mono ?_
        rintro e W3 (⟨rfl, hJ3, hk3⟩ | ⟨rfl, hJx3⟩)
        · have HNX3 := Lib.hid (hnx.trans ⟨hk3.1, hk3.2.1, hk3.2.2⟩)
          have hbn3 := (cell_of_blk HNX3.out.2.2 0).trans HN.out
          have HJ3 := Lib.hid hJ3
          clear hk3 hJ3
          gi_wp2
          go_roundw
          case rel => exact ⟨k + 1, j + 60, hk2, by go_num, HNXJ, HJ3.out, HNX3.out⟩
          case measure => simp [intOf]; omega
        · gi_wp2
          refine bodyPost_ret (results_none rfl _ _ _) rfl ?_
          exact ⟨⟨_, rfl⟩, .inr ⟨_, hJx3⟩⟩
    · have hk3 : k = nCh len := by have := HJ.out; unfold nCh at *; omega
      have hltI : ¬ (j : Int) < (len : Int) := by omega
      have HJS : Hid (J (List.range (nCh len)) wr) := Lib.hid (by rw [← hk3]; exact hJs)
      have hbs := (cell_of_blk hnx.2.1 0).trans HB.out
      have hbn := (cell_of_blk hnx.2.2 0).trans HN.out
      clear hk3
      gi_wp2
      go_end0
      exact ⟨⟨_, rfl⟩, .inl HJS.out⟩
end Go.Proofs.YtedcpckocedcoaaGreat
