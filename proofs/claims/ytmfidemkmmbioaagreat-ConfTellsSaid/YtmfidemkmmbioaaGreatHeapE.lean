/- container/heap's Push and Pop over any value of heap.Interface whose methods meet their contracts. -/
import Derived.Test.YtmfidemkmmbioaaGreatHeapD
namespace Go.Proofs.YtmfidemkmmbioaaGreat
open Go.RowKit

set_option maxHeartbeats 400000 in
theorem heap_push {α : Type} [Inhabited α] {lt : α → α → Bool} {it xv : Value} {w : World} {K : World → Prop}
    (hP : InvC Tryz.prog it "Push" #[xv] w fun _ w1 => ∃ I F l x, HeapRep Tryz.prog it lt I F ∧ I (l ++ [x]) w1 ∧ HL.IsHeap lt l ∧ ∀ l' w2, I l' w2 → F w1 w2 → l'.Perm (l ++ [x]) → HL.IsHeap lt l' → K w2) :
    Calls Tryz.prog 89 #[it, xv] w fun e w' => e = .returned (.tuple #[]) ∧ K w' := by
  have HP := Lib.hid hP; clear hP
  go_enter Tryz.func89, Tryz.ntmps89
  go_wp2_with (first
    | ((with_reducible refine wpI1 HP.out ?_ ?_ ?_ ?_); rfl; rfl; rfl; rintro v w1 ⟨I, F, l, x, H, hI, hh, hK⟩; have HH := Lib.hid H; clear H; have HK := Lib.hid hK; clear hK; have HLen := Lib.hid (HH.out.len _ _ hI); have hsm := HH.out.small _ _ hI; have HU := Lib.hid (HL.upInv_push x hh); rw [List.length_append, List.length_singleton] at HLen hsm; clear HP)
    | ((with_reducible refine wpI0 HLen.out ?_ ?_ ?_); rfl; rfl; rintro v w2 ⟨rfl, hI2, hF2⟩)
    | (go_at_call 116; (with_reducible refine (heap_up HH.out _ _ hI2 (l.length + 1) ?_ _ ?_ ?_ ?_).mono ?_); simp; omega; omega; rw [Int.toNat_natCast]; exact HU.out; rintro e w3 ⟨rfl, l', hI3, hF3, hp, hh3, hk3⟩))
  go_end0
  exact ⟨rfl, HK.out _ _ hI3 (HH.out.trans _ _ _ hF2 hF3) hp (by unfold HL.IsHeap; rw [hp.length_eq]; simpa using hh3)⟩

theorem pop_end {α : Type} [Inhabited α] {lt : α → α → Bool} {l0 l' : List α} {n i : Nat} (hl : l0.length = n + 1) (hi : i < n + 1) (hp : l'.Perm (HL.swp l0 i n)) (hh : HL.HeapTo lt 0 l' n)
    (hk : HL.el l' n = HL.el (HL.swp l0 i n) n) : l' = l'.take n ++ [HL.el l0 i] ∧ (HL.el l0 i :: l'.take n).Perm l0 ∧ HL.IsHeap lt (l'.take n) := by
  have hlen : l'.length = n + 1 := by rw [hp.length_eq, HL.swp_length, hl]
  have e : HL.el l' n = HL.el l0 i := by rw [hk, HL.el_swp _ _ _ _ (by omega) (by omega), if_pos rfl]
  have e1 := HL.split_last hlen
  rw [e] at e1
  refine ⟨e1, ?_, HL.isHeap_take (by omega) hh⟩
  have p1 : (HL.el l0 i :: l'.take n).Perm (l'.take n ++ [HL.el l0 i]) := (List.perm_append_singleton _ _).symm
  exact p1.trans ((List.Perm.of_eq e1.symm).trans (hp.trans (HL.swp_perm _ _ _ (by omega) (by omega))))


end Go.Proofs.YtmfidemkmmbioaaGreat
