/- container/heap's Push and Pop over any value of heap.Interface whose methods meet their contracts. -/
import Derived.Test.YtjpmebfegpmccaaGreatHeapD
namespace Go.Proofs.YtjpmebfegpmccaaGreat
open Go.RowKit

set_option maxHeartbeats 400000 in
theorem heap_push {α : Type} [Inhabited α] {lt : α → α → Bool} {it xv : Value} {w : World} {K : World → Prop}
    (hP : InvC Tryz.prog it "Push" #[xv] w fun _ w1 => ∃ I F l x, HeapRep Tryz.prog it lt I F ∧ I (l ++ [x]) w1 ∧ HL.IsHeap lt l ∧ ∀ l' w2, I l' w2 → F w1 w2 → l'.Perm (l ++ [x]) → HL.IsHeap lt l' → K w2) :
    Calls Tryz.prog 16 #[it, xv] w fun e w' => e = .returned (.tuple #[]) ∧ K w' := by
  have HP := Lib.hid hP; clear hP
  go_enter Tryz.func16, Tryz.ntmps16
  go_wp2_with (first
    | ((with_reducible refine wpI1 HP.out ?_ ?_ ?_ ?_); rfl; rfl; rfl; rintro v w1 ⟨I, F, l, x, H, hI, hh, hK⟩; have HH := Lib.hid H; clear H; have HK := Lib.hid hK; clear hK; have HLen := Lib.hid (HH.out.len _ _ hI); have hsm := HH.out.small _ _ hI; have HU := Lib.hid (HL.upInv_push x hh); rw [List.length_append, List.length_singleton] at HLen hsm; clear HP)
    | ((with_reducible refine wpI0 HLen.out ?_ ?_ ?_); rfl; rfl; rintro v w2 ⟨rfl, hI2, hF2⟩)
    | (go_at_call 65; (with_reducible refine (heap_up HH.out _ _ hI2 (l.length + 1) ?_ _ ?_ ?_ ?_).mono ?_); simp; omega; omega; rw [Int.toNat_natCast]; exact HU.out; rintro e w3 ⟨rfl, l', hI3, hF3, hp, hh3, hk3⟩))
  go_end0
  exact ⟨rfl, HK.out _ _ hI3 (HH.out.trans _ _ _ hF2 hF3) hp (by unfold HL.IsHeap; rw [hp.length_eq]; simpa using hh3)⟩

theorem pop_end {α : Type} [Inhabited α] {lt : α → α → Bool} {l0 l' : List α} {n i : Nat} (hl : l0.length = n + 1) (hi : i < n + 1) (hp : l'.Perm (HL.swp l0 i n)) (hh : HL.HeapTo lt 0 l' n)
    (hk : HL.el l' n = HL.el (HL.swp l0 i n) n) : l' = l'.take n ++ [HL.el l0 i] ∧ (HL.el l0 i :: l'.take n).Perm l0 ∧ HL.IsHeap lt (l'.take n) := by
  have hlen : l'.length = n + 1 := by rw [hp.length_eq, HL.swp_length, hl]
  have e : HL.el l' n = HL.el l0 i := by rw [hk, HL.el_swp _ _ _ _ (by omega) (by omega), if_pos rfl]
  have e1 := HL.split_last hlen
  rw [e] at e1
  refine ⟨e1, ?_, HL.isHeap_take (by omega) hh⟩
  have p1 : (HL.el l0 i :: l'.take n).Perm (l'.take n ++ [HL.el l0 i]) := (List.perm_append_singleton _ _).symm
  exact p1.trans ((List.Perm.of_eq e1.symm).trans (hp.trans (HL.swp_perm _ _ _ (by omega) (by omega))))

set_option maxHeartbeats 400000 in
theorem heap_pop {α : Type} [Inhabited α] {lt : α → α → Bool} {it : Value} {I : List α → World → Prop} {F : World → World → Prop} (H : HeapRep Tryz.prog it lt I F) {w : World} {K : Value → World → Prop} (l0 : List α)
    (h0 : I l0 w) (hne : 0 < l0.length) (hh : HL.IsHeap lt l0)
    (hP : ∀ l w1, I (l ++ [HL.el l0 0]) w1 → F w w1 → (HL.el l0 0 :: l).Perm l0 → HL.IsHeap lt l → InvC Tryz.prog it "Pop" #[] w1 K) :
    Calls Tryz.prog 66 #[it] w fun e w' => ∃ v, e = .returned v ∧ K v w' := by
  have HP := Lib.hid hP; clear hP
  have HH := Lib.hid H; clear H
  have hsm := HH.out.small _ _ h0
  obtain ⟨n, hn⟩ : ∃ n, l0.length = n + 1 := ⟨l0.length - 1, by omega⟩
  have HLen := Lib.hid (HH.out.len _ _ h0)
  rw [hn] at HLen hsm
  have HN := Lib.hid hn
  have HSW := Lib.hid (fun w1 (h : I l0 w1) => HH.out.swap l0 w1 h 0 n (by omega) (by omega) (by omega) (by omega))
  have HD : Hid (HL.DownInv lt 0 0 (HL.swp l0 0 n) n 0) := by
    by_cases h : 0 < n
    · exact HL.downInv_pop hn h HH.out.ord hh
    · exact ⟨fun k k0 kn => by omega, fun k k0 kn => by omega⟩
  have hls : n ≤ (HL.swp l0 0 n).length := by rw [HL.swp_length]; omega
  clear hn hne hh
  rw [Int.toNat_natCast, Int.toNat_zero] at HSW
  go_enter Tryz.func66, Tryz.ntmps66
  go_wp2_with (first
    | ((with_reducible refine wpI0 HLen.out ?_ ?_ ?_); rfl; rfl; rintro v w1 ⟨rfl, hI1, hF1⟩; clear HLen)
    | ((with_reducible refine wpI2 (HSW.out _ hI1) ?_ ?_ ?_ ?_ ?_); rfl; rfl; rfl; rfl; rintro v w2 ⟨hI2, hF2⟩)
    | (go_at_call 89; (with_reducible refine (heap_down HH.out _ _ hI2 0 _ _ ?_ ?_ ?_ ?_ ?_).mono ?_); omega; omega; omega; simp only [Int.toNat_natCast, Int.toNat_zero]; exact HD.out; omega; simp only [Int.toNat_natCast, Int.toNat_zero]; rintro e w3 ⟨l', b, rfl, hI3, hF3, hp, hk, hb0, hb1⟩; have HB := Lib.hid (And.intro hb0 hb1); clear hb0 hb1; have HK := Lib.hid (hk n (by simp)); clear hk; have hh : HL.HeapTo lt 0 l' n := (by cases b with
        | false => exact HL.heapTo_of_post (HB.out.1 rfl).2
        | true => exact HB.out.2 rfl); have hend := pop_end HN.out (by omega) hp hh HK.out; have HI3 := Lib.hid (by have := hI3; rw [hend.1] at this; exact this); have HI := Lib.hid (HP.out _ _ HI3.out (HH.out.trans _ _ _ hF1 (HH.out.trans _ _ _ hF2 hF3)) hend.2.1 hend.2.2); clear HI3 hend HK HB hh)
    | ((with_reducible refine wpI0 HI.out ?_ ?_ ?_); rfl; rfl; rintro v w4 hK4))
  go_ret
  exact ⟨_, rfl, hK4⟩

end Go.Proofs.YtjpmebfegpmccaaGreat
