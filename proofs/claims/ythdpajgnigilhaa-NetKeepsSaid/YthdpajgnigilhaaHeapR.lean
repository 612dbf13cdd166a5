/- container/heap's Remove over any value of heap.Interface whose methods meet their contracts. -/
import Derived.Test.YthdpajgnigilhaaHeapE
namespace Go.Proofs.Ythdpajgnigilhaa
open Go.RowKit

theorem pop_fin {α : Type} [Inhabited α] {lt : α → α → Bool} {it : Value} {I : List α → World → Prop} {F : World → World → Prop} {w w3 : World} {K : Value → World → Prop} {l0 l' : List α} {n i : Nat}
    (hP : ∀ l w1, I (l ++ [HL.el l0 i]) w1 → F w w1 → (HL.el l0 i :: l).Perm l0 → HL.IsHeap lt l → InvC Try.prog it "Pop" #[] w1 K)
    (hl : l0.length = n + 1) (hi : i < n + 1) (hp : l'.Perm (HL.swp l0 i n)) (hh : HL.HeapTo lt 0 l' n) (hk : HL.el l' n = HL.el (HL.swp l0 i n) n) (hI : I l' w3) (hF : F w w3) : InvC Try.prog it "Pop" #[] w3 K := by
  obtain ⟨e1, e2, e3⟩ := pop_end hl hi hp hh hk
  rw [e1] at hI
  exact hP _ _ hI hF e2 e3

theorem down_cases {α : Type} [Inhabited α] {lt : α → α → Bool} {l l0 : List α} {lo n i0 : Nat} (b : Bool) (h0 : b = false → l = l0 ∧ ∀ k, 0 < k → k < n → lo ≤ (k - 1) / 2 → k ≠ i0 → HL.okAt lt l k) (h1 : b = true → HL.HeapTo lt lo l n) :
    (b = false ∧ l = l0 ∧ Hid (∀ k, 0 < k → k < n → lo ≤ (k - 1) / 2 → k ≠ i0 → HL.okAt lt l0 k)) ∨ (b = true ∧ HL.HeapTo lt lo l n) := by
  cases b with
  | false => obtain ⟨rfl, h⟩ := h0 rfl; exact .inl ⟨rfl, rfl, h⟩
  | true => exact .inr ⟨rfl, h1 rfl⟩

set_option maxHeartbeats 400000 in
theorem heap_remove {α : Type} [Inhabited α] {lt : α → α → Bool} {it : Value} {I : List α → World → Prop} {F : World → World → Prop} (H : HeapRep Try.prog it lt I F) {w : World} {K : Value → World → Prop} (l0 : List α)
    (h0 : I l0 w) (i : Int) (hi0 : 0 ≤ i) (hi : i < l0.length) (hh : HL.IsHeap lt l0)
    (hP : ∀ l w1, I (l ++ [HL.el l0 i.toNat]) w1 → F w w1 → (HL.el l0 i.toNat :: l).Perm l0 → HL.IsHeap lt l → InvC Try.prog it "Pop" #[] w1 K) :
    Calls Try.prog 36 #[it, .int .i64 i] w fun e w' => ∃ v, e = .returned v ∧ K v w' := by
  obtain ⟨i, rfl⟩ := Int.eq_ofNat_of_zero_le hi0
  simp only [Int.toNat_natCast] at hP
  have HP := Lib.hid hP; clear hP
  have HH := Lib.hid H; clear H
  have hsm := HH.out.small _ _ h0
  obtain ⟨n, hn⟩ : ∃ n, l0.length = n + 1 := ⟨l0.length - 1, by omega⟩
  have hin : i < n + 1 := by omega
  have HLen := Lib.hid (HH.out.len _ _ h0)
  rw [hn] at HLen hsm
  have HN := Lib.hid hn
  have HHP := Lib.hid hh
  by_cases e : i = n
  · subst e
    have e1 := HL.split_last hn
    have hne : ((i : Int) != (i : Int)) = false := by simp
    have HPI : Hid (∀ w1, I l0 w1 → F w w1 → InvC Try.prog it "Pop" #[] w1 K) := fun w1 h1 hf => HP.out (l0.take i) w1 (by rw [← e1]; exact h1) hf
      ((List.perm_append_singleton _ _).symm.trans (List.Perm.of_eq e1.symm)) (HL.isHeap_take (by omega) (fun k k0 kn kl => hh k k0 (by omega) kl))
    clear hn hh hi e1
    go_enter Try.func36, Try.ntmps36
    go_wp2_with (first
      | ((with_reducible refine wpI0 HLen.out ?_ ?_ ?_); rfl; rfl; rintro v w1 ⟨rfl, hI1, hF1⟩; clear HLen)
      | ((with_reducible refine wpI0 (HPI.out _ hI1 hF1) ?_ ?_ ?_); rfl; rfl; rintro v w4 hK4))
    go_ret
    exact ⟨_, rfl, hK4⟩
  · have hne : ((n : Int) != (i : Int)) = true := by rw [bne_iff_ne]; omega
    have hi' : i < n := by omega
    have HSW := Lib.hid (fun w1 (h : I l0 w1) => HH.out.swap l0 w1 h i n (by omega) (by omega) (by omega) (by omega))
    have HD := Lib.hid (HL.downInv_pop hn hi' HH.out.ord hh)
    have hls : n ≤ (HL.swp l0 i n).length := by rw [HL.swp_length]; omega
    clear hn hh hi
    rw [Int.toNat_natCast, Int.toNat_natCast] at HSW
    go_enter Try.func36, Try.ntmps36
    go_wp2_with (first
      | ((with_reducible refine wpI0 HLen.out ?_ ?_ ?_); rfl; rfl; rintro v w1 ⟨rfl, hI1, hF1⟩; clear HLen)
      | ((with_reducible refine wpI2 (HSW.out _ hI1) ?_ ?_ ?_ ?_ ?_); rfl; rfl; rfl; rfl; rintro v w2 ⟨hI2, hF2⟩)
      | (go_at_call 44; (with_reducible refine (heap_down HH.out _ _ hI2 0 _ _ ?_ ?_ ?_ ?_ ?_).mono ?_); omega; omega; omega; simp only [Int.toNat_natCast]; exact HD.out; omega; simp only [Int.toNat_natCast]; rintro e w3 ⟨l', b, rfl, hI3, hF3, hp, hk, hb0, hb1⟩; have HK := Lib.hid (hk n (Nat.le_refl _)); clear hk; rcases down_cases b hb0 hb1 with ⟨rfl, rfl, hB0⟩ | ⟨rfl, hB1⟩)
      | (go_at_call 50; (with_reducible refine (heap_up HH.out _ _ hI3 n hls _ ?_ ?_ ?_).mono ?_); omega; omega; rw [Int.toNat_natCast]; exact HL.upInv_remove HN.out hi' HH.out.ord HHP.out hB0.out; rintro e w4 ⟨rfl, l2, hI4, hF4, hp4, hh4, hk4⟩; have HK4 := Lib.hid (hk4 n (Nat.le_refl _)); clear hk4)
      | ((with_reducible refine wpI0 (pop_fin HP.out HN.out hin hp4 hh4 HK4.out hI4 (HH.out.trans _ _ _ hF1 (HH.out.trans _ _ _ hF2 (HH.out.trans _ _ _ hF3 hF4)))) ?_ ?_ ?_); rfl; rfl; rintro v w5 hK5)
      | ((with_reducible refine wpI0 (pop_fin HP.out HN.out hin hp hB1 HK.out hI3 (HH.out.trans _ _ _ hF1 (HH.out.trans _ _ _ hF2 hF3))) ?_ ?_ ?_); rfl; rfl; rintro v w5 hK5))
    all_goals
      go_ret
      exact ⟨_, rfl, hK5⟩

end Go.Proofs.Ythdpajgnigilhaa
