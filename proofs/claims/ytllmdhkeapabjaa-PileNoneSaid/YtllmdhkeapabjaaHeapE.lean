/- container/heap's Init, Push, Pop and Remove over any value of heap.Interface whose methods meet their contracts. -/
import Derived.Test.YtllmdhkeapabjaaHeapD
namespace Go.Proofs.Ytllmdhkeapabjaa
open Go.RowKit

set_option maxHeartbeats 400000 in
theorem heap_push {α : Type} [Inhabited α] {lt : α → α → Bool} {it xv : Value} {w : World} {K : World → Prop}
    (hP : InvC Try.prog it "Push" #[xv] w fun _ w1 => ∃ I F l x, HeapRep Try.prog it lt I F ∧ I (l ++ [x]) w1 ∧ HL.IsHeap lt l ∧ ∀ l' w2, I l' w2 → F w1 w2 → l'.Perm (l ++ [x]) → HL.IsHeap lt l' → K w2) :
    Calls Try.prog 23 #[it, xv] w fun e w' => e = .returned (.tuple #[]) ∧ K w' := by
  have HP := Lib.hid hP; clear hP
  go_enter Try.func23, Try.ntmps23
  go_wp2_with (first
    | ((with_reducible refine wpI1 HP.out ?_ ?_ ?_ ?_); rfl; rfl; rfl; rintro v w1 ⟨I, F, l, x, H, hI, hh, hK⟩; have HH := Lib.hid H; clear H; have HK := Lib.hid hK; clear hK; have HLen := Lib.hid (HH.out.len _ _ hI); have hsm := HH.out.small _ _ hI; have HU := Lib.hid (HL.upInv_push x hh); rw [List.length_append, List.length_singleton] at HLen hsm; clear HP)
    | ((with_reducible refine wpI0 HLen.out ?_ ?_ ?_); rfl; rfl; rintro v w2 ⟨rfl, hI2, hF2⟩)
    | (go_at_call 34; (with_reducible refine (heap_up HH.out _ _ hI2 (l.length + 1) ?_ _ ?_ ?_ ?_).mono ?_); simp; omega; omega; rw [Int.toNat_natCast]; exact HU.out; rintro e w3 ⟨rfl, l', hI3, hF3, hp, hh3, hk3⟩))
  go_end0
  exact ⟨rfl, HK.out _ _ hI3 (HH.out.trans _ _ _ hF2 hF3) hp (by unfold HL.IsHeap; rw [hp.length_eq]; simpa using hh3)⟩

theorem pop_end {α : Type} [Inhabited α] {lt : α → α → Bool} {l0 l' : List α} {n i : Nat} (hl : l0.length = n + 1) (hi : i < n + 1) (hp : l'.Perm (HL.swp l0 i n)) (hh : HL.HeapTo lt 0 l' n)
    (hk : HL.el l' n = HL.el (HL.swp l0 i n) n) : l' = l'.take n ++ [HL.el l0 i] ∧ (HL.el l0 i :: l'.take n).Perm l0 ∧ HL.IsHeap lt (l'.take n) := by
  have hlen : l'.length = n + 1 := by rw [hp.length_eq, HL.swp_length, hl]
  have e : HL.el l' n = HL.el l0 i := by rw [hk, HL.el_swp _ _ _ _ (by omega) (by omega), if_pos rfl]
  have e1 := HL.split_last hlen
  rw [e] at e1
  refine ⟨e1, ?_, HL.isHeap_take (by omega) hh⟩
  have p1 : (HL.el l0 i :: l'.take n).Perm (l'.take n ++ [HL.el l0 i]) := (List.perm_append_singleton _ _).symm
  exact p1.trans ((List.Perm.of_eq e1.symm).trans (hp.trans (HL.swp_perm _ _ _ (by omega) (by omega))))

set_option maxHeartbeats 400000 in
theorem heap_pop {α : Type} [Inhabited α] {lt : α → α → Bool} {it : Value} {I : List α → World → Prop} {F : World → World → Prop} (H : HeapRep Try.prog it lt I F) {w : World} {K : Value → World → Prop} (l0 : List α)
    (h0 : I l0 w) (hne : 0 < l0.length) (hh : HL.IsHeap lt l0)
    (hP : ∀ l w1, I (l ++ [HL.el l0 0]) w1 → F w w1 → (HL.el l0 0 :: l).Perm l0 → HL.IsHeap lt l → InvC Try.prog it "Pop" #[] w1 K) :
    Calls Try.prog 24 #[it] w fun e w' => ∃ v, e = .returned v ∧ K v w' := by
  have HP := Lib.hid hP; clear hP
  have HH := Lib.hid H; clear H
  have hsm := HH.out.small _ _ h0
  obtain ⟨n, hn⟩ : ∃ n, l0.length = n + 1 := ⟨l0.length - 1, by omega⟩
  have HLen := Lib.hid (HH.out.len _ _ h0)
  rw [hn] at HLen hsm
  have HN := Lib.hid hn
  have HSW := Lib.hid (fun w1 (h : I l0 w1) => HH.out.swap l0 w1 h 0 n (by omega) (by omega) (by omega) (by omega))
  have HD : Hid (HL.DownInv lt 0 0 (HL.swp l0 0 n) n 0) := by
    by_cases h : 0 < n
    · exact HL.downInv_pop hn h HH.out.ord hh
    · exact ⟨fun k k0 kn => by omega, fun k k0 kn => by omega⟩
  have hls : n ≤ (HL.swp l0 0 n).length := by rw [HL.swp_length]; omega
  clear hn hne hh
  rw [Int.toNat_natCast, Int.toNat_zero] at HSW
  go_enter Try.func24, Try.ntmps24
  go_wp2_with (first
    | ((with_reducible refine wpI0 HLen.out ?_ ?_ ?_); rfl; rfl; rintro v w1 ⟨rfl, hI1, hF1⟩; clear HLen)
    | ((with_reducible refine wpI2 (HSW.out _ hI1) ?_ ?_ ?_ ?_ ?_); rfl; rfl; rfl; rfl; rintro v w2 ⟨hI2, hF2⟩)
    | (go_at_call 35; (with_reducible refine (heap_down HH.out _ _ hI2 0 _ _ ?_ ?_ ?_ ?_ ?_).mono ?_); omega; omega; omega; simp only [Int.toNat_natCast, Int.toNat_zero]; exact HD.out; omega; simp only [Int.toNat_natCast, Int.toNat_zero]; rintro e w3 ⟨l', b, rfl, hI3, hF3, hp, hk, hb0, hb1⟩; have HB := Lib.hid (And.intro hb0 hb1); clear hb0 hb1; have HK := Lib.hid (hk n (by simp)); clear hk; have hh : HL.HeapTo lt 0 l' n := (by cases b with
        | false => exact HL.heapTo_of_post (HB.out.1 rfl).2
        | true => exact HB.out.2 rfl); have hend := pop_end HN.out (by omega) hp hh HK.out; have HI3 := Lib.hid (by have := hI3; rw [hend.1] at this; exact this); have HI := Lib.hid (HP.out _ _ HI3.out (HH.out.trans _ _ _ hF1 (HH.out.trans _ _ _ hF2 hF3)) hend.2.1 hend.2.2); clear HI3 hend HK HB hh)
    | ((with_reducible refine wpI0 HI.out ?_ ?_ ?_); rfl; rfl; rintro v w4 hK4))
  go_ret
  exact ⟨_, rfl, hK4⟩

theorem pop_fin {α : Type} [Inhabited α] {lt : α → α → Bool} {it : Value} {I : List α → World → Prop} {F : World → World → Prop} {w w3 : World} {K : Value → World → Prop} {l0 l' : List α} {n i : Nat}
    (hP : ∀ l w1, I (l ++ [HL.el l0 i]) w1 → F w w1 → (HL.el l0 i :: l).Perm l0 → HL.IsHeap lt l → InvC Try.prog it "Pop" #[] w1 K)
    (hl : l0.length = n + 1) (hi : i < n + 1) (hp : l'.Perm (HL.swp l0 i n)) (hh : HL.HeapTo lt 0 l' n) (hk : HL.el l' n = HL.el (HL.swp l0 i n) n) (hI : I l' w3) (hF : F w w3) : InvC Try.prog it "Pop" #[] w3 K := by
  obtain ⟨e1, e2, e3⟩ := pop_end hl hi hp hh hk
  rw [e1] at hI
  exact hP _ _ hI hF e2 e3

theorem down_cases {α : Type} [Inhabited α] {lt : α → α → Bool} {l l0 : List α} {lo n i0 : Nat} (b : Bool) (h0 : b = false → l = l0 ∧ ∀ k, 0 < k → k < n → lo ≤ (k - 1) / 2 → k ≠ i0 → HL.okAt lt l k) (h1 : b = true → HL.HeapTo lt lo l n) :
    (b = false ∧ l = l0 ∧ Hid (∀ k, 0 < k → k < n → lo ≤ (k - 1) / 2 → k ≠ i0 → HL.okAt lt l0 k)) ∨ (b = true ∧ HL.HeapTo lt lo l n) := by
  cases b with
  | false => obtain ⟨rfl, h⟩ := h0 rfl; exact .inl ⟨rfl, rfl, h⟩
  | true => exact .inr ⟨rfl, h1 rfl⟩

set_option maxHeartbeats 400000 in
theorem heap_remove {α : Type} [Inhabited α] {lt : α → α → Bool} {it : Value} {I : List α → World → Prop} {F : World → World → Prop} (H : HeapRep Try.prog it lt I F) {w : World} {K : Value → World → Prop} (l0 : List α)
    (h0 : I l0 w) (i : Int) (hi0 : 0 ≤ i) (hi : i < l0.length) (hh : HL.IsHeap lt l0)
    (hP : ∀ l w1, I (l ++ [HL.el l0 i.toNat]) w1 → F w w1 → (HL.el l0 i.toNat :: l).Perm l0 → HL.IsHeap lt l → InvC Try.prog it "Pop" #[] w1 K) :
    Calls Try.prog 28 #[it, .int .i64 i] w fun e w' => ∃ v, e = .returned v ∧ K v w' := by
  obtain ⟨i, rfl⟩ := Int.eq_ofNat_of_zero_le hi0
  simp only [Int.toNat_natCast] at hP
  have HP := Lib.hid hP; clear hP
  have HH := Lib.hid H; clear H
  have hsm := HH.out.small _ _ h0
  obtain ⟨n, hn⟩ : ∃ n, l0.length = n + 1 := ⟨l0.length - 1, by omega⟩
  have hin : i < n + 1 := by omega
  have HLen := Lib.hid (HH.out.len _ _ h0)
  rw [hn] at HLen hsm
  have HN := Lib.hid hn
  have HHP := Lib.hid hh
  by_cases e : i = n
  · subst e
    have e1 := HL.split_last hn
    have hne : ((i : Int) != (i : Int)) = false := by simp
    have HPI : Hid (∀ w1, I l0 w1 → F w w1 → InvC Try.prog it "Pop" #[] w1 K) := fun w1 h1 hf => HP.out (l0.take i) w1 (by rw [← e1]; exact h1) hf
      ((List.perm_append_singleton _ _).symm.trans (List.Perm.of_eq e1.symm)) (HL.isHeap_take (by omega) (fun k k0 kn kl => hh k k0 (by omega) kl))
    clear hn hh hi e1
    go_enter Try.func28, Try.ntmps28
    go_wp2_with (first
      | ((with_reducible refine wpI0 HLen.out ?_ ?_ ?_); rfl; rfl; rintro v w1 ⟨rfl, hI1, hF1⟩; clear HLen)
      | ((with_reducible refine wpI0 (HPI.out _ hI1 hF1) ?_ ?_ ?_); rfl; rfl; rintro v w4 hK4))
    go_ret
    exact ⟨_, rfl, hK4⟩
  · have hne : ((n : Int) != (i : Int)) = true := by rw [bne_iff_ne]; omega
    have hi' : i < n := by omega
    have HSW := Lib.hid (fun w1 (h : I l0 w1) => HH.out.swap l0 w1 h i n (by omega) (by omega) (by omega) (by omega))
    have HD := Lib.hid (HL.downInv_pop hn hi' HH.out.ord hh)
    have hls : n ≤ (HL.swp l0 i n).length := by rw [HL.swp_length]; omega
    clear hn hh hi
    rw [Int.toNat_natCast, Int.toNat_natCast] at HSW
    go_enter Try.func28, Try.ntmps28
    go_wp2_with (first
      | ((with_reducible refine wpI0 HLen.out ?_ ?_ ?_); rfl; rfl; rintro v w1 ⟨rfl, hI1, hF1⟩; clear HLen)
      | ((with_reducible refine wpI2 (HSW.out _ hI1) ?_ ?_ ?_ ?_ ?_); rfl; rfl; rfl; rfl; rintro v w2 ⟨hI2, hF2⟩)
      | (go_at_call 35; (with_reducible refine (heap_down HH.out _ _ hI2 0 _ _ ?_ ?_ ?_ ?_ ?_).mono ?_); omega; omega; omega; simp only [Int.toNat_natCast]; exact HD.out; omega; simp only [Int.toNat_natCast]; rintro e w3 ⟨l', b, rfl, hI3, hF3, hp, hk, hb0, hb1⟩; have HK := Lib.hid (hk n (Nat.le_refl _)); clear hk; rcases down_cases b hb0 hb1 with ⟨rfl, rfl, hB0⟩ | ⟨rfl, hB1⟩)
      | (go_at_call 34; (with_reducible refine (heap_up HH.out _ _ hI3 n hls _ ?_ ?_ ?_).mono ?_); omega; omega; rw [Int.toNat_natCast]; exact HL.upInv_remove HN.out hi' HH.out.ord HHP.out hB0.out; rintro e w4 ⟨rfl, l2, hI4, hF4, hp4, hh4, hk4⟩; have HK4 := Lib.hid (hk4 n (Nat.le_refl _)); clear hk4)
      | ((with_reducible refine wpI0 (pop_fin HP.out HN.out hin hp4 hh4 HK4.out hI4 (HH.out.trans _ _ _ hF1 (HH.out.trans _ _ _ hF2 (HH.out.trans _ _ _ hF3 hF4)))) ?_ ?_ ?_); rfl; rfl; rintro v w5 hK5)
      | ((with_reducible refine wpI0 (pop_fin HP.out HN.out hin hp hB1 HK.out hI3 (HH.out.trans _ _ _ hF1 (HH.out.trans _ _ _ hF2 hF3))) ?_ ?_ ?_); rfl; rfl; rintro v w5 hK5))
    all_goals
      go_ret
      exact ⟨_, rfl, hK5⟩

/-- What holds as Init goes on: all parents from i on are in order. -/
def InitRel {α : Type} [Inhabited α] (lt : α → α → Bool) (I : List α → World → Prop) (F : World → World → Prop) (l0 : List α) (w : World) (i : Nat) (wr : World) : Prop :=
  ∃ l, I l wr ∧ F w wr ∧ l.Perm l0 ∧ HL.HeapTo lt i l l0.length

set_option maxHeartbeats 400000 in
theorem heap_init {α : Type} [Inhabited α] {lt : α → α → Bool} {it : Value} {I : List α → World → Prop} {F : World → World → Prop} (H : HeapRep Try.prog it lt I F) {w : World} (l0 : List α) (h0 : I l0 w) :
    Calls Try.prog 26 #[it] w fun e w' => e = .returned (.tuple #[]) ∧ ∃ l, I l w' ∧ F w w' ∧ l.Perm l0 ∧ HL.IsHeap lt l := by
  have HH := Lib.hid H; clear H
  have hsm := HH.out.small _ _ h0
  have HLen := Lib.hid (HH.out.len _ _ h0)
  go_enter Try.func26, Try.ntmps26
  go_wp2_with ((with_reducible refine wpI0 HLen.out ?_ ?_ ?_); rfl; rfl; rintro v w1 ⟨rfl, hI1, hF1⟩; clear HLen)
  go_loopw [3] (fun iv wr => ∃ i : Nat, i ≤ l0.length / 2 ∧ iv = .int .i64 ((i : Int) - 1) ∧ InitRel lt I F l0 w i wr) (fun iv _ => (intOf iv + 1).toNat)
  case atStart => exact ⟨l0.length / 2, Nat.le_refl _, by go_num, l0, hI1, hF1, List.Perm.refl _, HL.heapTo_half _ _⟩
  case round =>
    obtain ⟨i, hi, rfl, l, hI, hF, hp, hh⟩ := hrel
    have hl0 : l.length ≤ l0.length := Nat.le_of_eq hp.length_eq
    have hl1 : l0.length ≤ l.length := Nat.le_of_eq hp.length_eq.symm
    have HHT := Lib.hid hh; clear hh
    by_cases hi0 : i = 0
    · subst hi0
      go_wp2
      go_end0
      exact ⟨rfl, l, hI, hF, hp, by unfold HL.IsHeap; rw [hp.length_eq]; exact HHT.out⟩
    · obtain ⟨k, rfl⟩ : ∃ k, i = k + 1 := ⟨i - 1, by omega⟩
      go_wp2_with (go_at_call 35; (with_reducible refine (heap_down HH.out _ _ hI k _ _ ?_ ?_ ?_ ?_ ?_).mono ?_); omega; omega; omega; simp only [Int.toNat_natCast]; exact HL.downInv_init HHT.out; omega; simp only [Int.toNat_natCast]; rintro e w3 ⟨l', b, rfl, hI3, hF3, hp3, hk, hb0, hb1⟩; have HB := Lib.hid (And.intro hb0 hb1); clear hb0 hb1; have HK := Lib.hid hk; clear hk)
      go_roundw
      case rel => exact ⟨k, by omega, by go_num, l', hI3, HH.out.trans _ _ _ hF hF3, hp3.trans hp, by
        cases b with
        | false => exact HL.heapTo_of_post (HB.out.1 rfl).2
        | true => exact HB.out.2 rfl⟩
      case measure => simp [intOf]

end Go.Proofs.Ytllmdhkeapabjaa
