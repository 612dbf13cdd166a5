/- container/heap's Init over any value of heap.Interface whose methods meet their contracts. -/
import Derived.Test.YtjpmebfegpmccaaGreatHeapE
namespace Go.Proofs.YtjpmebfegpmccaaGreat
open Go.RowKit

/-- What holds as Init goes on: all parents from i on are in order. -/
def InitRel {α : Type} [Inhabited α] (lt : α → α → Bool) (I : List α → World → Prop) (F : World → World → Prop) (l0 : List α) (w : World) (i : Nat) (wr : World) : Prop :=
  ∃ l, I l wr ∧ F w wr ∧ l.Perm l0 ∧ HL.HeapTo lt i l l0.length

set_option maxHeartbeats 400000 in
theorem heap_init {α : Type} [Inhabited α] {lt : α → α → Bool} {it : Value} {I : List α → World → Prop} {F : World → World → Prop} (H : HeapRep Tryz.prog it lt I F) {w : World} (l0 : List α) (h0 : I l0 w) :
    Calls Tryz.prog 67 #[it] w fun e w' => e = .returned (.tuple #[]) ∧ ∃ l, I l w' ∧ F w w' ∧ l.Perm l0 ∧ HL.IsHeap lt l := by
  have HH := Lib.hid H; clear H
  have hsm := HH.out.small _ _ h0
  have HLen := Lib.hid (HH.out.len _ _ h0)
  go_enter Tryz.func67, Tryz.ntmps67
  go_wp2_with ((with_reducible refine wpI0 HLen.out ?_ ?_ ?_); rfl; rfl; rintro v w1 ⟨rfl, hI1, hF1⟩; clear HLen)
  go_loopw [3] (fun iv wr => ∃ i : Nat, i ≤ l0.length / 2 ∧ iv = .int .i64 ((i : Int) - 1) ∧ InitRel lt I F l0 w i wr) (fun iv _ => (intOf iv + 1).toNat)
  case atStart => exact ⟨l0.length / 2, Nat.le_refl _, by go_num, l0, hI1, hF1, List.Perm.refl _, HL.heapTo_half _ _⟩
  case round =>
    obtain ⟨i, hi, rfl, l, hI, hF, hp, hh⟩ := hrel
    have hl0 : l.length ≤ l0.length := Nat.le_of_eq hp.length_eq
    have hl1 : l0.length ≤ l.length := Nat.le_of_eq hp.length_eq.symm
    have HHT := Lib.hid hh; clear hh
    by_cases hi0 : i = 0
    · subst hi0
      go_wp2
      go_end0
      exact ⟨rfl, l, hI, hF, hp, by unfold HL.IsHeap; rw [hp.length_eq]; exact HHT.out⟩
    · obtain ⟨k, rfl⟩ : ∃ k, i = k + 1 := ⟨i - 1, by omega⟩
      go_wp2_with (go_at_call 89; (with_reducible refine (heap_down HH.out _ _ hI k _ _ ?_ ?_ ?_ ?_ ?_).mono ?_); omega; omega; omega; simp only [Int.toNat_natCast]; exact HL.downInv_init HHT.out; omega; simp only [Int.toNat_natCast]; rintro e w3 ⟨l', b, rfl, hI3, hF3, hp3, hk, hb0, hb1⟩; have HB := Lib.hid (And.intro hb0 hb1); clear hb0 hb1; have HK := Lib.hid hk; clear hk)
      go_roundw
      case rel => exact ⟨k, by omega, by go_num, l', hI3, HH.out.trans _ _ _ hF hF3, hp3.trans hp, by
        cases b with
        | false => exact HL.heapTo_of_post (HB.out.1 rfl).2
        | true => exact HB.out.2 rfl⟩
      case measure => simp [intOf]

end Go.Proofs.YtjpmebfegpmccaaGreat
