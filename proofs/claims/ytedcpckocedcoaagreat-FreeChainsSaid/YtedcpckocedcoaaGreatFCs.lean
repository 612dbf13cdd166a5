/- arboretumbook.Room (of one size) and Short; what is chained is unchained. -/
import Derived.Test.YtedcpckocedcoaaGreatFCp
namespace Go.Proofs.YtedcpckocedcoaaGreat
open Go.RowKit

set_option maxHeartbeats 2000000 in
set_option maxRecDepth 100000 in
theorem room1 (r x : Int) (g : Nat) (w : World) (hr : 0 ≤ r) (hr2 : r ≤ 6000) (hx : 0 ≤ x) (hx2 : x ≤ 9223372036854775807) (hc : w.cell? ⟨g, 0, none⟩ = some (.int .i64 x)) :
    Calls Tryz.prog 96 #[.int .i64 r, .slice (some ⟨g, 0, none⟩) 1 1] w fun e w' => e = .returned (.int .i64 (if x ≤ r then r - x else -1)) ∧ w' = w := by
  have HR := Lib.hid hr
  have HC := Lib.hid hc
  by_cases h : x ≤ r
  · rw [if_pos h]
    have n1 : ¬ r < 0 := by omega
    have n2 : ¬ r < x := by omega
    have HW : Hid (IntKind.i64.wrap (r - x) = r - x) := Lib.hid (by rw [IntKind.wrap_i64]; omega)
    clear hr
    go_enter Tryz.func96, Tryz.ntmps96
    go_wp2
    go_loop [0, 5] (fun rv iv => (rv = .int .i64 r ∧ iv = .int .i64 0) ∨ (rv = .int .i64 (r - x) ∧ iv = .int .i64 1)) (fun _ iv => (1 - intOf iv).toNat)
    case atStart => exact .inl ⟨rfl, rfl⟩
    case round =>
      rcases hrel with ⟨rfl, rfl⟩ | ⟨rfl, rfl⟩
      · have hw := HW.out
        go_wp2
        go_round
        case rel => exact .inr ⟨rfl, by simp⟩
        case measure => simp [intOf]
      · go_wp2
        go_ret
        exact ⟨rfl, rfl⟩
  · rw [if_neg h]
    have n1 : ¬ r < 0 := by omega
    have n2 : r < x := by omega
    clear hr
    go_enter Tryz.func96, Tryz.ntmps96
    go_wp2
    go_loop [0, 5] (fun rv iv => (rv = .int .i64 r ∧ iv = .int .i64 0)) (fun _ iv => (1 - intOf iv).toNat)
    case atStart => exact ⟨rfl, rfl⟩
    case round =>
      obtain ⟨rfl, rfl⟩ := hrel
      go_wp2
      go_ret
      exact ⟨rfl, rfl⟩

/-- All sizes together. -/
def sumS (bs : List ByteArray) : Nat := (bs.map ByteArray.size).sum
theorem sumS_take {bs : List ByteArray} {i : Nat} (h : i < bs.length) : sumS (bs.take (i + 1)) = sumS (bs.take i) + (HL.el bs i).size := by
  have e : bs.take (i + 1) = bs.take i ++ [HL.el bs i] := by
    rw [List.take_add_one, List.getElem?_eq_getElem h]
    simp [HL.el, List.getD_eq_getElem?_getD, List.getElem?_eq_getElem h]
  rw [e]
  simp [sumS]
def ShortR (bs : List ByteArray) (e : Ending) : Prop := ∃ r, e = .returned (.bool r) ∧ (r = true → bs.length ≤ 60 ∧ sumS bs ≤ 6000)

set_option maxHeartbeats 2000000 in
set_option maxRecDepth 100000 in
theorem book_short (p : Option Addr) (n c : Nat) (bs : List ByteArray) (w : World) (h : RdT w w.heap.size p n bs) (hb : ∀ i, i < n → (HL.el bs i).size ≤ 9223372036854775807) :
    Calls Tryz.prog 30 #[.int .i64 60, .int .i64 6000, .slice p n c] w fun e w' => ShortR bs e ∧ Below w.heap.size w w' := by
  have hbl : bs.length = n := h.1
  have HR := Lib.hid h
  have HS := Lib.hid hb
  clear h hb
  by_cases hm : n ≤ 60
  · have hmI : ¬ (60 : Int) < (n : Int) := by omega
    go_enter Tryz.func30, Tryz.ntmps30
    go_wp2
    go_loopw [1, 7] (fun rv iv wr => ∃ (i : Nat) (r : Int), i ≤ n ∧ iv = .int .i64 i ∧ rv = .int .i64 r ∧ Hid (r = -1 ∨ (0 ≤ r ∧ r + sumS (bs.take i) = 6000)) ∧ Hid (Below w.heap.size w wr)) (fun _ iv _ => n - (intOf iv).toNat)
    case atStart => exact ⟨0, 6000, by omega, rfl, rfl, Lib.hid (.inr ⟨by omega, by simp [sumS]⟩), Lib.hid (Below.refl _ _)⟩
    case round =>
      obtain ⟨i, r, hi, rfl, rfl, HRR, HB⟩ := hrel
      have hsz := HB.out.size
      by_cases hlt : i < n
      · have hltI : (i : Int) < (n : Int) := by omega
        rcases Int.lt_or_le r 0 with hr | hr
        · have hrI : ¬ (0 : Int) ≤ r := by omega
          have hd : decide ((0 : Int) ≤ r) = false := decide_eq_false hrI
          have hd2 : decide ((i : Int) < (n : Int)) = true := decide_eq_true hltI
          go_wp2
          go_ret
          exact ⟨⟨_, rfl, fun h => by simp at h⟩, HB.out⟩
        · obtain ⟨b, o, hp, hpb, hc⟩ := HR.out.2 (by omega)
          subst hp
          have hcx := (HB.out.cell (p := ⟨b, o + i, none⟩) hpb).trans (hc i hlt)
          have hsx := HS.out i hlt
          obtain ⟨y, hy⟩ : ∃ y, y = HL.el bs i := ⟨_, rfl⟩
          rw [← hy] at hcx hsx
          have hr6 : r + sumS (bs.take i) = 6000 := by rcases HRR.out with h | h <;> omega
          have HNX : Hid ((if (y.size : Int) ≤ r then r - y.size else -1) = -1 ∨ (0 ≤ (if (y.size : Int) ≤ r then r - y.size else -1) ∧ (if (y.size : Int) ≤ r then r - y.size else -1) + sumS (bs.take (i + 1)) = 6000)) := Lib.hid (by
            rw [sumS_take (by omega), ← hy]
            by_cases h : (y.size : Int) ≤ r
            · rw [if_pos h]; omega
            · rw [if_neg h]; exact .inl rfl)
          have HC : Hid (∀ g (W : World), W.cell? ⟨g, 0, none⟩ = some (.int .i64 (y.size : Int)) → Calls Tryz.prog 96 #[.int .i64 r, .slice (some ⟨g, 0, none⟩) 1 1] W fun e w' => e = .returned (.int .i64 (if (y.size : Int) ≤ r then r - y.size else -1)) ∧ w' = W) := Lib.hid (fun g W h => room1 r y.size g W hr (by omega) (by omega) (by omega) h)
          generalize (if (y.size : Int) ≤ r then r - (y.size : Int) else -1) = r2 at *
          have hd : decide ((0 : Int) ≤ r) = true := decide_eq_true hr
          have hd2 : decide ((i : Int) < (n : Int)) = true := decide_eq_true hltI
          clear hc hy hr6
          go_wp2_with fail
          with_reducible refine (HC.out _ _ (by go_simp)).mono ?_
          rintro e w7 ⟨rfl, hw7⟩
          rw [hw7]
          clear hw7 w7
          have HB2 : Hid (Below w.heap.size w (wr.alloc (.cells #[.int .i64 (y.size : Int)] 3))) := Lib.hid (HB.out.alloc hsz _)
          clear hcx HC
          go_wp2
          go_roundw
          case rel => exact ⟨i + 1, r2, by omega, by go_num, rfl, HNX, HB2⟩
          case measure => simp [intOf]; omega
      · obtain rfl : i = n := by omega
        have hltI : ¬ (i : Int) < (i : Int) := by omega
        have HE : Hid (0 ≤ r → bs.length ≤ 60 ∧ sumS bs ≤ 6000) := Lib.hid (fun h => by
          have e : bs.take i = bs := List.take_of_length_le (by omega)
          have h1 := HRR.out
          rw [e] at h1
          omega)
        have hd2 : decide ((i : Int) < (i : Int)) = false := decide_eq_false hltI
        rcases Int.lt_or_le r 0 with hr | hr
        · have hrI : ¬ (0 : Int) ≤ r := by omega
          have hd : decide ((0 : Int) ≤ r) = false := decide_eq_false hrI
          go_wp2
          go_ret
          exact ⟨⟨_, rfl, fun h => by simp at h⟩, HB.out⟩
        · have HE2 := Lib.hid (HE.out hr)
          have hd : decide ((0 : Int) ≤ r) = true := decide_eq_true hr
          go_wp2
          go_ret
          exact ⟨⟨_, rfl, fun _ => HE2.out⟩, HB.out⟩
  · have hmI : (60 : Int) < (n : Int) := by omega
    go_enter Tryz.func30, Tryz.ntmps30
    go_wp2
    go_ret
    exact ⟨⟨_, rfl, fun h => by simp at h⟩, Below.refl _ _⟩
end Go.Proofs.YtedcpckocedcoaaGreat
