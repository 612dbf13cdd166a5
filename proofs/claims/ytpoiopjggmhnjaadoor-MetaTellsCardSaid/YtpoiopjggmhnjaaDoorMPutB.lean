/- meta: Put of a number that has no room. -/
import Derived.Test.YtpoiopjggmhnjaaDoorMetaC
namespace Go.Proofs.YtpoiopjggmhnjaaDoor
open Go.RowKit

/-- It has room. -/
def ok48 (v : Int) : Prop := 0 ≤ v ∧ v < 2 ^ 48
def q4 (a b c d : Int) (k : Nat) : Int := HL.el [a, b, c, d] k

set_option maxHeartbeats 2000000 in
set_option maxRecDepth 100000 in
theorem meta_put_bad (a b c d : Int) (w : World) (h : ∃ k, k < 4 ∧ ¬ ok48 (q4 a b c d k)) : Calls Tryd.prog 7 #[.agg #[.int .i64 a, .int .i64 b, .int .i64 c, .int .i64 d]] w fun e w' => e = .returned (.tuple #[.string ByteArray.empty, .int .i64 1]) ∧ Below w.heap.size w w' := by
  have hcell : ∀ k, k < 4 → (#[Value.int .i64 a, .int .i64 b, .int .i64 c, .int .i64 d])[k]? = some (.int .i64 (q4 a b c d k)) := by
    intro k hk
    match k, hk with
    | 0, _ => rfl
    | 1, _ => rfl
    | 2, _ => rfl
    | 3, _ => rfl
  have HCL := Lib.hid hcell
  have HBAD := Lib.hid h
  have HEM : Hid ((ByteArray.mk #[]).size ≤ 6 * 0) := Lib.hid (by simp [ByteArray.size])
  clear hcell h
  go_enter Tryd.func7, Tryd.ntmps7
  go_wp2
  have hcs : ∀ k, k < 4 → (((w.alloc (.cells #[.int .i64 a, .int .i64 b, .int .i64 c, .int .i64 d] 23)).alloc (.cells #[.int .i64 a, .int .i64 b, .int .i64 c, .int .i64 d] 3))).cell? ⟨w.heap.size + 1, k, none⟩ = some (.int .i64 (q4 a b c d k)) := by
    intro k hk
    have h := heap_alloc_new (w.alloc (.cells #[.int .i64 a, .int .i64 b, .int .i64 c, .int .i64 d] 23)) (.cells #[.int .i64 a, .int .i64 b, .int .i64 c, .int .i64 d] 3)
    rw [World.size_alloc] at h
    rw [cell_of_row _ _ _ _ _ _ h]
    exact HCL.out k hk
  have hbw : Below w.heap.size w ((w.alloc (.cells #[.int .i64 a, .int .i64 b, .int .i64 c, .int .i64 d] 23)).alloc (.cells #[.int .i64 a, .int .i64 b, .int .i64 c, .int .i64 d] 3)) := ((Below.refl _ w).alloc (Nat.le_refl _) _).alloc (by simp) _
  have hsz : ((w.alloc (.cells #[.int .i64 a, .int .i64 b, .int .i64 c, .int .i64 d] 23)).alloc (.cells #[.int .i64 a, .int .i64 b, .int .i64 c, .int .i64 d] 3)).heap.size = w.heap.size + 2 := by simp
  generalize ((w.alloc (.cells #[.int .i64 a, .int .i64 b, .int .i64 c, .int .i64 d] 23)).alloc (.cells #[.int .i64 a, .int .i64 b, .int .i64 c, .int .i64 d] 3)) = W0 at *
  have HC0 := Lib.hid hcs
  have HB0 := Lib.hid hbw
  have HZ0 : Hid (w.heap.size + 2 ≤ W0.heap.size) := Lib.hid (by omega)
  clear hcs hbw hsz HCL
  go_loopw [4, 19] (fun bd i wr => ∃ (k : Nat) (s : ByteArray), k ≤ 4 ∧ i = .int .i64 k ∧ bd = .string s ∧ Hid (s.size ≤ 6 * k) ∧ Hid (∀ j, j < k → ok48 (q4 a b c d j)) ∧ Hid (Below W0.heap.size W0 wr)) (fun _ i _ => 4 - (intOf i).toNat)
  case atStart => exact ⟨0, ⟨#[]⟩, Nat.zero_le _, rfl, rfl, HEM, Lib.hid (fun j hj => absurd hj (Nat.not_lt_zero j)), Lib.hid (Below.refl _ _)⟩
  case round =>
    obtain ⟨k, s, hk, rfl, rfl, hs, hok, hrel⟩ := hrel
    by_cases hk4 : k < 4
    · have hcx := (hrel.out.cell (p := ⟨w.heap.size + 1, k, none⟩) (by have := HZ0.out; show w.heap.size + 1 < _; omega)).trans (HC0.out k hk4)
      have HV : Hid ((∃ v : Nat, q4 a b c d k = v ∧ v < 2 ^ 48) ∨ ¬ ok48 (q4 a b c d k)) := Lib.hid (by
        by_cases hv : ok48 (q4 a b c d k)
        · obtain ⟨v, hv2⟩ := Int.eq_ofNat_of_zero_le hv.1
          exact .inl ⟨v, hv2, by have := hv.2; rw [hv2] at this; omega⟩
        · exact .inr hv)
      have hok' : Hid (ok48 (q4 a b c d k) → ∀ j, j < k + 1 → ok48 (q4 a b c d j)) := Lib.hid (fun h j hj => by
        rcases Nat.lt_or_ge j k with h1 | h1
        · exact hok.out j h1
        · obtain rfl : j = k := by omega
          exact h)
      clear hok
      generalize q4 a b c d k = v at *
      have HB1 : Hid (Below W0.heap.size W0 wr) := hrel
      clear hrel
      rcases HV.out with ⟨u, rfl, hu⟩ | hv
      · have HFX := Lib.hid (fun w => num_fix u 6 w (by omega) (by omega) (by omega) (by omega))
        have hs1 : s.size ≤ 24 := by have := hs.out; omega
        have hs2 : (fixS u 6).size = 6 := fixS_size _ _
        have hbig : ¬ 9223372036854775807 < s.size + (fixS u 6).size := by omega
        have HS : Hid ((s ++ fixS u 6).size ≤ 6 * (k + 1)) := Lib.hid (by rw [ByteArray.size_append, hs2]; have := hs.out; omega)
        have HK : Hid (∀ j, j < k + 1 → ok48 (q4 a b c d j)) := Lib.hid (hok'.out ⟨by omega, by omega⟩)
        clear hs2 hs hok' HV hu
        go_wp2_with fail
        refine (HFX.out _).mono ?_
        rintro e w1 ⟨rfl, hb1⟩
        have HB2 := Lib.hid (HB1.out.trans (hb1.mono HB1.out.size))
        clear hb1
        go_wp2
        go_roundw
        case rel => exact ⟨k + 1, _, by omega, by go_num, rfl, HS, HK, HB2⟩
        case measure => simp [intOf]; omega
      · have HFX := Lib.hid (fun w => num_fix_bad v 6 w (by unfold ok48 at hv; omega) (by omega) (by omega))
        clear hs hok' HV hv
        go_wp2_with fail
        refine (HFX.out _).mono ?_
        rintro e w1 ⟨rfl, rfl⟩
        go_wp2
        go_ret2
        exact ⟨rfl, HB0.out.trans (HB1.out.mono HB0.out.size)⟩
    · obtain rfl : k = 4 := by omega
      obtain ⟨j, hj, hn⟩ := HBAD.out
      exact absurd (hok.out j hj) hn
end Go.Proofs.YtpoiopjggmhnjaaDoor
