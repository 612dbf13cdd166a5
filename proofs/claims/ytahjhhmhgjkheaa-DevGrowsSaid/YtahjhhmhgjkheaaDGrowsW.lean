/- arboretumlaw2.DevGrows: the walk. -/
import Derived.Test.YtahjhhmhgjkheaaDGrowsA
import Derived.Test.YtahjhhmhgjkheaaDGrowsB
import Derived.Test.YtahjhhmhgjkheaaDGrowsC
namespace Go.Proofs.Ytahjhhmhgjkheaa
open Go.RowKit Go.Conc

theorem devGrows_walk (m a b : Int) (w : World) : Calls Try.prog 5 #[.int .i64 m, .int .i64 a, .int .i64 b] w fun e w' => e = .returned (.bool true) ∧ Below w.heap.size w w' := by
  by_cases h1 : m < 1 ∨ 3000 < m
  · exact devGrows_bad m a b w h1
  by_cases h2 : 60 < m
  · exact devGrows_many m a b w h2 (by omega)
  have h3 : 1 ≤ m := by omega
  have h4 : m ≤ 60 := by omega
  by_cases ha : a < 0
  · by_cases hb : b < (0 : Nat)
    · exact devGrows_AA m a b 0 rfl (by omega) w h3 h4 ha hb
    by_cases hb2 : m < b
    · exact devGrows_AB m a b 0 rfl (by omega) w h3 h4 ha hb2
    obtain ⟨j, rfl⟩ := Int.eq_ofNat_of_zero_le (show 0 ≤ b by omega)
    exact devGrows_AC m a j w h3 h4 ha (by omega) (by omega)
  by_cases ha2 : m < a
  · by_cases hb : b < (0 : Nat)
    · exact devGrows_BA m a b 0 rfl (by omega) w h3 h4 ha2 hb
    by_cases hb2 : m < b
    · exact devGrows_BB m a b 0 rfl (by omega) w h3 h4 ha2 hb2
    obtain ⟨j, rfl⟩ := Int.eq_ofNat_of_zero_le (show 0 ≤ b by omega)
    exact devGrows_BC m a j w h3 h4 ha2 (by omega) (by omega)
  obtain ⟨k, rfl⟩ := Int.eq_ofNat_of_zero_le (show 0 ≤ a by omega)
  by_cases hb : b < (k : Nat)
  · exact devGrows_CA m b k w h3 h4 (by omega) hb
  by_cases hb2 : m < b
  · exact devGrows_CB m b k w h3 h4 (by omega) hb2
  obtain ⟨j, rfl⟩ := Int.eq_ofNat_of_zero_le (show 0 ≤ b by omega)
  exact devGrows_CC m k j w h3 h4 (by omega) (by omega) (by omega)
end Go.Proofs.Ytahjhhmhgjkheaa
