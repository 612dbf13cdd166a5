/- arboretumlaw5.MetaTorn: the walk, whole. -/
import Derived.Test.YtpoiopjggmhnjaaDoorMTornW
namespace Go.Proofs.YtpoiopjggmhnjaaDoor
open Go.RowKit Go.Conc

theorem metaTorn_walk (a b c d a2 b2 c2 d2 keep : Int) (w : World) : Calls Tryd.prog 5 #[.agg #[.int .i64 a, .int .i64 b, .int .i64 c, .int .i64 d], .agg #[.int .i64 a2, .int .i64 b2, .int .i64 c2, .int .i64 d2], .int .i64 keep] w fun e w' => e = .returned (.bool true) ∧ Below w.heap.size w w' := by
  by_cases h : a < 0 ∨ 1099511627776 < a ∨ 16777216 ≤ d2
  · exact torn_out a b c d a2 b2 c2 d2 keep w h
  by_cases hb : ∃ k, k < 4 ∧ ¬ ok48 (q4 a b c d k)
  · exact torn_bad1 a b c d a2 b2 c2 d2 keep w (by omega) (by omega) (by omega) hb
  have hk : ∀ k, k < 4 → ok48 (q4 a b c d k) := fun k hk => Classical.byContradiction (fun hn => hb ⟨k, hk, hn⟩)
  have h0 : ok48 a := hk 0 (by omega)
  have h1 : ok48 b := hk 1 (by omega)
  have h2 : ok48 c := hk 2 (by omega)
  have h3 : ok48 d := hk 3 (by omega)
  obtain ⟨a, rfl⟩ := Int.eq_ofNat_of_zero_le h0.1
  obtain ⟨b, rfl⟩ := Int.eq_ofNat_of_zero_le h1.1
  obtain ⟨c, rfl⟩ := Int.eq_ofNat_of_zero_le h2.1
  obtain ⟨d, rfl⟩ := Int.eq_ofNat_of_zero_le h3.1
  have hm : Mt.ok ⟨a, b, c, d⟩ := Mt.ok_of (by have := h0.2; simp only; omega) (by have := h1.2; simp only; omega) (by have := h2.2; simp only; omega) (by have := h3.2; simp only; omega)
  by_cases hb2 : ∃ k, k < 4 ∧ ¬ ok48 (q4 ((a : Int) + 1) b2 c2 d2 k)
  · exact torn_bad2 ⟨a, b, c, d⟩ hm a2 b2 c2 d2 keep w (by simp only; omega) (by omega) hb2
  have hk2 : ∀ k, k < 4 → ok48 (q4 ((a : Int) + 1) b2 c2 d2 k) := fun k hk => Classical.byContradiction (fun hn => hb2 ⟨k, hk, hn⟩)
  have g0 : ok48 ((a : Int) + 1) := hk2 0 (by omega)
  have g1 : ok48 b2 := hk2 1 (by omega)
  have g2 : ok48 c2 := hk2 2 (by omega)
  have g3 : ok48 d2 := hk2 3 (by omega)
  obtain ⟨b2, rfl⟩ := Int.eq_ofNat_of_zero_le g1.1
  obtain ⟨c2, rfl⟩ := Int.eq_ofNat_of_zero_le g2.1
  obtain ⟨d2, rfl⟩ := Int.eq_ofNat_of_zero_le g3.1
  exact torn_main ⟨a, b, c, d⟩ ⟨a + 1, b2, c2, d2⟩ hm (Mt.ok_of (by have := g0.2; simp only; omega) (by have := g1.2; simp only; omega) (by have := g2.2; simp only; omega) (by have := g3.2; simp only; omega)) a2 keep w (by simp only; omega) rfl (by simp only; omega)
end Go.Proofs.YtpoiopjggmhnjaaDoor
