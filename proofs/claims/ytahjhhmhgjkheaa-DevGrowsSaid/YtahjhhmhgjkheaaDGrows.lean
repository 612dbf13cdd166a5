/- arboretumlaw2.DevGrows: the walk. -/
import Derived.Test.YtahjhhmhgjkheaaDAlive
namespace Go.Proofs.Ytahjhhmhgjkheaa
open Go.RowKit Go.Conc

set_option maxHeartbeats 2000000 in
set_option maxRecDepth 100000 in
theorem devGrows_bad (m a b : Int) (w : World) (h : m < 1 ∨ 3000 < m) : Calls Try.prog 5 #[.int .i64 m, .int .i64 a, .int .i64 b] w fun e w' => e = .returned (.bool true) ∧ Below w.heap.size w w' := by
  have HN := Lib.hid (dev_new_bad m w h)
  rcases Int.lt_or_le m 1 with h1 | h1
  · clear h
    go_enter Try.func5, Try.ntmps5
    go_wp2_with fail
    refine HN.out.mono ?_
    rintro e w1 ⟨rfl, rfl⟩
    go_wp2_with fail
    refine (alive_true _).mono ?_
    rintro e w3 ⟨rfl, hb3⟩
    have HB := Lib.hid hb3
    clear hb3
    go_wp2
    go_ret
    exact ⟨rfl, HB.out⟩
  · have h2 : 3000 < m := by omega
    clear h
    go_enter Try.func5, Try.ntmps5
    go_wp2_with fail
    refine HN.out.mono ?_
    rintro e w1 ⟨rfl, rfl⟩
    go_wp2_with fail
    refine (alive_true _).mono ?_
    rintro e w3 ⟨rfl, hb3⟩
    have HB := Lib.hid hb3
    clear hb3
    go_wp2
    go_ret
    exact ⟨rfl, HB.out⟩

set_option maxHeartbeats 2000000 in
set_option maxRecDepth 100000 in
theorem devGrows_many (m a b : Int) (w : World) (h1 : 60 < m) (h2 : m ≤ 3000) : Calls Try.prog 5 #[.int .i64 m, .int .i64 a, .int .i64 b] w fun e w' => e = .returned (.bool true) ∧ Below w.heap.size w w' := by
  have HN := Lib.hid (dv_new m w (by omega) h2)
  go_enter Try.func5, Try.ntmps5
  go_wp2_with fail
  refine HN.out.mono ?_
  rintro e w1 ⟨rfl, hD, hb⟩
  have HB1 := Lib.hid hb
  have HZ := Lib.hid hD.bsz
  clear hb hD
  go_wp2_with fail
  refine (alive_true _).mono ?_
  rintro e w3 ⟨rfl, hb3⟩
  have HB := Lib.hid (HB1.out.trans (hb3.mono HZ.out))
  clear hb3 HB1
  go_wp2
  go_ret
  exact ⟨rfl, HB.out⟩

/-- What Grow answers, and how many pages there are then. -/
def growE (m : Int) (l : Nat) (n : Int) : Int := if n < l then 1 else if m < n then 10 else 0
def growN (m : Int) (l : Nat) (n : Int) : Nat := if n < l then l else if m < n then l else n.toNat

theorem dv_grow_any {db base : Nat} {m lf : Int} {l : Nat} {F : Nat → Prop} {w : World} (n : Int) (h : Dv db base m true false lf (List.replicate l page0) (List.replicate l page0) [] F w) (hm2 : m ≤ 3000) :
    Calls Try.prog 11 #[.pointer (some ⟨db, 0, none⟩), .int .i64 n] w fun e w' => e = .returned (.int .i64 (growE m l n)) ∧ ∃ F', Dv db base m true false lf (List.replicate (growN m l n) page0) (List.replicate (growN m l n) page0) [] F' w' ∧ Step F F' w w' := by
  unfold growE growN
  by_cases h1 : n < l
  · rw [if_pos h1, if_pos h1]
    refine (dv_grow_bad n h (.inl (by simpa using h1))).mono ?_
    rintro e w' ⟨rfl, rfl⟩
    refine ⟨?_, F, h, Step.refl _ _⟩
    rw [if_pos (by simpa using h1)]
  · rw [if_neg h1, if_neg h1]
    by_cases h2 : m < n
    · rw [if_pos h2, if_pos h2]
      refine (dv_grow_bad n h (.inr h2)).mono ?_
      rintro e w' ⟨rfl, rfl⟩
      refine ⟨?_, F, h, Step.refl _ _⟩
      rw [if_neg (by simpa using h1)]
    · rw [if_neg h2, if_neg h2]
      obtain ⟨k, rfl⟩ := Int.eq_ofNat_of_zero_le (show 0 ≤ n by omega)
      have hk : l ≤ k := by omega
      refine (dv_grow k h (by simpa using hk) (by omega) hm2).mono ?_
      rintro e w' ⟨rfl, F', hD, hS⟩
      refine ⟨rfl, F', ?_, hS⟩
      rw [List.length_replicate, List.replicate_append_replicate, show l + (k - l) = k by omega] at hD
      exact hD

def zerosA : Array Value := (List.replicate 256 (Value.int .u8 0)).toArray
theorem make_zeros (w : World) : (Instr.makeSlice 22 (.int .i64 256) (.int .i64 256)).run Try.prog w = .ok (.slice (some ⟨w.heap.size, 0, none⟩) 256 256) (w.alloc (.cells zerosA 5)) := by kernel_rfl
theorem zeros_page : (⟨(List.replicate 256 (0 : UInt8)).toArray⟩ : ByteArray) = page0 := by kernel_rfl
theorem conv_zeros (w : World) : (convert 22 9 (.slice (some ⟨w.heap.size, 0, none⟩) 256 256)).run Try.prog (w.alloc (.cells zerosA 5)) = .ok (.string page0) (w.alloc (.cells zerosA 5)) := by
  have e := run_convert_bytes_back (P := Try.prog) (w.alloc (.cells zerosA 5)) 22 9 5 ⟨w.heap.size, 0, none⟩ 256 (List.replicate 256 (0 : UInt8)) Try.underlying22 Try.underlying5 Try.underlying9 (fun j hj => by
    have hj2 : j < 256 := by rw [List.length_replicate] at hj; exact hj
    have h := new_cells w (List.replicate 256 (Value.int .u8 0)) 5 j (.int .u8 0) (by rw [List.getElem?_replicate, if_pos hj2])
    rw [List.getElem_replicate]
    exact h)
  rw [List.length_replicate, zeros_page] at e
  exact e

end Go.Proofs.Ytahjhhmhgjkheaa
