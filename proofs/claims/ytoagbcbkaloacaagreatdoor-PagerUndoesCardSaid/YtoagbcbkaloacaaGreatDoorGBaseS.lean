/- arboretumlaw7.Base, of some free pages. -/
import Derived.Test.YtoagbcbkaloacaaGreatDoorGRefT
namespace Go.Proofs.YtoagbcbkaloacaaGreatDoor
open Go.RowKit Go.Maps Go.Conc

/-- What Base hands back, of the free pages zs. -/
def BaseS (m : Int) (n : Nat) (zs : List Int) (w : World) (e : Ending) (w' : World) : Prop :=
  ∃ db rb fb rf l Fd Ff, e = .returned (.tuple #[.pointer (some ⟨db, 0, none⟩), .pointer (some ⟨rb, 0, none⟩), .pointer (some ⟨fb, 0, none⟩), .pointer (some ⟨rf, 0, none⟩), .bool true]) ∧
    Dv db db m true false 0 (List.replicate n page0) (List.replicate n page0) [] Fd w' ∧ Fe fb fb l [] 0 (.map []) Ff w' ∧ l.Perm zs ∧ (∀ k, Fd k → ¬ Ff k) ∧ w.heap.size ≤ db ∧ w.heap.size ≤ fb ∧ Below w.heap.size w w'

set_option maxHeartbeats 2000000 in
set_option maxRecDepth 100000 in
theorem base_some (m : Int) (n : Nat) (p : Option Addr) (ln c : Nat) (zs : List Int) (w : World) (hz : RdI w w.heap.size p ln zs) (hln : ln ≤ 1000) (h1 : 1 ≤ m) (h2 : m ≤ 3000) (hn : (n : Int) ≤ m) : Calls Tryz.prog 8 #[.int .i64 m, .int .i64 n, .slice p ln c] w (BaseS m n zs w) := by
  have HN := Lib.hid (dv_new m w h1 h2)
  have HRN := Lib.hid (fun w => ref_newdev m w h1 h2)
  have HFN := Lib.hid (fun W (hb : Below w.heap.size w W) => fe_new p ln c zs W ((hz.below hb).more hb.size) (by omega))
  have HRS := Lib.hid (fun W (hb : Below w.heap.size w W) => ref_sorted p ln c zs W ((hz.below hb).more hb.size) hln)
  have HH1 := Lib.hid h1
  have HH2 := Lib.hid h2
  have HHN := Lib.hid hn
  clear h1 h2 hn hz hln
  go_enter Tryz.func8, Tryz.ntmps8
  go_wp2_with fail
  refine HN.out.mono ?_
  rintro e w1 ⟨rfl, hD1, hb1⟩
  have HD1 := Lib.hid hD1
  have HB1 := Lib.hid hb1
  have HSZ : Hid (w.heap.size < w1.heap.size) := Lib.hid (hD1.lt w.heap.size rfl)
  clear hD1 hb1 HN
  go_wp2_with fail
  refine (HRN.out _).mono ?_
  rintro e w2 ⟨rfl, hw2⟩
  have hb2 : Below w1.heap.size w1 w2 := by rw [hw2]; exact (Below.refl _ w1).alloc (Nat.le_refl _) _
  have hrow : w2.heap[w1.heap.size]? = some (.cells #[.int .i64 m, .bool true, .slice none 0 0, .slice none 0 0, .int .i64 (-1)] 114 (0, 0)) := by rw [hw2]; exact heap_alloc_new w1 _
  have HRB : Hid (∀ k u, (#[Value.int .i64 m, .bool true, .slice none 0 0, .slice none 0 0, .int .i64 (-1)])[k]? = some u → w2.cell? ⟨w1.heap.size, k, none⟩ = some u) := Lib.hid (fun k u hu => by rw [cell_of_row _ _ _ _ _ _ hrow]; exact hu)
  have HRF : Hid (w2.frozen? ⟨w1.heap.size, 2, none⟩ = false) := Lib.hid (by unfold World.frozen?; rw [hrow]; simp)
  have HRL : Hid (w1.heap.size < w2.heap.size) := Lib.hid (by rw [hw2]; simp)
  have HD2 := Lib.hid (HD1.out.keep (Fr.of_all (S := fun _ => False) hb2) (fun _ _ h => h))
  have HB2 := Lib.hid (HB1.out.trans (hb2.mono HB1.out.size))
  have HGR := Lib.hid (dv_grow n HD2.out (by simp) HHN.out HH2.out)
  simp only [List.length_nil, Nat.sub_zero, List.nil_append] at HGR
  clear hb2 hw2 hrow HD1 HB1
  go_wp2_with fail
  refine HGR.out.mono ?_
  rintro e w3 ⟨rfl, F3, hD3, hS3⟩
  have hne : ¬ w1.heap.size = w.heap.size := by
    have := HSZ.out
    omega
  have hrg := ref_grow w1.heap.size m n w3 ((hS3.1.cell (p := ⟨w1.heap.size, 0, none⟩) HRL.out hne).trans (HRB.out 0 _ rfl)) ((hS3.1.cell (p := ⟨w1.heap.size, 1, none⟩) HRL.out hne).trans (HRB.out 1 _ rfl)) ((hS3.1.cell (p := ⟨w1.heap.size, 2, none⟩) HRL.out hne).trans (HRB.out 2 _ rfl)) ((hS3.1.cell (p := ⟨w1.heap.size, 4, none⟩) HRL.out hne).trans (HRB.out 4 _ rfl)) ((hS3.1.frozen (p := ⟨w1.heap.size, 2, none⟩) HRL.out hne).trans HRF.out) HHN.out HH2.out
  have HRG := Lib.hid hrg
  have HD3 := Lib.hid hD3
  have HB3 : Hid (Below w.heap.size w w3) := Lib.hid (HB2.out.trans (hS3.1.below HB2.out.size (fun k hk => by have : k = w.heap.size := hk; omega)))
  have HF3 : Hid (∀ k, F3 k → ¬ k = w1.heap.size) := Lib.hid (fun k hk e => by
    rcases hS3.2 k hk with h1 | h1
    · have h1 : k = w.heap.size := h1
      omega
    · have := HRL.out
      omega)
  have HS13 : Hid (w1.heap.size ≤ w3.heap.size) := Lib.hid (by have := HRL.out; have := hS3.1.size; omega)
  clear hrg hD3 hS3 HGR HD2 HB2 hne
  go_wp2_with fail
  refine HRG.out.mono ?_
  rintro e w4 ⟨rfl, hF4⟩
  have HD4 := Lib.hid (HD3.out.keep hF4 HF3.out)
  have HB4 : Hid (Below w.heap.size w w4) := Lib.hid (HB3.out.trans (hF4.below HB3.out.size (fun k hk => by have : k = w1.heap.size := hk; have := HSZ.out; omega)))
  clear hF4 HRG HD3 HB3 HF3 HRB HRF
  go_wp2_with fail
  refine (HFN.out _ HB4.out).mono ?_
  rintro e w5 ⟨rfl, l5, F5, hI5, hp5, hb5⟩
  have HP5 := Lib.hid hp5
  have HD5 := Lib.hid (HD4.out.keep (Fr.of_all (S := fun _ => False) hb5) (fun _ _ h => h))
  have HB5 := Lib.hid (HB4.out.trans (hb5.mono HB4.out.size))
  have HI5 := Lib.hid hI5
  have HAP : Hid (∀ k, F3 k → ¬ F5 k) := Lib.hid (fun k h1 h2 => by
    have e1 := HD4.out.lt k h1
    have e2 := hI5.ge k h2
    omega)
  have HFB : Hid (w.heap.size ≤ w4.heap.size) := Lib.hid HB4.out.size
  clear hI5 hp5 hb5 HD4 HB4
  go_wp2_with fail
  refine (HRS.out _ HB5.out).mono ?_
  rintro e w7 ⟨q7, m7, d7, rfl, hb7⟩
  have HD6 := Lib.hid (HD5.out.keep (Fr.of_all (S := fun _ => False) hb7) (fun _ _ h => h))
  have HI6 := Lib.hid (HI5.out.below hb7)
  have HB6 := Lib.hid (HB5.out.trans (hb7.mono HB5.out.size))
  clear hb7
  go_wp2
  refine bodyPost_ret (results_tmp5 rfl _ _ _) rfl ?_
  have hb8 : ∀ X, Below w7.heap.size w7 (w7.alloc X) := fun X => (Below.refl _ w7).alloc (Nat.le_refl _) _
  exact ⟨w.heap.size, w1.heap.size, w4.heap.size, w7.heap.size, l5, F3, F5, rfl, HD6.out.keep (Fr.of_all (S := fun _ => False) (hb8 _)) (fun _ _ h => h), HI6.out.below (hb8 _), HP5.out, HAP.out, Nat.le_refl _, HFB.out, HB6.out.trans ((hb8 _).mono HB6.out.size)⟩
end Go.Proofs.YtoagbcbkaloacaaGreatDoor
