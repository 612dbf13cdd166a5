/- arboretumlaw6.alive is true. -/
import Derived.Test.YtedcpckocedcoaaGreatFreeR
namespace Go.Proofs.YtedcpckocedcoaaGreat
open Go.RowKit

theorem least_of {l m : List Int} {a b : Int} (hp : l.Perm m) (ha : a ∈ l) (hmin : ∀ x ∈ l, a ≤ x) (hb : b ∈ m) (hbm : ∀ x ∈ m, b ≤ x) : a = b :=
  Int.le_antisymm (hmin b (hp.mem_iff.2 hb)) (hbm a (hp.mem_iff.1 ha))
theorem litI_inj {a b : Int} (h : (litI a : DU) = litI b) : a = b := by
  injection h with h
  injection h with _ h

def D6 : DU := DataW.put (.map []) (.int .i64 6) (litI 1)
theorem pin6 {pinned : Bool} {border : Int} (h : PinMin D6 pinned border) : pinned = true ∧ border = 6 := by
  have hk : intKeys D6 = [6] := rfl
  rcases h with ⟨_, h⟩ | ⟨h1, h2, _⟩
  · rw [hk] at h; cases h
  · rw [hk] at h2
    exact ⟨h1, by simpa using h2⟩
def D6d : DU := (D6.put (.int .i64 6) (litI 0)).del (.int .i64 6)
theorem pin6d {pinned : Bool} {border : Int} (h : PinMin D6d pinned border) : pinned = false := by
  have hk : intKeys D6d = [] := rfl
  rcases h with ⟨h, _⟩ | ⟨_, h2, _⟩
  · exact h
  · rw [hk] at h2; cases h2

set_option maxHeartbeats 4000000 in
set_option maxRecDepth 100000 in
theorem falive_true (w : World) : Calls Tryz.prog 5 #[] w fun e w' => e = .returned (.bool true) ∧ Below w.heap.size w w' := by
  have ha0 : Below w.heap.size w (w.alloc (.cells #[.int .i64 9, .int .i64 4] 3)) := (Below.refl _ w).alloc (Nat.le_refl _) _
  have hz0 : (w.alloc (.cells #[.int .i64 9, .int .i64 4] 3)).heap.size = w.heap.size + 1 := by simp
  have HN := fe_new (some ⟨w.heap.size, 0, none⟩) 2 2 [9, 4] _ (rd_new w [9, 4] 3) (by omega)
  have HNW : Hid (Calls Tryz.prog 7 #[.slice (some ⟨w.heap.size, 0, none⟩) 2 2] (w.alloc (.cells #[.int .i64 9, .int .i64 4] 3)) fun e w' => e = .returned (.pointer (some ⟨w.heap.size + 1, 0, none⟩)) ∧ ∃ l F, Fe (w.heap.size + 1) (w.heap.size + 1) l [] 0 (.map []) F w' ∧ l.Perm [9, 4] ∧ Below (w.heap.size + 1) (w.alloc (.cells #[.int .i64 9, .int .i64 4] 3)) w') := Lib.hid (by
    rw [← hz0]; exact HN)
  have HA0 := Lib.hid ha0
  have HZ0 := Lib.hid hz0
  clear HN ha0 hz0
  go_enter Tryz.func5, Tryz.ntmps5
  go_wp2_with fail
  refine HNW.out.mono ?_
  rintro e w1 ⟨rfl, l1, F1, hI1, hp1, hb1⟩
  have HB1 : Hid (Below w.heap.size w w1) := Lib.hid (HA0.out.trans (hb1.mono (by omega)))
  have hz1 : w.heap.size + 1 < w1.heap.size := by
    have := hI1.lt
    obtain ⟨v, vw, vp, h, rfl⟩ := hI1
    exact cell_lt h.c1
  have hal1 := hI1.below ((Below.refl _ w1).alloc (Nat.le_refl _) (.cells #[.int .i64 5] 3))
  have HGV : Hid (Calls Tryz.prog 12 #[.pointer (some ⟨w.heap.size + 1, 0, none⟩), .int .i64 7, .slice (some ⟨w1.heap.size, 0, none⟩) 1 1] (w1.alloc (.cells #[.int .i64 5] 3)) fun e w' => e = .returned (.tuple #[]) ∧ ∃ F', Fe (w.heap.size + 1) (w.heap.size + 1) l1 [(7, 5)] 0 (.map []) F' w' ∧ Step F1 F' (w1.alloc (.cells #[.int .i64 5] 3)) w') := Lib.hid (fe_give 7 (some ⟨w1.heap.size, 0, none⟩) 1 1 [5] hal1 (rd_new w1 [5] 3) (fun b o e _ hF => by
    injection e with e
    injection e with e _ _
    subst e
    exact Nat.lt_irrefl _ (hI1.lt _ hF)) (by simp))
  have HS1 : Hid (∀ F' W, Step F1 F' (w1.alloc (.cells #[.int .i64 5] 3)) W → Step F1 F' w1 W) := Lib.hid (fun F' W h => (Step.still ((Below.refl _ w1).alloc (Nat.le_refl _) _)).trans h)
  have HGE : Hid (∀ k, F1 k → w.heap.size + 1 ≤ k) := Lib.hid hI1.ge
  have HP1 := Lib.hid hp1
  have hll : l1.length = 2 := hp1.length_eq
  clear hI1 hb1 hal1 hp1 HNW
  go_wp2_with fail
  refine HGV.out.mono ?_
  rintro e w2 ⟨rfl, F2, hI2, hS2⟩
  have HPN := Lib.hid (fe_pin 6 (by decide) hI2 (by omega))
  have HS2 := Lib.hid (HS1.out _ _ hS2)
  clear hI2 hS2 HGV HS1
  go_wp2_with fail
  refine HPN.out.mono ?_
  rintro e w3 ⟨rfl, c, F3, hat, hI3, hS3⟩
  obtain rfl : c = 0 := (litI_inj hat).symm
  rw [show wrap64 (0 + 1) = 1 by unfold wrap64; omega] at hI3
  have hI3' : Fe (w.heap.size + 1) (w.heap.size + 1) l1 [(7, 5)] 1 D6 F3 w3 := hI3
  have HRL := Lib.hid (fe_release hI3' (by omega) (by simp; omega))
  have HS3 := Lib.hid (HS2.out.trans hS3)
  clear hat hI3 hI3' hS3 HPN HS2
  go_wp2_with fail
  refine HRL.out.mono ?_
  rintro e w4 ⟨r, rfl, pinned, border, l4, F4, hpm, hr, hI4, hp4, hS4⟩
  obtain ⟨rfl, rfl⟩ := pin6 hpm
  have hg : goes true 6 (7, 5) = false := by decide
  simp only [List.filter_cons, hg, List.filter_nil, Bool.not_false, if_true, Bool.false_eq_true, if_false, List.length_nil] at hr hI4 hp4
  obtain rfl : r = 0 := hr
  have hp4' : l4.Perm [9, 4] := by simpa [pagesOf] using hp4.trans (HP1.out.append_right _)
  have hl4 : 0 < l4.length := by rw [hp4'.length_eq]; simp
  have HTK := Lib.hid (fe_take hI4 hl4)
  have hlm := HL.el_mem l4 0 hl4
  have HLM := Lib.hid hlm
  have HP4 := Lib.hid hp4'
  have HS4 := Lib.hid (HS3.out.trans hS4)
  clear hpm hI4 hp4 hS4 hp4' hlm HRL HS3 hg hl4 HP1 hll
  go_wp2_with fail
  refine HTK.out.mono ?_
  rintro e w5 ⟨rfl, l5, F5, hI5, hp5, hmin, hS5⟩
  have he4 : HL.el l4 0 = 4 := least_of HP4.out HLM.out hmin (by simp) (by simp)
  rw [he4] at hp5
  rw [he4]
  have hp5' : l5.Perm [9] := List.Perm.cons_inv (hp5.trans (HP4.out.trans (List.Perm.swap 4 9 [])))
  have HUN := Lib.hid (fe_unpin_last 6 (by decide) hI5 (by omega) rfl)
  have HP5 := Lib.hid hp5'
  have HS5 := Lib.hid (HS4.out.trans hS5)
  clear hI5 hp5 hmin hS5 hp5' he4 HTK HS4 HLM HP4
  go_wp2_with fail
  refine HUN.out.mono ?_
  rintro e w6 ⟨rfl, F6, hI6, hS6⟩
  have hI6' : Fe (w.heap.size + 1) (w.heap.size + 1) l5 [(7, 5)] 2 D6d F6 w6 := hI6
  have HRL := Lib.hid (fe_release hI6' (by omega) (by rw [HP5.out.length_eq]; simp))
  have HS6 := Lib.hid (HS5.out.trans hS6)
  clear hI6 hI6' hS6 HUN HS5
  go_wp2_with fail
  refine HRL.out.mono ?_
  rintro e w7 ⟨r, rfl, pinned, border, l7, F7, hpm, hr, hI7, hp7, hS7⟩
  obtain rfl := pin6d hpm
  have hg : goes false border (7, 5) = true := rfl
  simp only [List.filter_cons, hg, List.filter_nil, Bool.not_true, if_true, Bool.false_eq_true, if_false, List.length_nil, List.length_cons] at hr hI7 hp7
  obtain rfl : r = 1 := hr
  have hp7' : l7.Perm [5, 9] := (hp7.trans (HP5.out.append_right _)).trans (List.Perm.swap 5 9 [])
  have hs7 : CL.srt l7 = [5, 9] := CL.srt_unique ((CL.srt_perm l7).trans hp7') (CL.srt_sorted l7) (by simp)
  have HLS := Lib.hid (fe_list hI7)
  rw [hs7, hp7'.length_eq] at HLS
  have HBE : Hid (Below w.heap.size w w7) := Lib.hid (HB1.out.trans ((HS6.out.trans hS7).1.below (by omega) (fun k hk => by have := HGE.out k hk; omega)))
  clear hpm hI7 hp7 hS7 hp7' hs7 HRL HS6 hg HP5
  go_wp2_with fail
  refine HLS.out.mono ?_
  rintro e w8 ⟨u, rfl, ho, hb8⟩
  obtain ⟨g, cap, rfl, _, hgl, hcap⟩ := owns_len ho (by simp)
  have c0 : w8.cell? ⟨g, 0, none⟩ = some (.int .i64 5) := by
    have := ho.cells (g := g) rfl 0 _ rfl
    rwa [addr0] at this
  have c1 : w8.cell? ⟨g, 1, none⟩ = some (.int .i64 9) := by
    have := ho.cells (g := g) rfl 1 _ rfl
    rwa [addr0] at this
  have HB8 : Hid (Below w.heap.size w w8) := Lib.hid (HBE.out.trans (hb8.mono HBE.out.size))
  clear ho hb8 HLS HBE
  go_wp2
  go_ret
  exact ⟨rfl, HB8.out⟩
end Go.Proofs.YtedcpckocedcoaaGreat
