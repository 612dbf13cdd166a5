/- pile's Line: the contract of Take. -/
import Derived.Test.YtllmdhkeapabjaaLine
namespace Go.Proofs.Ytllmdhkeapabjaa
open Go.RowKit

theorem bcell {W w1 : World} (hb : Below W.heap.size W w1) : (∀ b o, b < W.heap.size → w1.cell? ⟨b, o, none⟩ = W.cell? ⟨b, o, none⟩) ∧ (∀ b o, b < W.heap.size → w1.frozen? ⟨b, o, none⟩ = W.frozen? ⟨b, o, none⟩) :=
  ⟨fun b o h => hb.cell (p := ⟨b, o, none⟩) h, fun b o h => hb.frozen (p := ⟨b, o, none⟩) h⟩

set_option maxHeartbeats 400000 in
set_option maxRecDepth 100000 in
theorem line_take_none (lb base : Nat) (v : Value) (seq now : Int) (w : World) (h : LineI lb base v [] seq w) :
    Calls Try.prog 11 #[.pointer (some ⟨lb, 0, none⟩), .int .i64 now] w fun e w' => e = .returned (.tuple #[dv (0, 0, 0), .bool false]) ∧ Below w.heap.size w w' := by
  have hlt := cell_lt h.2.1
  have HH := Lib.hid h; clear h
  go_enter Try.func11, Try.ntmps11
  go_wp2_with fail
  refine (line_first_none lb base v seq _ (HH.out.keep ((Fr.refl (fun _ => False) w).alloc _) (fun _ _ h => h))).mono ?_
  rintro e w1 ⟨rfl, hb⟩
  obtain ⟨hc, hf⟩ := bcell hb
  have hz : w.heap.size < w1.heap.size := by have := hb.size; simp at this; omega
  go_wp2
  have hb0 : Below w.heap.size w w1 := ((Below.refl _ _).alloc (Nat.le_refl _) _).trans (hb.mono (by simp))
  exact bodyPost_ret (v := .tuple #[dv (0, 0, 0), .bool false]) (by simp [results, Try.results11, go_sem, hc, hz]) rfl ⟨rfl, (((hb0.setCell (Nat.le_refl _) _).setCell (Nat.le_refl _) _).setCell (Nat.le_refl _) _).alloc (by simp; omega) _⟩

set_option maxHeartbeats 400000 in
set_option maxRecDepth 100000 in
theorem line_take_early (lb base : Nat) (v : Value) (l : List (Int × Int × Int)) (seq now : Int) (w : World) (h : LineI lb base v l seq w) (hn : 0 < l.length) (hnow : now < (HL.el l 0).1) :
    Calls Try.prog 11 #[.pointer (some ⟨lb, 0, none⟩), .int .i64 now] w fun e w' => e = .returned (.tuple #[dv (0, 0, 0), .bool false]) ∧ Below w.heap.size w w' := by
  have hlt := cell_lt h.2.1
  have HH := Lib.hid (fun o => line_first_some lb base v l seq (w.alloc o) (h.keep ((Fr.refl (fun _ => False) w).alloc _) (fun _ _ h => h)) hn); clear h
  generalize HL.el l 0 = x at *
  go_enter Try.func11, Try.ntmps11
  go_wp2_with fail
  refine (HH.out _).mono ?_
  rintro e w1 ⟨rfl, hb⟩
  obtain ⟨hc, hf⟩ := bcell hb
  have hz : w.heap.size < w1.heap.size := by have := hb.size; simp at this; omega
  go_wp2
  have hb0 : Below w.heap.size w w1 := ((Below.refl _ _).alloc (Nat.le_refl _) _).trans (hb.mono (by simp))
  exact bodyPost_ret (v := .tuple #[dv (0, 0, 0), .bool false]) (by simp [results, Try.results11, go_sem, hc, hz]) rfl ⟨rfl, (((hb0.setCell (Nat.le_refl _) _).setCell (Nat.le_refl _) _).setCell (Nat.le_refl _) _).alloc (by simp; omega) _⟩

set_option maxHeartbeats 400000 in
set_option maxRecDepth 100000 in
theorem line_take_due (lb base : Nat) (v : Value) (l : List (Int × Int × Int)) (seq now : Int) (w : World) (h : LineI lb base v l seq w) (hn : 0 < l.length) (hnow : (HL.el l 0).1 ≤ now) :
    Calls Try.prog 11 #[.pointer (some ⟨lb, 0, none⟩), .int .i64 now] w fun e w' => e = .returned (.tuple #[dv (HL.el l 0), .bool true]) ∧
      ∃ v' l', LineI lb base v' l' seq w' ∧ (HL.el l 0 :: l').Perm l ∧ Fr (lineF lb v) w w' ∧ v'.ownBlock = v.ownBlock := by
  have hlt := cell_lt h.2.1
  have hob : ∀ g, v.ownBlock = some g → g < w.heap.size := fun g hg => (h.1.2.2.1.lt g hg).2
  have HI0 := Lib.hid h
  have HH := Lib.hid (fun o => line_first_some lb base v l seq (w.alloc o) (h.keep ((Fr.refl (fun _ => False) w).alloc _) (fun _ _ h => h)) hn)
  have HP := Lib.hid (fun W (hI : LineI lb base v l seq W) => heap_pop_dues lb 0 base v l W hI.1 hI.2.2.2 hn); clear h
  have hta := ta_due
  have hnow' : ¬ now < (HL.el l 0).1 := by omega
  have HOB := Lib.hid hob; clear hob
  clear hnow
  generalize HL.el l 0 = x at *
  go_enter Try.func11, Try.ntmps11
  go_wp2_with fail
  refine (HH.out _).mono ?_
  rintro e w1 ⟨rfl, hb⟩
  obtain ⟨hc, hf⟩ := bcell hb
  have hz : w.heap.size < w1.heap.size := by have := hb.size; simp at this; omega
  have hF1 : Fr (fun _ => False) w w1 := Fr.trans ((Fr.refl (fun _ => False) w).alloc _) (Fr.of_all hb) (fun _ h _ => h)
  have HF1 := Lib.hid hF1
  have HFA := Lib.hid (fun o => hF1.alloc o)
  have n0 : ∀ o, (w1.alloc o).cell? ⟨w.heap.size, 0, none⟩ = some (.int .i64 0) := fun o => by rw [World.cell?_alloc_lt _ _ _ (by simpa using hz), hc _ _ (by simp)]; go_simp
  have n1 : ∀ o, (w1.alloc o).cell? ⟨w.heap.size, 1, none⟩ = some (.int .i64 0) := fun o => by rw [World.cell?_alloc_lt _ _ _ (by simpa using hz), hc _ _ (by simp)]; go_simp
  have n2 : ∀ o, (w1.alloc o).cell? ⟨w.heap.size, 2, none⟩ = some (.int .i64 0) := fun o => by rw [World.cell?_alloc_lt _ _ _ (by simpa using hz), hc _ _ (by simp)]; go_simp
  have nf : ∀ o k, (w1.alloc o).frozen? ⟨w.heap.size, k, none⟩ = false := fun o k => by rw [World.frozen?_of_block (w := w1) (Below.heap_alloc _ _ _ (by simpa using hz)), hf _ _ (by simp)]; go_simp
  have N := Lib.hid (And.intro n0 (And.intro n1 (And.intro n2 nf)))
  clear n0 n1 n2 nf
  go_wp2_with fail
  refine (HP.out _ (HI0.out.keep (HFA.out _) (fun _ _ h => h))).mono ?_
  rintro e w2 ⟨u, rfl, v', l', rfl, hI, hh, hp, hfr, hv', hoth⟩
  have hs1 : w.heap.size ≠ lb := by omega
  have hs2 : v.ownBlock ≠ some w.heap.size := fun e => by have := HOB.out _ e; omega
  have hnot : ¬ (w.heap.size = lb ∨ v.ownBlock = some w.heap.size) := fun h => h.elim hs1 hs2
  have hfar := fun k => hfr.cell (p := ⟨w.heap.size, k, none⟩) (by simp; omega) hnot
  have hfarf := fun k => hfr.frozen (p := ⟨w.heap.size, k, none⟩) (by simp; omega) hnot
  have c0 := (hfar 0).trans (N.out.1 _)
  have c1 := (hfar 1).trans (N.out.2.1 _)
  have c2 := (hfar 2).trans (N.out.2.2.1 _)
  have f0 := (hfarf 0).trans (N.out.2.2.2 _ _)
  have f1 := (hfarf 1).trans (N.out.2.2.2 _ _)
  have f2 := (hfarf 2).trans (N.out.2.2.2 _ _)
  have hsz : w.heap.size < w2.heap.size := by have := hfr.size; simp at this; omega
  have HI2 := Lib.hid hI
  have HFR := Lib.hid (Fr.trans ((HFA.out _).mono (fun _ _ h => h.elim)) hfr (fun i hi _ => hi))
  have HO := Lib.hid hoth
  have HSEQ : Hid (LineI lb base v' l' seq w2) := ⟨hI, (hoth 1 (by omega)).1.trans ((HFA.out _).cell (p := ⟨lb, 1, none⟩) hlt (fun h => h) |>.trans HI0.out.2.1), (hoth 1 (by omega)).2.trans ((HFA.out _).frozen (p := ⟨lb, 1, none⟩) hlt (fun h => h) |>.trans HI0.out.2.2.1), hh⟩
  have HV' := Lib.hid hv'
  clear hfar hfarf hnot hfr hI hoth hc hf hb hF1 hv'
  go_wp2
  refine bodyPost_ret (v := .tuple #[dv x, .bool true]) (by simp [results, Try.results11, go_sem, c0, c1, c2]) rfl ⟨rfl, v', l', ?_, hp, ?_, HV'.out⟩
  · have hF3 := fun a b c => (((Fr.refl (fun k => k = w.heap.size) w2).setCell (p := ⟨w.heap.size, 0, none⟩) (fun _ => rfl) a).setCell (p := ⟨w.heap.size, 1, none⟩) (fun _ => rfl) b).setCell (p := ⟨w.heap.size, 2, none⟩) (fun _ => rfl) c
    refine HSEQ.out.keep (hF3 _ _ _) (fun k hk e => ?_)
    subst e
    rcases hk with hk | hk
    · exact hs1 hk
    · rw [HV'.out] at hk
      exact hs2 hk
  · exact ((HFR.out.setCell (p := ⟨w.heap.size, 0, none⟩) (fun h => absurd h (Nat.lt_irrefl _)) _).setCell (p := ⟨w.heap.size, 1, none⟩) (fun h => absurd h (Nat.lt_irrefl _)) _).setCell (p := ⟨w.heap.size, 2, none⟩) (fun h => absurd h (Nat.lt_irrefl _)) _
end Go.Proofs.Ytllmdhkeapabjaa
