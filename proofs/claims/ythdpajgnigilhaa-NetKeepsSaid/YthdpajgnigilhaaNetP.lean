/- net's Net: Pull, out of what find answers. -/
import Derived.Test.YthdpajgnigilhaaNetD
import Derived.Test.YthdpajgnigilhaaNetR
namespace Go.Proofs.Ythdpajgnigilhaa
open Go.RowKit
set_option maxHeartbeats 1000000 in
set_option maxRecDepth 100000 in
theorem net_pull_of (nb base : Nat) (v : Value) (l : List Nd) (seq k : Int) (i : Nat) (cu ch : Value) (w : World) (h : NetI nb base v l seq cu ch w) (hn : i < l.length)
    (HFD : Hid (∀ W, NetI nb base v l seq cu ch W → Calls Try.prog 35 #[.pointer (some ⟨nb, 0, none⟩), .int .i64 k] W fun e w' => e = .returned (.int .i64 i) ∧ Below W.heap.size W w')) :
    Calls Try.prog 25 #[.pointer (some ⟨nb, 0, none⟩), .int .i64 k] w fun e w' => e = .returned (.tuple #[pkv (HL.el l i).fr (HL.el l i).to (HL.el l i).da, .bool true]) ∧
      ∃ v' l', NetI nb base v' l' seq cu ch w' ∧ (HL.el l i :: l').Perm l ∧ Fr (netF nb v) w w' ∧ v'.ownBlock = v.ownBlock := by
  have hlt := cell_lt h.c1
  have hob : ∀ g, v.ownBlock = some g → g < w.heap.size := fun g hg => (h.h.2.2.1.lt g hg).2
  have HI0 := Lib.hid h
  have HP := Lib.hid (fun W (hI : NetI nb base v l seq cu ch W) => heap_remove_nets nb 0 base v l i W hI.h hI.hp hn)
  have hta := ta_wt
  have hi0 : ¬ (i : Int) < 0 := by omega
  have HOB := Lib.hid hob
  clear hob h
  generalize HL.el l i = x at *
  go_enter Try.func25, Try.ntmps25
  have n0 : (w.alloc (.cells #[.int .i64 0, .int .i64 0, .string ⟨#[]⟩] 34)).cell? ⟨w.heap.size, 0, none⟩ = some (.int .i64 0) := by go_simp
  have n1 : (w.alloc (.cells #[.int .i64 0, .int .i64 0, .string ⟨#[]⟩] 34)).cell? ⟨w.heap.size, 1, none⟩ = some (.int .i64 0) := by clear n0; go_simp
  have n2 : (w.alloc (.cells #[.int .i64 0, .int .i64 0, .string ⟨#[]⟩] 34)).cell? ⟨w.heap.size, 2, none⟩ = some (.string ⟨#[]⟩) := by clear n0 n1; go_simp
  have nf : ∀ k, (w.alloc (.cells #[.int .i64 0, .int .i64 0, .string ⟨#[]⟩] 34)).frozen? ⟨w.heap.size, k, none⟩ = false := fun k => by clear n0 n1 n2; go_simp
  have NN := Lib.hid (And.intro n0 (And.intro n1 (And.intro n2 nf)))
  clear n0 n1 n2 nf
  go_wp2_with fail
  refine (HFD.out _ (HI0.out.keep ((Fr.refl (fun _ => False) w).alloc _) (fun _ _ h => h))).mono ?_
  rintro e w1 ⟨rfl, hb⟩
  have HFA : Hid (Fr (fun _ => False) w w1) := Lib.hid (Fr.trans ((Fr.refl (fun _ => False) w).alloc _) (Fr.of_all (S := fun _ => False) hb) (fun _ h _ => h))
  have hz : w.heap.size < w1.heap.size := by have := hb.size; simp at this; omega
  have N := Lib.hid (And.intro ((hb.cell (p := ⟨w.heap.size, 0, none⟩) (by simp)).trans NN.out.1) (And.intro ((hb.cell (p := ⟨w.heap.size, 1, none⟩) (by simp)).trans NN.out.2.1) (And.intro ((hb.cell (p := ⟨w.heap.size, 2, none⟩) (by simp)).trans NN.out.2.2.1) (fun k => (hb.frozen (p := ⟨w.heap.size, k, none⟩) (by simp)).trans (NN.out.2.2.2 k)))))
  clear hb NN
  go_wp2_with fail
  refine (HP.out _ (HI0.out.keep HFA.out (fun _ _ h => h))).mono ?_
  rintro e w2 ⟨u, rfl, v', l', rfl, hI, hh, hp, hfr, hv', hoth⟩
  have hs1 : w.heap.size ≠ nb := by omega
  have hs2 : v.ownBlock ≠ some w.heap.size := fun e => by have := HOB.out _ e; omega
  have hnot : ¬ (w.heap.size = nb ∨ v.ownBlock = some w.heap.size) := fun h => h.elim hs1 hs2
  have hfar := fun k => hfr.cell (p := ⟨w.heap.size, k, none⟩) hz hnot
  have hfarf := fun k => hfr.frozen (p := ⟨w.heap.size, k, none⟩) hz hnot
  have c0 := (hfar 0).trans N.out.1
  have c1 := (hfar 1).trans N.out.2.1
  have c2 := (hfar 2).trans N.out.2.2.1
  have f0 := (hfarf 0).trans (N.out.2.2.2 _)
  have f1 := (hfarf 1).trans (N.out.2.2.2 _)
  have f2 := (hfarf 2).trans (N.out.2.2.2 _)
  have hsz : w.heap.size < w2.heap.size := by have := hfr.size; omega
  have HFR := Lib.hid (Fr.trans (HFA.out.mono (fun _ _ h => h.elim)) hfr (fun i hi _ => hi))
  have HK := Lib.hid (HI0.out.keep HFA.out (fun _ _ h => h))
  have HSEQ : Hid (NetI nb base v' l' seq cu ch w2) := Lib.hid ⟨hI, (hoth 1 (by omega)).1.trans HK.out.c1, (hoth 1 (by omega)).2.trans HK.out.f1, (hoth 2 (by omega)).1.trans HK.out.c2, (hoth 2 (by omega)).2.trans HK.out.f2, (hoth 3 (by omega)).1.trans HK.out.c3, (hoth 3 (by omega)).2.trans HK.out.f3, hh⟩
  have HV' := Lib.hid hv'
  have hx3 := cells3n (v0 := .int .i64 x.fr) (v1 := .int .i64 x.to) (v2 := .string x.da) c0 c1 c2
  obtain ⟨X, hX⟩ : ∃ X, ((w2.setCell ⟨w.heap.size, 0, none⟩ (.int .i64 x.fr)).setCell ⟨w.heap.size, 1, none⟩ (.int .i64 x.to)).setCell ⟨w.heap.size, 2, none⟩ (.string x.da) = X := ⟨_, rfl⟩
  rw [hX] at hx3
  obtain ⟨x0, x1, x2⟩ := hx3
  have HXF : Hid (Fr (fun k => k = w.heap.size) w2 X) := Lib.hid (by rw [← hX]; exact (((Fr.refl (fun k => k = w.heap.size) w2).setCell (p := ⟨w.heap.size, 0, none⟩) (fun _ => rfl) _).setCell (p := ⟨w.heap.size, 1, none⟩) (fun _ => rfl) _).setCell (p := ⟨w.heap.size, 2, none⟩) (fun _ => rfl) _)
  clear hfar hfarf hnot hfr hI hoth hv' HK N
  have hfd := fld_due x
  go_wp2
  refine bodyPost_ret (v := .tuple #[pkv x.fr x.to x.da, .bool true]) (by simp [results, Try.results25, go_sem, pkv, x0, x1, x2]) rfl ⟨rfl, v', l', ?_, hp, ?_, HV'.out⟩
  · refine HSEQ.out.keep HXF.out (fun k hk e => ?_)
    subst e
    rcases hk with hk | hk
    · exact hs1 hk
    · rw [HV'.out] at hk
      exact hs2 hk
  · exact Fr.trans HFR.out HXF.out (fun i hi hlt => by omega)
end Go.Proofs.Ythdpajgnigilhaa
