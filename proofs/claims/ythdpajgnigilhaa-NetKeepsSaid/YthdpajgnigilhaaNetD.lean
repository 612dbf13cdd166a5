/- net's Net: Due. -/
import Derived.Test.YthdpajgnigilhaaNet
namespace Go.Proofs.Ythdpajgnigilhaa
open Go.RowKit

theorem cells3n {w : World} {b : Nat} {u0 u1 u2 v0 v1 v2 : Value} (d0 : w.cell? ⟨b, 0, none⟩ = some u0) (d1 : w.cell? ⟨b, 1, none⟩ = some u1) (d2 : w.cell? ⟨b, 2, none⟩ = some u2) :
    (((w.setCell ⟨b, 0, none⟩ v0).setCell ⟨b, 1, none⟩ v1).setCell ⟨b, 2, none⟩ v2).cell? ⟨b, 0, none⟩ = some v0 ∧ (((w.setCell ⟨b, 0, none⟩ v0).setCell ⟨b, 1, none⟩ v1).setCell ⟨b, 2, none⟩ v2).cell? ⟨b, 1, none⟩ = some v1 ∧ (((w.setCell ⟨b, 0, none⟩ v0).setCell ⟨b, 1, none⟩ v1).setCell ⟨b, 2, none⟩ v2).cell? ⟨b, 2, none⟩ = some v2 := by
  have ne : ∀ (w : World) (i j : Nat) (v : Value), i ≠ j → (w.setCell ⟨b, i, none⟩ v).cell? ⟨b, j, none⟩ = w.cell? ⟨b, j, none⟩ := fun w i j v h => World.cell?_setCell_other _ _ _ _ (by intro e; injection e with _ e _; omega)
  refine ⟨?_, ?_, ?_⟩
  · rw [ne _ 2 0 _ (by omega), ne _ 1 0 _ (by omega)]; exact cell_set_same _ _ _ _ d0
  · rw [ne _ 2 1 _ (by omega)]; exact cell_set_same _ _ _ u1 (by rw [ne _ 0 1 _ (by omega)]; exact d1)
  · exact cell_set_same _ _ _ u2 (by rw [ne _ 1 2 _ (by omega), ne _ 0 2 _ (by omega)]; exact d2)

abbrev pkv (fr to : Int) (da : ByteArray) : Value := .agg #[.int .i64 fr, .int .i64 to, .string da]
theorem fld_due (x : Nd) (w : World) : (Instr.field 75 (dv x) 0).run Try.prog w = .ok (pkv x.fr x.to x.da) w := by kernel_rfl

set_option maxHeartbeats 400000 in
set_option maxRecDepth 100000 in
theorem net_due_none (nb base : Nat) (v : Value) (seq now : Int) (cu ch : Value) (w : World) (h : NetI nb base v [] seq cu ch w) :
    Calls Try.prog 15 #[.pointer (some ⟨nb, 0, none⟩), .int .i64 now] w fun e w' => e = .returned (.tuple #[pkv 0 0 ByteArray.empty, .bool false]) ∧ Below w.heap.size w w' := by
  have hlt := cell_lt h.c1
  have HH := Lib.hid h; clear h
  go_enter Try.func15, Try.ntmps15
  go_wp2_with fail
  refine (net_len nb base v [] seq cu ch _ (HH.out.keep ((Fr.refl (fun _ => False) w).alloc _) (fun _ _ h => h))).mono ?_
  rintro e w' ⟨rfl, rfl⟩
  go_wp2
  exact bodyPost_ret (v := .tuple #[pkv 0 0 ByteArray.empty, .bool false]) (by simp [results, Try.results15, go_sem, pkv]; rfl) rfl ⟨rfl, by repeat (first | exact Below.refl _ _ | refine Below.drew ?_ | refine Below.alloc ?_ (by simp) _ | refine Below.setCell ?_ (by simp) _)⟩

set_option maxHeartbeats 400000 in
set_option maxRecDepth 100000 in
theorem net_due_early (nb base : Nat) (v : Value) (l : List Nd) (seq now : Int) (cu ch : Value) (w : World) (h : NetI nb base v l seq cu ch w) (hn : 0 < l.length) (hnow : now < (HL.el l 0).at') :
    Calls Try.prog 15 #[.pointer (some ⟨nb, 0, none⟩), .int .i64 now] w fun e w' => e = .returned (.tuple #[pkv 0 0 ByteArray.empty, .bool false]) ∧ Below w.heap.size w w' := by
  have hlt := cell_lt h.c1
  obtain ⟨g, cap, hv, _, hg, _⟩ := owns_len h.h.2.2.1 hn
  have h' := hv ▸ h
  have hx := (h'.h.cells rfl 0 hn).2.2.2.1
  have hc := h'.h.1
  have HH := Lib.hid h; clear h h' hv
  have hm := HH.out.h.2.2.2.2.1
  have hne : ((l.length : Int) == 0) = false := by rw [beq_eq_false_iff_ne]; omega
  have HL0 := Lib.hid (fun o => net_len nb base v l seq cu ch (w.alloc o) (HH.out.keep ((Fr.refl (fun _ => False) w).alloc _) (fun _ _ h => h)))
  generalize HL.el l 0 = x at *
  generalize l.length = n at *
  go_enter Try.func15, Try.ntmps15
  go_wp2_with fail
  refine (HL0.out _).mono ?_
  rintro e w' ⟨rfl, rfl⟩
  go_wp2
  exact bodyPost_ret (v := .tuple #[pkv 0 0 ByteArray.empty, .bool false]) (by simp [results, Try.results15, go_sem, pkv]; rfl) rfl ⟨rfl, by repeat (first | exact Below.refl _ _ | refine Below.drew ?_ | refine Below.alloc ?_ (by simp) _ | refine Below.setCell ?_ (by simp) _)⟩

set_option maxHeartbeats 1000000 in
set_option maxRecDepth 100000 in
theorem net_due_take (nb base : Nat) (v : Value) (l : List Nd) (seq now : Int) (cu ch : Value) (w : World) (h : NetI nb base v l seq cu ch w) (hn : 0 < l.length) (hnow : (HL.el l 0).at' ≤ now) :
    Calls Try.prog 15 #[.pointer (some ⟨nb, 0, none⟩), .int .i64 now] w fun e w' => e = .returned (.tuple #[pkv (HL.el l 0).fr (HL.el l 0).to (HL.el l 0).da, .bool true]) ∧
      ∃ v' l', NetI nb base v' l' seq cu ch w' ∧ (HL.el l 0 :: l').Perm l ∧ Fr (netF nb v) w w' ∧ v'.ownBlock = v.ownBlock := by
  have hlt := cell_lt h.c1
  have hob : ∀ g, v.ownBlock = some g → g < w.heap.size := fun g hg => (h.h.2.2.1.lt g hg).2
  have HI0 := Lib.hid h
  obtain ⟨g, cap, hv, _, hg, _⟩ := owns_len h.h.2.2.1 hn
  have h' := hv ▸ h
  have hx := (h'.h.cells rfl 0 hn).2.2.2.1
  have hc := h'.h.1
  have HP := Lib.hid (fun W (hI : NetI nb base v l seq cu ch W) => heap_pop_nets nb 0 base v l W hI.h hI.hp hn)
  have hm := HI0.out.h.2.2.2.2.1
  have hne : ((l.length : Int) == 0) = false := by rw [beq_eq_false_iff_ne]; omega
  have HL0 := Lib.hid (fun o => net_len nb base v l seq cu ch (w.alloc o) (HI0.out.keep ((Fr.refl (fun _ => False) w).alloc _) (fun _ _ h => h)))
  have hta := ta_wt
  have hnow' : ¬ now < (HL.el l 0).at' := by omega
  have HOB := Lib.hid hob
  clear hob hnow h h' hv
  generalize HL.el l 0 = x at *
  generalize l.length = n at *
  go_enter Try.func15, Try.ntmps15
  go_wp2_with fail
  refine (HL0.out _).mono ?_
  rintro e w1 ⟨rfl, rfl⟩
  have HFA : Hid (Fr (fun _ => False) w (w.alloc (.cells #[.int .i64 0, .int .i64 0, .string ⟨#[]⟩] 34))) := Lib.hid ((Fr.refl (fun _ => False) w).alloc _)
  have n0 : (w.alloc (.cells #[.int .i64 0, .int .i64 0, .string ⟨#[]⟩] 34)).cell? ⟨w.heap.size, 0, none⟩ = some (.int .i64 0) := by go_simp
  have n1 : (w.alloc (.cells #[.int .i64 0, .int .i64 0, .string ⟨#[]⟩] 34)).cell? ⟨w.heap.size, 1, none⟩ = some (.int .i64 0) := by clear n0; go_simp
  have n2 : (w.alloc (.cells #[.int .i64 0, .int .i64 0, .string ⟨#[]⟩] 34)).cell? ⟨w.heap.size, 2, none⟩ = some (.string ⟨#[]⟩) := by clear n0 n1; go_simp
  have nf : ∀ k, (w.alloc (.cells #[.int .i64 0, .int .i64 0, .string ⟨#[]⟩] 34)).frozen? ⟨w.heap.size, k, none⟩ = false := fun k => by clear n0 n1 n2; go_simp
  have N := Lib.hid (And.intro n0 (And.intro n1 (And.intro n2 nf)))
  clear n0 n1 n2 nf
  go_wp2_with fail
  refine (HP.out _ (HI0.out.keep HFA.out (fun _ _ h => h))).mono ?_
  rintro e w2 ⟨u, rfl, v', l', rfl, hI, hh, hp, hfr, hv', hoth⟩
  have hs1 : w.heap.size ≠ nb := by omega
  have hs2 : v.ownBlock ≠ some w.heap.size := fun e => by have := HOB.out _ e; omega
  have hnot : ¬ (w.heap.size = nb ∨ v.ownBlock = some w.heap.size) := fun h => h.elim hs1 hs2
  have hfar := fun k => hfr.cell (p := ⟨w.heap.size, k, none⟩) (by simp) hnot
  have hfarf := fun k => hfr.frozen (p := ⟨w.heap.size, k, none⟩) (by simp) hnot
  have c0 := (hfar 0).trans N.out.1
  have c1 := (hfar 1).trans N.out.2.1
  have c2 := (hfar 2).trans N.out.2.2.1
  have f0 := (hfarf 0).trans (N.out.2.2.2 _)
  have f1 := (hfarf 1).trans (N.out.2.2.2 _)
  have f2 := (hfarf 2).trans (N.out.2.2.2 _)
  have hsz : w.heap.size < w2.heap.size := by have := hfr.size; simp at this; omega
  have HFR := Lib.hid (Fr.trans (HFA.out.mono (fun _ _ h => h.elim)) hfr (fun i hi _ => hi))
  have HK := Lib.hid (HI0.out.keep HFA.out (fun _ _ h => h))
  have HSEQ : Hid (NetI nb base v' l' seq cu ch w2) := Lib.hid ⟨hI, (hoth 1 (by omega)).1.trans HK.out.c1, (hoth 1 (by omega)).2.trans HK.out.f1, (hoth 2 (by omega)).1.trans HK.out.c2, (hoth 2 (by omega)).2.trans HK.out.f2, (hoth 3 (by omega)).1.trans HK.out.c3, (hoth 3 (by omega)).2.trans HK.out.f3, hh⟩
  have HV' := Lib.hid hv'
  have hx3 := cells3n (v0 := .int .i64 x.fr) (v1 := .int .i64 x.to) (v2 := .string x.da) c0 c1 c2
  obtain ⟨X, hX⟩ : ∃ X, ((w2.setCell ⟨w.heap.size, 0, none⟩ (.int .i64 x.fr)).setCell ⟨w.heap.size, 1, none⟩ (.int .i64 x.to)).setCell ⟨w.heap.size, 2, none⟩ (.string x.da) = X := ⟨_, rfl⟩
  rw [hX] at hx3
  obtain ⟨x0, x1, x2⟩ := hx3
  have HXF : Hid (Fr (fun k => k = w.heap.size) w2 X) := Lib.hid (by rw [← hX]; exact (((Fr.refl (fun k => k = w.heap.size) w2).setCell (p := ⟨w.heap.size, 0, none⟩) (fun _ => rfl) _).setCell (p := ⟨w.heap.size, 1, none⟩) (fun _ => rfl) _).setCell (p := ⟨w.heap.size, 2, none⟩) (fun _ => rfl) _)
  clear hfar hfarf hnot hfr hI hoth hv' HK N hx hc
  have hfd := fld_due x
  go_wp2
  refine bodyPost_ret (v := .tuple #[pkv x.fr x.to x.da, .bool true]) (by simp [results, Try.results15, go_sem, pkv, x0, x1, x2]) rfl ⟨rfl, v', l', ?_, hp, ?_, HV'.out⟩
  · refine HSEQ.out.keep HXF.out (fun k hk e => ?_)
    subst e
    rcases hk with hk | hk
    · exact hs1 hk
    · rw [HV'.out] at hk
      exact hs2 hk
  · exact Fr.trans HFR.out HXF.out (fun i hi hlt => by omega)
end Go.Proofs.Ythdpajgnigilhaa
