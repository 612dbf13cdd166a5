/- Merged texts: NetR NetP Step NetT NetU NetX NetY NetZ. -/
import Derived.Test.YthdpajgnigilhaaQ1
import Derived.Test.YthdpajgnigilhaaQ3
import Derived.Test.YthdpajgnigilhaaQ2
import Derived.Maps.OwnSet
import Derived.DeepKeys4
/- net's dues: heap.Remove. -/
namespace Go.Proofs.Ythdpajgnigilhaa
open Go.RowKit
set_option maxHeartbeats 1000000 in
theorem heap_remove_nets (ab ao base : Nat) (v : Value) (l : List (Nd)) (i : Nat) (w : World) (h : NetsI ab ao base v l w) (hh : HL.IsHeap wlt l) (hn : i < l.length) :
    Calls Try.prog 36 #[.iface 77 (.pointer (some ⟨ab, ao, none⟩)), .int .i64 i] w fun e w' => ∃ u, e = .returned u ∧
      ∃ v' l', u = .iface 75 (dv (HL.el l i)) ∧ NetsI ab ao base v' l' w' ∧ HL.IsHeap wlt l' ∧ (HL.el l i :: l').Perm l ∧ Fr (fun k => k = ab ∨ v.ownBlock = some k) w w' ∧ v'.ownBlock = v.ownBlock ∧ Others ab ao w w' := by
  refine heap_remove (reads_rep ab ao base v) l h i (by omega) (by omega) hh ?_
  rw [Int.toNat_natCast]
  intro l' w1 hI hF hp hh'
  obtain ⟨g, cap, hv, _, hg, hcap⟩ := owns_len hI.2.2.1 (by simp)
  have hI' := hv ▸ hI
  have hx := hI'.cells rfl l'.length (by simp)
  rw [show HL.el (l' ++ [HL.el l i]) l'.length = HL.el l i from HL.el_append_right l' _] at hx
  have hlen : (l' ++ [HL.el l i]).length = l'.length + 1 := by simp
  rw [hlen] at hI' hcap
  refine ⟨_, _, inv_nets_pop _ w1, (pop_nets ab ao g l'.length cap (HL.el l i) w1 hI'.1 hI'.2.1 hx hcap (by have := hI.2.2.2.2.1; simp at this; omega)).mono ?_⟩
  rintro e w2 ⟨rfl, rfl⟩
  have hab : g ≠ ab := fun e => hI'.2.2.2.1 (by rw [e]; rfl)
  have hob : v.ownBlock = some g := by rw [hv]; rfl
  have hF2 : Fr (fun k => k = ab) w1 ((w1.setCell ⟨ab, ao, none⟩ (.slice (some ⟨g, 0, none⟩) l'.length cap)).alloc (.cells #[.int .i64 (HL.el l i).fr, .int .i64 (HL.el l i).to, .string (HL.el l i).da, .int .i64 (HL.el l i).at', .int .i64 (HL.el l i).sq] 75)) :=
    ((Fr.refl (fun k => k = ab) w1).setCell (p := ⟨ab, ao, none⟩) (fun _ => rfl) _).alloc _
  refine ⟨_, rfl, .slice (some ⟨g, 0, none⟩) l'.length cap, l', rfl, ⟨?_, ?_, ?_, fun e => hab (by simpa [Value.ownBlock] using e), by have := hI.2.2.2.2.1; simp at this; omega, Nat.le_trans hI.2.2.2.2.2 hF2.size⟩, hh', hp, ?_, hob.symm, ?_⟩
  · rw [World.cell?_alloc_lt _ _ _ (by have := cell_lt hI'.1; simpa [World.setCell] using this)]
    exact cell_set_same _ _ _ _ hI'.1
  · have hlt := cell_lt hI'.1
    have : ((w1.setCell ⟨ab, ao, none⟩ (.slice (some ⟨g, 0, none⟩) l'.length cap)).alloc (.cells #[.int .i64 (HL.el l i).fr, .int .i64 (HL.el l i).to, .string (HL.el l i).da, .int .i64 (HL.el l i).at', .int .i64 (HL.el l i).sq] 75)).frozen? ⟨ab, ao, none⟩ = (w1.setCell ⟨ab, ao, none⟩ (.slice (some ⟨g, 0, none⟩) l'.length cap)).frozen? ⟨ab, ao, none⟩ :=
      World.frozen?_of_block (Below.heap_alloc _ _ _ (by simpa [World.setCell] using hlt))
    rw [this, frozen_set]
    exact hI'.2.1
  · have ho := hF2.owns hI'.2.2.1 (fun g' hg' => by have : g = g' := by simpa [Value.ownBlock] using hg'
                                                    subst this; exact hab)
    rw [rowOf_append, hlen] at ho
    exact ownsRow_pop (rowOf_length wcells wcells_length l') ho
  · exact Fr.trans (Fr.mono hF (fun i _ hi => .inr hi)) hF2 (fun i hi _ => .inl hi)
  · have hlt := cell_lt h.1
    have hlt1 := cell_lt hI'.1
    refine (Others.of_block (hF.block ab hlt (fun e => hab (by rw [hob] at e; simpa using e)))).trans ((Others.set ab ao w1 _).trans (Others.of_block (Below.heap_alloc _ _ _ (by simpa [World.setCell] using hlt1))))
end Go.Proofs.Ythdpajgnigilhaa

/- net's Net: Pull, out of what find answers. -/
namespace Go.Proofs.Ythdpajgnigilhaa
open Go.RowKit
set_option maxHeartbeats 1000000 in
set_option maxRecDepth 100000 in
theorem net_pull_of (nb base : Nat) (v : Value) (l : List Nd) (seq k : Int) (i : Nat) (cu ch : Value) (w : World) (h : NetI nb base v l seq cu ch w) (hn : i < l.length)
    (HFD : Hid (∀ W, NetI nb base v l seq cu ch W → Calls Try.prog 35 #[.pointer (some ⟨nb, 0, none⟩), .int .i64 k] W fun e w' => e = .returned (.int .i64 i) ∧ Below W.heap.size W w')) :
    Calls Try.prog 25 #[.pointer (some ⟨nb, 0, none⟩), .int .i64 k] w fun e w' => e = .returned (.tuple #[pkv (HL.el l i).fr (HL.el l i).to (HL.el l i).da, .bool true]) ∧
      ∃ v' l', NetI nb base v' l' seq cu ch w' ∧ (HL.el l i :: l').Perm l ∧ Fr (netF nb v) w w' ∧ v'.ownBlock = v.ownBlock := by
  have hlt := cell_lt h.c1
  have hob : ∀ g, v.ownBlock = some g → g < w.heap.size := fun g hg => (h.h.2.2.1.lt g hg).2
  have HI0 := Lib.hid h
  have HP := Lib.hid (fun W (hI : NetI nb base v l seq cu ch W) => heap_remove_nets nb 0 base v l i W hI.h hI.hp hn)
  have hta := ta_wt
  have hi0 : ¬ (i : Int) < 0 := by omega
  have HOB := Lib.hid hob
  clear hob h
  generalize HL.el l i = x at *
  go_enter Try.func25, Try.ntmps25
  have n0 : (w.alloc (.cells #[.int .i64 0, .int .i64 0, .string ⟨#[]⟩] 34)).cell? ⟨w.heap.size, 0, none⟩ = some (.int .i64 0) := by go_simp
  have n1 : (w.alloc (.cells #[.int .i64 0, .int .i64 0, .string ⟨#[]⟩] 34)).cell? ⟨w.heap.size, 1, none⟩ = some (.int .i64 0) := by clear n0; go_simp
  have n2 : (w.alloc (.cells #[.int .i64 0, .int .i64 0, .string ⟨#[]⟩] 34)).cell? ⟨w.heap.size, 2, none⟩ = some (.string ⟨#[]⟩) := by clear n0 n1; go_simp
  have nf : ∀ k, (w.alloc (.cells #[.int .i64 0, .int .i64 0, .string ⟨#[]⟩] 34)).frozen? ⟨w.heap.size, k, none⟩ = false := fun k => by clear n0 n1 n2; go_simp
  have NN := Lib.hid (And.intro n0 (And.intro n1 (And.intro n2 nf)))
  clear n0 n1 n2 nf
  go_wp2_with fail
  refine (HFD.out _ (HI0.out.keep ((Fr.refl (fun _ => False) w).alloc _) (fun _ _ h => h))).mono ?_
  rintro e w1 ⟨rfl, hb⟩
  have HFA : Hid (Fr (fun _ => False) w w1) := Lib.hid (Fr.trans ((Fr.refl (fun _ => False) w).alloc _) (Fr.of_all (S := fun _ => False) hb) (fun _ h _ => h))
  have hz : w.heap.size < w1.heap.size := by have := hb.size; simp at this; omega
  have N := Lib.hid (And.intro ((hb.cell (p := ⟨w.heap.size, 0, none⟩) (by simp)).trans NN.out.1) (And.intro ((hb.cell (p := ⟨w.heap.size, 1, none⟩) (by simp)).trans NN.out.2.1) (And.intro ((hb.cell (p := ⟨w.heap.size, 2, none⟩) (by simp)).trans NN.out.2.2.1) (fun k => (hb.frozen (p := ⟨w.heap.size, k, none⟩) (by simp)).trans (NN.out.2.2.2 k)))))
  clear hb NN
  go_wp2_with fail
  refine (HP.out _ (HI0.out.keep HFA.out (fun _ _ h => h))).mono ?_
  rintro e w2 ⟨u, rfl, v', l', rfl, hI, hh, hp, hfr, hv', hoth⟩
  have hs1 : w.heap.size ≠ nb := by omega
  have hs2 : v.ownBlock ≠ some w.heap.size := fun e => by have := HOB.out _ e; omega
  have hnot : ¬ (w.heap.size = nb ∨ v.ownBlock = some w.heap.size) := fun h => h.elim hs1 hs2
  have hfar := fun k => hfr.cell (p := ⟨w.heap.size, k, none⟩) hz hnot
  have hfarf := fun k => hfr.frozen (p := ⟨w.heap.size, k, none⟩) hz hnot
  have c0 := (hfar 0).trans N.out.1
  have c1 := (hfar 1).trans N.out.2.1
  have c2 := (hfar 2).trans N.out.2.2.1
  have f0 := (hfarf 0).trans (N.out.2.2.2 _)
  have f1 := (hfarf 1).trans (N.out.2.2.2 _)
  have f2 := (hfarf 2).trans (N.out.2.2.2 _)
  have hsz : w.heap.size < w2.heap.size := by have := hfr.size; omega
  have HFR := Lib.hid (Fr.trans (HFA.out.mono (fun _ _ h => h.elim)) hfr (fun i hi _ => hi))
  have HK := Lib.hid (HI0.out.keep HFA.out (fun _ _ h => h))
  have HSEQ : Hid (NetI nb base v' l' seq cu ch w2) := Lib.hid ⟨hI, (hoth 1 (by omega)).1.trans HK.out.c1, (hoth 1 (by omega)).2.trans HK.out.f1, (hoth 2 (by omega)).1.trans HK.out.c2, (hoth 2 (by omega)).2.trans HK.out.f2, (hoth 3 (by omega)).1.trans HK.out.c3, (hoth 3 (by omega)).2.trans HK.out.f3, hh⟩
  have HV' := Lib.hid hv'
  have hx3 := cells3n (v0 := .int .i64 x.fr) (v1 := .int .i64 x.to) (v2 := .string x.da) c0 c1 c2
  obtain ⟨X, hX⟩ : ∃ X, ((w2.setCell ⟨w.heap.size, 0, none⟩ (.int .i64 x.fr)).setCell ⟨w.heap.size, 1, none⟩ (.int .i64 x.to)).setCell ⟨w.heap.size, 2, none⟩ (.string x.da) = X := ⟨_, rfl⟩
  rw [hX] at hx3
  obtain ⟨x0, x1, x2⟩ := hx3
  have HXF : Hid (Fr (fun k => k = w.heap.size) w2 X) := Lib.hid (by rw [← hX]; exact (((Fr.refl (fun k => k = w.heap.size) w2).setCell (p := ⟨w.heap.size, 0, none⟩) (fun _ => rfl) _).setCell (p := ⟨w.heap.size, 1, none⟩) (fun _ => rfl) _).setCell (p := ⟨w.heap.size, 2, none⟩) (fun _ => rfl) _)
  clear hfar hfarf hnot hfr hI hoth hv' HK N
  have hfd := fld_due x
  go_wp2
  refine bodyPost_ret (v := .tuple #[pkv x.fr x.to x.da, .bool true]) (by simp [results, Try.results25, go_sem, pkv, x0, x1, x2]) rfl ⟨rfl, v', l', ?_, hp, ?_, HV'.out⟩
  · refine HSEQ.out.keep HXF.out (fun k hk e => ?_)
    subst e
    rcases hk with hk | hk
    · exact hs1 hk
    · rw [HV'.out] at hk
      exact hs2 hk
  · exact Fr.trans HFR.out HXF.out (fun i hi hlt => by omega)
end Go.Proofs.Ythdpajgnigilhaa

/- Only the blocks of F, and new ones, were written. -/
namespace Go.Proofs.Ythdpajgnigilhaa
open Go.RowKit

/-- Only the blocks of F, and new ones, were written; those of F' are such. -/
def Step (F F' : Nat → Prop) (w w' : World) : Prop := Fr F w w' ∧ ∀ k, F' k → F k ∨ w.heap.size ≤ k
theorem Step.refl (F : Nat → Prop) (w : World) : Step F F w w := ⟨Fr.refl _ _, fun _ h => .inl h⟩
theorem Step.trans {F F1 F2 : Nat → Prop} {w w1 w2 : World} (h : Step F F1 w w1) (k : Step F1 F2 w1 w2) : Step F F2 w w2 :=
  ⟨Fr.trans h.1 k.1 (fun i hi hlt => (h.2 i hi).resolve_right (by omega)), fun i hi => by
    rcases k.2 i hi with h1 | h1
    · exact h.2 i h1
    · exact .inr (Nat.le_trans h.1.size h1)⟩
theorem Step.still {F : Nat → Prop} {w w' : World} (h : Below w.heap.size w w') : Step F F w w' := ⟨Fr.of_all h, fun _ h => .inl h⟩
theorem Step.sub {F : Nat → Prop} {w w' : World} {db : Nat} (h : Fr (fun k => k = db) w w') (hdb : F db) : Step F F w w' := ⟨h.mono (fun i _ hi => by have : i = db := hi; rw [this]; exact hdb), fun _ h => .inl h⟩
end Go.Proofs.Ythdpajgnigilhaa

/- net's Net as a whole: its calls, each with what becomes of it. -/
namespace Go.Proofs.Ythdpajgnigilhaa
open Go.RowKit Go.Conc

set_option maxHeartbeats 1000000 in
set_option maxRecDepth 100000 in
theorem net_pull_find (nb base : Nat) (v : Value) (l : List Nd) (seq : Int) (k : Nat) (cu ch : Value) (w : World) (h : NetI nb base v l seq cu ch w) (hk : k < l.length) :
    Calls Try.prog 25 #[.pointer (some ⟨nb, 0, none⟩), .int .i64 k] w fun e w' => ∃ (i : Nat) (ts : List Nd), e = .returned (.tuple #[pkv (HL.el l i).fr (HL.el l i).to (HL.el l i).da, .bool true]) ∧ i < l.length ∧ ts.Perm l ∧ SortedD ts ∧ HL.el l i = HL.el ts k ∧
      ∃ v' l', NetI nb base v' l' seq cu ch w' ∧ (HL.el l i :: l').Perm l ∧ Fr (netF nb v) w w' ∧ v'.ownBlock = v.ownBlock := by
  have hlt := cell_lt h.c1
  have hob : ∀ g, v.ownBlock = some g → g < w.heap.size := fun g hg => (h.h.2.2.1.lt g hg).2
  have HI0 := Lib.hid h
  have HP0 := Lib.hid (fun (i : Nat) (hn : i < l.length) W (hI : NetI nb base v l seq cu ch W) => heap_remove_nets nb 0 base v l i W hI.h hI.hp hn)
  have HFD := Lib.hid (fun W (hI : NetI nb base v l seq cu ch W) => net_find nb base v l seq k cu ch W hI hk)
  have hta := ta_wt
  have HOB := Lib.hid hob
  clear hob h
  go_enter Try.func25, Try.ntmps25
  have n0 : (w.alloc (.cells #[.int .i64 0, .int .i64 0, .string ⟨#[]⟩] 34)).cell? ⟨w.heap.size, 0, none⟩ = some (.int .i64 0) := by go_simp
  have n1 : (w.alloc (.cells #[.int .i64 0, .int .i64 0, .string ⟨#[]⟩] 34)).cell? ⟨w.heap.size, 1, none⟩ = some (.int .i64 0) := by clear n0; go_simp
  have n2 : (w.alloc (.cells #[.int .i64 0, .int .i64 0, .string ⟨#[]⟩] 34)).cell? ⟨w.heap.size, 2, none⟩ = some (.string ⟨#[]⟩) := by clear n0 n1; go_simp
  have nf : ∀ k, (w.alloc (.cells #[.int .i64 0, .int .i64 0, .string ⟨#[]⟩] 34)).frozen? ⟨w.heap.size, k, none⟩ = false := fun k => by clear n0 n1 n2; go_simp
  have NN := Lib.hid (And.intro n0 (And.intro n1 (And.intro n2 nf)))
  clear n0 n1 n2 nf
  go_wp2_with fail
  refine (HFD.out _ (HI0.out.keep ((Fr.refl (fun _ => False) w).alloc _) (fun _ _ h => h))).mono ?_
  rintro e w1 ⟨i, ts, rfl, hi, hts, hsd, hel, hb⟩
  have hi0 : ¬ (i : Int) < 0 := by omega
  have HP := Lib.hid (HP0.out i hi)
  have HTS := Lib.hid (And.intro hts (And.intro hsd hel))
  clear hts hsd hel HP0
  obtain ⟨x, hxe⟩ : ∃ x, HL.el l i = x := ⟨_, rfl⟩
  rw [hxe] at HP
  have HXE := Lib.hid hxe
  clear hxe
  have HFA : Hid (Fr (fun _ => False) w w1) := Lib.hid (Fr.trans ((Fr.refl (fun _ => False) w).alloc _) (Fr.of_all (S := fun _ => False) hb) (fun _ h _ => h))
  have hz : w.heap.size < w1.heap.size := by have := hb.size; simp at this; omega
  have N := Lib.hid (And.intro ((hb.cell (p := ⟨w.heap.size, 0, none⟩) (by simp)).trans NN.out.1) (And.intro ((hb.cell (p := ⟨w.heap.size, 1, none⟩) (by simp)).trans NN.out.2.1) (And.intro ((hb.cell (p := ⟨w.heap.size, 2, none⟩) (by simp)).trans NN.out.2.2.1) (fun k => (hb.frozen (p := ⟨w.heap.size, k, none⟩) (by simp)).trans (NN.out.2.2.2 k)))))
  clear hb NN
  go_wp2_with fail
  refine (HP.out _ (HI0.out.keep HFA.out (fun _ _ h => h))).mono ?_
  rintro e w2 ⟨u, rfl, v', l', rfl, hI, hh, hp, hfr, hv', hoth⟩
  have hs1 : w.heap.size ≠ nb := by omega
  have hs2 : v.ownBlock ≠ some w.heap.size := fun e => by have := HOB.out _ e; omega
  have hnot : ¬ (w.heap.size = nb ∨ v.ownBlock = some w.heap.size) := fun h => h.elim hs1 hs2
  have hfar := fun k => hfr.cell (p := ⟨w.heap.size, k, none⟩) hz hnot
  have hfarf := fun k => hfr.frozen (p := ⟨w.heap.size, k, none⟩) hz hnot
  have c0 := (hfar 0).trans N.out.1
  have c1 := (hfar 1).trans N.out.2.1
  have c2 := (hfar 2).trans N.out.2.2.1
  have f0 := (hfarf 0).trans (N.out.2.2.2 _)
  have f1 := (hfarf 1).trans (N.out.2.2.2 _)
  have f2 := (hfarf 2).trans (N.out.2.2.2 _)
  have hsz : w.heap.size < w2.heap.size := by have := hfr.size; omega
  have HFR := Lib.hid (Fr.trans (HFA.out.mono (fun _ _ h => h.elim)) hfr (fun i hi _ => hi))
  have HK := Lib.hid (HI0.out.keep HFA.out (fun _ _ h => h))
  have HSEQ : Hid (NetI nb base v' l' seq cu ch w2) := Lib.hid ⟨hI, (hoth 1 (by omega)).1.trans HK.out.c1, (hoth 1 (by omega)).2.trans HK.out.f1, (hoth 2 (by omega)).1.trans HK.out.c2, (hoth 2 (by omega)).2.trans HK.out.f2, (hoth 3 (by omega)).1.trans HK.out.c3, (hoth 3 (by omega)).2.trans HK.out.f3, hh⟩
  have HV' := Lib.hid hv'
  have hx3 := cells3n (v0 := .int .i64 x.fr) (v1 := .int .i64 x.to) (v2 := .string x.da) c0 c1 c2
  obtain ⟨X, hX⟩ : ∃ X, ((w2.setCell ⟨w.heap.size, 0, none⟩ (.int .i64 x.fr)).setCell ⟨w.heap.size, 1, none⟩ (.int .i64 x.to)).setCell ⟨w.heap.size, 2, none⟩ (.string x.da) = X := ⟨_, rfl⟩
  rw [hX] at hx3
  obtain ⟨x0, x1, x2⟩ := hx3
  have HXF : Hid (Fr (fun k => k = w.heap.size) w2 X) := Lib.hid (by rw [← hX]; exact (((Fr.refl (fun k => k = w.heap.size) w2).setCell (p := ⟨w.heap.size, 0, none⟩) (fun _ => rfl) _).setCell (p := ⟨w.heap.size, 1, none⟩) (fun _ => rfl) _).setCell (p := ⟨w.heap.size, 2, none⟩) (fun _ => rfl) _)
  clear hfar hfarf hnot hfr hI hoth hv' HK N
  have hfd := fld_due x
  go_wp2
  refine bodyPost_ret (v := .tuple #[pkv x.fr x.to x.da, .bool true]) (by simp [results, Try.results25, go_sem, pkv, x0, x1, x2]) rfl ⟨i, ts, by rw [HXE.out], hi, HTS.out.1, HTS.out.2.1, HTS.out.2.2, v', l', ?_, by rw [HXE.out]; exact hp, ?_, HV'.out⟩
  · refine HSEQ.out.keep HXF.out (fun k hk e => ?_)
    subst e
    rcases hk with hk | hk
    · exact hs1 hk
    · rw [HV'.out] at hk
      exact hs2 hk
  · exact Fr.trans HFR.out HXF.out (fun i hi hlt => by omega)

theorem look_nil (a b : Int) (W : World) : look (.map none) a b false W := by unfold look; kernel_rfl

def ChOk (ch : Value) (w : World) : Prop := ch = .chan none ∨ ∃ c s r, ch = .chan (some c) ∧ w.heap[c]? = some (pchan 1 s r #[])
theorem ChOk.keep {ch : Value} {w w' : World} {T : Nat → Prop} (h : ChOk ch w) (hF : Fr T w w') (hT : ∀ c, ch = .chan (some c) → ¬ T c) : ChOk ch w' := by
  rcases h with h | ⟨c, s, r, h1, h2⟩
  · exact .inl h
  · exact .inr ⟨c, s, r, h1, (hF.block c (Array.getElem?_eq_some_iff.1 h2).1 (hT c h1)).trans h2⟩

/-- A net: it has the packets S (in whatever order); F: its blocks. -/
def Nt (base nb : Nat) (S : List Nd) (seq : Int) (cu : Value) (m : Option Nat) (ob : Obj) (F : Nat → Prop) (w : World) : Prop :=
  ∃ v ch l, NetI nb base v l seq cu ch w ∧ l.Perm S ∧ ChOk ch w ∧ CutW m ob w ∧ (∀ b, m = some b → ¬ F b) ∧ (∀ k, F k → base ≤ k ∧ k < w.heap.size) ∧ base ≤ w.heap.size ∧ F = sendS nb v ch

section
variable {base nb : Nat} {S S' : List Nd} {seq seq' : Int} {cu : Value} {m : Option Nat} {ob : Obj} {F : Nat → Prop} {w w' : World}

theorem Nt.keep (h : Nt base nb S seq cu m ob F w) {T : Nat → Prop} (hF : Fr T w w') (hT : ∀ k, F k → ¬ T k) (hm : ∀ b, m = some b → ¬ T b) : Nt base nb S seq cu m ob F w' := by
  obtain ⟨v, ch, l, hI, hp, hch, hcw, hmF, hge, hb, rfl⟩ := h
  exact ⟨v, ch, l, hI.keep hF (fun k hk => hT k (.inl hk)), hp, hch.keep hF (fun c hc => hT c (.inr hc)), hcw.keep hF hm, hmF, fun k hk => ⟨(hge k hk).1, Nat.lt_of_lt_of_le (hge k hk).2 hF.size⟩, Nat.le_trans hb hF.size, rfl⟩
theorem Nt.ge (h : Nt base nb S seq cu m ob F w) : ∀ k, F k → base ≤ k := by
  obtain ⟨v, ch, l, hI, hp, hch, hcw, hmF, hge, hb, rfl⟩ := h
  exact fun k hk => (hge k hk).1
theorem Nt.lt (h : Nt base nb S seq cu m ob F w) : ∀ k, F k → k < w.heap.size := by
  obtain ⟨v, ch, l, hI, hp, hch, hcw, hmF, hge, hb, rfl⟩ := h
  exact fun k hk => (hge k hk).2
theorem Nt.bsz (h : Nt base nb S seq cu m ob F w) : base ≤ w.heap.size := by
  obtain ⟨v, ch, l, hI, hp, hch, hcw, hmF, hge, hb, rfl⟩ := h
  exact hb
theorem Nt.perm (h : Nt base nb S seq cu m ob F w) (hp : S.Perm S') : Nt base nb S' seq cu m ob F w := by
  obtain ⟨v, ch, l, hI, hp', hch, hcw, hmF, hge, hb, rfl⟩ := h
  exact ⟨v, ch, l, hI, hp'.trans hp, hch, hcw, hmF, hge, hb, rfl⟩
/-- What is new lies apart. -/
theorem Nt.below (h : Nt base nb S seq cu m ob F w) {w2 : World} {B : Nat} (hB : B ≤ base) (hb : Below B w2 w) (hF : Fr F w w') : Below B w2 w' :=
  hb.trans (hF.below (Nat.le_trans hB h.bsz) (fun k hk => Nat.le_trans hB (h.ge k hk)))

theorem nt_step {v v' ch : Value} {l l' : List Nd} (hI : NetI nb base v l seq cu ch w) (hch : ChOk ch w) (hcw : CutW m ob w) (hmF : ∀ b, m = some b → ¬ sendS nb v ch b) (hge : ∀ k, sendS nb v ch k → base ≤ k ∧ k < w.heap.size) (hb : base ≤ w.heap.size)
    (hI' : NetI nb base v' l' seq' cu ch w') (hp : l'.Perm S') (hF : Fr (netF nb v) w w') (hl : ∀ g, v'.ownBlock = some g → Lies v g w.heap.size) : ∃ F', Nt base nb S' seq' cu m ob F' w' ∧ Step (sendS nb v ch) F' w w' := by
  have hFF : Fr (sendS nb v ch) w w' := hF.mono (fun _ _ h => .inl h)
  have hst : ∀ k, sendS nb v' ch k → sendS nb v ch k ∨ w.heap.size ≤ k := by
    rintro k ((hk | hk) | hk)
    · exact .inl (.inl (.inl hk))
    · rcases hl k hk with h | h
      · exact .inl (.inl (.inr h))
      · exact .inr h
    · exact .inl (.inr hk)
  have hcw' := hcw.keep hFF hmF
  have hchk : ∀ c, ch = .chan (some c) → ¬ netF nb v c := fun c hc => by
    rcases hch with h | ⟨c', s, r, h1, h2⟩
    · rw [h] at hc; cases hc
    · rw [h1] at hc
      have e : c' = c := by injection hc with hc; injection hc
      rw [← e]
      exact hI.not_chan h2
  have hch' := hch.keep hF hchk
  refine ⟨sendS nb v' ch, ⟨v', ch, l', hI', hp, hch', hcw', ?_, ?_, Nat.le_trans hb hF.size, rfl⟩, hFF, hst⟩
  · intro b hb' hk
    have hlt := (Array.getElem?_eq_some_iff.1 (hcw b hb')).1
    rcases hst b hk with h | h
    · exact hmF b hb' h
    · omega
  · rintro k hk
    refine ⟨?_, ?_⟩
    · rcases hst k hk with h | h
      · exact (hge k h).1
      · omega
    · rcases hk with (hk | hk) | hk
      · rw [hk]; exact cell_lt hI'.c1
      · exact (hI'.h.2.2.1.lt k hk).2
      · rcases hch' with h | ⟨c', s, r, h1, h2⟩
        · rw [h] at hk; cases hk
        · rw [h1] at hk
          have e : c' = k := by injection hk with hk; injection hk
          rw [← e]
          exact (Array.getElem?_eq_some_iff.1 h2).1
end

theorem nt_new (w : World) :
    Calls Try.prog 9 #[] w fun e w' => e = .returned (.pointer (some ⟨w.heap.size, 0, none⟩)) ∧ Nt w.heap.size w.heap.size [] 0 (.map none) none (.deferred none) (fun k => k = w.heap.size) w' ∧ Below w.heap.size w w' := by
  refine (net_new w).mono ?_
  rintro e w' ⟨rfl, hI, hb⟩
  refine ⟨rfl, ⟨.slice none 0 0, .chan none, [], hI, by simp, .inl rfl, (fun _ h => (by cases h)), (fun _ h => (by cases h)), (fun k hk => ⟨(by have : k = w.heap.size := hk; omega), (by have : k = w.heap.size := hk; rw [this]; exact cell_lt hI.c1)⟩), hb.size, ?_⟩, hb⟩
  funext k
  simp [sendS, netF, Value.ownBlock]

section
variable {base nb : Nat} {S : List Nd} {seq : Int} {cu : Value} {m : Option Nat} {ob : Obj} {F : Nat → Prop} {w : World}

theorem nt_len (h : Nt base nb S seq cu m ob F w) : Calls Try.prog 11 #[.pointer (some ⟨nb, 0, none⟩)] w fun e w' => e = .returned (.int .i64 S.length) ∧ w = w' := by
  obtain ⟨v, ch, l, hI, hp, hch, hcw, hmF, hge, hb, rfl⟩ := h
  rw [← hp.length_eq]
  exact net_len nb base v l seq cu ch w hI

theorem nt_send (at' : Int) (cut : Int → Int → Bool) (ps : List Pk) (p : Option Addr) (n cap : Nat) (h : Nt base nb S seq cu m ob F w)
    (hlk : Hid (∀ k, k < n → ∀ W, CutW m ob W → look cu (HL.el ps k).fr (HL.el ps k).to (cut (HL.el ps k).fr (HL.el ps k).to) W))
    (hR : RdG pcells w w.heap.size p n ps) (hRS : ∀ b o, p = some ⟨b, o, none⟩ → ¬ F b) (hda : Hid (∀ k, k < n → (HL.el ps k).da.size ≤ 1000000)) (hn : n ≤ 100000) (hs0 : 0 ≤ seq) (hs : seq ≤ 500000) :
    Calls Try.prog 10 #[.pointer (some ⟨nb, 0, none⟩), .int .i64 at', .slice p n cap] w fun e w' => e = .returned (.int .i64 (accept cut at' S.length seq ps).length) ∧
      ∃ F', Nt base nb (S ++ accept cut at' S.length seq ps) (seq + (accept cut at' S.length seq ps).length) cu m ob F' w' ∧ Step F F' w w' := by
  obtain ⟨v, ch, l, hI, hp, hch, hcw, hmF, hge, hb, rfl⟩ := h
  rw [← hp.length_eq]
  have hend : ∀ e w', SendPost (sendS nb v ch) nb base v l seq cu ch m ob w (accept cut at' l.length seq ps) e w' → e = .returned (.int .i64 (accept cut at' l.length seq ps).length) ∧
      ∃ F', Nt base nb (S ++ accept cut at' l.length seq ps) (seq + (accept cut at' l.length seq ps).length) cu m ob F' w' ∧ Step (sendS nb v ch) F' w w' := by
    rintro e w' ⟨rfl, c, v', l', hr, hc⟩
    obtain ⟨s, r, hcc⟩ := hr.chan
    have hst : ∀ k, sendS nb v' (.chan (some c)) k → sendS nb v ch k ∨ w.heap.size ≤ k := by
      rintro k ((hk | hk) | hk)
      · exact .inl (.inl (.inl hk))
      · rcases hr.lies k hk with h | h
        · exact .inl (.inl (.inr h))
        · exact .inr h
      · have e : c = k := by injection hk with hk; injection hk
        subst e
        exact hc.imp (fun h => .inr h) id
    refine ⟨rfl, _, ⟨v', .chan (some c), l', hr.net, hr.perm.trans (hp.append_right _), .inr ⟨c, s, r, rfl, hcc⟩, hr.cutw, ?_, ?_, Nat.le_trans hb hr.fr.size, rfl⟩, hr.fr, hst⟩
    · intro b hb' hk
      have hlt := (Array.getElem?_eq_some_iff.1 (hcw b hb')).1
      rcases hst b hk with h | h
      · exact hmF b hb' h
      · omega
    · intro k hk
      refine ⟨?_, ?_⟩
      · rcases hst k hk with h | h
        · exact (hge k h).1
        · omega
      · rcases hk with (hk | hk) | hk
        · rw [hk]; exact cell_lt hr.net.c1
        · exact (hr.net.h.2.2.1.lt k hk).2
        · have e : c = k := by injection hk with hk; injection hk
          rw [← e]
          exact (Array.getElem?_eq_some_iff.1 hcc).1
  rcases hch with rfl | ⟨c, s, r, rfl, hcc⟩
  · exact (net_send_nil nb base v l seq at' cu m ob w cut ps p n cap hI hcw hmF hlk hR hRS hda hn hs0 hs).mono hend
  · exact (net_send_ch nb base c v l seq at' cu m ob w cut ps p n cap hI ⟨s, r, hcc⟩ hcw hmF hlk hR hRS hda hn hs0 hs).mono hend

/-- Due, of a net that has nothing. -/
theorem nt_due_none (now : Int) (h : Nt base nb [] seq cu m ob F w) :
    Calls Try.prog 15 #[.pointer (some ⟨nb, 0, none⟩), .int .i64 now] w fun e w' => e = .returned (.tuple #[pkv 0 0 ByteArray.empty, .bool false]) ∧ Below w.heap.size w w' := by
  obtain ⟨v, ch, l, hI, hp, _⟩ := h
  have : l = [] := List.perm_nil.1 hp
  subst this
  exact net_due_none nb base v seq now cu ch w hI

/-- Due: x, the first of all, is taken if its time has come. -/
theorem nt_due (now : Int) (h : Nt base nb S seq cu m ob F w) (hS : 0 < S.length) :
    ∃ x, x ∈ S ∧ (∀ y ∈ S, wlt y x = false) ∧
      (now < x.at' → Calls Try.prog 15 #[.pointer (some ⟨nb, 0, none⟩), .int .i64 now] w fun e w' => e = .returned (.tuple #[pkv 0 0 ByteArray.empty, .bool false]) ∧ Below w.heap.size w w') ∧
      (x.at' ≤ now → Calls Try.prog 15 #[.pointer (some ⟨nb, 0, none⟩), .int .i64 now] w fun e w' => e = .returned (.tuple #[pkv x.fr x.to x.da, .bool true]) ∧
        ∃ S' F', (x :: S').Perm S ∧ Nt base nb S' seq cu m ob F' w' ∧ Step F F' w w') := by
  obtain ⟨v, ch, l, hI, hp, hch, hcw, hmF, hge, hb, rfl⟩ := h
  have hl : 0 < l.length := by rw [hp.length_eq]; exact hS
  refine ⟨HL.el l 0, hp.mem_iff.1 (HL.el_mem l 0 hl), fun y hy => hI.hp.least_mem wlt_ord y (hp.mem_iff.2 hy), fun hn => net_due_early nb base v l seq now cu ch w hI hl hn, fun hn => (net_due_take nb base v l seq now cu ch w hI hl hn).mono ?_⟩
  rintro e w' ⟨rfl, v', l', hI', hp', hF, hv⟩
  obtain ⟨F', hN, hst⟩ := nt_step hI hch hcw hmF hge hb hI' (List.Perm.refl l') hF (fun g hg => .inl (by rw [← hv]; exact hg))
  exact ⟨rfl, l', F', hp'.trans hp, hN, hst⟩

theorem nt_pull (k : Nat) (h : Nt base nb S seq cu m ob F w) (hk : k < S.length) :
    Calls Try.prog 25 #[.pointer (some ⟨nb, 0, none⟩), .int .i64 k] w fun e w' => ∃ (x : Nd) (ts : List Nd), e = .returned (.tuple #[pkv x.fr x.to x.da, .bool true]) ∧ ts.Perm S ∧ SortedD ts ∧ x = HL.el ts k ∧
      ∃ S' F', (x :: S').Perm S ∧ Nt base nb S' seq cu m ob F' w' ∧ Step F F' w w' := by
  obtain ⟨v, ch, l, hI, hp, hch, hcw, hmF, hge, hb, rfl⟩ := h
  have hl : k < l.length := by rw [hp.length_eq]; exact hk
  refine (net_pull_find nb base v l seq k cu ch w hI hl).mono ?_
  rintro e w' ⟨i, ts, rfl, hi, hts, hsd, hel, v', l', hI', hp', hF, hv⟩
  obtain ⟨F', hN, hst⟩ := nt_step hI hch hcw hmF hge hb hI' (List.Perm.refl l') hF (fun g hg => .inl (by rw [← hv]; exact hg))
  exact ⟨_, ts, rfl, hts.trans hp, hsd, hel, l', F', hp'.trans hp, hN, hst⟩
end
end Go.Proofs.Ythdpajgnigilhaa

/- net's Net: Send of one packet; alive of arboretumlaw27 is true. -/
namespace Go.Proofs.Ythdpajgnigilhaa
open Go.RowKit Go.Conc

abbrev pkb (fr to : Int) (da : ByteArray) : Obj := .cells #[.int .i64 fr, .int .i64 to, .string da] 34
theorem rd_one_pk (w : World) (x : Pk) : RdG pcells (w.alloc (pkb x.fr x.to x.da)) (w.alloc (pkb x.fr x.to x.da)).heap.size (some ⟨w.heap.size, 0, none⟩) 1 [x] :=
  ⟨rfl, fun _ => ⟨w.heap.size, 0, rfl, by simp, fun j u hu => by
    have e := new_cells w [.int .i64 x.fr, .int .i64 x.to, .string x.da] 34 j u (by simpa [rowOf, pcells] using hu)
    rw [add_at] at e
    exact e⟩⟩

section
variable {base nb : Nat} {S : List Nd} {seq : Int} {cu : Value} {m : Option Nat} {ob : Obj} {F : Nat → Prop} {w : World}

/-- Send of one packet, which comes into the heap. -/
theorem nt_send1 (at' fr to : Int) (da : ByteArray) (h : Nt base nb S seq cu m ob F w) (hlk : ∀ W, CutW m ob W → look cu fr to false W) (hda : da.size ≤ 1000000) (hroom : S.length < 600) (hs0 : 0 ≤ seq) (hs : seq ≤ 500000) :
    Calls Try.prog 10 #[.pointer (some ⟨nb, 0, none⟩), .int .i64 at', .slice (some ⟨w.heap.size, 0, none⟩) 1 1] (w.alloc (pkb fr to da)) fun e w' => e = .returned (.int .i64 1) ∧
      ∃ F', Nt base nb (S ++ [⟨fr, to, da, at', seq + 1⟩]) (seq + 1) cu m ob F' w' ∧ Step F F' w w' := by
  have hF : Fr (fun _ => False) w (w.alloc (pkb fr to da)) := (Fr.refl _ w).alloc _
  have hlt := h.lt
  have e1 : accept (fun _ _ => false) at' S.length seq [⟨fr, to, da⟩] = [⟨fr, to, da, at', seq + 1⟩] := by simp [accept]; omega
  have hs := nt_send at' (fun _ _ => false) [⟨fr, to, da⟩] (some ⟨w.heap.size, 0, none⟩) 1 1 (h.keep hF (fun _ _ h => h) (fun _ _ h => h)) (Lib.hid (fun k hk W hW => by have e9 : k = 0 := (by omega); subst e9; exact hlk W hW))
    (rd_one_pk w ⟨fr, to, da⟩) (fun b o e hb => by injection e with e; injection e with e _; have := hlt b hb; omega) (Lib.hid (fun k hk => by have e9 : k = 0 := (by omega); subst e9; exact hda)) (by omega) hs0 hs
  rw [e1] at hs
  refine hs.mono ?_
  rintro e w' ⟨rfl, F', hN, hst⟩
  exact ⟨rfl, F', hN, Fr.trans (hF.mono (fun _ _ h => h.elim)) hst.1 (fun i hi _ => hi), fun k hk => (hst.2 k hk).imp id (fun h => Nat.le_trans hF.size h)⟩

/-- Send of one packet, which is lost. -/
theorem nt_send1_no (at' fr to : Int) (da : ByteArray) (b : Bool) (h : Nt base nb S seq cu m ob F w) (hlk : ∀ W, CutW m ob W → look cu fr to b W) (hda : da.size ≤ 1000000) (hroom : b = true ∨ 600 ≤ S.length) (hs0 : 0 ≤ seq) (hs : seq ≤ 500000) :
    Calls Try.prog 10 #[.pointer (some ⟨nb, 0, none⟩), .int .i64 at', .slice (some ⟨w.heap.size, 0, none⟩) 1 1] (w.alloc (pkb fr to da)) fun e w' => e = .returned (.int .i64 0) ∧
      ∃ F', Nt base nb S seq cu m ob F' w' ∧ Step F F' w w' := by
  have hF : Fr (fun _ => False) w (w.alloc (pkb fr to da)) := (Fr.refl _ w).alloc _
  have hlt := h.lt
  have e1 : accept (fun _ _ => b) at' S.length seq [⟨fr, to, da⟩] = [] := by
    rcases hroom with h | h <;> simp [accept, h]
  have hs := nt_send at' (fun _ _ => b) [⟨fr, to, da⟩] (some ⟨w.heap.size, 0, none⟩) 1 1 (h.keep hF (fun _ _ h => h) (fun _ _ h => h)) (Lib.hid (fun k hk W hW => by have e9 : k = 0 := (by omega); subst e9; exact hlk W hW))
    (rd_one_pk w ⟨fr, to, da⟩) (fun b o e hb => by injection e with e; injection e with e _; have := hlt b hb; omega) (Lib.hid (fun k hk => by have e9 : k = 0 := (by omega); subst e9; exact hda)) (by omega) hs0 hs
  rw [e1] at hs
  refine hs.mono ?_
  rintro e w' ⟨rfl, F', hN, hst⟩
  refine ⟨rfl, F', by simpa using hN, Fr.trans (hF.mono (fun _ _ h => h.elim)) hst.1 (fun i hi _ => hi), fun k hk => (hst.2 k hk).imp id (fun h => Nat.le_trans hF.size h)⟩
end

def sx : ByteArray := ⟨#[120]⟩
def sy : ByteArray := ⟨#[121]⟩

set_option maxHeartbeats 2000000 in
set_option maxRecDepth 100000 in
theorem alive_true (w : World) : Calls Try.prog 8 #[] w fun e w' => e = .returned (.bool true) ∧ Below w.heap.size w w' := by
  have hlk : Hid (∀ (W : World), CutW none (.deferred none) W → look (.map none) 0 0 false W) := Lib.hid (fun W _ => look_nil 0 0 W)
  go_enter Try.func8, Try.ntmps8
  go_wp2_with fail
  refine (nt_new w).mono ?_
  rintro e w1 ⟨rfl, hN1, hb1⟩
  have HB1 := Lib.hid hb1
  have HS1 := Lib.hid (nt_send1 5 0 0 sx hN1 hlk.out (by decide) (by simp) (by omega) (by omega))
  have HN1 := Lib.hid hN1
  clear hb1 hN1
  go_wp2_with fail
  refine HS1.out.mono ?_
  rintro e w2 ⟨rfl, F2, hN2, hst2⟩
  have HT2 := Lib.hid hst2
  have HS2 := Lib.hid (nt_send1 3 0 0 sy hN2 hlk.out (by decide) (by simp) (by omega) (by omega))
  clear hN2 hst2 HS1
  go_wp2_with fail
  refine HS2.out.mono ?_
  rintro e w3 ⟨rfl, F3, hN3, hst3⟩
  have HT3 := Lib.hid (HT2.out.trans hst3)
  have HN3 := Lib.hid hN3
  clear hN3 hst3 HS2 HT2
  obtain ⟨x, hx, hmin, -, hdue⟩ := nt_due 4 HN3.out (by simp)
  have hxe : x = ⟨0, 0, sy, 3, 0 + 1 + 1⟩ := by
    simp only [List.nil_append, List.cons_append, List.mem_cons, List.not_mem_nil, or_false] at hx
    rcases hx with rfl | rfl
    · have := hmin ⟨0, 0, sy, 3, 0 + 1 + 1⟩ (by simp)
      rw [wlt_false] at this
      simp at this
    · rfl
  subst hxe
  have HD := Lib.hid (hdue (by simp))
  clear hx hmin hdue
  go_wp2_with fail
  refine HD.out.mono ?_
  rintro e w4 ⟨rfl, S4, F4, hp4, hN4, hst4⟩
  have hS4 : S4 = [⟨0, 0, sx, 5, 0 + 1⟩] := by
    have h1 : (⟨0, 0, sy, 3, 0 + 1 + 1⟩ :: S4).Perm (⟨0, 0, sy, 3, 0 + 1 + 1⟩ :: [⟨0, 0, sx, 5, 0 + 1⟩]) := hp4.trans (List.Perm.swap _ _ _)
    exact List.perm_singleton.1 (List.Perm.cons_inv h1)
  subst hS4
  have HT4 := Lib.hid (HT3.out.trans hst4)
  have HN4 := Lib.hid hN4
  have HL4 : Hid (∀ k, F4 k → k < w4.heap.size) := Lib.hid hN4.lt
  clear hp4 hN4 hst4 HD HT3
  unfold pkv
  have HN5 := Lib.hid (HN4.out.keep ((Fr.refl (fun _ => False) w4).alloc (pkb 0 0 sy)) (fun _ _ h => h) (fun _ _ h => h))
  obtain ⟨x, hx, -, hdue, -⟩ := nt_due 4 HN5.out (by simp)
  have hxe : x = ⟨0, 0, sx, 5, 0 + 1⟩ := by simpa using hx
  subst hxe
  have HD := Lib.hid (hdue (by simp))
  clear hx hdue
  have y2 : (w4.alloc (pkb 0 0 sy)).cell? ⟨w4.heap.size, 2, none⟩ = some (.string sy) := by go_simp
  have HY := Lib.hid y2
  have hB4 : Hid (w.heap.size ≤ w4.heap.size ∧ w4.heap.size < (w4.alloc (pkb 0 0 sy)).heap.size) := Lib.hid ⟨by have h1 := HB1.out.size; have h2 := HT4.out.1.size; omega, by simp⟩
  clear y2
  go_wp2_with fail
  refine HD.out.mono ?_
  rintro e w6 ⟨rfl, hb6⟩
  have hF6 : Fr (fun _ => False) (w4.alloc (pkb 0 0 sy)) w6 := Fr.of_all (S := fun _ => False) hb6
  have HN6 := Lib.hid (HN5.out.keep hF6 (fun _ _ h => h) (fun _ _ h => h))
  have HY6 := Lib.hid ((hb6.cell (p := ⟨w4.heap.size, 2, none⟩) hB4.out.2).trans HY.out)
  have hB6 : Hid (Below w4.heap.size w4 w6) := Lib.hid (((Below.refl _ w4).alloc (Nat.le_refl _) _).trans (hb6.mono (Nat.le_of_lt hB4.out.2)))
  have hz6 : Hid (w4.heap.size < w6.heap.size) := Lib.hid (Nat.lt_of_lt_of_le hB4.out.2 hb6.size)
  clear hb6 hF6 HD HY HN4 HN5
  unfold pkv
  have HN7 := Lib.hid (HN6.out.keep ((Fr.refl (fun _ => False) w6).alloc (pkb 0 0 ByteArray.empty)) (fun _ _ h => h) (fun _ _ h => h))
  have HP := Lib.hid (nt_pull 0 HN7.out (by simp))
  go_wp2_with fail
  refine HP.out.mono ?_
  rintro e w8 ⟨x, ts, rfl, hts, -, hxe, S8, F8, hp8, hN8, hst8⟩
  have hts' : ts = [⟨0, 0, sx, 5, 0 + 1⟩] := List.perm_singleton.1 hts
  subst hts'
  have hxe' : x = ⟨0, 0, sx, 5, 0 + 1⟩ := hxe
  subst hxe'
  have hS8 : S8 = [] := by have := hp8.length_eq; simpa using this
  subst hS8
  have hF68 : Hid (Fr F4 w4 w8) := Lib.hid (Fr.trans (Fr.trans (Fr.of_all (S := F4) hB6.out) ((Fr.refl F4 w6).alloc (pkb 0 0 ByteArray.empty)) (fun _ h _ => h)) hst8.1 (fun _ h _ => h))
  have HT8 := Lib.hid (HT4.out.1.size)
  have HLT4 : Hid (¬ F4 w4.heap.size) := Lib.hid (fun h => by have := HN6.out.lt; have h2 := HT4.out; have h3 := HL4.out _ h; omega)
  have y8 : w8.cell? ⟨w4.heap.size, 2, none⟩ = some (.string sy) := (hst8.1.cell (p := ⟨w4.heap.size, 2, none⟩) (by have := hz6.out; simp; omega) HLT4.out).trans (by rw [World.cell?_alloc_lt _ _ _ hz6.out]; exact HY6.out)
  have hz8 : w4.heap.size < w8.heap.size := by have h1 := hz6.out; have h2 := hst8.1.size; simp at h2; omega
  have HN9 := Lib.hid (hN8.keep ((Fr.refl (fun _ => False) w8).alloc (pkb 0 0 sx)) (fun _ _ h => h) (fun _ _ h => h))
  have HB8 : Hid (Below w.heap.size w w8) := Lib.hid (HB1.out.trans ((Fr.trans HT4.out.1 hF68.out (fun i hi hlt => (HT4.out.2 i hi).resolve_right (by omega))).below HB1.out.size (fun i hi => by have : i = w.heap.size := hi; omega)))
  clear hst8 hN8 hp8 hts hxe HP HN7 HN6
  unfold pkv
  have HLE := Lib.hid (nt_len HN9.out)
  have hqx : sx.toList = [120] := by kernel_rfl
  have hqy : sy.toList = [121] := by kernel_rfl
  go_wp2_with (go_at_call 11; refine HLE.out.mono ?_; rintro e w9 ⟨rfl, rfl⟩)
  go_ret
  exact ⟨rfl, HB8.out.alloc HB8.out.size _⟩
end Go.Proofs.Ythdpajgnigilhaa

/- net's Net as a whole: Drop, Clear, many empty packets at once. -/
namespace Go.Proofs.Ythdpajgnigilhaa
open Go.RowKit Go.Conc

theorem el_replicate (n k : Nat) (x : Pk) (hk : k < n) : HL.el (List.replicate n x) k = x := by
  simp [HL.el, List.getD, hk]

theorem made_pk (n : Nat) : (madeCells (Value.cells (.agg #[.int .i64 0, .int .i64 0, .string ByteArray.empty])) (n * 3)).toList = rowOf pcells (List.replicate n ⟨0, 0, ByteArray.empty⟩) := by
  apply List.ext_getElem?
  intro t
  have hl := rowOf_length pcells pcells_length (List.replicate n ⟨0, 0, ByteArray.empty⟩)
  rw [List.length_replicate] at hl
  by_cases ht : t < n * 3
  · have hd : t / 3 < n := by omega
    have hm : t % 3 < 3 := by omega
    have r := rowOf_at pcells pcells_length (List.replicate n ⟨0, 0, ByteArray.empty⟩) (t / 3) (t % 3) (by rw [List.length_replicate]; exact hd) hm
    rw [show t / 3 * 3 + t % 3 = t by omega] at r
    rw [r]
    have e1 : (List.replicate n (⟨0, 0, ByteArray.empty⟩ : Pk)).getD (t / 3) default = ⟨0, 0, ByteArray.empty⟩ := el_replicate n (t / 3) _ hd
    rw [e1]
    have e2 : (madeCells (Value.cells (.agg #[.int .i64 0, .int .i64 0, .string ByteArray.empty])) (n * 3)).toList[t]? = some ((#[Value.int .i64 0, .int .i64 0, .string ByteArray.empty])[t % 3]!) := by
      unfold madeCells
      rw [Array.getElem?_toList, Array.getElem?_map, Array.getElem?_range, if_pos ht]
      rfl
    rw [e2]
    have h3 : t % 3 = 0 ∨ t % 3 = 1 ∨ t % 3 = 2 := by omega
    rcases h3 with h | h | h <;> rw [h] <;> rfl
  · rw [List.getElem?_eq_none (by simp [size_madeCells]; omega), List.getElem?_eq_none (by omega)]

theorem info_pk : (Try.prog.info? 34).map (fun i => (i.zero, i.size, i.bytes)) = some (some (.agg #[.int .i64 0, .int .i64 0, .string ByteArray.empty]), 3, 32) := by kernel_rfl

/-- 'make([]net.Packet, n)'. -/
theorem make_pk (n : Nat) (hn : n ≤ 1000) (w : World) : ∃ W, (Instr.makeSlice 26 (.int .i64 n) (.int .i64 n)).run Try.prog w = .ok (.slice (some ⟨w.heap.size, 0, none⟩) n n) W ∧
    RdG pcells W W.heap.size (some ⟨w.heap.size, 0, none⟩) n (List.replicate n ⟨0, 0, ByteArray.empty⟩) ∧ Fr (fun _ => False) w W := by
  obtain ⟨i0, hi0, hz0, hz1, hz2⟩ := info_parts info_pk
  obtain ⟨W, h1, h2, h3⟩ := run_make_full (P := Try.prog) w w.heap.size 26 34 i0 _ 3 Try.underlying26 hi0 hz0 hz1 .i64 .i64 n (by rw [hz2]; omega) (by unfold maxLen; omega) (Nat.le_refl _)
  refine ⟨W, h1, ?_, Fr.of_grown h3 (fun _ _ e => by cases e)⟩
  rw [made_pk] at h2
  exact RdG.of_own h2 (by simp)

theorem accept_rep (at' : Int) (n0 : Nat) (s0 : Int) (n : Nat) (x : Pk) : (accept (fun _ _ => false) at' n0 s0 (List.replicate n x)).length = min n (600 - n0) := by
  induction n with
  | zero => simp [accept]
  | succ n ih =>
    rw [List.replicate_succ', accept_snoc]
    simp only [Bool.false_or]
    by_cases h : 600 ≤ n0 + (accept (fun _ _ => false) at' n0 s0 (List.replicate n x)).length
    · rw [if_pos (by simpa using h)]; omega
    · rw [if_neg (by simpa using h), List.length_append, List.length_singleton]; omega

section
variable {base nb : Nat} {S : List Nd} {seq : Int} {cu : Value} {m : Option Nat} {ob : Obj} {F : Nat → Prop} {w : World}

/-- Send of n empty packets. -/
theorem nt_send_many (at' : Int) (n : Nat) (W : World) (hn : n ≤ 1000) (h : Nt base nb S seq cu m ob F w) (hlk : ∀ W, CutW m ob W → look cu 0 0 false W) (hR : RdG pcells W W.heap.size (some ⟨w.heap.size, 0, none⟩) n (List.replicate n ⟨0, 0, ByteArray.empty⟩)) (hF : Fr (fun _ => False) w W) (hs0 : 0 ≤ seq) (hs : seq ≤ 500000) :
    Calls Try.prog 10 #[.pointer (some ⟨nb, 0, none⟩), .int .i64 at', .slice (some ⟨w.heap.size, 0, none⟩) n n] W fun e w' => e = .returned (.int .i64 ((min n (600 - S.length) : Nat) : Int)) ∧
      ∃ S' F', S'.length = S.length + min n (600 - S.length) ∧ Nt base nb S' (seq + (min n (600 - S.length) : Nat)) cu m ob F' w' ∧ Step F F' w w' := by
  have hlt := h.lt
  have hs := nt_send at' (fun _ _ => false) (List.replicate n ⟨0, 0, ByteArray.empty⟩) (some ⟨w.heap.size, 0, none⟩) n n (h.keep hF (fun _ _ h => h) (fun _ _ h => h)) (Lib.hid (fun k hk W hW => by rw [el_replicate n k _ hk]; exact hlk W hW))
    hR (fun b o e hb => by injection e with e; injection e with e _; have := hlt b hb; omega) (Lib.hid (fun k hk => by rw [el_replicate n k _ hk]; decide)) (by omega) hs0 hs
  rw [accept_rep] at hs
  refine hs.mono ?_
  rintro e w' ⟨rfl, F', hN, hst⟩
  refine ⟨rfl, _, F', ?_, hN, Fr.trans (hF.mono (fun _ _ h => h.elim)) hst.1 (fun i hi _ => hi), fun k hk => (hst.2 k hk).imp id (fun h => Nat.le_trans hF.size h)⟩
  rw [List.length_append, accept_rep]

set_option maxRecDepth 100000 in
theorem nt_drop (k : Nat) (h : Nt base nb S seq cu m ob F w) (hk : k < S.length) :
    Calls Try.prog 12 #[.pointer (some ⟨nb, 0, none⟩), .int .i64 k] w fun e w' => e = .returned (.bool true) ∧ ∃ (x : Nd) (ts : List Nd), ts.Perm S ∧ SortedD ts ∧ x = HL.el ts k ∧
      ∃ S' F', (x :: S').Perm S ∧ Nt base nb S' seq cu m ob F' w' ∧ Step F F' w w' := by
  have HP := Lib.hid (nt_pull k h hk)
  clear h
  go_enter Try.func12, Try.ntmps12
  go_wp2_with fail
  refine HP.out.mono ?_
  rintro e w1 ⟨x, ts, rfl, hts, hsd, hx, S', F', hp, hN, hst⟩
  have HH := Lib.hid (And.intro hts (And.intro hsd (And.intro hx (And.intro hp (And.intro hN hst)))))
  clear hts hsd hx hp hN hst
  unfold pkv
  go_wp2
  go_ret
  obtain ⟨h1, h2, h3, h4, h5, h6⟩ := HH.out
  exact ⟨rfl, x, ts, h1, h2, h3, S', F', h4, h5.keep ((Fr.refl (fun _ => False) w1).alloc _) (fun _ _ h => h) (fun _ _ h => h), h6.1.alloc _, h6.2⟩

theorem NetI.cleared {v : Value} {l : List Nd} {ch : Value} (h : NetI nb base v l seq cu ch w) :
    NetI nb base (.slice none 0 0) [] seq cu ch (w.setCell ⟨nb, 0, none⟩ (.slice none 0 0)) ∧ Fr (fun k => k = nb) w (w.setCell ⟨nb, 0, none⟩ (.slice none 0 0)) := by
  obtain ⟨⟨a1, a2, a3, a4, a5, a6⟩, b, c, d, e, f, g, i⟩ := h
  have hF : Fr (fun k => k = nb) w (w.setCell ⟨nb, 0, none⟩ (.slice none 0 0)) := (Fr.refl (fun k => k = nb) w).setCell (p := ⟨nb, 0, none⟩) (fun _ => rfl) _
  refine ⟨⟨⟨cell_set_same _ _ _ _ a1, by rw [frozen_set]; exact a2, World.ownsRow_nil _ _ _ _, by simp [Value.ownBlock], by simp, Nat.le_trans a6 hF.size⟩, ?_, by rw [frozen_set]; exact c, ?_, by rw [frozen_set]; exact e, ?_, by rw [frozen_set]; exact g, HL.isHeap_nil⟩, hF⟩
  · rw [World.cell?_setCell_other _ _ _ _ (by simp)]; exact b
  · rw [World.cell?_setCell_other _ _ _ _ (by simp)]; exact d
  · rw [World.cell?_setCell_other _ _ _ _ (by simp)]; exact f

set_option maxRecDepth 100000 in
theorem nt_clear (h : Nt base nb S seq cu m ob F w) (hS : 0 < S.length) :
    Calls Try.prog 13 #[.pointer (some ⟨nb, 0, none⟩)] w fun e w' => e = .returned (.int .i64 S.length) ∧ ∃ F', Nt base nb [] seq cu m ob F' w' ∧ Step F F' w w' := by
  have HL1 := Lib.hid (nt_len h)
  obtain ⟨v, ch, l, hI, hp, hch, hcw, hmF, hge, hb, rfl⟩ := h
  have hc0 := hI.h.1
  have hf0 := hI.h.2.1
  have hlt := cell_lt hI.c1
  obtain ⟨q, d, hv⟩ := owns_slice hI.h.2.2.1
  have hst := nt_step hI hch hcw hmF hge hb hI.cleared.1 (List.Perm.refl []) (hI.cleared.2.mono (fun _ _ h => .inl h)) (fun g hg => by simp [Value.ownBlock] at hg)
  have HST := Lib.hid hst
  clear hst hI hch hcw hmF hge hb hp
  rw [hv] at hc0
  clear hv
  go_enter Try.func13, Try.ntmps13
  go_wp2_with fail
  refine HL1.out.mono ?_
  rintro e w1 ⟨rfl, rfl⟩
  go_wp2
  go_ret
  exact ⟨rfl, HST.out⟩
end
end Go.Proofs.Ythdpajgnigilhaa

/- net's Net as a whole: Double, Delay; what there is not. -/
namespace Go.Proofs.Ythdpajgnigilhaa
open Go.RowKit Go.Conc

set_option maxRecDepth 100000 in
theorem net_find_no (nb base : Nat) (v : Value) (l : List Nd) (seq : Int) (k : Nat) (cu ch : Value) (w : World) (h : NetI nb base v l seq cu ch w) (hk : l.length ≤ k) :
    Calls Try.prog 35 #[.pointer (some ⟨nb, 0, none⟩), .int .i64 k] w fun e w' => e = .returned (.int .i64 (-1)) ∧ w' = w := by
  obtain ⟨q, d, hv⟩ := owns_slice h.h.2.2.1
  have hc := h.h.1
  rw [hv] at hc
  have hk0 : ¬ (k : Int) < 0 := by omega
  have hkl : (l.length : Int) ≤ k := by omega
  clear h hv
  generalize l.length = n at *
  go_enter Try.func35, Try.ntmps35
  go_wp2
  go_ret
  exact ⟨rfl, rfl⟩

section
variable {base nb : Nat} {S : List Nd} {seq : Int} {cu : Value} {m : Option Nat} {ob : Obj} {F : Nat → Prop} {w : World}

theorem nt_find_no (k : Nat) (h : Nt base nb S seq cu m ob F w) (hk : S.length ≤ k) : Calls Try.prog 35 #[.pointer (some ⟨nb, 0, none⟩), .int .i64 k] w fun e w' => e = .returned (.int .i64 (-1)) ∧ w' = w := by
  obtain ⟨v, ch, l, hI, hp, _⟩ := h
  exact net_find_no nb base v l seq k cu ch w hI (by rw [hp.length_eq]; exact hk)

set_option maxRecDepth 100000 in
theorem nt_pull_no (k : Nat) (h : Nt base nb S seq cu m ob F w) (hk : S.length ≤ k) :
    Calls Try.prog 25 #[.pointer (some ⟨nb, 0, none⟩), .int .i64 k] w fun e w' => e = .returned (.tuple #[pkv 0 0 ByteArray.empty, .bool false]) ∧ Below w.heap.size w w' := by
  have HF := Lib.hid (fun o => nt_find_no k (h.keep ((Fr.refl (fun _ => False) w).alloc o) (fun _ _ h => h) (fun _ _ h => h)) hk)
  clear h
  go_enter Try.func25, Try.ntmps25
  go_wp2_with fail
  refine (HF.out _).mono ?_
  rintro e w1 ⟨rfl, rfl⟩
  go_wp2
  exact bodyPost_ret (v := .tuple #[pkv 0 0 ByteArray.empty, .bool false]) (by simp [results, Try.results25, go_sem, pkv]; rfl) rfl ⟨rfl, by repeat (first | exact Below.refl _ _ | refine Below.drew ?_ | refine Below.alloc ?_ (by simp) _ | refine Below.setCell ?_ (by simp) _)⟩

set_option maxRecDepth 100000 in
theorem nt_drop_no (k : Nat) (h : Nt base nb S seq cu m ob F w) (hk : S.length ≤ k) :
    Calls Try.prog 12 #[.pointer (some ⟨nb, 0, none⟩), .int .i64 k] w fun e w' => e = .returned (.bool false) ∧ Below w.heap.size w w' := by
  have HP := Lib.hid (nt_pull_no k h hk)
  clear h
  go_enter Try.func12, Try.ntmps12
  go_wp2_with fail
  refine HP.out.mono ?_
  rintro e w1 ⟨rfl, hb⟩
  have HB := Lib.hid hb
  clear hb
  unfold pkv
  go_wp2
  go_ret
  exact ⟨rfl, HB.out.alloc HB.out.size _⟩

set_option maxRecDepth 100000 in
theorem nt_double_no (k : Nat) (h : Nt base nb S seq cu m ob F w) (hk : S.length ≤ k) :
    Calls Try.prog 16 #[.pointer (some ⟨nb, 0, none⟩), .int .i64 k] w fun e w' => e = .returned (.bool false) ∧ w' = w := by
  have HF := Lib.hid (nt_find_no k h hk)
  clear h
  go_enter Try.func16, Try.ntmps16
  go_wp2_with fail
  refine HF.out.mono ?_
  rintro e w1 ⟨rfl, rfl⟩
  go_wp2
  go_ret
  exact ⟨rfl, rfl⟩

set_option maxRecDepth 100000 in
theorem nt_delay_no (k : Nat) (by' : Int) (h : Nt base nb S seq cu m ob F w) (hk : S.length ≤ k) :
    Calls Try.prog 17 #[.pointer (some ⟨nb, 0, none⟩), .int .i64 k, .int .i64 by'] w fun e w' => e = .returned (.bool false) ∧ w' = w := by
  have HF := Lib.hid (nt_find_no k h hk)
  clear h
  go_enter Try.func17, Try.ntmps17
  go_wp2_with fail
  refine HF.out.mono ?_
  rintro e w1 ⟨rfl, rfl⟩
  go_wp2
  go_ret
  exact ⟨rfl, rfl⟩

set_option maxHeartbeats 1000000 in
set_option maxRecDepth 100000 in
theorem nt_double (k : Nat) (h : Nt base nb S seq cu m ob F w) (hk : k < S.length) (hroom : S.length < 600) (hs0 : 0 ≤ seq) (hs : seq ≤ 500000) :
    Calls Try.prog 16 #[.pointer (some ⟨nb, 0, none⟩), .int .i64 k] w fun e w' => e = .returned (.bool true) ∧ ∃ (x : Nd) (ts : List Nd), ts.Perm S ∧ SortedD ts ∧ x = HL.el ts k ∧
      ∃ F', Nt base nb (S ++ [⟨x.fr, x.to, x.da, x.at', seq + 1⟩]) (seq + 1) cu m ob F' w' ∧ Step F F' w w' := by
  obtain ⟨v, ch, l, hI, hp, hch, hcw, hmF, hge, hb, rfl⟩ := h
  have hl : k < l.length := by rw [hp.length_eq]; exact hk
  have hl6 : l.length < 600 := by rw [hp.length_eq]; exact hroom
  have HF := Lib.hid (net_find nb base v l seq k cu ch w hI hl)
  have HE := Lib.hid (fun (x : Nd) (w1 w' : World) (v' : Value) (l' : List Nd) (hb1 : Below w.heap.size w w1) (hN : NetI nb base v' l' (seq + 1) cu ch w') (hpp : l'.Perm (l ++ [⟨x.fr, x.to, x.da, x.at', seq + 1⟩])) (hF : Fr (netF nb v) w1 w') (hli : ∀ g, v'.ownBlock = some g → Lies v g w1.heap.size) =>
    nt_step hI hch hcw hmF hge hb hN (hpp.trans (hp.append_right [⟨x.fr, x.to, x.da, x.at', seq + 1⟩])) (Fr.trans (Fr.of_all (S := netF nb v) hb1) hF (fun _ h _ => h)) (fun g hg => (hli g hg).imp id (fun h => Nat.le_trans hb1.size h)))
  have HP := Lib.hid hp
  obtain ⟨g, cap, hv, -, hg, -⟩ := owns_len hI.h.2.2.1 (by omega)
  have HI := Lib.hid hI
  have hlt := cell_lt hI.c1
  have hv0 := hI.h.1
  rw [hv] at hv0
  have HV := Lib.hid hv
  clear hI hch hcw hmF hge hb hp hv hroom hk
  go_enter Try.func16, Try.ntmps16
  go_wp2_with fail
  refine HF.out.mono ?_
  rintro e w1 ⟨i, ts, rfl, hi, hts, hsd, hel, hb1⟩
  have hi0 : ¬ (i : Int) < 0 := by omega
  have hfull : ¬ (600 : Int) ≤ l.length := by omega
  have HTS := Lib.hid (And.intro hts (And.intro hsd hel))
  have HB1 := Lib.hid hb1
  have hI1 := HI.out.keep (Fr.of_all (S := fun _ => False) hb1) (fun _ _ h => h)
  have hv1 : w1.cell? ⟨nb, 0, none⟩ = some (.slice (some ⟨g, 0, none⟩) l.length cap) := (hb1.cell (p := ⟨nb, 0, none⟩) hlt).trans hv0
  have hnw1 : nb < w1.heap.size := by have := hb1.size; omega
  have hI1' := HV.out ▸ hI1
  have hx := hI1'.h.cells rfl i hi
  have HI1 := Lib.hid hI1
  clear hts hsd hel hb1 hI1 hI1' hv0 hlt
  obtain ⟨x, hxe⟩ : ∃ x, HL.el l i = x := ⟨_, rfl⟩
  rw [hxe] at hx
  have HXE := Lib.hid hxe
  clear hxe
  obtain ⟨x0, x1, x2, x3, x4⟩ := hx
  have hgw : g < w1.heap.size := cell_lt x0
  go_wp2_with fail
  refine region_tail 17 (by kernel_rfl) (by kernel_rfl) (fun V => V.cell? ⟨nb, 0, none⟩ = some (.slice (some ⟨g, 0, none⟩) l.length cap) ∧ V.cell? ⟨g, i * 5, none⟩ = some (.int .i64 x.fr) ∧ V.cell? ⟨g, i * 5 + 1, none⟩ = some (.int .i64 x.to) ∧ V.cell? ⟨g, i * 5 + 2, none⟩ = some (.string x.da) ∧ V.cell? ⟨g, i * 5 + 3, none⟩ = some (.int .i64 x.at') ∧ Hid (NetI nb base v l seq cu ch V) ∧ Hid (Below w.heap.size w V)) ⟨hv1, x0, x1, x2, x3, Lib.hid (HI1.out.keep ((Fr.refl (fun _ => False) w1).drew) (fun _ _ h => h)), Lib.hid HB1.out.drew⟩ ?_
  rintro V ⟨c0, d0, d1, d2, d3, HV2, HF2⟩
  clear HI1 HB1 hv1 x0 x1 x2 x3 x4
  have HPU := Lib.hid (net_push nb base v l seq x.at' x.fr x.to x.da cu ch V HV2.out hs0 (by omega) (by omega))
  simp only [List.take_succ_cons, List.take_zero, List.drop_succ_cons, List.drop_zero]
  iterate 17 still_step
  refine wpStill_nil ?_
  go_wp2_with fail
  refine HPU.out.mono ?_
  rintro e w2 ⟨rfl, v', l', hN, hpp, hFr, hli⟩
  have HEND := Lib.hid (HE.out x V w2 v' l' HF2.out hN hpp hFr hli)
  clear hN hpp hFr hli HPU HV2 HE
  go_wp2
  go_ret
  obtain ⟨F', hN, hst⟩ := HEND.out
  exact ⟨rfl, x, ts, HTS.out.1.trans HP.out, HTS.out.2.1, by rw [← HXE.out, HTS.out.2.2], F', hN, hst⟩

set_option maxHeartbeats 1000000 in
set_option maxRecDepth 100000 in
theorem nt_delay (k : Nat) (by' : Int) (h : Nt base nb S seq cu m ob F w) (hk : k < S.length) (hat : ∀ y ∈ S, 0 ≤ y.at' ∧ y.at' ≤ 1000000) (hy0 : 0 ≤ by') (hy : by' ≤ 1000000) (hsl : S.length ≤ 1000) (hs0 : 0 ≤ seq) (hs : seq ≤ 500000) :
    Calls Try.prog 17 #[.pointer (some ⟨nb, 0, none⟩), .int .i64 k, .int .i64 by'] w fun e w' => e = .returned (.bool true) ∧ ∃ (x : Nd) (ts : List Nd), ts.Perm S ∧ SortedD ts ∧ x = HL.el ts k ∧
      ∃ S1 F', (x :: S1).Perm S ∧ Nt base nb (S1 ++ [⟨x.fr, x.to, x.da, x.at' + by', seq + 1⟩]) (seq + 1) cu m ob F' w' ∧ Step F F' w w' := by
  obtain ⟨v, ch, l, hI, hp, hch, hcw, hmF, hge, hb, rfl⟩ := h
  have hl : k < l.length := by rw [hp.length_eq]; exact hk
  have hl6 : l.length ≤ 1000 := by rw [hp.length_eq]; exact hsl
  have HF := Lib.hid (net_find nb base v l seq k cu ch w hI hl)
  have HR0 := Lib.hid (fun (i : Nat) (hn : i < l.length) W (hI : NetI nb base v l seq cu ch W) => heap_remove_nets nb 0 base v l i W hI.h hI.hp hn)
  have HE := Lib.hid (fun (S1 : List Nd) (_ w' : World) (v' : Value) (l' : List Nd) (hN : NetI nb base v' l' (seq + 1) cu ch w') (hpp : l'.Perm S1) (hF : Fr (netF nb v) w w') (hli : ∀ g, v'.ownBlock = some g → Lies v g w.heap.size) =>
    nt_step hI hch hcw hmF hge hb hN hpp hF hli)
  have HAT : Hid (∀ i, i < l.length → 0 ≤ (HL.el l i).at' ∧ (HL.el l i).at' ≤ 1000000) := Lib.hid (fun i hi => hat _ (hp.mem_iff.1 (HL.el_mem l i hi)))
  have HP := Lib.hid hp
  have HI := Lib.hid hI
  have hlt := cell_lt hI.c1
  have hta := ta_wt
  have hyn : ¬ by' < 0 := by omega
  clear hI hch hcw hmF hge hb hp hk hat hsl
  go_enter Try.func17, Try.ntmps17
  go_wp2_with fail
  refine HF.out.mono ?_
  rintro e w1 ⟨i, ts, rfl, hi, hts, hsd, hel, hb1⟩
  have hi0 : ¬ (i : Int) < 0 := by omega
  have HTS := Lib.hid (And.intro hts (And.intro hsd hel))
  have HB1 := Lib.hid hb1
  have HI1 := Lib.hid (HI.out.keep (Fr.of_all (S := fun _ => False) hb1) (fun _ _ h => h))
  have HRM := Lib.hid (HR0.out i hi w1 HI1.out)
  have hxa := HAT.out i hi
  clear hts hsd hel hb1 HR0
  obtain ⟨x, hxe⟩ : ∃ x, HL.el l i = x := ⟨_, rfl⟩
  rw [hxe] at HRM hxa
  have HXE := Lib.hid hxe
  clear hxe
  go_wp2_with fail
  refine HRM.out.mono ?_
  rintro e w2 ⟨u, rfl, v', l', rfl, hI2, hh, hp2, hfr, hv', hoth⟩
  have HN2 : Hid (NetI nb base v' l' seq cu ch w2) := Lib.hid ⟨hI2, (hoth 1 (by omega)).1.trans HI1.out.c1, (hoth 1 (by omega)).2.trans HI1.out.f1, (hoth 2 (by omega)).1.trans HI1.out.c2, (hoth 2 (by omega)).2.trans HI1.out.f2, (hoth 3 (by omega)).1.trans HI1.out.c3, (hoth 3 (by omega)).2.trans HI1.out.f3, hh⟩
  have HFR := Lib.hid (Fr.trans (Fr.of_all (S := netF nb v) HB1.out) hfr (fun i hi _ => hi))
  have HV' := Lib.hid hv'
  have HP2 := Lib.hid hp2
  have hFA : Fr (fun _ => False) w2 (w2.alloc (.cells #[.int .i64 x.fr, .int .i64 x.to, .string x.da, .int .i64 x.at', .int .i64 x.sq] 75)) := (Fr.refl _ w2).alloc _
  have HN3 := Lib.hid (HN2.out.keep hFA (fun _ _ h => h))
  have hll : l'.length < 1000000 := by have := hp2.length_eq; simp at this; omega
  have hcmp : ¬ (9223372036854775807 - by') < x.at' := by omega
  have hadd : IntKind.i64.wrap (x.at' + by') = x.at' + by' := IntWalk.i64_in _ (by omega)
  have HPU := Lib.hid (net_push nb base v' l' seq (x.at' + by') x.fr x.to x.da cu ch _ HN3.out hs0 (by omega) hll)
  have HFA := Lib.hid hFA
  clear hI2 hh hp2 hfr hv' hoth hFA hll HRM HI1 HN2
  go_wp2_with fail
  refine HPU.out.mono ?_
  rintro e w4 ⟨rfl, v3, l3, hN, hpp, hFr, hli⟩
  have HFW : Hid (Fr (netF nb v) w w4) := Lib.hid (Fr.trans (Fr.trans HFR.out (HFA.out.mono (fun _ _ h => h.elim)) (fun _ h _ => h)) hFr (fun i hi _ => by
    rcases hi with hi | hi
    · exact .inl hi
    · exact .inr (by rw [← HV'.out]; exact hi)))
  have hszz : w.heap.size ≤ (w2.alloc (.cells #[.int .i64 x.fr, .int .i64 x.to, .string x.da, .int .i64 x.at', .int .i64 x.sq] 75)).heap.size := Nat.le_trans HFR.out.size HFA.out.size
  have HEND := Lib.hid (HE.out _ w2 w4 v3 l3 hN hpp HFW.out (fun g hg => by
    rcases hli g hg with h | h
    · exact .inl (by rw [← HV'.out]; exact h)
    · exact .inr (Nat.le_trans hszz h)))
  clear hN hpp hFr hli HPU HE hszz
  go_wp2
  go_ret
  obtain ⟨F', hN, hst⟩ := HEND.out
  exact ⟨rfl, x, ts, HTS.out.1.trans HP.out, HTS.out.2.1, by rw [← HXE.out, HTS.out.2.2], l', F', HP2.out.trans HP.out, hN, hst⟩
end
end Go.Proofs.Ythdpajgnigilhaa

/- net's Net: Cut. -/
namespace Go.Proofs.Ythdpajgnigilhaa
open Go.RowKit Go.Conc Go.Maps

theorem laidP : laidOutB Try.prog = true := by kernel_rfl
theorem rowP : (70 : TypeId) < Try.prog.types.size := of_decide_eq_true (by kernel_rfl)
theorem wideP : (match Try.prog.underlying 70 with | some (.array _ _) | some (.struct _) => true | _ => false) = true := by kernel_rfl
set_option maxRecDepth 100000 in
theorem lawP : Keyed Try.prog 70 := Keyed.of_law (deep_law_laid laidP (m := 2) (by omega) rowP (by kernel_rfl) wideP)
theorem zero_unit (w : World) : (zeroValue 67).run Try.prog w = .ok (.agg #[]) w := by kernel_rfl

abbrev DU := DataW Unit
abbrev dA (k : Lit) : DU := DataW.del (.map []) k
abbrev dB (k : Lit) : DU := DataW.put (dA k) k (.agg [])
abbrev dC (k : Lit) : DU := DataW.del (dB k) k
set_option maxRecDepth 100000 in
theorem keysP : ∃ k12 k13 : Lit, keyOf Try.prog 70 (.agg #[.int .i64 1, .int .i64 2]) = some k12 ∧ keyOf Try.prog 70 (.agg #[.int .i64 1, .int .i64 3]) = some k13 ∧
    Maps.has (dB k12) k12 = true ∧ Maps.has (dB k12) k13 = false ∧ Maps.has (dC k12) k12 = false ∧ Maps.has (dC k12) k13 = false :=
  ⟨.string (keyBytes [.int .i64 1, .int .i64 2]), .string (keyBytes [.int .i64 1, .int .i64 3]), by kernel_rfl, by kernel_rfl, by kernel_rfl, by kernel_rfl, by kernel_rfl, by kernel_rfl⟩

/-- Block b is a map that reads as D, whatever else the world is. -/
def CutD (b : Nat) (ob : Obj) (D : DU) : Prop := ∀ W, CutW (some b) ob W → ∃ n, n ≤ 10 ∧ W.ownsMap Try.prog 70 unitElem b n D
theorem cutD_of {w : World} {b n : Nat} {D : DU} (h : w.ownsMap Try.prog 70 unitElem b n D) (hn : n ≤ 10) : ∃ ob, CutD b ob D ∧ CutW (some b) ob w := by
  obtain ⟨es, clock, hb, r⟩ := h
  refine ⟨.map es clock, fun W hW => ⟨n, hn, es, clock, hW b rfl, r⟩, fun b' e => by cases e; exact hb⟩
/-- What a look-up tells. -/
theorem cutD_look {b : Nat} {ob : Obj} {D : DU} (h : CutD b ob D) {x y : Int} {k : Lit} (hk : keyOf Try.prog 70 (.agg #[.int .i64 (min x y), .int .i64 (max x y)]) = some k) (W : World) (hW : CutW (some b) ob W) : look (.map (some b)) x y (Maps.has D k) W := by
  obtain ⟨n, _, ho⟩ := h W hW
  obtain ⟨v, ps, hr, hv⟩ := ho.look_ok lawP Try.underlying48 (zero_unit W) unitElem_mk hk
  have : v = .agg #[] := (unitElem_inv hv).1
  subst this
  exact hr

theorem map_nil_nil (w : World) : (binOp .eql 48 (.map none) (.map none)).run Try.prog w = .ok (.bool true) w := by kernel_rfl
theorem map_some_nil (b : Nat) (w : World) : (binOp .eql 48 (.map (some b)) (.map none)).run Try.prog w = .ok (.bool false) w := by kernel_rfl

theorem fr_turned {w w' : World} {b : Nat} (h : w.mapTurned w' b) : Fr (fun k => k = b) w w' := Fr.of_grown h.grown (fun i _ e => by cases e; rfl)

theorem own_fr {w w' : World} {b n : Nat} {D : DU} (h : w.ownsMap Try.prog 70 unitElem b n D) {T : Nat → Prop} (hF : Fr T w w') (hT : ¬ T b) : w'.ownsMap Try.prog 70 unitElem b n D := by
  obtain ⟨es, clock, hb, r⟩ := h
  exact ⟨es, clock, (hF.block b (Array.getElem?_eq_some_iff.1 hb).1 hT).trans hb, r⟩

set_option maxHeartbeats 2000000 in
set_option maxRecDepth 100000 in
theorem cut_on (nb : Nat) (w : World) (k12 : Lit) (hk : keyOf Try.prog 70 (.agg #[.int .i64 1, .int .i64 2]) = some k12) (hc : w.cell? ⟨nb, 2, none⟩ = some (.map none)) (hf : w.frozen? ⟨nb, 2, none⟩ = false) :
    Calls Try.prog 14 #[.pointer (some ⟨nb, 0, none⟩), .int .i64 2, .int .i64 1, .bool true] w fun e w' => e = .returned (.tuple #[]) ∧ ∃ n, n ≤ 10 ∧ w'.ownsMap Try.prog 70 unitElem w.heap.size n (dB k12) ∧
      Fr (fun k => k = w.heap.size) (w.setCell ⟨nb, 2, none⟩ (.map (some w.heap.size))) w' := by
  have hq := map_nil_nil
  have hmm := @run_makeMap Try.prog
  have hlt := cell_lt hc
  go_enter Try.func14, Try.ntmps14
  go_wp2
  have hsz0 : (w.setCell ⟨nb, 2, none⟩ (.map (some w.heap.size))).heap.size = w.heap.size := by simp [World.setCell]
  have own1 : ((w.setCell ⟨nb, 2, none⟩ (.map (some w.heap.size))).alloc (.map #[] 0)).ownsMap Try.prog 70 (unitElem (H := Unit)) w.heap.size 0 (.map []) := by
    have := World.ownsMap_made (H := Unit) (w.setCell ⟨nb, 2, none⟩ (.map (some w.heap.size))) Try.prog 70 unitElem
    rw [hsz0] at this
    exact this
  have c1 : ((w.setCell ⟨nb, 2, none⟩ (.map (some w.heap.size))).alloc (.map #[] 0)).cell? ⟨nb, 2, none⟩ = some (.map (some w.heap.size)) := by
    rw [World.cell?_alloc_lt _ _ _ (by rw [hsz0]; exact hlt)]
    exact cell_set_same _ _ _ _ hc
  have hF1 : Fr (fun k => k = w.heap.size) (w.setCell ⟨nb, 2, none⟩ (.map (some w.heap.size))) ((w.setCell ⟨nb, 2, none⟩ (.map (some w.heap.size))).alloc (.map #[] 0)) := (Fr.refl _ _).alloc _
  have hz1 : ((w.setCell ⟨nb, 2, none⟩ (.map (some w.heap.size))).alloc (.map #[] 0)).heap.size = w.heap.size + 1 := by rw [World.size_alloc, hsz0]
  generalize hW0 : w.setCell ⟨nb, 2, none⟩ (.map (some w.heap.size)) = W0 at *
  have HW0 := Lib.hid hW0
  clear hW0
  generalize W0.alloc (.map #[] 0) = W1 at *
  have hb1 : w.heap.size < W1.heap.size := by omega
  have hn1 : nb < W1.heap.size := by omega
  have HF1 := Lib.hid hF1
  have hne : ¬ (fun k => k = w.heap.size) nb := by show ¬ nb = w.heap.size; omega
  have HO1 := Lib.hid own1
  have hk' : keyOf Try.prog 70 (.agg #[.int .i64 (min 2 1), .int .i64 (max 2 1)]) = some k12 := by rw [show min (2 : Int) 1 = 1 from rfl, show max (2 : Int) 1 = 2 from rfl]; exact hk
  have HK := Lib.hid hk'
  clear hc hf hq hmm hsz0 hz1 hF1 own1 hk hk'
  go_region_held3 (fun w' => w'.cell? ⟨nb, 2, none⟩ = some (.map (some w.heap.size)))
    (first | go_keep | exact (hF6.cell (p := ⟨nb, 2, none⟩) hn1 hne).trans c1 | exact (hb5.cell (p := ⟨nb, 2, none⟩) hn1).trans (by assumption))
    (first
      | (go_at_call 31; refine (net_ends 2 1 _).mono ?_; rintro e w5 ⟨rfl, hb5⟩; have ho5 := own_fr HO1.out (Fr.trans ((Fr.refl (fun _ => False) W1).drew) (Fr.of_all (S := fun _ => False) hb5) (fun _ h _ => h)) (fun h => h); obtain ⟨w6, hdel, ho6, ht6⟩ := ho5.drop lawP Try.underlying48 HK.out 0; have hF6 : Fr (fun k => k = w.heap.size) W1 w6 := Fr.trans (Fr.trans ((Fr.refl _ W1).drew) (Fr.of_all (S := fun k => k = w.heap.size) hb5) (fun _ h _ => h)) (fr_turned ht6) (fun _ h _ => h)))
  have c6 : w6.cell? ⟨nb, 2, none⟩ = some (.map (some w.heap.size)) := (hF6.cell (p := ⟨nb, 2, none⟩) hn1 hne).trans c1
  have HF6 := Lib.hid (Fr.trans HF1.out hF6 (fun _ h _ => h))
  have HO6 := Lib.hid ho6
  have hz6 := hF6.size
  have hb6 : w.heap.size < w6.heap.size := by omega
  have hn6 : nb < w6.heap.size := by omega
  clear hF6 ho6 ht6 hdel ho5 hb5 hz6 c1 HF1 HO1
  go_wp2
  go_region_held3 (fun w' => w'.cell? ⟨nb, 2, none⟩ = some (.map (some w.heap.size)))
    (first | go_keep | exact (hF8.cell (p := ⟨nb, 2, none⟩) hn6 hne).trans c6 | exact (hb7.cell (p := ⟨nb, 2, none⟩) hn6).trans (by assumption))
    (first
      | (go_at_call 31; refine (net_ends 2 1 _).mono ?_; rintro e w7 ⟨rfl, hb7⟩; have ho7 := own_fr HO6.out (Fr.trans ((Fr.refl (fun _ => False) w6).drew) (Fr.of_all (S := fun _ => False) hb7) (fun _ h _ => h)) (fun h => h); obtain ⟨w8, hput, ho8, ht8⟩ := ho7.store lawP Try.underlying48 (by unfold maxLen; omega) HK.out unitElem_mk; have hF8 : Fr (fun k => k = w.heap.size) w6 w8 := Fr.trans (Fr.trans ((Fr.refl _ w6).drew) (Fr.of_all (S := fun k => k = w.heap.size) hb7) (fun _ h _ => h)) (fr_turned ht8) (fun _ h _ => h)))
  go_wp2
  go_end0
  exact ⟨rfl, _, by omega, ho8, by rw [HW0.out]; exact Fr.trans HF6.out hF8 (fun _ h _ => h)⟩

set_option maxHeartbeats 2000000 in
set_option maxRecDepth 100000 in
theorem cut_off (nb mb n : Nat) (w : World) (k12 : Lit) (D : DU) (hk : keyOf Try.prog 70 (.agg #[.int .i64 1, .int .i64 2]) = some k12) (hc : w.cell? ⟨nb, 2, none⟩ = some (.map (some mb))) (ho : w.ownsMap Try.prog 70 unitElem mb n D) (hne : nb ≠ mb) :
    Calls Try.prog 14 #[.pointer (some ⟨nb, 0, none⟩), .int .i64 1, .int .i64 2, .bool false] w fun e w' => e = .returned (.tuple #[]) ∧ w'.ownsMap Try.prog 70 unitElem mb n (D.del k12) ∧ Fr (fun k => k = mb) w w' := by
  have hq := map_some_nil mb
  have hn1 : nb < w.heap.size := cell_lt hc
  have hk' : keyOf Try.prog 70 (.agg #[.int .i64 (min 1 2), .int .i64 (max 1 2)]) = some k12 := by rw [show min (1 : Int) 2 = 1 from rfl, show max (1 : Int) 2 = 2 from rfl]; exact hk
  have HK := Lib.hid hk'
  have HO1 := Lib.hid ho
  have hne' : ¬ (fun k => k = mb) nb := hne
  clear ho hk hk'
  go_enter Try.func14, Try.ntmps14
  go_wp2
  go_region_held3 (fun w' => w'.cell? ⟨nb, 2, none⟩ = some (.map (some mb)))
    (first | go_keep | exact (hF6.cell (p := ⟨nb, 2, none⟩) hn1 hne').trans hc | exact (hb5.cell (p := ⟨nb, 2, none⟩) hn1).trans (by assumption))
    (first
      | (go_at_call 31; refine (net_ends 1 2 _).mono ?_; rintro e w5 ⟨rfl, hb5⟩; have ho5 := own_fr HO1.out (Fr.trans ((Fr.refl (fun _ => False) w).drew) (Fr.of_all (S := fun _ => False) hb5) (fun _ h _ => h)) (fun h => h); obtain ⟨w6, hdel, ho6, ht6⟩ := ho5.drop lawP Try.underlying48 HK.out 0; have hF6 : Fr (fun k => k = mb) w w6 := Fr.trans (Fr.trans ((Fr.refl _ w).drew) (Fr.of_all (S := fun k => k = mb) hb5) (fun _ h _ => h)) (fr_turned ht6) (fun _ h _ => h)))
  go_wp2
  go_end0
  exact ⟨rfl, ho6, hF6⟩
end Go.Proofs.Ythdpajgnigilhaa

