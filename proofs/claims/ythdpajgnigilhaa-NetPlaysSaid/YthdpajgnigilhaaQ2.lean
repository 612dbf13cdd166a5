/- Merged texts: Net NetD NetN NetS Ints NetV NetW NetE. -/
import Derived.Test.YthdpajgnigilhaaQ1
import Derived.RangeFuncNested
import Derived.RangeFuncBound
import Derived.RangeFuncBox
import Derived.RangeFuncCalls
import Derived.RangeFuncLeaves
import Derived.Shelf.Abstract
import Derived.Shelf.RegionOpen
import Derived.OwnWalkIn
import Derived.TacticsInMore
import Derived.LoopNIn
import Derived.LoopIn
import Derived.Maps.AppendAt
import Derived.Laws.StructEq
import Derived.Sort.Grow
/- net's Net: New, Len, push. -/
namespace Go.Proofs.Ythdpajgnigilhaa
open Go.RowKit

/-- Block nb is a Net that has l, a heap, and has counted to seq; cu: what is cut; ch: its channel. -/
structure NetI (nb base : Nat) (v : Value) (l : List Nd) (seq : Int) (cu ch : Value) (w : World) : Prop where
  h : NetsI nb 0 base v l w
  c1 : w.cell? ⟨nb, 1, none⟩ = some (.int .i64 seq)
  f1 : w.frozen? ⟨nb, 1, none⟩ = false
  c2 : w.cell? ⟨nb, 2, none⟩ = some cu
  f2 : w.frozen? ⟨nb, 2, none⟩ = false
  c3 : w.cell? ⟨nb, 3, none⟩ = some ch
  f3 : w.frozen? ⟨nb, 3, none⟩ = false
  hp : HL.IsHeap wlt l

def netF (nb : Nat) (v : Value) : Nat → Prop := fun k => k = nb ∨ v.ownBlock = some k

theorem NetI.keep {nb base : Nat} {v : Value} {l : List Nd} {seq : Int} {cu ch : Value} {w w' : World} (h : NetI nb base v l seq cu ch w) {S : Nat → Prop} (hf : Fr S w w') (hS : ∀ k, netF nb v k → ¬ S k) : NetI nb base v l seq cu ch w' := by
  obtain ⟨a, b, c, d, e, f, g, i⟩ := h
  have h1 : ¬ S nb := hS nb (.inl rfl)
  exact ⟨a.keep hf h1 (fun g hg => hS g (.inr hg)), (hf.cell (cell_lt b) h1).trans b, (hf.frozen (cell_lt b) h1).trans c, (hf.cell (cell_lt d) h1).trans d, (hf.frozen (cell_lt d) h1).trans e, (hf.cell (cell_lt f) h1).trans f, (hf.frozen (cell_lt f) h1).trans g, i⟩

set_option maxRecDepth 100000 in
theorem net_new (w : World) :
    Calls Try.prog 9 #[] w fun e w' => e = .returned (.pointer (some ⟨w.heap.size, 0, none⟩)) ∧ NetI w.heap.size w.heap.size (.slice none 0 0) [] 0 (.map none) (.chan none) w' ∧ Below w.heap.size w w' := by
  go_enter Try.func9, Try.ntmps9
  go_wp2
  go_ret
  refine ⟨rfl, ⟨⟨by go_simp, by go_simp, World.ownsRow_nil _ _ _ _, by simp [Value.ownBlock], by simp, by simp⟩, by go_simp, by go_simp, by go_simp, by go_simp, by go_simp, by go_simp, HL.isHeap_nil⟩, (Below.refl _ _).alloc (Nat.le_refl _) _⟩

set_option maxHeartbeats 400000 in
set_option maxRecDepth 100000 in
theorem net_len (nb base : Nat) (v : Value) (l : List Nd) (seq : Int) (cu ch : Value) (w : World) (h : NetI nb base v l seq cu ch w) :
    Calls Try.prog 11 #[.pointer (some ⟨nb, 0, none⟩)] w fun e w' => e = .returned (.int .i64 l.length) ∧ w = w' := by
  obtain ⟨p, c, hv⟩ := owns_slice h.h.2.2.1
  have hc := h.h.1
  rw [hv] at hc
  clear h hv
  generalize l.length = n at *
  go_enter Try.func11, Try.ntmps11
  go_wp2
  go_ret
  exact ⟨rfl, rfl⟩

theorem NetI.seq_set {nb base : Nat} {v : Value} {l : List Nd} {seq : Int} {cu ch : Value} {w : World} (h : NetI nb base v l seq cu ch w) (s' : Int) :
    NetI nb base v l s' cu ch (w.setCell ⟨nb, 1, none⟩ (.int .i64 s')) ∧ Fr (netF nb v) w (w.setCell ⟨nb, 1, none⟩ (.int .i64 s')) := by
  obtain ⟨⟨a1, a2, a3, a4, a5, a6⟩, b, c, d, e, f, g, i⟩ := h
  have hF : Fr (fun k => k = nb) w (w.setCell ⟨nb, 1, none⟩ (.int .i64 s')) := (Fr.refl (fun k => k = nb) w).setCell (p := ⟨nb, 1, none⟩) (fun _ => rfl) _
  refine ⟨⟨⟨?_, by rw [frozen_set]; exact a2, hF.owns a3 (fun g hg e => a4 (by rw [hg, e])), a4, a5, Nat.le_trans a6 hF.size⟩, cell_set_same _ _ _ _ b, by rw [frozen_set]; exact c, ?_, by rw [frozen_set]; exact e, ?_, by rw [frozen_set]; exact g, i⟩, hF.mono (fun i _ hi => .inl hi)⟩
  · rw [World.cell?_setCell_other _ _ _ _ (by simp)]; exact a1
  · rw [World.cell?_setCell_other _ _ _ _ (by simp)]; exact d
  · rw [World.cell?_setCell_other _ _ _ _ (by simp)]; exact f

set_option maxHeartbeats 1000000 in
set_option maxRecDepth 100000 in
theorem net_push (nb base : Nat) (v : Value) (l : List Nd) (seq at' fr to : Int) (da : ByteArray) (cu ch : Value) (w : World) (h : NetI nb base v l seq cu ch w) (hs0 : 0 ≤ seq) (hs : seq ≤ 1000000) (hn : l.length < 1000000) :
    Calls Try.prog 33 #[.pointer (some ⟨nb, 0, none⟩), .int .i64 at', .agg #[.int .i64 fr, .int .i64 to, .string da]] w fun e w' => e = .returned (.tuple #[]) ∧
      ∃ v' l', NetI nb base v' l' (seq + 1) cu ch w' ∧ l'.Perm (l ++ [⟨fr, to, da, at', seq + 1⟩]) ∧ Fr (netF nb v) w w' ∧ (∀ g, v'.ownBlock = some g → Lies v g w.heap.size) := by
  have hS := h.seq_set (seq + 1)
  have hFA : Fr (fun _ => False) (w.setCell ⟨nb, 1, none⟩ (.int .i64 (seq + 1))) ((w.setCell ⟨nb, 1, none⟩ (.int .i64 (seq + 1))).alloc (.cells #[.int .i64 fr, .int .i64 to, .string da] 34)) := (Fr.refl (fun _ => False) _).alloc _
  have hA := hS.1.keep hFA (fun _ _ h => h)
  have hFW : Fr (netF nb v) w ((w.setCell ⟨nb, 1, none⟩ (.int .i64 (seq + 1))).alloc (.cells #[.int .i64 fr, .int .i64 to, .string da] 34)) := hS.2.alloc _
  have hlt := cell_lt h.c1
  have hc := h.c1
  have hf := h.f1
  have b0 : ((w.setCell ⟨nb, 1, none⟩ (.int .i64 (seq + 1))).alloc (.cells #[.int .i64 fr, .int .i64 to, .string da] 34)).cell? ⟨w.heap.size, 0, none⟩ = some (.int .i64 fr) := by clear hA hFA hS hFW; go_simp
  have b1 : ((w.setCell ⟨nb, 1, none⟩ (.int .i64 (seq + 1))).alloc (.cells #[.int .i64 fr, .int .i64 to, .string da] 34)).cell? ⟨w.heap.size, 0 + 1, none⟩ = some (.int .i64 to) := by clear b0 hA hFA hS hFW; go_simp
  have b2 : ((w.setCell ⟨nb, 1, none⟩ (.int .i64 (seq + 1))).alloc (.cells #[.int .i64 fr, .int .i64 to, .string da] 34)).cell? ⟨w.heap.size, 0 + 2, none⟩ = some (.string da) := by clear b0 b1 hA hFA hS hFW; go_simp
  have HBB := Lib.hid (And.intro b0 (And.intro b1 b2))
  have HH := Lib.hid hA
  have HFW := Lib.hid hFW
  have hmin : min (seq + 1) 4611686018427387904 = seq + 1 := by omega
  clear hA hFA hS hFW h b0 b1 b2
  go_enter Try.func33, Try.ntmps33
  go_wp2_with fail
  generalize ((w.setCell ⟨nb, 1, none⟩ (.int .i64 (seq + 1))).alloc (.cells #[.int .i64 fr, .int .i64 to, .string da] 34)) = W at *
  refine region_tail 12 (by kernel_rfl) (by kernel_rfl) (fun V => V.cell? ⟨nb, 1, none⟩ = some (.int .i64 (seq + 1)) ∧ V.cell? ⟨w.heap.size, 0, none⟩ = some (.int .i64 fr) ∧ V.cell? ⟨w.heap.size, 0 + 1, none⟩ = some (.int .i64 to) ∧ V.cell? ⟨w.heap.size, 0 + 2, none⟩ = some (.string da) ∧ Hid (NetI nb base v l (seq + 1) cu ch V) ∧ Hid (Fr (netF nb v) w V)) ⟨HH.out.c1, HBB.out.1, HBB.out.2.1, HBB.out.2.2, HH.out.keep ((Fr.refl (fun _ => False) W).drew) (fun _ _ h => h), HFW.out.drew⟩ ?_
  rintro V ⟨c1, b0, b1, b2, HV, HF⟩
  clear HH HBB HFW hc hf
  simp only [List.take_succ_cons, List.take_zero, List.drop_succ_cons, List.drop_zero]
  iterate 12 still_step
  refine wpStill_nil ?_
  go_wp2_with fail
  refine (heap_push_nets nb 0 base v l ⟨fr, to, da, at', seq + 1⟩ V HV.out.h HV.out.hp hn).mono ?_
  rintro e w' ⟨rfl, v', l', hI, hh, hp, hfr, hl, hoth⟩
  have HI := Lib.hid (show NetI nb base v' l' (seq + 1) cu ch w' from ⟨hI, (hoth 1 (by omega)).1.trans c1, (hoth 1 (by omega)).2.trans HV.out.f1, (hoth 2 (by omega)).1.trans HV.out.c2, (hoth 2 (by omega)).2.trans HV.out.f2, (hoth 3 (by omega)).1.trans HV.out.c3, (hoth 3 (by omega)).2.trans HV.out.f3, hh⟩)
  have HFR := Lib.hid (Fr.trans HF.out hfr (fun i hi _ => hi))
  have HLI := Lib.hid hl
  clear hoth hI hh hfr hl
  go_wp2
  go_end0
  exact ⟨rfl, v', l', HI.out, hp, HFR.out, fun g hg => (HLI.out g hg).imp id (fun h => Nat.le_trans HF.out.size h)⟩
end Go.Proofs.Ythdpajgnigilhaa

/- net's Net: Due. -/
namespace Go.Proofs.Ythdpajgnigilhaa
open Go.RowKit

theorem cells3n {w : World} {b : Nat} {u0 u1 u2 v0 v1 v2 : Value} (d0 : w.cell? ⟨b, 0, none⟩ = some u0) (d1 : w.cell? ⟨b, 1, none⟩ = some u1) (d2 : w.cell? ⟨b, 2, none⟩ = some u2) :
    (((w.setCell ⟨b, 0, none⟩ v0).setCell ⟨b, 1, none⟩ v1).setCell ⟨b, 2, none⟩ v2).cell? ⟨b, 0, none⟩ = some v0 ∧ (((w.setCell ⟨b, 0, none⟩ v0).setCell ⟨b, 1, none⟩ v1).setCell ⟨b, 2, none⟩ v2).cell? ⟨b, 1, none⟩ = some v1 ∧ (((w.setCell ⟨b, 0, none⟩ v0).setCell ⟨b, 1, none⟩ v1).setCell ⟨b, 2, none⟩ v2).cell? ⟨b, 2, none⟩ = some v2 := by
  have ne : ∀ (w : World) (i j : Nat) (v : Value), i ≠ j → (w.setCell ⟨b, i, none⟩ v).cell? ⟨b, j, none⟩ = w.cell? ⟨b, j, none⟩ := fun w i j v h => World.cell?_setCell_other _ _ _ _ (by intro e; injection e with _ e _; omega)
  refine ⟨?_, ?_, ?_⟩
  · rw [ne _ 2 0 _ (by omega), ne _ 1 0 _ (by omega)]; exact cell_set_same _ _ _ _ d0
  · rw [ne _ 2 1 _ (by omega)]; exact cell_set_same _ _ _ u1 (by rw [ne _ 0 1 _ (by omega)]; exact d1)
  · exact cell_set_same _ _ _ u2 (by rw [ne _ 1 2 _ (by omega), ne _ 0 2 _ (by omega)]; exact d2)

abbrev pkv (fr to : Int) (da : ByteArray) : Value := .agg #[.int .i64 fr, .int .i64 to, .string da]
theorem fld_due (x : Nd) (w : World) : (Instr.field 75 (dv x) 0).run Try.prog w = .ok (pkv x.fr x.to x.da) w := by kernel_rfl

set_option maxHeartbeats 400000 in
set_option maxRecDepth 100000 in
theorem net_due_none (nb base : Nat) (v : Value) (seq now : Int) (cu ch : Value) (w : World) (h : NetI nb base v [] seq cu ch w) :
    Calls Try.prog 15 #[.pointer (some ⟨nb, 0, none⟩), .int .i64 now] w fun e w' => e = .returned (.tuple #[pkv 0 0 ByteArray.empty, .bool false]) ∧ Below w.heap.size w w' := by
  have hlt := cell_lt h.c1
  have HH := Lib.hid h; clear h
  go_enter Try.func15, Try.ntmps15
  go_wp2_with fail
  refine (net_len nb base v [] seq cu ch _ (HH.out.keep ((Fr.refl (fun _ => False) w).alloc _) (fun _ _ h => h))).mono ?_
  rintro e w' ⟨rfl, rfl⟩
  go_wp2
  exact bodyPost_ret (v := .tuple #[pkv 0 0 ByteArray.empty, .bool false]) (by simp [results, Try.results15, go_sem, pkv]; rfl) rfl ⟨rfl, by repeat (first | exact Below.refl _ _ | refine Below.drew ?_ | refine Below.alloc ?_ (by simp) _ | refine Below.setCell ?_ (by simp) _)⟩

set_option maxHeartbeats 400000 in
set_option maxRecDepth 100000 in
theorem net_due_early (nb base : Nat) (v : Value) (l : List Nd) (seq now : Int) (cu ch : Value) (w : World) (h : NetI nb base v l seq cu ch w) (hn : 0 < l.length) (hnow : now < (HL.el l 0).at') :
    Calls Try.prog 15 #[.pointer (some ⟨nb, 0, none⟩), .int .i64 now] w fun e w' => e = .returned (.tuple #[pkv 0 0 ByteArray.empty, .bool false]) ∧ Below w.heap.size w w' := by
  have hlt := cell_lt h.c1
  obtain ⟨g, cap, hv, _, hg, _⟩ := owns_len h.h.2.2.1 hn
  have h' := hv ▸ h
  have hx := (h'.h.cells rfl 0 hn).2.2.2.1
  have hc := h'.h.1
  have HH := Lib.hid h; clear h h' hv
  have hm := HH.out.h.2.2.2.2.1
  have hne : ((l.length : Int) == 0) = false := by rw [beq_eq_false_iff_ne]; omega
  have HL0 := Lib.hid (fun o => net_len nb base v l seq cu ch (w.alloc o) (HH.out.keep ((Fr.refl (fun _ => False) w).alloc _) (fun _ _ h => h)))
  generalize HL.el l 0 = x at *
  generalize l.length = n at *
  go_enter Try.func15, Try.ntmps15
  go_wp2_with fail
  refine (HL0.out _).mono ?_
  rintro e w' ⟨rfl, rfl⟩
  go_wp2
  exact bodyPost_ret (v := .tuple #[pkv 0 0 ByteArray.empty, .bool false]) (by simp [results, Try.results15, go_sem, pkv]; rfl) rfl ⟨rfl, by repeat (first | exact Below.refl _ _ | refine Below.drew ?_ | refine Below.alloc ?_ (by simp) _ | refine Below.setCell ?_ (by simp) _)⟩

set_option maxHeartbeats 1000000 in
set_option maxRecDepth 100000 in
theorem net_due_take (nb base : Nat) (v : Value) (l : List Nd) (seq now : Int) (cu ch : Value) (w : World) (h : NetI nb base v l seq cu ch w) (hn : 0 < l.length) (hnow : (HL.el l 0).at' ≤ now) :
    Calls Try.prog 15 #[.pointer (some ⟨nb, 0, none⟩), .int .i64 now] w fun e w' => e = .returned (.tuple #[pkv (HL.el l 0).fr (HL.el l 0).to (HL.el l 0).da, .bool true]) ∧
      ∃ v' l', NetI nb base v' l' seq cu ch w' ∧ (HL.el l 0 :: l').Perm l ∧ Fr (netF nb v) w w' ∧ v'.ownBlock = v.ownBlock := by
  have hlt := cell_lt h.c1
  have hob : ∀ g, v.ownBlock = some g → g < w.heap.size := fun g hg => (h.h.2.2.1.lt g hg).2
  have HI0 := Lib.hid h
  obtain ⟨g, cap, hv, _, hg, _⟩ := owns_len h.h.2.2.1 hn
  have h' := hv ▸ h
  have hx := (h'.h.cells rfl 0 hn).2.2.2.1
  have hc := h'.h.1
  have HP := Lib.hid (fun W (hI : NetI nb base v l seq cu ch W) => heap_pop_nets nb 0 base v l W hI.h hI.hp hn)
  have hm := HI0.out.h.2.2.2.2.1
  have hne : ((l.length : Int) == 0) = false := by rw [beq_eq_false_iff_ne]; omega
  have HL0 := Lib.hid (fun o => net_len nb base v l seq cu ch (w.alloc o) (HI0.out.keep ((Fr.refl (fun _ => False) w).alloc _) (fun _ _ h => h)))
  have hta := ta_wt
  have hnow' : ¬ now < (HL.el l 0).at' := by omega
  have HOB := Lib.hid hob
  clear hob hnow h h' hv
  generalize HL.el l 0 = x at *
  generalize l.length = n at *
  go_enter Try.func15, Try.ntmps15
  go_wp2_with fail
  refine (HL0.out _).mono ?_
  rintro e w1 ⟨rfl, rfl⟩
  have HFA : Hid (Fr (fun _ => False) w (w.alloc (.cells #[.int .i64 0, .int .i64 0, .string ⟨#[]⟩] 34))) := Lib.hid ((Fr.refl (fun _ => False) w).alloc _)
  have n0 : (w.alloc (.cells #[.int .i64 0, .int .i64 0, .string ⟨#[]⟩] 34)).cell? ⟨w.heap.size, 0, none⟩ = some (.int .i64 0) := by go_simp
  have n1 : (w.alloc (.cells #[.int .i64 0, .int .i64 0, .string ⟨#[]⟩] 34)).cell? ⟨w.heap.size, 1, none⟩ = some (.int .i64 0) := by clear n0; go_simp
  have n2 : (w.alloc (.cells #[.int .i64 0, .int .i64 0, .string ⟨#[]⟩] 34)).cell? ⟨w.heap.size, 2, none⟩ = some (.string ⟨#[]⟩) := by clear n0 n1; go_simp
  have nf : ∀ k, (w.alloc (.cells #[.int .i64 0, .int .i64 0, .string ⟨#[]⟩] 34)).frozen? ⟨w.heap.size, k, none⟩ = false := fun k => by clear n0 n1 n2; go_simp
  have N := Lib.hid (And.intro n0 (And.intro n1 (And.intro n2 nf)))
  clear n0 n1 n2 nf
  go_wp2_with fail
  refine (HP.out _ (HI0.out.keep HFA.out (fun _ _ h => h))).mono ?_
  rintro e w2 ⟨u, rfl, v', l', rfl, hI, hh, hp, hfr, hv', hoth⟩
  have hs1 : w.heap.size ≠ nb := by omega
  have hs2 : v.ownBlock ≠ some w.heap.size := fun e => by have := HOB.out _ e; omega
  have hnot : ¬ (w.heap.size = nb ∨ v.ownBlock = some w.heap.size) := fun h => h.elim hs1 hs2
  have hfar := fun k => hfr.cell (p := ⟨w.heap.size, k, none⟩) (by simp) hnot
  have hfarf := fun k => hfr.frozen (p := ⟨w.heap.size, k, none⟩) (by simp) hnot
  have c0 := (hfar 0).trans N.out.1
  have c1 := (hfar 1).trans N.out.2.1
  have c2 := (hfar 2).trans N.out.2.2.1
  have f0 := (hfarf 0).trans (N.out.2.2.2 _)
  have f1 := (hfarf 1).trans (N.out.2.2.2 _)
  have f2 := (hfarf 2).trans (N.out.2.2.2 _)
  have hsz : w.heap.size < w2.heap.size := by have := hfr.size; simp at this; omega
  have HFR := Lib.hid (Fr.trans (HFA.out.mono (fun _ _ h => h.elim)) hfr (fun i hi _ => hi))
  have HK := Lib.hid (HI0.out.keep HFA.out (fun _ _ h => h))
  have HSEQ : Hid (NetI nb base v' l' seq cu ch w2) := Lib.hid ⟨hI, (hoth 1 (by omega)).1.trans HK.out.c1, (hoth 1 (by omega)).2.trans HK.out.f1, (hoth 2 (by omega)).1.trans HK.out.c2, (hoth 2 (by omega)).2.trans HK.out.f2, (hoth 3 (by omega)).1.trans HK.out.c3, (hoth 3 (by omega)).2.trans HK.out.f3, hh⟩
  have HV' := Lib.hid hv'
  have hx3 := cells3n (v0 := .int .i64 x.fr) (v1 := .int .i64 x.to) (v2 := .string x.da) c0 c1 c2
  obtain ⟨X, hX⟩ : ∃ X, ((w2.setCell ⟨w.heap.size, 0, none⟩ (.int .i64 x.fr)).setCell ⟨w.heap.size, 1, none⟩ (.int .i64 x.to)).setCell ⟨w.heap.size, 2, none⟩ (.string x.da) = X := ⟨_, rfl⟩
  rw [hX] at hx3
  obtain ⟨x0, x1, x2⟩ := hx3
  have HXF : Hid (Fr (fun k => k = w.heap.size) w2 X) := Lib.hid (by rw [← hX]; exact (((Fr.refl (fun k => k = w.heap.size) w2).setCell (p := ⟨w.heap.size, 0, none⟩) (fun _ => rfl) _).setCell (p := ⟨w.heap.size, 1, none⟩) (fun _ => rfl) _).setCell (p := ⟨w.heap.size, 2, none⟩) (fun _ => rfl) _)
  clear hfar hfarf hnot hfr hI hoth hv' HK N hx hc
  have hfd := fld_due x
  go_wp2
  refine bodyPost_ret (v := .tuple #[pkv x.fr x.to x.da, .bool true]) (by simp [results, Try.results15, go_sem, pkv, x0, x1, x2]) rfl ⟨rfl, v', l', ?_, hp, ?_, HV'.out⟩
  · refine HSEQ.out.keep HXF.out (fun k hk e => ?_)
    subst e
    rcases hk with hk | hk
    · exact hs1 hk
    · rw [HV'.out] at hk
      exact hs2 hk
  · exact Fr.trans HFR.out HXF.out (fun i hi hlt => by omega)
end Go.Proofs.Ythdpajgnigilhaa

/- net's Net: the calls of a nil one. -/
namespace Go.Proofs.Ythdpajgnigilhaa
open Go.RowKit

set_option maxHeartbeats 400000 in
set_option maxRecDepth 100000 in
theorem nil_len  (w : World) :
    Calls Try.prog 11 #[.pointer none] w fun e w' => e = .returned (.int .i64 0) ∧ w' = w := by
  go_enter Try.func11, Try.ntmps11
  go_wp2
  go_ret
  exact ⟨rfl, rfl⟩

set_option maxHeartbeats 400000 in
set_option maxRecDepth 100000 in
theorem nil_find (k : Int) (w : World) :
    Calls Try.prog 35 #[.pointer none, .int .i64 k] w fun e w' => e = .returned (.int .i64 (-1)) ∧ w' = w := by
  go_enter Try.func35, Try.ntmps35
  go_wp2
  go_ret
  exact ⟨rfl, rfl⟩

set_option maxHeartbeats 400000 in
set_option maxRecDepth 100000 in
theorem nil_send (k : Int) (p : Option Addr) (n c : Nat) (w : World) :
    Calls Try.prog 10 #[.pointer none, .int .i64 k, .slice p n c] w fun e w' => e = .returned (.int .i64 0) ∧ w' = w := by
  go_enter Try.func10, Try.ntmps10
  go_wp2
  go_ret
  exact ⟨rfl, rfl⟩

set_option maxHeartbeats 400000 in
set_option maxRecDepth 100000 in
theorem nil_cut (a b : Int) (o : Bool) (w : World) :
    Calls Try.prog 14 #[.pointer none, .int .i64 a, .int .i64 b, .bool o] w fun e w' => e = .returned (.tuple #[]) ∧ w' = w := by
  go_enter Try.func14, Try.ntmps14
  go_wp2
  exact bodyPost_ret (v := .tuple #[]) (by simp [results, Try.results14, go_sem]) rfl ⟨rfl, rfl⟩

set_option maxHeartbeats 400000 in
set_option maxRecDepth 100000 in
theorem nil_clear  (w : World) :
    Calls Try.prog 13 #[.pointer none] w fun e w' => e = .returned (.int .i64 0) ∧ w' = w := by
  go_enter Try.func13, Try.ntmps13
  go_wp2_with fail
  refine (nil_len _).mono ?_
  rintro e w1 ⟨rfl, rfl⟩
  go_wp2
  go_ret
  exact ⟨rfl, rfl⟩

set_option maxHeartbeats 400000 in
set_option maxRecDepth 100000 in
theorem nil_due (k : Int) (w : World) :
    Calls Try.prog 15 #[.pointer none, .int .i64 k] w fun e w' => e = .returned (.tuple #[pkv 0 0 ByteArray.empty, .bool false]) ∧ Below w.heap.size w w' := by
  go_enter Try.func15, Try.ntmps15
  go_wp2_with fail
  refine (nil_len _).mono ?_
  rintro e w1 ⟨rfl, rfl⟩
  go_wp2
  exact bodyPost_ret (v := .tuple #[pkv 0 0 ByteArray.empty, .bool false]) (by simp [results, Try.results15, go_sem, pkv]; rfl) rfl ⟨rfl, by repeat (first | exact Below.refl _ _ | refine Below.drew ?_ | refine Below.alloc ?_ (by simp) _ | refine Below.setCell ?_ (by simp) _)⟩

set_option maxHeartbeats 400000 in
set_option maxRecDepth 100000 in
theorem nil_pull (k : Int) (w : World) :
    Calls Try.prog 25 #[.pointer none, .int .i64 k] w fun e w' => e = .returned (.tuple #[pkv 0 0 ByteArray.empty, .bool false]) ∧ Below w.heap.size w w' := by
  go_enter Try.func25, Try.ntmps25
  go_wp2_with fail
  refine (nil_find k _).mono ?_
  rintro e w1 ⟨rfl, rfl⟩
  go_wp2
  exact bodyPost_ret (v := .tuple #[pkv 0 0 ByteArray.empty, .bool false]) (by simp [results, Try.results25, go_sem, pkv]; rfl) rfl ⟨rfl, by repeat (first | exact Below.refl _ _ | refine Below.drew ?_ | refine Below.alloc ?_ (by simp) _ | refine Below.setCell ?_ (by simp) _)⟩

set_option maxHeartbeats 400000 in
set_option maxRecDepth 100000 in
theorem nil_peek (k : Int) (w : World) :
    Calls Try.prog 30 #[.pointer none, .int .i64 k] w fun e w' => e = .returned (.tuple #[pkv 0 0 ByteArray.empty, .bool false]) ∧ Below w.heap.size w w' := by
  go_enter Try.func30, Try.ntmps30
  go_wp2_with fail
  refine (nil_find k _).mono ?_
  rintro e w1 ⟨rfl, rfl⟩
  go_wp2
  exact bodyPost_ret (v := .tuple #[pkv 0 0 ByteArray.empty, .bool false]) (by simp [results, Try.results30, go_sem, pkv]; rfl) rfl ⟨rfl, by repeat (first | exact Below.refl _ _ | refine Below.drew ?_ | refine Below.alloc ?_ (by simp) _ | refine Below.setCell ?_ (by simp) _)⟩

set_option maxHeartbeats 400000 in
set_option maxRecDepth 100000 in
theorem nil_drop (k : Int) (w : World) :
    Calls Try.prog 12 #[.pointer none, .int .i64 k] w fun e w' => e = .returned (.bool false) ∧ Below w.heap.size w w' := by
  go_enter Try.func12, Try.ntmps12
  go_wp2_with fail
  refine (nil_pull k _).mono ?_
  rintro e w1 ⟨rfl, hb⟩
  have HB := Lib.hid hb
  clear hb
  unfold pkv
  go_wp2
  go_ret
  exact ⟨rfl, HB.out.alloc HB.out.size _⟩

set_option maxHeartbeats 400000 in
set_option maxRecDepth 100000 in
theorem nil_double (k : Int) (w : World) :
    Calls Try.prog 16 #[.pointer none, .int .i64 k] w fun e w' => e = .returned (.bool false) ∧ w' = w := by
  go_enter Try.func16, Try.ntmps16
  go_wp2_with fail
  refine (nil_find k _).mono ?_
  rintro e w1 ⟨rfl, rfl⟩
  go_wp2
  go_ret
  exact ⟨rfl, rfl⟩

set_option maxHeartbeats 400000 in
set_option maxRecDepth 100000 in
theorem nil_delay (k b : Int) (w : World) :
    Calls Try.prog 17 #[.pointer none, .int .i64 k, .int .i64 b] w fun e w' => e = .returned (.bool false) ∧ w' = w := by
  go_enter Try.func17, Try.ntmps17
  go_wp2_with fail
  refine (nil_find k _).mono ?_
  rintro e w1 ⟨rfl, rfl⟩
  go_wp2
  go_ret
  exact ⟨rfl, rfl⟩

end Go.Proofs.Ythdpajgnigilhaa

/- net.ends. -/
namespace Go.Proofs.Ythdpajgnigilhaa
open Go.RowKit
set_option maxRecDepth 100000 in
theorem net_ends (a b : Int) (w : World) :
    Calls Try.prog 31 #[.int .i64 a, .int .i64 b] w fun e w' => e = .returned (.agg #[.int .i64 (min a b), .int .i64 (max a b)]) ∧ Below w.heap.size w w' := by
  go_enter Try.func31, Try.ntmps31
  go_wp2
  all_goals exact bodyPost_ret (v := .agg #[.int .i64 (min a b), .int .i64 (max a b)]) (by simp [results, Try.results31, go_sem]; try omega) rfl ⟨rfl, by repeat (first | exact Below.refl _ _ | refine Below.drew ?_ | refine Below.alloc ?_ (by simp) _ | refine Below.setCell ?_ (by simp) _)⟩
end Go.Proofs.Ythdpajgnigilhaa

/- Slices of ints: how they read, rows of them. -/
namespace Go.Proofs.Ythdpajgnigilhaa
open Go.RowKit

theorem info_int : (Try.prog.info? 3).map (fun i => (i.zero, i.size, i.bytes)) = some (some (.int .i64 0), 1, 8) := by kernel_rfl

def ncells (x : Int) : List Value := [.int .i64 x]
theorem ncells_length (x : Int) : (ncells x).length = 1 := rfl

/-- The slice p of n elements reads as the numbers zs; its memory lies below block B. -/
def RdI (w : World) (B : Nat) (p : Option Addr) (n : Nat) (zs : List Int) : Prop :=
  zs.length = n ∧ (0 < n → ∃ b o, p = some ⟨b, o, none⟩ ∧ b < B ∧ ∀ k, k < n → w.cell? ⟨b, o + k, none⟩ = some (.int .i64 (HL.el zs k)))

theorem RdI.keep {w w' : World} {B : Nat} {p : Option Addr} {n : Nat} {zs : List Int} (h : RdI w B p n zs) {S : Nat → Prop} (hf : Fr S w w') (hB : B ≤ w.heap.size) (hS : ∀ i, i < B → ¬ S i) : RdI w' B p n zs :=
  ⟨h.1, fun hn => by
    obtain ⟨b, o, e, hb, hc⟩ := h.2 hn
    exact ⟨b, o, e, hb, fun k hk => (hf.cell (p := ⟨b, o + k, none⟩) (by show b < _; omega) (hS b hb)).trans (hc k hk)⟩⟩

theorem RdI.below {w w' : World} {B : Nat} {p : Option Addr} {n : Nat} {zs : List Int} (h : RdI w B p n zs) (hf : Below B w w') : RdI w' B p n zs :=
  ⟨h.1, fun hn => by
    obtain ⟨b, o, e, hb, hc⟩ := h.2 hn
    exact ⟨b, o, e, hb, fun k hk => (hf.cell (p := ⟨b, o + k, none⟩) hb).trans (hc k hk)⟩⟩

theorem RdI.more {w : World} {B B' : Nat} {p : Option Addr} {n : Nat} {zs : List Int} (h : RdI w B p n zs) (hB : B ≤ B') : RdI w B' p n zs :=
  ⟨h.1, fun hn => by
    obtain ⟨b, o, e, hb, hc⟩ := h.2 hn
    exact ⟨b, o, e, by omega, hc⟩⟩

/-- What the row's frame tells of a slice of integers that came in. -/
theorem rd_of_row {w : World} {a : Option Addr} {len cap : Nat} {zs : List Int}
    (h : (a = none ∧ len = 0 ∧ cap = 0 ∧ zs = []) ∨ ∃ x, a = some x ∧ len ≤ cap ∧ cap ≤ maxLen ∧ zs.length = cap ∧ (∀ i, i < zs.length → w.cell? (x.add i) = some (.int .i64 (zs.getD i 0))) ∧ ∀ n ∈ zs, (Lit.int .i64 n).wf = true) : RdI w w.heap.size a len (zs.take len) := by
  rcases h with ⟨rfl, rfl, rfl, rfl⟩ | ⟨⟨b, o, sp⟩, rfl, hl, hm, hz, hc, _⟩
  · exact ⟨rfl, fun h => by omega⟩
  · refine ⟨by rw [List.length_take]; omega, fun hn => ?_⟩
    have h0 := hc 0 (by omega)
    have hsp : sp = none := by simpa [Addr.add] using World.cell?_spot h0
    subst hsp
    refine ⟨b, o, rfl, by simpa [Addr.add] using cell_lt h0, fun k hk => ?_⟩
    have h1 := hc k (by omega)
    have e : ((⟨b, o, none⟩ : Addr).add k) = ⟨b, o + k, none⟩ := by
      unfold Addr.add
      split
      · rename_i h; rw [h, Nat.add_zero]
      · rfl
    rw [e] at h1
    rw [h1]
    unfold HL.el
    rw [List.getD_eq_getElem?_getD, List.getD_eq_getElem?_getD, List.getElem?_take, if_pos hk]
    rfl

/-- A row that is owned reads. -/
theorem RdI.of_own {w : World} {base n c : Nat} {p : Option Addr} {zs : List Int} (h : w.ownsRow base 3 1 (.slice p n c) n (rowOf ncells zs)) (hz : zs.length = n) : RdI w w.heap.size p n zs := by
  refine ⟨hz, fun hn => ?_⟩
  obtain ⟨g, cap, hv, _, hg, _⟩ := owns_len h hn
  injection hv with h1 _ h3
  subst h1 h3
  refine ⟨g, 0, rfl, hg, fun k hk => ?_⟩
  rw [Nat.zero_add, h.cellAt k (by omega)]
  have r0 := rowOf_at ncells ncells_length zs k 0 (by omega) (by omega)
  rw [Nat.mul_one, Nat.add_zero] at r0
  exact r0

theorem add_at (b o j : Nat) : (⟨b, o, none⟩ : Addr).add j = ⟨b, o + j, none⟩ := by
  unfold Addr.add
  split
  · rename_i h; rw [h, Nat.add_zero]
  · rfl

theorem rowOf_ncells_get {zs : List Int} {j : Nat} {u : Value} (h : (rowOf ncells zs)[j]? = some u) : j < zs.length ∧ u = .int .i64 (HL.el zs j) := by
  have hl := rowOf_length ncells ncells_length zs
  have hj : j < zs.length := by
    have := (List.getElem?_eq_some_iff.1 h).1
    omega
  have r0 := rowOf_at ncells ncells_length zs j 0 hj (by omega)
  rw [Nat.mul_one, Nat.add_zero, h] at r0
  refine ⟨hj, ?_⟩
  have : (ncells (zs.getD j default))[0]? = some (.int .i64 (HL.el zs j)) := rfl
  rw [this] at r0
  injection r0

theorem rowOf_ncells_one {zs : List Int} : ∀ u ∈ rowOf ncells zs, u.oneCell' = true := by
  intro u hu
  obtain ⟨j, hj, e⟩ := List.getElem_of_mem hu
  have := rowOf_ncells_get (zs := zs) (j := j) (u := u) (by rw [List.getElem?_eq_getElem hj, e])
  rw [this.2]
  rfl

theorem rd_new (w : World) (zs : List Int) (t : TypeId) : RdI (w.alloc (.cells (rowOf ncells zs).toArray t)) (w.alloc (.cells (rowOf ncells zs).toArray t)).heap.size (some ⟨w.heap.size, 0, none⟩) zs.length zs := by
  refine ⟨rfl, fun _ => ⟨w.heap.size, 0, rfl, by simp, fun k hk => ?_⟩⟩
  have := new_cells w (rowOf ncells zs) t k (.int .i64 (HL.el zs k))
  rw [add_at] at this
  refine this ?_
  have r0 := rowOf_at ncells ncells_length zs k 0 hk (by omega)
  rw [Nat.mul_one, Nat.add_zero] at r0
  exact r0

/-- The slice p of n elements of 'size' cells each reads as zs; its memory lies below block B. -/
def RdG {α : Type} (f : α → List Value) (w : World) (B : Nat) (p : Option Addr) (n : Nat) (zs : List α) : Prop :=
  zs.length = n ∧ (0 < n → ∃ b o, p = some ⟨b, o, none⟩ ∧ b < B ∧ ∀ j u, (rowOf f zs)[j]? = some u → w.cell? ⟨b, o + j, none⟩ = some u)

section
variable {α : Type} {f : α → List Value} {w w' : World} {B B' n : Nat} {p : Option Addr} {zs : List α}
theorem RdG.below (h : RdG f w B p n zs) (hf : Below B w w') : RdG f w' B p n zs :=
  ⟨h.1, fun hn => by
    obtain ⟨b, o, e, hb, hc⟩ := h.2 hn
    exact ⟨b, o, e, hb, fun j u hu => (hf.cell (p := ⟨b, o + j, none⟩) hb).trans (hc j u hu)⟩⟩
theorem RdG.more (h : RdG f w B p n zs) (hB : B ≤ B') : RdG f w B' p n zs :=
  ⟨h.1, fun hn => by
    obtain ⟨b, o, e, hb, hc⟩ := h.2 hn
    exact ⟨b, o, e, by omega, hc⟩⟩
theorem RdG.nil : RdG f w B p 0 ([] : List α) := ⟨rfl, fun h => by omega⟩
theorem RdG.fresh (w : World) (zs : List α) (t : TypeId) : RdG f (w.alloc (.cells (rowOf f zs).toArray t)) (w.heap.size + 1) (some ⟨w.heap.size, 0, none⟩) zs.length zs :=
  ⟨rfl, fun _ => ⟨w.heap.size, 0, rfl, by omega, fun j u hu => by
    have := new_cells w (rowOf f zs) t j u hu
    rw [add_at] at this
    exact this⟩⟩
theorem RdG.of_own {base c : Nat} {e : TypeId} {size : Nat} (h : w.ownsRow base e size (.slice p n c) n (rowOf f zs)) (hz : zs.length = n) : RdG f w w.heap.size p n zs := by
  refine ⟨hz, fun hn => ?_⟩
  obtain ⟨g, cap, hv, _, hg, _⟩ := owns_len h hn
  injection hv with h1 _ h3
  subst h1 h3
  refine ⟨g, 0, rfl, hg, fun j u hu => ?_⟩
  have := h.cells (g := g) rfl j u hu
  rw [add_at] at this
  exact this
end

end Go.Proofs.Ythdpajgnigilhaa

/- slices.Values, AppendSeq, Collect over net's dues. -/
namespace Go.Proofs.Ythdpajgnigilhaa
open Go.RowKit Go.Shelf
attribute [local go_sem] Oper.semAt_some

/-- What has come when k rounds are over. -/
def uptoG {α : Type} (f : Nat → α) (k : Nat) : List α := (List.range k).map f
theorem uptoG_succ {α : Type} (f : Nat → α) (k : Nat) : uptoG f (k + 1) = uptoG f k ++ [f k] := by simp [uptoG, List.range_succ]
theorem uptoG_length {α : Type} (f : Nat → α) (k : Nat) : (uptoG f k).length = k := by simp [uptoG]
theorem uptoG_take {α : Type} [Inhabited α] (zs : List α) {k : Nat} (hk : k ≤ zs.length) : uptoG (fun j => HL.el zs j) k = zs.take k := by
  apply List.ext_getElem
  · simp [uptoG]; omega
  · intro i h1 h2
    have : i < zs.length := by simp [uptoG] at h1; omega
    simp [uptoG, HL.el, this]
theorem uptoG_all {α : Type} [Inhabited α] (zs : List α) : uptoG (fun j => HL.el zs j) zs.length = zs := by
  rw [uptoG_take zs (Nat.le_refl _), List.take_length]

/-- The five cells of the k-th due of a row that reads. -/
theorem rd_due {w : World} {n : Nat} {b o : Nat} {zs : List Nd} (hz : zs.length = n) (hc : ∀ j u, (rowOf wcells zs)[j]? = some u → w.cell? ⟨b, o + j, none⟩ = some u) (k : Nat) (hk : k < n) :
    w.cell? ⟨b, o + k * 5, none⟩ = some (.int .i64 (HL.el zs k).fr) ∧ w.cell? ⟨b, o + k * 5 + 1, none⟩ = some (.int .i64 (HL.el zs k).to) ∧ w.cell? ⟨b, o + k * 5 + 2, none⟩ = some (.string (HL.el zs k).da) ∧
      w.cell? ⟨b, o + k * 5 + 3, none⟩ = some (.int .i64 (HL.el zs k).at') ∧ w.cell? ⟨b, o + k * 5 + 4, none⟩ = some (.int .i64 (HL.el zs k).sq) := by
  have r := fun c hcl => rowOf_at wcells wcells_length zs k c (by omega) hcl
  have e : ∀ c, o + (k * 5 + c) = o + k * 5 + c := fun c => by omega
  refine ⟨?_, ?_, ?_, ?_, ?_⟩
  · exact hc _ _ ((r 0 (by omega)).trans rfl)
  · rw [← e]; exact hc _ _ ((r 1 (by omega)).trans rfl)
  · rw [← e]; exact hc _ _ ((r 2 (by omega)).trans rfl)
  · rw [← e]; exact hc _ _ ((r 3 (by omega)).trans rfl)
  · rw [← e]; exact hc _ _ ((r 4 (by omega)).trans rfl)

theorem abides_alloc {β : Type} {B : Nat} {J : β → World → Prop} (h : AbidesFrom B J) {s : β} {W : World} (o : Obj) (hs : J s W) : J s (W.alloc o) :=
  h s W _ none hs (World.grownBy_alloc W o none) (fun r e => by cases e)

set_option maxRecDepth 100000 in
set_option maxHeartbeats 2000000 in
theorem dvalues1_in (n : Nat) (hn : 1 ≤ n) (l Bs n0 len cap : Nat) (p : Option Addr) (zs : List Nd) (hbig : len ≤ 1000000) (J Jx : List Nd → World → Prop)
    (hY : ∀ pre x W, J pre W → pre.length < len → YieldAt Fence.wide (n - 1) Try.prog l #[dv x] W fun e W' =>
      (e = .returned (.bool true) ∧ J (pre ++ [x]) W' ∧ Below n0 W W') ∨ (e = .returned (.bool false) ∧ Jx (pre ++ [x]) W'))
    (W : World) (hJa : AbidesFrom W.heap.size J) (hn0 : n0 ≤ W.heap.size) (hBs : W.cell? ⟨Bs, 0, none⟩ = some (.slice p len cap)) (hR : RdG wcells W n0 p len zs) (h0 : J [] W) :
    CallsIn Fence.wide n Try.prog 53 #[.func (.yield l) #[] #[], .pointer (some ⟨Bs, 0, none⟩)] W fun e W' => (∃ v, e = .returned v) ∧
      ((∃ ys, ys = zs ∧ J ys W') ∨ (∃ pre, pre <+: zs ∧ Jx pre W')) := by
  have hz := hR.1
  have HR := Lib.hid hR
  have HZ := Lib.hid hz
  have HJ := Lib.hid hJa
  clear hR hz hJa
  refine callsIn_of_wp Try.func53 rfl trivial ?_ rfl
  simp only [Try.ntmps53, List.size_toArray, List.length_cons, List.length_nil, Nat.reduceAdd, Nat.reduceSub, Array.replicate_succ, Array.replicate_zero, List.push_toArray, List.append_toArray, List.nil_append, List.cons_append]
  gi_wp2
  gi_loopw [7] (fun i wr => ∃ k : Nat, k ≤ len ∧ i = .int .i64 k ∧ J (uptoG (fun j => HL.el zs j) k) wr ∧ Below n0 W wr)
    (fun i _ => len - (intOf i).toNat)
  case atStart => exact ⟨0, Nat.zero_le _, rfl, h0, Below.refl _ _⟩
  case round =>
    obtain ⟨k, hk, rfl, hJs, hnx⟩ := hrel
    by_cases hlt : k < len
    · obtain ⟨b, o, hp, hb, hc⟩ := HR.out.2 (by omega)
      subst hp
      have hx := rd_due HZ.out (fun j u hu => (hnx.cell (p := ⟨b, o + j, none⟩) hb).trans (hc j u hu)) k hlt
      clear hc
      have hsz := hnx.size
      have hbw : b < wr.heap.size := by omega
      have hJ1 : J (uptoG (fun j => HL.el zs j) k) (wr.alloc (.cells #[.int .i64 (HL.el zs k).fr, .int .i64 (HL.el zs k).to, .string (HL.el zs k).da, .int .i64 (HL.el zs k).at', .int .i64 (HL.el zs k).sq] 75)) := by
        refine HJ.out _ wr _ none hJs (World.grownBy_alloc _ _ none) (fun r e => by cases e)
      obtain ⟨fn, tmps, assign, body, hy, hRo⟩ := hY _ (HL.el zs k) _ hJ1 (by rw [uptoG_length]; exact hlt)
      have hup : uptoG (fun j => HL.el zs j) (k + 1) = uptoG (fun j => HL.el zs j) k ++ [HL.el zs k] := uptoG_succ _ _
      rw [← hup] at hRo
      have HUP := Lib.hid hup
      clear hup hJ1
      generalize HL.el zs k = x at *
      obtain ⟨x0, x1, x2, x3, x4⟩ := hx
      gi_wp2
      refine hRo.mono ?_
      rintro e W3 (⟨rfl, hJ3, hk3⟩ | ⟨rfl, hJx3⟩)
      · gi_wp2
        go_roundw
        case rel => exact ⟨k + 1, by omega, by simp, hJ3, (hnx.alloc (by omega) _).trans hk3⟩
        case measure => simp [intOf]; omega
      · gi_wp2
        refine bodyPost_ret (results_none rfl _ _ _) rfl ?_
        refine ⟨⟨_, rfl⟩, .inr ⟨_, ?_, hJx3⟩⟩
        rw [uptoG_take zs (by have := HZ.out; omega)]
        exact List.take_prefix _ _
    · obtain rfl : k = len := by omega
      gi_wp2
      go_end0
      refine ⟨⟨_, rfl⟩, .inl ⟨_, ?_, hJs⟩⟩
      rw [← HZ.out]
      exact uptoG_all zs

theorem dvalues_stops (n : Nat) (hn : 1 ≤ n) (Bs n0 len cap : Nat) (p : Option Addr) (zs : List Nd) (hbig : len ≤ 1000000) (w : World) (hBs : Bs < w.heap.size) (hn0 : n0 ≤ w.heap.size)
    (hc : w.cell? ⟨Bs, 0, none⟩ = some (.slice p len cap)) (hR : RdG wcells w n0 p len zs) :
    SeqStopsK Fence.wide n Try.prog 53 #[.pointer (some ⟨Bs, 0, none⟩)] (fun x : Nd => #[dv x]) (Below n0) (fun ys => ys = zs) (fun pre => pre <+: zs) len w :=
  fun l J Jx W hW hJ _ hY h0 =>
    dvalues1_in n hn l Bs n0 len cap p zs hbig J Jx hY W hJ (Nat.le_trans hn0 hW.size) ((hW.cell (p := ⟨Bs, 0, none⟩) hBs).trans hc) (hR.below (hW.mono hn0)) h0

set_option maxRecDepth 100000 in
theorem dvalues_call (p : Option Addr) (len cap : Nat) (w : World) :
    Calls Try.prog 46 #[.slice p len cap] w fun e w' => e = .returned (.func (.func 53) #[] #[.pointer (some ⟨w.heap.size, 0, none⟩)]) ∧ w' = w.alloc (.cells #[.slice p len cap] 47) := by
  go_enter Try.func46, Try.ntmps46
  go_wp2
  go_ret
  exact ⟨rfl, rfl⟩
end Go.Proofs.Ythdpajgnigilhaa

/- slices.AppendSeq, Collect over net's dues: a new row that holds just what they hold. -/
namespace Go.Proofs.Ythdpajgnigilhaa
open Go.RowKit Go.Shelf
attribute [local go_sem] Oper.semAt_some

/-- A due's block: the loop variable. -/
def DueBox (W : World) (B : Nat) (x : Nd) : Prop := W.heap[B]? = some (.cells #[.int .i64 x.fr, .int .i64 x.to, .string x.da, .int .i64 x.at', .int .i64 x.sq] 75 (0, 0))
theorem DueBox.lt {W : World} {B : Nat} {x : Nd} (h : DueBox W B x) : B < W.heap.size := (Array.getElem?_eq_some_iff.1 h).1
theorem DueBox.own {B : Nat} {x : Nd} : Own (fun (_ : Unit) W => DueBox W B x) := by
  rintro s X Y row hv hg hrow
  refine (hg.block B (DueBox.lt hv) (fun e' => ?_)).trans hv
  obtain ⟨o, ho, hc⟩ := hrow B e'.symm
  rw [show X.heap[B]? = _ from hv] at ho; cases ho; cases hc
theorem DueBox.cells {W : World} {B : Nat} {x : Nd} (h : DueBox W B x) : W.cell? ⟨B, 0, none⟩ = some (.int .i64 x.fr) ∧ W.cell? ⟨B, 0 + 1, none⟩ = some (.int .i64 x.to) ∧ W.cell? ⟨B, 0 + 2, none⟩ = some (.string x.da) ∧ W.cell? ⟨B, 0 + 3, none⟩ = some (.int .i64 x.at') ∧ W.cell? ⟨B, 0 + 4, none⟩ = some (.int .i64 x.sq) := by
  unfold DueBox at h
  simp [World.cell?, h]

set_option maxRecDepth 100000 in
set_option maxHeartbeats 4000000 in
theorem dappend_seq (n : Nat) (hn : 3 ≤ n) (Bs len cap : Nat) (p : Option Addr) (zs : List Nd) (hbig : len ≤ 1000000) (w : World) (hBs : Bs < w.heap.size) (hc : w.cell? ⟨Bs, 0, none⟩ = some (.slice p len cap)) (hR : RdG wcells w w.heap.size p len zs) :
    CallsIn Fence.wide n Try.prog 56 #[.slice none 0 0, .func (.func 53) #[] #[.pointer (some ⟨Bs, 0, none⟩)]] w fun e w' =>
      ∃ v, e = .returned v ∧ w'.ownsRow w.heap.size 75 5 v zs.length (rowOf wcells zs) ∧ Below w.heap.size w w' := by
  have h1 : 1 ≤ n := by omega
  have hlen := hR.1
  have HC := Lib.hid hc
  have HR := Lib.hid hR
  clear hc hR
  obtain ⟨i0, hi, hz0, hz1, hz2⟩ := info_parts info_wt
  refine callsIn_of_wp_marks Try.func56 rfl trivial ?_ rfl
  simp only [Try.ntmps56, List.size_toArray, List.length_cons, List.length_nil, Nat.reduceAdd, Nat.reduceSub, Array.replicate_succ, Array.replicate_zero, List.push_toArray, List.append_toArray, List.nil_append, List.cons_append]
  gi_wp2
  have bO := Boxed.new w 46 (.slice none 0 0)
  have hB0 : Below w.heap.size w (w.alloc (.cells #[.slice none 0 0] 46)) := (Below.refl _ w).alloc (Nat.le_refl _) _
  refine wpIn_rangeFunc_ownH rfl h1 (gf := 53) (lb := #[.pointer (some ⟨Bs, 0, none⟩)]) rfl trivial (enters_of Try.func53 (by kernel_rfl) rfl)
    (dvalues_stops (n - 1) (by omega) Bs w.heap.size len cap p zs hbig (w.alloc (.cells #[.slice none 0 0] 46)) (by simp; omega) (by simp) ((hB0.cell (p := ⟨Bs, 0, none⟩) hBs).trans HC.out) (HR.out.below hB0)) belowK_t (belowK_b (by simp)) (Below.refl _ _) (fun _ => rfl)
    (fun pre W => (∃ v, Boxed W w.heap.size 46 v ∧ W.ownsRow w.heap.size 75 5 v pre.length (rowOf wcells pre) ∧ True) ∧ Below w.heap.size w W)
    (fun _ _ _ => False)
    (OwnFrom.and (Own.from (holdsRow_own w.heap.size w.heap.size 46 75 5 (fun pre : List Nd => pre.length) (fun pre : List Nd => rowOf wcells pre) (fun _ _ => True)) _) (ownFrom_below (Nat.le_refl _) (by simp)))
    (fun _ _ _ _ _ hs _ _ => hs)
    ⟨⟨_, bO, World.ownsRow_nil _ _ _ _, trivial⟩, hB0⟩
    (fun x a' W => ∃ Bx, w.heap.size < Bx ∧ DueBox W Bx x ∧ a' = { tmps := #[.slice none 0 0, .func (.func 53) #[] #[.pointer (some ⟨Bs, 0, none⟩)], .pointer (some ⟨w.heap.size, 0, none⟩), undef, .slice none 0 0, .pointer (some ⟨Bx, 0, none⟩), .func (.func 53) #[] #[.pointer (some ⟨Bs, 0, none⟩)], dv x, undef, undef, undef, undef, undef], defers := [] })
    (fun x a' _ X Y row hs hg hr => by obtain ⟨Bx, h1, h2, h3⟩ := hs; exact ⟨Bx, h1, DueBox.own () X Y row h2 hg (fun r e => (hr r e).2), h3⟩)
    ?assign ?body ?done ?stop
  case assign =>
    rintro l pre x W K ⟨⟨v, hv, hrow, _⟩, hB⟩ hK
    gi_wp2
    exact hK _ _ ((KeepsOthers.alloc _ _).from _) ((Below.refl _ W).alloc hB.size _) ⟨⟨v, hv.alloc _, hrow.alloc _, trivial⟩, hB.alloc hB.size _⟩ ⟨W.heap.size, hv.lt, World.alloc_heap_new W _, rfl⟩
  case body =>
    rintro l pre x a' W hl ⟨r, hr⟩ ⟨⟨v, hv, hrow, _⟩, hB⟩ ⟨Bx, hBx, bX, rfl⟩ hlt
    have hc := hv.cell
    obtain ⟨x0, x1, x2, x3, x4⟩ := bX.cells
    gi_wp2_with (gi_at_builtin; refine wpListIn_append_own _ rfl _ _ 46 rfl w.heap.size 75 i0 _ 5 48 Try.underlying46 hi hz0 hz1 hz2 rfl (by decide) _ _ _ rfl (hrow.alloc _) ⟨W.heap.size, 0, none⟩ 1 1 (wcells x) rfl rfl (new_cells W [.int .i64 x.fr, .int .i64 x.to, .string x.da, .int .i64 x.at', .int .i64 x.sq] 75) (by intro u hu; simp [wcells] at hu; rcases hu with rfl | rfl | rfl | rfl | rfl <;> rfl) (by unfold maxLen; omega) (by omega) (by have := hB.size; simp; omega) ?_; intro v' w1 hown' hgrow _; obtain ⟨g', cap', rfl⟩ := ownsRow_succ hown'; obtain ⟨hv1, hv2, hr2, hk2, hb2⟩ := hv.appended (by decide) hrow hB.size (Nat.le_refl _) hown' hgrow; have hc1 := hv1.cell; have hf1 := hv1.frozen)
    exact ⟨hk2.from _, hb2, ⟨_, hv2, by rw [rowOf_append, rowOf_one, List.length_append]; exact hr2, trivial⟩, hB.trans hb2⟩
  case done =>
    rintro D ys W hD rfl ⟨⟨v, hv, hrow, _⟩, hB⟩ hK
    have hc := hv.cell
    gi_wp2
    refine ⟨by simp, .inl ⟨_, _, rfl, run_takeDeferred hK, ?_⟩⟩
    exact ⟨_, results_tmp rfl _ _ _, v, rfl, ownsRow_putObj hrow _ hK rfl, hB.trans (belowK_b (w := w) (Nat.le_refl _) W D _ _ (by simp at hD; omega) hK rfl rfl)⟩
  case stop =>
    rintro D c pre W _ _ h _
    exact h.elim

set_option maxRecDepth 100000 in
theorem dcollect_seq (Bs len cap : Nat) (p : Option Addr) (zs : List Nd) (hbig : len ≤ 1000000) (w : World) (hBs : Bs < w.heap.size) (hc : w.cell? ⟨Bs, 0, none⟩ = some (.slice p len cap)) (hR : RdG wcells w w.heap.size p len zs) :
    Calls Try.prog 51 #[.func (.func 53) #[] #[.pointer (some ⟨Bs, 0, none⟩)]] w fun e w' =>
      ∃ v, e = .returned v ∧ w'.ownsRow w.heap.size 75 5 v zs.length (rowOf wcells zs) ∧ Below w.heap.size w w' := by
  have HA := Lib.hid (callsIn_wide.1 (dappend_seq 3 (by omega) Bs len cap p zs hbig w hBs hc hR))
  clear hc hR
  go_enter Try.func51, Try.ntmps51
  go_wp2_with fail
  refine HA.out.mono ?_
  rintro e w' ⟨v, rfl, h⟩
  go_wp2
  go_ret
  exact ⟨v, rfl, h⟩
end Go.Proofs.Ythdpajgnigilhaa

/- net's dues: '==' of two of them; compare, as slices.SortFunc asks it; find's closure. -/
namespace Go.Proofs.Ythdpajgnigilhaa
open Go.RowKit Go.Sort

/-- '==' of two dues. -/
def eqD (x y : Nd) : Bool := x.fr == y.fr && (x.to == y.to && x.da.toList == y.da.toList) && (x.at' == y.at' && x.sq == y.sq)
theorem eqD_eq (x y : Nd) : eqD x y = true ↔ x = y := by
  obtain ⟨a, b, c, d, e⟩ := x
  obtain ⟨a', b', c', d', e'⟩ := y
  simp only [eqD, Bool.and_eq_true, beq_iff_eq, Nd.mk.injEq]
  rw [ByteArray.toList_eq, ByteArray.toList_eq]
  constructor
  · rintro ⟨⟨h1, h2, h3⟩, h4, h5⟩
    refine ⟨h1, h2, ?_, h4, h5⟩
    obtain ⟨⟨x⟩⟩ := c
    obtain ⟨⟨y⟩⟩ := c'
    simp at h3
    rw [h3]
  · rintro ⟨h1, h2, h3, h4, h5⟩
    exact ⟨⟨h1, h2, by rw [h3]⟩, h4, h5⟩

set_option maxRecDepth 100000 in
theorem run_eqPkt (d : Nat) (x y : Nd) (w : World) : (Op.equalIn (d + 1 + 1) 34 (pkv x.fr x.to x.da) (pkv y.fr y.to y.da)).run Try.prog w = .ok (x.fr == y.fr && (x.to == y.to && x.da.toList == y.da.toList)) w := by
  have u3 := Try.underlying3
  have a3 := Try.isAgg3
  have z3 := Try.sizeOf3
  have u9 := Try.underlying9
  have a9 := Try.isAgg9
  have z9 := Try.sizeOf9
  have hS2 : Try.prog.underlying 34 = some (.struct (Try.prog.fieldsOf 34)) := by kernel_rfl
  have hp2 : Try.prog.stoodInHeld 34 = false := by kernel_rfl
  unfold pkv
  rw [run_equalIn_agg w (d + 1) 34 _ _ hS2 hp2]
  simp only [Program.fieldsOf, Try.underlying34]
  go_simp
  by_cases h1 : x.fr = y.fr <;> by_cases h2 : x.to = y.to <;> by_cases h3 : x.da.toList = y.da.toList <;> simp [h1, h2, h3]

set_option maxRecDepth 100000 in
theorem run_eqDue (d : Nat) (x y : Nd) (w : World) : (Op.equalIn (d + 1 + 1 + 1) 75 (dv x) (dv y)).run Try.prog w = .ok (eqD x y) w := by
  have u3 := Try.underlying3
  have a3 := Try.isAgg3
  have z3 := Try.sizeOf3
  have a34 := Try.isAgg34
  have z34 := Try.sizeOf34
  have hS : Try.prog.underlying 75 = some (.struct (Try.prog.fieldsOf 75)) := by kernel_rfl
  have hp : Try.prog.stoodInHeld 75 = false := by kernel_rfl
  have hP := run_eqPkt d x y
  unfold dv
  unfold pkv at hP
  unfold eqD
  rw [run_equalIn_agg w (d + 1 + 1) 75 _ _ hS hp]
  simp only [Program.fieldsOf, Try.underlying75]
  generalize (x.fr == y.fr && (x.to == y.to && x.da.toList == y.da.toList)) = r at *
  go_simp
  cases r <;> by_cases h1 : x.at' = y.at' <;> by_cases h2 : x.sq = y.sq <;> simp [h1, h2]

theorem run_eqD (x y : Nd) (w : World) : (binOp .eql 75 (dv x) (dv y)).run Try.prog w = .ok (.bool (eqD x y)) w := by
  unfold dv
  rw [run_eql_struct, show (10000 : Nat) = 9997 + 1 + 1 + 1 from rfl, run_eqDue]
  rfl

set_option maxHeartbeats 400000 in
set_option maxRecDepth 100000 in
/-- 'compare', as the sort asks it: it draws, and lays blocks. -/
theorem compare_lays (x y : Nd) (w : World) :
    Calls Try.prog 47 #[dv x, dv y] w fun e w' => e = .returned (.int .i64 (cmpD x y)) ∧ ∃ q os, w' = grow (w.drewN q) os := by
  obtain ⟨f1, o1, b1, a1, s1⟩ := x
  obtain ⟨f2, o2, b2, a2, s2⟩ := y
  unfold dv
  go_enter Try.func47, Try.ntmps47
  go_wp2_with fail
  refine region_tail 10 (by kernel_rfl) (by kernel_rfl) (fun V => V.cell? ⟨w.heap.size, 0 + 3, none⟩ = some (.int .i64 a1) ∧ V.cell? ⟨w.heap.size, 0 + 4, none⟩ = some (.int .i64 s1) ∧ V.cell? ⟨w.heap.size + 1, 0 + 3, none⟩ = some (.int .i64 a2) ∧ V.cell? ⟨w.heap.size + 1, 0 + 4, none⟩ = some (.int .i64 s2) ∧ ∃ os, V = grow (w.drewN 1) os) ⟨by go_simp, by go_simp, by go_simp, by go_simp, _, by rw [alloc_eq_grow, alloc_eq_grow, grow_grow, drew_grow]; rfl⟩ ?_
  rintro V ⟨c1, c2, c3, c4, hb⟩
  have HB := Lib.hid hb
  clear hb
  simp only [List.take_succ_cons, List.take_zero, List.drop_succ_cons, List.drop_zero]
  iterate 4 still_step
  still_call (still_of (compare_int _ _ _))
  iterate 4 still_step
  still_call (still_of (compare_int _ _ _))
  refine wpStill_nil ?_
  go_wp2_with fail
  refine (or_int V.heap.size 0 [cmpI a1 a2, cmpI s1 s2] 2 _ (by simp) (or_cells V _ _ _)).mono ?_
  rintro e w' ⟨rfl, rfl⟩
  go_wp2
  go_ret
  obtain ⟨os, rfl⟩ := HB.out
  exact ⟨rfl, 1, _, by rw [alloc_eq_grow, grow_grow]⟩

set_option maxRecDepth 100000 in
/-- find's closure: is it the wanted one? -/
theorem find_is (x y : Nd) (B : Nat) (W : World) (hy : W.cell? ⟨B, 0, none⟩ = some (.int .i64 y.fr) ∧ W.cell? ⟨B, 0 + 1, none⟩ = some (.int .i64 y.to) ∧ W.cell? ⟨B, 0 + 2, none⟩ = some (.string y.da) ∧ W.cell? ⟨B, 0 + 3, none⟩ = some (.int .i64 y.at') ∧ W.cell? ⟨B, 0 + 4, none⟩ = some (.int .i64 y.sq)) :
    Calls Try.prog 49 #[dv x, .pointer (some ⟨B, 0, none⟩)] W fun e w' => e = .returned (.bool (eqD x y)) ∧ Below W.heap.size W w' := by
  obtain ⟨y0, y1, y2, y3, y4⟩ := hy
  have hlt := cell_lt y0
  have hq := run_eqD x y
  unfold dv at *
  generalize eqD x y = r at *
  go_enter Try.func49, Try.ntmps49
  go_wp2
  go_ret
  exact ⟨rfl, (Below.refl _ _).alloc (Nat.le_refl _) _⟩
end Go.Proofs.Ythdpajgnigilhaa

