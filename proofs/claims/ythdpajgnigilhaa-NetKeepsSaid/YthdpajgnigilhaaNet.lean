/- net's Net: New, Len, push. -/
import Derived.Test.YthdpajgnigilhaaNDuesH
namespace Go.Proofs.Ythdpajgnigilhaa
open Go.RowKit

/-- Block nb is a Net that has l, a heap, and has counted to seq; cu: what is cut; ch: its channel. -/
structure NetI (nb base : Nat) (v : Value) (l : List Nd) (seq : Int) (cu ch : Value) (w : World) : Prop where
  h : NetsI nb 0 base v l w
  c1 : w.cell? ⟨nb, 1, none⟩ = some (.int .i64 seq)
  f1 : w.frozen? ⟨nb, 1, none⟩ = false
  c2 : w.cell? ⟨nb, 2, none⟩ = some cu
  f2 : w.frozen? ⟨nb, 2, none⟩ = false
  c3 : w.cell? ⟨nb, 3, none⟩ = some ch
  f3 : w.frozen? ⟨nb, 3, none⟩ = false
  hp : HL.IsHeap wlt l

def netF (nb : Nat) (v : Value) : Nat → Prop := fun k => k = nb ∨ v.ownBlock = some k

theorem NetI.keep {nb base : Nat} {v : Value} {l : List Nd} {seq : Int} {cu ch : Value} {w w' : World} (h : NetI nb base v l seq cu ch w) {S : Nat → Prop} (hf : Fr S w w') (hS : ∀ k, netF nb v k → ¬ S k) : NetI nb base v l seq cu ch w' := by
  obtain ⟨a, b, c, d, e, f, g, i⟩ := h
  have h1 : ¬ S nb := hS nb (.inl rfl)
  exact ⟨a.keep hf h1 (fun g hg => hS g (.inr hg)), (hf.cell (cell_lt b) h1).trans b, (hf.frozen (cell_lt b) h1).trans c, (hf.cell (cell_lt d) h1).trans d, (hf.frozen (cell_lt d) h1).trans e, (hf.cell (cell_lt f) h1).trans f, (hf.frozen (cell_lt f) h1).trans g, i⟩

set_option maxRecDepth 100000 in
theorem net_new (w : World) :
    Calls Try.prog 9 #[] w fun e w' => e = .returned (.pointer (some ⟨w.heap.size, 0, none⟩)) ∧ NetI w.heap.size w.heap.size (.slice none 0 0) [] 0 (.map none) (.chan none) w' ∧ Below w.heap.size w w' := by
  go_enter Try.func9, Try.ntmps9
  go_wp2
  go_ret
  refine ⟨rfl, ⟨⟨by go_simp, by go_simp, World.ownsRow_nil _ _ _ _, by simp [Value.ownBlock], by simp, by simp⟩, by go_simp, by go_simp, by go_simp, by go_simp, by go_simp, by go_simp, HL.isHeap_nil⟩, (Below.refl _ _).alloc (Nat.le_refl _) _⟩

set_option maxHeartbeats 400000 in
set_option maxRecDepth 100000 in
theorem net_len (nb base : Nat) (v : Value) (l : List Nd) (seq : Int) (cu ch : Value) (w : World) (h : NetI nb base v l seq cu ch w) :
    Calls Try.prog 11 #[.pointer (some ⟨nb, 0, none⟩)] w fun e w' => e = .returned (.int .i64 l.length) ∧ w = w' := by
  obtain ⟨p, c, hv⟩ := owns_slice h.h.2.2.1
  have hc := h.h.1
  rw [hv] at hc
  clear h hv
  generalize l.length = n at *
  go_enter Try.func11, Try.ntmps11
  go_wp2
  go_ret
  exact ⟨rfl, rfl⟩

theorem NetI.seq_set {nb base : Nat} {v : Value} {l : List Nd} {seq : Int} {cu ch : Value} {w : World} (h : NetI nb base v l seq cu ch w) (s' : Int) :
    NetI nb base v l s' cu ch (w.setCell ⟨nb, 1, none⟩ (.int .i64 s')) ∧ Fr (netF nb v) w (w.setCell ⟨nb, 1, none⟩ (.int .i64 s')) := by
  obtain ⟨⟨a1, a2, a3, a4, a5, a6⟩, b, c, d, e, f, g, i⟩ := h
  have hF : Fr (fun k => k = nb) w (w.setCell ⟨nb, 1, none⟩ (.int .i64 s')) := (Fr.refl (fun k => k = nb) w).setCell (p := ⟨nb, 1, none⟩) (fun _ => rfl) _
  refine ⟨⟨⟨?_, by rw [frozen_set]; exact a2, hF.owns a3 (fun g hg e => a4 (by rw [hg, e])), a4, a5, Nat.le_trans a6 hF.size⟩, cell_set_same _ _ _ _ b, by rw [frozen_set]; exact c, ?_, by rw [frozen_set]; exact e, ?_, by rw [frozen_set]; exact g, i⟩, hF.mono (fun i _ hi => .inl hi)⟩
  · rw [World.cell?_setCell_other _ _ _ _ (by simp)]; exact a1
  · rw [World.cell?_setCell_other _ _ _ _ (by simp)]; exact d
  · rw [World.cell?_setCell_other _ _ _ _ (by simp)]; exact f

set_option maxHeartbeats 1000000 in
set_option maxRecDepth 100000 in
theorem net_push (nb base : Nat) (v : Value) (l : List Nd) (seq at' fr to : Int) (da : ByteArray) (cu ch : Value) (w : World) (h : NetI nb base v l seq cu ch w) (hs0 : 0 ≤ seq) (hs : seq ≤ 1000000) (hn : l.length < 1000000) :
    Calls Try.prog 33 #[.pointer (some ⟨nb, 0, none⟩), .int .i64 at', .agg #[.int .i64 fr, .int .i64 to, .string da]] w fun e w' => e = .returned (.tuple #[]) ∧
      ∃ v' l', NetI nb base v' l' (seq + 1) cu ch w' ∧ l'.Perm (l ++ [⟨fr, to, da, at', seq + 1⟩]) ∧ Fr (netF nb v) w w' ∧ (∀ g, v'.ownBlock = some g → Lies v g w.heap.size) := by
  have hS := h.seq_set (seq + 1)
  have hFA : Fr (fun _ => False) (w.setCell ⟨nb, 1, none⟩ (.int .i64 (seq + 1))) ((w.setCell ⟨nb, 1, none⟩ (.int .i64 (seq + 1))).alloc (.cells #[.int .i64 fr, .int .i64 to, .string da] 34)) := (Fr.refl (fun _ => False) _).alloc _
  have hA := hS.1.keep hFA (fun _ _ h => h)
  have hFW : Fr (netF nb v) w ((w.setCell ⟨nb, 1, none⟩ (.int .i64 (seq + 1))).alloc (.cells #[.int .i64 fr, .int .i64 to, .string da] 34)) := hS.2.alloc _
  have hlt := cell_lt h.c1
  have hc := h.c1
  have hf := h.f1
  have b0 : ((w.setCell ⟨nb, 1, none⟩ (.int .i64 (seq + 1))).alloc (.cells #[.int .i64 fr, .int .i64 to, .string da] 34)).cell? ⟨w.heap.size, 0, none⟩ = some (.int .i64 fr) := by clear hA hFA hS hFW; go_simp
  have b1 : ((w.setCell ⟨nb, 1, none⟩ (.int .i64 (seq + 1))).alloc (.cells #[.int .i64 fr, .int .i64 to, .string da] 34)).cell? ⟨w.heap.size, 0 + 1, none⟩ = some (.int .i64 to) := by clear b0 hA hFA hS hFW; go_simp
  have b2 : ((w.setCell ⟨nb, 1, none⟩ (.int .i64 (seq + 1))).alloc (.cells #[.int .i64 fr, .int .i64 to, .string da] 34)).cell? ⟨w.heap.size, 0 + 2, none⟩ = some (.string da) := by clear b0 b1 hA hFA hS hFW; go_simp
  have HBB := Lib.hid (And.intro b0 (And.intro b1 b2))
  have HH := Lib.hid hA
  have HFW := Lib.hid hFW
  have hmin : min (seq + 1) 4611686018427387904 = seq + 1 := by omega
  clear hA hFA hS hFW h b0 b1 b2
  go_enter Try.func33, Try.ntmps33
  go_wp2_with fail
  generalize ((w.setCell ⟨nb, 1, none⟩ (.int .i64 (seq + 1))).alloc (.cells #[.int .i64 fr, .int .i64 to, .string da] 34)) = W at *
  refine region_tail 12 (by kernel_rfl) (by kernel_rfl) (fun V => V.cell? ⟨nb, 1, none⟩ = some (.int .i64 (seq + 1)) ∧ V.cell? ⟨w.heap.size, 0, none⟩ = some (.int .i64 fr) ∧ V.cell? ⟨w.heap.size, 0 + 1, none⟩ = some (.int .i64 to) ∧ V.cell? ⟨w.heap.size, 0 + 2, none⟩ = some (.string da) ∧ Hid (NetI nb base v l (seq + 1) cu ch V) ∧ Hid (Fr (netF nb v) w V)) ⟨HH.out.c1, HBB.out.1, HBB.out.2.1, HBB.out.2.2, HH.out.keep ((Fr.refl (fun _ => False) W).drew) (fun _ _ h => h), HFW.out.drew⟩ ?_
  rintro V ⟨c1, b0, b1, b2, HV, HF⟩
  clear HH HBB HFW hc hf
  simp only [List.take_succ_cons, List.take_zero, List.drop_succ_cons, List.drop_zero]
  iterate 12 still_step
  refine wpStill_nil ?_
  go_wp2_with fail
  refine (heap_push_nets nb 0 base v l ⟨fr, to, da, at', seq + 1⟩ V HV.out.h HV.out.hp hn).mono ?_
  rintro e w' ⟨rfl, v', l', hI, hh, hp, hfr, hl, hoth⟩
  have HI := Lib.hid (show NetI nb base v' l' (seq + 1) cu ch w' from ⟨hI, (hoth 1 (by omega)).1.trans c1, (hoth 1 (by omega)).2.trans HV.out.f1, (hoth 2 (by omega)).1.trans HV.out.c2, (hoth 2 (by omega)).2.trans HV.out.f2, (hoth 3 (by omega)).1.trans HV.out.c3, (hoth 3 (by omega)).2.trans HV.out.f3, hh⟩)
  have HFR := Lib.hid (Fr.trans HF.out hfr (fun i hi _ => hi))
  have HLI := Lib.hid hl
  clear hoth hI hh hfr hl
  go_wp2
  go_end0
  exact ⟨rfl, v', l', HI.out, hp, HFR.out, fun g hg => (HLI.out g hg).imp id (fun h => Nat.le_trans HF.out.size h)⟩
end Go.Proofs.Ythdpajgnigilhaa
