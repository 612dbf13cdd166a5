/- pile's Line: the contracts of NewLine, Put, First, Take and Len. -/
import Derived.Test.YtllmdhkeapabjaaDuesH
namespace Go.Proofs.Ytllmdhkeapabjaa
open Go.RowKit

/-- Block lb is a Line that has l, a heap, and has counted to seq. -/
def LineI (lb base : Nat) (v : Value) (l : List (Int × Int × Int)) (seq : Int) (w : World) : Prop :=
  DuesI lb 0 base v l w ∧ w.cell? ⟨lb, 1, none⟩ = some (.int .i64 seq) ∧ w.frozen? ⟨lb, 1, none⟩ = false ∧ HL.IsHeap dlt l

def lineF (lb : Nat) (v : Value) : Nat → Prop := fun k => k = lb ∨ v.ownBlock = some k

theorem LineI.keep {lb base : Nat} {v : Value} {l : List (Int × Int × Int)} {seq : Int} {w w' : World} (h : LineI lb base v l seq w) {S : Nat → Prop} (hf : Fr S w w') (hS : ∀ k, lineF lb v k → ¬ S k) : LineI lb base v l seq w' := by
  obtain ⟨a, b, c, d⟩ := h
  have hlt := cell_lt b
  have h1 : ¬ S lb := hS lb (.inl rfl)
  exact ⟨a.keep hf h1 (fun g hg => hS g (.inr hg)), (hf.cell hlt h1).trans b, (hf.frozen hlt h1).trans c, d⟩

set_option maxRecDepth 100000 in
theorem line_new (w : World) :
    Calls Try.prog 9 #[] w fun e w' => e = .returned (.pointer (some ⟨w.heap.size, 0, none⟩)) ∧ LineI w.heap.size w.heap.size (.slice none 0 0) [] 0 w' ∧ Below w.heap.size w w' := by
  go_enter Try.func9, Try.ntmps9
  go_wp2
  go_ret
  refine ⟨rfl, ⟨⟨by go_simp, by go_simp, World.ownsRow_nil _ _ _ _, by simp [Value.ownBlock], by simp, by simp⟩, by go_simp, by go_simp, HL.isHeap_nil⟩, (Below.refl _ _).alloc (Nat.le_refl _) _⟩

set_option maxHeartbeats 400000 in
set_option maxRecDepth 100000 in
theorem line_len (lb base : Nat) (v : Value) (l : List (Int × Int × Int)) (seq : Int) (w : World) (h : LineI lb base v l seq w) :
    Calls Try.prog 12 #[.pointer (some ⟨lb, 0, none⟩)] w fun e w' => e = .returned (.int .i64 l.length) ∧ w = w' := by
  obtain ⟨p, c, hv⟩ := owns_slice h.1.2.2.1
  have hc := h.1.1
  rw [hv] at hc
  clear h hv
  generalize l.length = n at *
  go_enter Try.func12, Try.ntmps12
  go_wp2
  go_ret
  exact ⟨rfl, rfl⟩

theorem LineI.seq_set {lb base : Nat} {v : Value} {l : List (Int × Int × Int)} {seq : Int} {w : World} (h : LineI lb base v l seq w) (s' : Int) :
    LineI lb base v l s' (w.setCell ⟨lb, 1, none⟩ (.int .i64 s')) ∧ Fr (lineF lb v) w (w.setCell ⟨lb, 1, none⟩ (.int .i64 s')) := by
  obtain ⟨⟨a1, a2, a3, a4, a5, a6⟩, b, c, d⟩ := h
  have hF : Fr (fun k => k = lb) w (w.setCell ⟨lb, 1, none⟩ (.int .i64 s')) := (Fr.refl (fun k => k = lb) w).setCell (p := ⟨lb, 1, none⟩) (fun _ => rfl) _
  refine ⟨⟨⟨?_, by rw [frozen_set]; exact a2, hF.owns a3 (fun g hg e => a4 (by rw [hg, e])), a4, a5, Nat.le_trans a6 hF.size⟩, cell_set_same _ _ _ _ b, by rw [frozen_set]; exact c, d⟩, hF.mono (fun i _ hi => .inl hi)⟩
  rw [World.cell?_setCell_other _ _ _ _ (by simp)]
  exact a1

set_option maxHeartbeats 400000 in
set_option maxRecDepth 100000 in
theorem line_put (lb base : Nat) (v : Value) (l : List (Int × Int × Int)) (seq at_ what : Int) (w : World) (h : LineI lb base v l seq w) (hs0 : 0 ≤ seq) (hs : seq ≤ 1000000) (hn : l.length < 1000000) :
    Calls Try.prog 10 #[.pointer (some ⟨lb, 0, none⟩), .int .i64 at_, .int .i64 what] w fun e w' => e = .returned (.int .i64 (seq + 1)) ∧
      ∃ v' l', LineI lb base v' l' (seq + 1) w' ∧ l'.Perm (l ++ [(at_, seq + 1, what)]) ∧ Fr (lineF lb v) w w' ∧ (∀ g, v'.ownBlock = some g → Lies v g w.heap.size) := by
  have hlt := cell_lt h.2.1
  have hc := h.2.1
  have hf := h.2.2.1
  have HH := Lib.hid (h.seq_set (seq + 1)); clear h
  go_enter Try.func10, Try.ntmps10
  go_wp2
  refine region_tail 12 (by kernel_rfl) (by kernel_rfl) (fun V => V.cell? ⟨lb, 1, none⟩ = some (.int .i64 (seq + 1)) ∧ Hid (LineI lb base v l (seq + 1) V) ∧ Hid (Fr (lineF lb v) w V)) ⟨HH.out.1.2.1, HH.out.1, HH.out.2.drew⟩ ?_
  rintro V ⟨c1, HV, HF⟩
  clear HH
  simp only [List.take_succ_cons, List.take_zero, List.drop_succ_cons, List.drop_zero]
  iterate 12 still_step
  refine wpStill_nil ?_
  go_wp2_with fail
  refine (heap_push_dues lb 0 base v l (at_, seq + 1, what) V HV.out.1 HV.out.2.2.2 hn).mono ?_
  rintro e w' ⟨rfl, v', l', hI, hh, hp, hfr, hl, hoth⟩
  have hc1 := (hoth 1 (by omega)).1.trans c1
  have hf1 := (hoth 1 (by omega)).2.trans HV.out.2.2.1
  have HI := Lib.hid (show LineI lb base v' l' (seq + 1) w' from ⟨hI, hc1, hf1, hh⟩)
  have HFR := Lib.hid (Fr.trans HF.out hfr (fun i hi _ => hi))
  have HLI := Lib.hid hl
  clear hoth hI hh hfr hl
  go_wp2
  go_ret
  exact ⟨rfl, v', l', HI.out, hp, HFR.out, fun g hg => (HLI.out g hg).imp id (fun h => Nat.le_trans HF.out.size h)⟩
set_option maxHeartbeats 400000 in
set_option maxRecDepth 100000 in
theorem line_first_none (lb base : Nat) (v : Value) (seq : Int) (w : World) (h : LineI lb base v [] seq w) :
    Calls Try.prog 16 #[.pointer (some ⟨lb, 0, none⟩)] w fun e w' => e = .returned (.tuple #[dv (0, 0, 0), .bool false]) ∧ Below w.heap.size w w' := by
  have hlt := cell_lt h.2.1
  have HH := Lib.hid h; clear h
  go_enter Try.func16, Try.ntmps16
  go_wp2_with fail
  refine (line_len lb base v [] seq _ (HH.out.keep ((Fr.refl (fun _ => False) w).alloc _) (fun _ _ h => h))).mono ?_
  rintro e w' ⟨rfl, rfl⟩
  go_wp2
  exact bodyPost_ret (v := .tuple #[dv (0, 0, 0), .bool false]) (by simp [results, Try.results16, go_sem]) rfl ⟨rfl, (Below.refl _ _).alloc (Nat.le_refl _) _⟩

set_option maxHeartbeats 400000 in
set_option maxRecDepth 100000 in
theorem line_first_some (lb base : Nat) (v : Value) (l : List (Int × Int × Int)) (seq : Int) (w : World) (h : LineI lb base v l seq w) (hn : 0 < l.length) :
    Calls Try.prog 16 #[.pointer (some ⟨lb, 0, none⟩)] w fun e w' => e = .returned (.tuple #[dv (HL.el l 0), .bool true]) ∧ Below w.heap.size w w' := by
  have hlt := cell_lt h.2.1
  obtain ⟨g, cap, hv, _, hg, _⟩ := owns_len h.1.2.2.1 hn
  have h' := hv ▸ h
  have hx := h'.1.cells rfl 0 hn
  obtain ⟨hx0, hx1, hx2⟩ := hx
  have hc := h'.1.1
  have HH := Lib.hid h; clear h h' hv
  have hm := HH.out.1.2.2.2.2.1
  have hne : ((l.length : Int) == 0) = false := by rw [beq_eq_false_iff_ne]; omega
  have HL0 := Lib.hid (fun o => line_len lb base v l seq (w.alloc o) (HH.out.keep ((Fr.refl (fun _ => False) w).alloc _) (fun _ _ h => h)))
  generalize HL.el l 0 = x at *
  generalize l.length = n at *
  go_enter Try.func16, Try.ntmps16
  go_wp2_with fail
  refine (HL0.out _).mono ?_
  rintro e w' ⟨rfl, rfl⟩
  go_wp2
  exact bodyPost_ret (v := .tuple #[dv x, .bool true]) (by simp [results, Try.results16, go_sem]) rfl ⟨rfl, (Below.refl _ _).alloc (Nat.le_refl _) _⟩
end Go.Proofs.Ytllmdhkeapabjaa
