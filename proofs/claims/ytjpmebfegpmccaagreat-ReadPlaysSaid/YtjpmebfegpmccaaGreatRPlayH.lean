/- ReadPlays: its argument's cells, where it begins. -/
import Derived.Test.YtjpmebfegpmccaaGreatRPC
import Derived.Test.YtjpmebfegpmccaaGreatLoud
import Derived.Test.YtjpmebfegpmccaaGreatMix
import Derived.Shelf.Abstract
namespace Go.Proofs.YtjpmebfegpmccaaGreat
open Go.RowKit

def opAt (zs : List RdOp) (i : Nat) : RdOp := zs.getD i default

theorem opc_cells {w : World} {B n : Nat} {p : Option Addr} {zs : List RdOp} (h : RdG opc w B p n zs) (i : Nat) (hi : i < n) : ∃ b o, p = some ⟨b, o, none⟩ ∧ b < B ∧ w.cell? ⟨b, o + i * 4, none⟩ = some (.int .i64 (opAt zs i).k) ∧ w.cell? ⟨b, o + i * 4 + 1, none⟩ = some (.int .i64 (opAt zs i).a) ∧ w.cell? ⟨b, o + i * 4 + 2, none⟩ = some (.int .i64 (opAt zs i).b) ∧ w.cell? ⟨b, o + i * 4 + 3, none⟩ = some (.slice (opAt zs i).p (opAt zs i).n (opAt zs i).c) := by
  obtain ⟨b, o, e, hb, hc⟩ := h.2 (by omega)
  have hl := h.1
  have r : ∀ c v, c < 4 → (opc (opAt zs i))[c]? = some v → w.cell? ⟨b, o + i * 4 + c, none⟩ = some v := fun c v hc5 hv => by
    have e1 := rowOf_at opc opc_length zs i c (by omega) hc5
    have e2 := hc (i * 4 + c) v (by rw [e1]; exact hv)
    rw [← Nat.add_assoc] at e2
    exact e2
  exact ⟨b, o, e, hb, r 0 _ (by omega) rfl, r 1 _ (by omega) rfl, r 2 _ (by omega) rfl, r 3 _ (by omega) rfl⟩

theorem info_rd : (Tryz.prog.info? 52).map (fun i => (i.zero, i.size, i.bytes)) = some (some (.agg #[.int .i64 0, .int .i64 0, .int .i64 0]), 3, 24) := by kernel_rfl
theorem rd_T : RowT Tryz.prog 48 52 rcells 3 24 :=
  RowT.of Tryz.underlying48 info_rd rfl (by omega) rcells_length (fun x u hu => by
    simp only [rcells, List.mem_cons, List.not_mem_nil, or_false] at hu
    rcases hu with rfl | rfl | rfl <;> rfl) (by omega)
theorem ne_same (x : Int) : (x != x) = false := by simp
theorem el_left {α : Type} [Inhabited α] {l m : List α} {k : Nat} (h : k < l.length) : HL.el (l ++ m) k = HL.el l k := by
  unfold HL.el
  rw [List.getD_eq_getElem?_getD, List.getElem?_append_left h, List.getD_eq_getElem?_getD]
theorem el_last {l : List Rd} {x : Rd} {n : Nat} (h : l.length = n) : (HL.el (l ++ [x]) n).1 = x.1 := by
  unfold HL.el
  rw [List.getD_eq_getElem?_getD, List.getElem?_append_right (by omega), h, Nat.sub_self]
  rfl
theorem owns_capsG {w : World} {base g n cap size : Nat} {e : TypeId} {xs : List Value} (h : w.ownsRow base e size (.slice (some ⟨g, 0, none⟩) n cap) n xs) : n ≤ cap ∧ cap ≤ 9223372036854775807 := by
  rcases h.2 with ⟨h, _⟩ | ⟨_, _, _, h, _, _, hc, hm, _⟩
  · cases h
  · injection h with _ _ h
    subst h
    unfold maxLen at hm
    exact ⟨hc, hm⟩

set_option maxHeartbeats 2000000 in
set_option maxRecDepth 100000 in
theorem plays_no (z : Bool) (p : Option Addr) (n c : Nat) (w : World) (h : 120 < n) : Calls Tryz.prog 3 #[.bool z, .slice p n c] w fun e w' => e = .returned (.bool true) ∧ Below w.heap.size w w' := by
  have HA := Lib.hid (fun w => alive_true w)
  go_enter Tryz.func3, Tryz.ntmps3
  go_wp2_with fail
  refine (HA.out _).mono ?_
  rintro e w3 ⟨rfl, hb3⟩
  have HB := Lib.hid hb3
  clear hb3
  go_wp2
  go_ret
  exact ⟨rfl, HB.out⟩

theorem rpi_start {w w1 : World} (hQ : QueueI w.heap.size w.heap.size (.slice none 0 0) [] 0 w1) (hb1 : Below w.heap.size w w1) : RPI w w.heap.size w1.heap.size (w1.heap.size + 1) 0 ((w1.alloc (.cells #[.slice none 0 0] 29)).alloc (.cells (List.replicate 22 (Value.slice none 0 0)).toArray 47)) := by
  have hq1 := hQ.lt w.heap.size (.inl rfl)
  have hs := hb1.size
  have B1 : Below w1.heap.size w1 (w1.alloc (.cells #[.slice none 0 0] 29)) := (Below.refl _ w1).alloc (Nat.le_refl _) _
  have hs1 : (w1.alloc (.cells #[.slice none 0 0] 29)).heap.size = w1.heap.size + 1 := by simp
  have hr : RQI w1.heap.size w.heap.size (.slice none 0 0) [] (w1.alloc (.cells #[.slice none 0 0] 29)) := by
    have hb : (w1.alloc (.cells #[.slice none 0 0] 29)).heap[w1.heap.size]? = some (.cells #[.slice none 0 0] 29 (0, 0)) := heap_alloc_new w1 _
    exact ⟨by rw [cell_of_row _ _ _ _ _ _ hb]; rfl, frozen_of_row _ _ _ _ _ hb, World.ownsRow_nil _ _ _ _, (fun h => by cases h), by omega, fun _ => rfl⟩
  generalize w1.alloc (.cells #[.slice none 0 0] 29) = w2 at *
  have hk := bookN_new w2 47
  have B2 : Below w2.heap.size w2 (w2.alloc (.cells (List.replicate 22 (Value.slice none 0 0)).toArray 47)) := (Below.refl _ w2).alloc (Nat.le_refl _) _
  rw [hs1] at hk
  refine ⟨.slice none 0 0, .slice none 0 0, [], 0, [], _, 0, ⟨(hQ.below B1).below B2, hr.below B2, hk.less (by omega), ?_, ?_, ?_, Nat.le_refl _, by omega, by omega, (hb1.trans (B1.mono hs)).trans (B2.mono (by omega))⟩, Nat.le_refl _, QS2.nil, List.Perm.refl _, Int.le_refl _, by omega, by simp⟩
  · rintro j (e | e) (e2 | e2)
    · omega
    · cases e2
    · cases e
    · cases e
  · rintro j (e | e) e2
    · omega
    · cases e
  · rintro j (e | e) e2
    · omega
    · cases e

end Go.Proofs.YtjpmebfegpmccaaGreat
