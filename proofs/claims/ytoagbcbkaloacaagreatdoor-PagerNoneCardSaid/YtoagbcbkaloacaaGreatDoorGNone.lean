/- pager: the calls of nil, and of a Pager that New did not make; arboretumlaw7.PagerNone. -/
import Derived.Test.YtoagbcbkaloacaaGreatDoorGAlive
namespace Go.Proofs.YtoagbcbkaloacaaGreatDoor
open Go.RowKit Go.Maps Go.Conc

/-- nil, or a Pager without a device. -/
def NoneP (w : World) : Option Addr → Prop
  | none => True
  | some a => ∃ b, a = ⟨b, 0, none⟩ ∧ w.cell? ⟨b, 0, none⟩ = some (.pointer none)

set_option maxRecDepth 100000 in
theorem none_none (p : Option Addr) (w : World) (h : NoneP w p) : Calls Tryz.prog 42 #[.pointer p] w fun e w' => e = .returned (.bool true) ∧ w' = w := by
  cases p with
  | none =>
    go_enter Tryz.func42, Tryz.ntmps42
    go_wp2
    go_ret
    exact ⟨rfl, rfl⟩
  | some a =>
    obtain ⟨b, rfl, c0⟩ := h
    go_enter Tryz.func42, Tryz.ntmps42
    go_wp2
    go_ret
    exact ⟨rfl, rfl⟩

theorem NoneP.below {w w' : World} {p : Option Addr} (h : NoneP w p) (hb : Below w.heap.size w w') : NoneP w' p := by
  cases p with
  | none => trivial
  | some a =>
    obtain ⟨b, rfl, c0⟩ := h
    exact ⟨b, rfl, (hb.cell (p := ⟨b, 0, none⟩) (cell_lt c0)).trans c0⟩

section
variable {p : Option Addr} {w : World}

set_option maxRecDepth 100000 in
theorem none_make (k n : Int) (b : ByteArray) (h : NoneP w p) : Calls Tryz.prog 10 #[.pointer p, .agg #[.int .i64 k, .int .i64 n, .string b]] w fun e w' => e = .returned (.tuple #[.int .i64 0, .int .i64 1]) ∧ Below w.heap.size w w' := by
  have hal : ∀ X, Below w.heap.size w (w.alloc X) := fun X => (Below.refl _ w).alloc (Nat.le_refl _) _
  have HB := Lib.hid hal
  have HN := Lib.hid (fun X => none_none p (w.alloc X) (h.below (hal X)))
  clear h hal
  go_enter Tryz.func10, Tryz.ntmps10
  go_wp2_with fail
  refine (HN.out _).mono ?_
  rintro e w1 ⟨rfl, rfl⟩
  go_wp2
  go_ret2
  exact ⟨rfl, HB.out _⟩

set_option maxRecDepth 100000 in
theorem none_read (id : Int) (h : NoneP w p) : Calls Tryz.prog 26 #[.pointer p, .int .i64 id] w fun e w' => e = .returned (.tuple #[pgv 0 0 ByteArray.empty, .int .i64 1]) ∧ Below w.heap.size w w' := by
  have hal : ∀ X, Below w.heap.size w (w.alloc X) := fun X => (Below.refl _ w).alloc (Nat.le_refl _) _
  have HB := Lib.hid hal
  have HN := Lib.hid (fun X => none_none p (w.alloc X) (h.below (hal X)))
  clear h hal
  go_enter Tryz.func26, Tryz.ntmps26
  go_wp2_with fail
  refine (HN.out _).mono ?_
  rintro e w1 ⟨rfl, rfl⟩
  go_wp2
  (try simp only [Exit.inBlock, Exit.then])
  refine bodyPost_ret (v := .tuple #[pgv 0 0 ByteArray.empty, .int .i64 1]) ?_ rfl ⟨rfl, HB.out _⟩
  rw [results_cell_tmp rfl]
  unfold pgv
  go_simp
  rfl

set_option maxRecDepth 100000 in
theorem none_undo (h : NoneP w p) : Calls Tryz.prog 17 #[.pointer p] w fun e w' => e = .returned (.tuple #[]) ∧ w' = w := by
  have HN := Lib.hid (none_none p w h)
  clear h
  go_enter Tryz.func17, Tryz.ntmps17
  go_wp2_with fail
  refine HN.out.mono ?_
  rintro e w1 ⟨rfl, rfl⟩
  go_wp2
  exact bodyPost_ret (v := .tuple #[]) (by simp [results, Tryz.results17, go_sem]) rfl ⟨rfl, rfl⟩

set_option maxRecDepth 100000 in
theorem none_put (id k n : Int) (b : ByteArray) (h : NoneP w p) : Calls Tryz.prog 31 #[.pointer p, .int .i64 id, .agg #[.int .i64 k, .int .i64 n, .string b]] w fun e w' => e = .returned (.int .i64 1) ∧ Below w.heap.size w w' := by
  have hal : ∀ X, Below w.heap.size w (w.alloc X) := fun X => (Below.refl _ w).alloc (Nat.le_refl _) _
  have HB := Lib.hid hal
  have HN := Lib.hid (fun X => none_none p (w.alloc X) (h.below (hal X)))
  clear h hal
  go_enter Tryz.func31, Tryz.ntmps31
  go_wp2_with fail
  refine (HN.out _).mono ?_
  rintro e w1 ⟨rfl, rfl⟩
  go_wp2
  go_ret
  exact ⟨rfl, HB.out _⟩

set_option maxRecDepth 100000 in
theorem none_drop (id : Int) (h : NoneP w p) : Calls Tryz.prog 13 #[.pointer p, .int .i64 id] w fun e w' => e = .returned (.int .i64 1) ∧ Below w.heap.size w w' := by
  have HN := Lib.hid (none_read id h)
  unfold pgv at HN
  clear h
  go_enter Tryz.func13, Tryz.ntmps13
  go_wp2_with fail
  refine HN.out.mono ?_
  rintro e w1 ⟨rfl, hb⟩
  have HB : Hid (∀ X, Below w.heap.size w (w1.alloc X)) := Lib.hid (fun X => hb.alloc hb.size X)
  clear hb
  go_wp2
  go_ret
  exact ⟨rfl, HB.out _⟩

set_option maxRecDepth 100000 in
theorem none_flush (h : NoneP w p) : Calls Tryz.prog 28 #[.pointer p] w fun e w' => e = .returned (.int .i64 1) ∧ w' = w := by
  have HN := Lib.hid (none_none p w h)
  clear h
  go_enter Tryz.func28, Tryz.ntmps28
  go_wp2_with fail
  refine HN.out.mono ?_
  rintro e w1 ⟨rfl, rfl⟩
  go_wp2
  go_ret
  exact ⟨rfl, rfl⟩

set_option maxRecDepth 100000 in
theorem none_own (id : Int) (h : NoneP w p) : Calls Tryz.prog 27 #[.pointer p, .int .i64 id] w fun e w' => e = .returned (.bool false) ∧ w' = w := by
  have HN := Lib.hid (none_none p w h)
  clear h
  go_enter Tryz.func27, Tryz.ntmps27
  go_wp2_with fail
  refine HN.out.mono ?_
  rintro e w1 ⟨rfl, rfl⟩
  go_wp2
  go_ret
  exact ⟨rfl, rfl⟩

set_option maxRecDepth 100000 in
theorem none_pages (h : NoneP w p) : Calls Tryz.prog 11 #[.pointer p] w fun e w' => e = .returned (.int .i64 0) ∧ w' = w := by
  have HN := Lib.hid (none_none p w h)
  clear h
  go_enter Tryz.func11, Tryz.ntmps11
  go_wp2_with fail
  refine HN.out.mono ?_
  rintro e w1 ⟨rfl, rfl⟩
  go_wp2
  go_ret
  exact ⟨rfl, rfl⟩

set_option maxRecDepth 100000 in
theorem none_made (h : NoneP w p) : Calls Tryz.prog 12 #[.pointer p] w fun e w' => e = .returned (.slice none 0 0) ∧ w' = w := by
  have HN := Lib.hid (none_none p w h)
  clear h
  go_enter Tryz.func12, Tryz.ntmps12
  go_wp2_with fail
  refine HN.out.mono ?_
  rintro e w1 ⟨rfl, rfl⟩
  go_wp2
  go_ret
  exact ⟨rfl, rfl⟩

set_option maxRecDepth 100000 in
theorem none_dropped (h : NoneP w p) : Calls Tryz.prog 19 #[.pointer p] w fun e w' => e = .returned (.slice none 0 0) ∧ w' = w := by
  have HN := Lib.hid (none_none p w h)
  clear h
  go_enter Tryz.func19, Tryz.ntmps19
  go_wp2_with fail
  refine HN.out.mono ?_
  rintro e w1 ⟨rfl, rfl⟩
  go_wp2
  go_ret
  exact ⟨rfl, rfl⟩

set_option maxRecDepth 100000 in
theorem none_spare (h : NoneP w p) : Calls Tryz.prog 20 #[.pointer p] w fun e w' => e = .returned (.slice none 0 0) ∧ w' = w := by
  have HN := Lib.hid (none_none p w h)
  clear h
  go_enter Tryz.func20, Tryz.ntmps20
  go_wp2_with fail
  refine HN.out.mono ?_
  rintro e w1 ⟨rfl, rfl⟩
  go_wp2
  go_ret
  exact ⟨rfl, rfl⟩
end

set_option maxHeartbeats 1000000 in
set_option maxRecDepth 100000 in
theorem new_none (w : World) : Calls Tryz.prog 9 #[.pointer none, .pointer none, .int .i64 2, .int .i64 1] w fun e w' => e = .returned (.tuple #[.pointer none, .int .i64 1]) ∧ Below w.heap.size w w' := by
  have HB : Hid (∀ n, Below w.heap.size w ((w.alloc (.cells #[.int .i64 2] 3)).drewN n)) := Lib.hid (fun n => (((Fr.refl (fun _ => False) w).alloc _).drewN n).below (Nat.le_refl _) (fun _ h => h.elim))
  go_enter Tryz.func9, Tryz.ntmps9
  go_wp2
  go_quiet (fail)
  go_wp2
  go_ret2
  exact ⟨rfl, HB.out _⟩

set_option maxHeartbeats 8000000 in
set_option maxRecDepth 100000 in
theorem pagerNone_walk (n kind next : Int) (body : ByteArray) (w : World) :
    Calls Tryz.prog 6 #[.int .i64 n, .agg #[.int .i64 kind, .int .i64 next, .string body]] w fun e w' => e = .returned (.bool true) ∧ Below w.heap.size w w' := by
  have HA := Lib.hid (fun w => galive_true w)
  have hb0 : Below w.heap.size w (w.alloc (.cells #[.int .i64 kind, .int .i64 next, .string body] 23)) := (Below.refl w.heap.size w).alloc (Nat.le_refl _) _
  have hz0 : (w.alloc (.cells #[.int .i64 kind, .int .i64 next, .string body] 23)).heap.size = w.heap.size + 1 := by simp
  have hrow := heap_alloc_new w (.cells #[.int .i64 kind, .int .i64 next, .string body] 23)
  have hrow1 := heap_alloc_new (w.alloc (.cells #[.int .i64 kind, .int .i64 next, .string body] 23)) (.cells #[.pointer none, .pointer none, .int .i64 0, .int .i64 0, .int .i64 0, .map none, .map none, .map none, .pointer none] 64)
  rw [hz0] at hrow1
  have hz1 : ((w.alloc (.cells #[.int .i64 kind, .int .i64 next, .string body] 23)).alloc (.cells #[.pointer none, .pointer none, .int .i64 0, .int .i64 0, .int .i64 0, .map none, .map none, .map none, .pointer none] 64)).heap.size = w.heap.size + 2 := by simp
  have hb1 := hb0.alloc (by rw [hz0]; omega) (.cells #[.pointer none, .pointer none, .int .i64 0, .int .i64 0, .int .i64 0, .map none, .map none, .map none, .pointer none] 64)
  have hx : ∀ k u, (#[Value.int .i64 kind, .int .i64 next, .string body])[k]? = some u → ((w.alloc (.cells #[.int .i64 kind, .int .i64 next, .string body] 23)).alloc (.cells #[.pointer none, .pointer none, .int .i64 0, .int .i64 0, .int .i64 0, .map none, .map none, .map none, .pointer none] 64)).cell? ⟨w.heap.size, k, none⟩ = some u := fun k u hu => by
    rw [((Fr.refl (fun _ => False) _).alloc _).cell (p := ⟨w.heap.size, k, none⟩) (by show w.heap.size < _; omega) (fun h => h), cell_of_row _ _ _ _ _ _ hrow]
    exact hu
  have HZ : Hid (∀ W, Below (w.heap.size + 2) ((w.alloc (.cells #[.int .i64 kind, .int .i64 next, .string body] 23)).alloc (.cells #[.pointer none, .pointer none, .int .i64 0, .int .i64 0, .int .i64 0, .map none, .map none, .map none, .pointer none] 64)) W → W.cell? ⟨w.heap.size, 0, none⟩ = some (.int .i64 kind) ∧ W.cell? ⟨w.heap.size, 1, none⟩ = some (.int .i64 next) ∧ W.cell? ⟨w.heap.size, 2, none⟩ = some (.string body) ∧ NoneP W none ∧ NoneP W (some ⟨w.heap.size + 1, 0, none⟩) ∧ Below w.heap.size w W) := Lib.hid (fun W hW => ⟨(hW.cell (p := ⟨w.heap.size, 0, none⟩) (by show w.heap.size < _; omega)).trans (hx 0 _ rfl), (hW.cell (p := ⟨w.heap.size, 1, none⟩) (by show w.heap.size < _; omega)).trans (hx 1 _ rfl), (hW.cell (p := ⟨w.heap.size, 2, none⟩) (by show w.heap.size < _; omega)).trans (hx 2 _ rfl), trivial, ⟨_, rfl, (hW.cell (p := ⟨w.heap.size + 1, 0, none⟩) (by show w.heap.size + 1 < _; omega)).trans (by rw [cell_of_row _ _ _ _ _ _ hrow1]; rfl)⟩, hb1.trans (hW.mono (by omega))⟩)
  have HZ1 := Lib.hid hz1
  clear hb0 hz0 hrow hrow1 hz1 hb1 hx
  go_enter Tryz.func6, Tryz.ntmps6
  go_wp2_with fail
  refine (new_none _).mono ?_
  rintro e w2 ⟨rfl, hb⟩
  rw [HZ1.out] at hb
  have HB := Lib.hid hb
  clear hb
  generalize ((w.alloc (.cells #[.int .i64 kind, .int .i64 next, .string body] 23)).alloc (.cells #[.pointer none, .pointer none, .int .i64 0, .int .i64 0, .int .i64 0, .map none, .map none, .map none, .pointer none] 64)) = W1 at *
  obtain ⟨x0, x1, x2, _⟩ := HZ.out _ HB.out
  have HC := Lib.hid (none_make kind next body (HZ.out _ HB.out).2.2.2.1)
  go_wp2_with fail
  refine HC.out.mono ?_
  rintro e w13 ⟨rfl, hb⟩
  have HB3 := Lib.hid (HB.out.trans (hb.mono (by have := HB.out.size; have := HZ1.out; omega)))
  clear hb HC HB x0 x1 x2
  obtain ⟨x0, x1, x2, _⟩ := HZ.out _ HB3.out
  have HC := Lib.hid (none_make kind next body (HZ.out _ HB3.out).2.2.2.2.1)
  go_wp2_with fail
  refine HC.out.mono ?_
  rintro e w14 ⟨rfl, hb⟩
  have HB4 := Lib.hid (HB3.out.trans (hb.mono (by have := HB3.out.size; have := HZ1.out; omega)))
  clear hb HC HB3 x0 x1 x2
  have HC := Lib.hid (none_read n (HZ.out _ HB4.out).2.2.2.1)
  unfold pgv at HC
  go_wp2_with fail
  refine HC.out.mono ?_
  rintro e w15 ⟨rfl, hb⟩
  have HB5 := Lib.hid ((HB4.out.trans (hb.mono (by have := HB4.out.size; have := HZ1.out; omega))).alloc (by have := HB4.out.size; have := HZ1.out; have := hb.size; omega) (.cells #[.int .i64 0, .int .i64 0, .string ByteArray.empty] 23))
  clear hb HC HB4
  have HC := Lib.hid (none_read n (HZ.out _ HB5.out).2.2.2.2.1)
  unfold pgv at HC
  go_wp2_with fail
  refine HC.out.mono ?_
  rintro e w16 ⟨rfl, hb⟩
  have HB6 := Lib.hid ((HB5.out.trans (hb.mono (by have := HB5.out.size; have := HZ1.out; omega))).alloc (by have := HB5.out.size; have := HZ1.out; have := hb.size; omega) (.cells #[.int .i64 0, .int .i64 0, .string ByteArray.empty] 23))
  clear hb HC HB5
  have HC := Lib.hid (none_undo (HZ.out _ HB6.out).2.2.2.1)
  go_wp2_with fail
  refine HC.out.mono ?_
  rintro e w17 ⟨rfl, rfl⟩
  clear HC
  have HC := Lib.hid (none_undo (HZ.out _ HB6.out).2.2.2.2.1)
  go_wp2_with fail
  refine HC.out.mono ?_
  rintro e w18 ⟨rfl, rfl⟩
  clear HC
  go_wp2_with fail
  refine (HA.out _).mono ?_
  rintro e w30 ⟨rfl, hb⟩
  have HBA := Lib.hid (HB6.out.trans (hb.mono (by have := HB6.out.size; have := HZ1.out; omega)))
  clear hb HB6
  obtain ⟨x0, x1, x2, _⟩ := HZ.out _ HBA.out
  have HC := Lib.hid (none_put n kind next body (HZ.out _ HBA.out).2.2.2.1)
  go_wp2_with fail
  refine HC.out.mono ?_
  rintro e w51 ⟨rfl, hb⟩
  have HB41 := Lib.hid (HBA.out.trans (hb.mono (by have := HBA.out.size; have := HZ1.out; omega)))
  clear hb HC HBA x0 x1 x2
  obtain ⟨x0, x1, x2, _⟩ := HZ.out _ HB41.out
  have HC := Lib.hid (none_put n kind next body (HZ.out _ HB41.out).2.2.2.2.1)
  go_wp2_with fail
  refine HC.out.mono ?_
  rintro e w52 ⟨rfl, hb⟩
  have HB42 := Lib.hid (HB41.out.trans (hb.mono (by have := HB41.out.size; have := HZ1.out; omega)))
  clear hb HC HB41 x0 x1 x2
  have HC := Lib.hid (none_drop n (HZ.out _ HB42.out).2.2.2.1)
  go_wp2_with fail
  refine HC.out.mono ?_
  rintro e w53 ⟨rfl, hb⟩
  have HB43 := Lib.hid (HB42.out.trans (hb.mono (by have := HB42.out.size; have := HZ1.out; omega)))
  clear hb HC HB42
  have HC := Lib.hid (none_drop n (HZ.out _ HB43.out).2.2.2.2.1)
  go_wp2_with fail
  refine HC.out.mono ?_
  rintro e w54 ⟨rfl, hb⟩
  have HB44 := Lib.hid (HB43.out.trans (hb.mono (by have := HB43.out.size; have := HZ1.out; omega)))
  clear hb HC HB43
  have HC := Lib.hid (none_flush (HZ.out _ HB44.out).2.2.2.1)
  go_wp2_with fail
  refine HC.out.mono ?_
  rintro e w55 ⟨rfl, rfl⟩
  clear HC
  have HC := Lib.hid (none_flush (HZ.out _ HB44.out).2.2.2.2.1)
  go_wp2_with fail
  refine HC.out.mono ?_
  rintro e w56 ⟨rfl, rfl⟩
  clear HC
  have HC := Lib.hid (none_own n (HZ.out _ HB44.out).2.2.2.1)
  go_wp2_with fail
  refine HC.out.mono ?_
  rintro e w57 ⟨rfl, rfl⟩
  clear HC
  have HC := Lib.hid (none_pages (HZ.out _ HB44.out).2.2.2.1)
  go_wp2_with fail
  refine HC.out.mono ?_
  rintro e w58 ⟨rfl, rfl⟩
  clear HC
  have HC := Lib.hid (none_pages (HZ.out _ HB44.out).2.2.2.2.1)
  go_wp2_with fail
  refine HC.out.mono ?_
  rintro e w59 ⟨rfl, rfl⟩
  clear HC
  have HC := Lib.hid (none_made (HZ.out _ HB44.out).2.2.2.1)
  go_wp2_with fail
  refine HC.out.mono ?_
  rintro e w60 ⟨rfl, rfl⟩
  clear HC
  have HC := Lib.hid (none_made (HZ.out _ HB44.out).2.2.2.2.1)
  go_wp2_with fail
  refine HC.out.mono ?_
  rintro e w61 ⟨rfl, rfl⟩
  clear HC
  have HC := Lib.hid (none_dropped (HZ.out _ HB44.out).2.2.2.1)
  go_wp2_with fail
  refine HC.out.mono ?_
  rintro e w62 ⟨rfl, rfl⟩
  clear HC
  have HC := Lib.hid (none_spare (HZ.out _ HB44.out).2.2.2.1)
  go_wp2_with fail
  refine HC.out.mono ?_
  rintro e w63 ⟨rfl, rfl⟩
  clear HC
  go_wp2
  go_ret
  exact ⟨rfl, (HZ.out _ HB44.out).2.2.2.2.2⟩
end Go.Proofs.YtoagbcbkaloacaaGreatDoor
