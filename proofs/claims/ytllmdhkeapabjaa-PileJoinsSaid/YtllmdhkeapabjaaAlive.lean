/- arboretumlaw3.alive returns true. -/
import Derived.Test.YtllmdhkeapabjaaPileP
import Derived.Test.YtllmdhkeapabjaaLineT
namespace Go.Proofs.Ytllmdhkeapabjaa
open Go.RowKit

/-- The first one of a heap of numbers is the least one. -/
theorem nums_min {l zs : List Int} (hh : HL.IsHeap nlt l) (hp : l.Perm zs) (x : Int) (hx : x ∈ zs) (hm : ∀ y ∈ zs, x ≤ y) : HL.el l 0 = x := by
  have hpos : 0 < l.length := by
    rw [hp.length_eq]
    exact List.length_pos_of_mem hx
  have h1 := hm _ (hp.subset (HL.el_mem l 0 hpos))
  have h2 := hh.least_mem nlt_ord x (hp.symm.subset hx)
  unfold nlt at h2
  simp only [decide_eq_false_iff_not] at h2
  omega

/-- The first one of a heap of dues is the one ahead of all others. -/
theorem dues_min {l zs : List (Int × Int × Int)} (hh : HL.IsHeap dlt l) (hp : l.Perm zs) (x : Int × Int × Int) (hx : x ∈ zs) (hm : ∀ y ∈ zs, y = x ∨ dlt x y = true) : HL.el l 0 = x := by
  have hpos : 0 < l.length := by
    rw [hp.length_eq]
    exact List.length_pos_of_mem hx
  rcases hm _ (hp.subset (HL.el_mem l 0 hpos)) with h | h
  · exact h
  · have h2 := hh.least_mem dlt_ord x (hp.symm.subset hx)
    rw [h] at h2
    cases h2

theorem perm_rest {α : Type} {x : α} {l l' zs zs' : List α} (h : (x :: l').Perm l) (hp : l.Perm zs) (hz : zs.Perm (x :: zs')) : l'.Perm zs' := (h.trans (hp.trans hz)).cons_inv

theorem PileI.lt {pb base : Nat} {v : Value} {l : List Int} {w : World} (h : PileI pb base v l w) : ∀ k, pileF pb v k → k < w.heap.size := by
  rintro k (rfl | hk)
  · exact cell_lt h.1.1
  · exact (h.1.2.2.1.lt k hk).2

theorem LineI.ge {lb base : Nat} {v : Value} {l : List (Int × Int × Int)} {seq : Int} {w : World} (h : LineI lb base v l seq w) (hb : base ≤ lb) : ∀ k, lineF lb v k → base ≤ k := by
  rintro k (rfl | hk)
  · exact hb
  · exact (h.1.2.2.1.lt k hk).1

theorem LineI.lt {lb base : Nat} {v : Value} {l : List (Int × Int × Int)} {seq : Int} {w : World} (h : LineI lb base v l seq w) : ∀ k, lineF lb v k → k < w.heap.size := by
  rintro k (rfl | hk)
  · exact cell_lt h.1.1
  · exact (h.1.2.2.1.lt k hk).2

set_option maxHeartbeats 1000000 in
set_option maxRecDepth 100000 in
theorem alive_true (w : World) : Calls Try.prog 8 #[] w fun e w' => e = .returned (.bool true) ∧ Below w.heap.size w w' := by
  go_enter Try.func8, Try.ntmps8
  go_wp2_with fail
  refine (pile_new _ 3 3 [3, 1, 2] _ (rd_new w [3, 1, 2] 3) (by omega)).mono ?_
  rintro e w1 ⟨pb, v, l, rfl, hpb, hP, hpp, hb1⟩
  have hpb0 : w.heap.size < pb := by simp at hpb; omega
  have B1 : Hid (Below w.heap.size w w1) := ((Below.refl _ _).alloc (Nat.le_refl _) _).trans (hb1.mono (by simp))
  have HP := Lib.hid hP
  have HPL := Lib.hid hP.lt
  have hs1 : w.heap.size ≤ w1.heap.size := B1.out.size
  clear hP hb1 hpb
  go_wp2_with fail
  refine (line_new _).mono ?_
  rintro e w2 ⟨rfl, hL, hb2⟩
  have B2 : Hid (Below w.heap.size w w2) := B1.out.trans (hb2.mono hs1)
  have HP2 := Lib.hid (HP.out.keep (Fr.of_all (S := fun _ => False) hb2) (fun _ _ h => h))
  have HL2 := Lib.hid hL
  clear hL hb2 HP
  have HPB : Hid (∀ k, pileF pb v k → w.heap.size ≤ k) := by
    rintro k (rfl | hk)
    · omega
    · have := (HP2.out.1.2.2.1.lt k hk).1
      simp at this
      omega
  obtain ⟨base, hbase⟩ : ∃ base, base = (w.alloc (.cells (rowOf ncells [3, 1, 2]).toArray 3)).heap.size := ⟨_, rfl⟩
  rw [← hbase] at HP2
  clear hbase
  obtain ⟨lb, hlb⟩ : ∃ lb, lb = w1.heap.size := ⟨_, rfl⟩
  rw [← hlb] at HL2 HPL hs1 ⊢
  clear hlb
  go_wp2_with fail
  have e1 := nums_min HP2.out.2 hpp 1 (by simp) (by simp)
  have hlen1 := hpp.length_eq
  refine (pile_take_some pb _ v l w2 HP2.out (by rw [hlen1]; simp)).mono ?_
  rw [e1]
  rintro e w3 ⟨rfl, v3, l3, hP3, hp3, hF3, hv3⟩
  have hpp3 : l3.Perm [3, 2] := perm_rest hp3 hpp (List.Perm.swap _ _ _)
  have HP3 := Lib.hid hP3
  have HL3 := Lib.hid (HL2.out.keep hF3 (fun k hk hs => by have := HL2.out.ge (Nat.le_refl _) k hk; have := HPL.out k hs; omega))
  have B3 : Hid (Below w.heap.size w w3) := B2.out.trans (hF3.below B2.out.size HPB.out)
  have HV3 := Lib.hid hv3
  clear hP3 hp3 hF3 hv3 e1 hlen1 hpp HL2 HP2 B2
  go_wp2_with fail
  have e1 := nums_min HP3.out.2 hpp3 2 (by simp) (by simp)
  have hlen1 := hpp3.length_eq
  refine (pile_take_some pb _ v3 l3 w3 HP3.out (by rw [hlen1]; simp)).mono ?_
  rw [e1]
  rintro e w4 ⟨rfl, v4, l4, hP4, hp4, hF4, hv4⟩
  have hpp4 : l4.Perm [3] := perm_rest hp4 hpp3 (List.Perm.swap _ _ _)
  have hl4 : l4.length = 1 := hpp4.length_eq
  have HP4 := Lib.hid hP4
  have HL4 := Lib.hid (HL3.out.keep hF4 (fun k hk hs => by have := HL3.out.ge (Nat.le_refl _) k hk; rw [HV3.out] at hs; have := HPL.out k hs; omega))
  have B4 : Hid (Below w.heap.size w w4) := B3.out.trans (hF4.below B3.out.size (fun k hk => HPB.out k (by rw [HV3.out] at hk; exact hk)))
  have HV4 := Lib.hid (hv4.trans HV3.out)
  have HPL4 : Hid (∀ k, pileF pb v4 k → k < lb) := fun k hk => HPL.out k (by unfold pileF at *; rw [HV4.out] at hk; exact hk)
  have HL4L := Lib.hid hl4
  clear hP4 hp4 hF4 hv4 e1 hlen1 hpp3 hpp4 HL3 HP3 B3 HPL HPB HV3 HV4 hl4
  go_wp2_with fail
  refine (line_put lb lb _ [] 0 5 7 w4 HL4.out (by omega) (by omega) (by simp)).mono ?_
  rintro e w5 ⟨rfl, v5, l5, hL5, hp5, hF5, _⟩
  have HP5 := Lib.hid (HP4.out.keep hF5 (fun k hk hs => by have := HL4.out.ge (Nat.le_refl _) k hs; have := HPL4.out k hk; omega))
  have HL5 := Lib.hid hL5
  have B5 : Hid (Below w.heap.size w w5) := B4.out.trans (hF5.below B4.out.size (fun k hk => by have := HL4.out.ge (Nat.le_refl _) k hk; omega))
  clear hL5 hF5 HP4 HL4 B4
  have hl5 := hp5.length_eq
  have HP5P := Lib.hid hp5
  simp only [List.nil_append, List.length_singleton] at hl5
  go_wp2_with fail
  refine (line_put lb lb v5 l5 (0 + 1) 3 8 w5 HL5.out (by omega) (by omega) (by omega)).mono ?_
  rintro e w6 ⟨rfl, v6, l6, hL6, hp6, hF6, _⟩
  have HP6 := Lib.hid (HP5.out.keep hF6 (fun k hk hs => by have := HL5.out.ge (Nat.le_refl _) k hs; have := HPL4.out k hk; omega))
  have HL6 := Lib.hid hL6
  have B6 : Hid (Below w.heap.size w w6) := B5.out.trans (hF6.below B5.out.size (fun k hk => by have := HL5.out.ge (Nat.le_refl _) k hk; omega))
  have HP6P := Lib.hid (hp6.trans (HP5P.out.append_right _))
  have hl6 := hp6.length_eq
  rw [List.length_append, hl5] at hl6
  clear hL6 hF6 hp6 hp5 HP5 HL5 B5 hl5 HP5P
  simp only [List.length_singleton] at hl6
  go_wp2_with fail
  refine (line_put lb lb v6 l6 (0 + 1 + 1) 5 9 w6 HL6.out (by omega) (by omega) (by omega)).mono ?_
  rintro e w7 ⟨rfl, v7, l7, hL7, hp7, hF7, _⟩
  have HP7 := Lib.hid (HP6.out.keep hF7 (fun k hk hs => by have := HL6.out.ge (Nat.le_refl _) k hs; have := HPL4.out k hk; omega))
  have HL7 := Lib.hid hL7
  have B7 : Hid (Below w.heap.size w w7) := B6.out.trans (hF7.below B6.out.size (fun k hk => by have := HL6.out.ge (Nat.le_refl _) k hk; omega))
  have hp7' : l7.Perm [(5, 1, 7), (3, 2, 8), (5, 3, 9)] := hp7.trans (HP6P.out.append_right _)
  clear hL7 hF7 hp7 HP6 HL6 B6 hl6 HP6P
  have e7 := dues_min HL7.out.2.2.2 hp7' (3, 2, 8) (by simp) (by simp [dlt_iff])
  have hn7 : 0 < l7.length := by rw [hp7'.length_eq]; simp
  have HT7 := Lib.hid (line_take_due lb lb v7 l7 _ 4 w7 HL7.out hn7 (by rw [e7]; simp))
  rw [e7] at HT7
  go_wp2_with fail
  refine HT7.out.mono ?_
  rintro e w8 ⟨rfl, v8, l8, hL8, hp8, hF8, hv8⟩
  have hpp8 : l8.Perm [(5, 1, 7), (5, 3, 9)] := perm_rest hp8 hp7' (List.Perm.swap _ _ _)
  have HP8 := Lib.hid (HP7.out.keep hF8 (fun k hk hs => by have := HL7.out.ge (Nat.le_refl _) k hs; have := HPL4.out k hk; omega))
  have B8 : Hid (Below w.heap.size w w8) := B7.out.trans (hF8.below B7.out.size (fun k hk => by have := HL7.out.ge (Nat.le_refl _) k hk; omega))
  have HL8 := Lib.hid hL8
  clear hL8 hp8 hF8 hv8 e7 hn7 HT7 HP7 HL7 B7 hp7'
  go_wp2_with fail
  obtain ⟨W8, hW8⟩ : ∃ W8, W8 = w8.alloc (.cells #[.int .i64 3, .int .i64 2, .int .i64 8] 28) := ⟨_, rfl⟩
  rw [← hW8]
  have HA8 := Lib.hid (hW8 ▸ (Fr.refl (fun _ => False) w8).alloc (.cells #[.int .i64 3, .int .i64 2, .int .i64 8] 28))
  have hx8 : W8.cell? ⟨w8.heap.size, 2, none⟩ = some (.int .i64 8) := by rw [hW8]; go_simp
  clear hW8
  have HP8' := Lib.hid (HP8.out.keep HA8.out (fun _ _ h => h))
  have HL8' := Lib.hid (HL8.out.keep HA8.out (fun _ _ h => h))
  have B8' : Hid (Below w.heap.size w W8) := B8.out.trans (HA8.out.below B8.out.size (fun _ h => h.elim))
  have e8 := dues_min HL8'.out.2.2.2 hpp8 (5, 1, 7) (by simp) (by simp [dlt_iff])
  have hn8 : 0 < l8.length := by rw [hpp8.length_eq]; simp
  refine (line_take_early lb lb v8 l8 _ 4 W8 HL8'.out hn8 (by rw [e8]; simp)).mono ?_
  rintro e w9 ⟨rfl, hb9⟩
  have HL8L := Lib.hid (fun h => Nat.lt_irrefl _ (HL8.out.lt w8.heap.size h))
  have HP9 := Lib.hid (HP8'.out.keep (Fr.of_all (S := fun _ => False) hb9) (fun _ _ h => h))
  have HL9 := Lib.hid (HL8'.out.keep (Fr.of_all (S := fun _ => False) hb9) (fun _ _ h => h))
  have B9 : Hid (Below w.heap.size w w9) := B8'.out.trans (hb9.mono B8'.out.size)
  have hx9 : w9.cell? ⟨w8.heap.size, 2, none⟩ = some (.int .i64 8) := (hb9.cell (cell_lt hx8)).trans hx8
  clear hb9 HP8' HL8' B8' HP8 HL8 B8 HA8 hx8
  generalize w8.heap.size = xb at *
  go_wp2_with fail
  obtain ⟨W9, hW9⟩ : ∃ W9, W9 = w9.alloc (.cells #[.int .i64 0, .int .i64 0, .int .i64 0] 28) := ⟨_, rfl⟩
  rw [← hW9]
  have HA9 := Lib.hid (hW9 ▸ (Fr.refl (fun _ => False) w9).alloc (.cells #[.int .i64 0, .int .i64 0, .int .i64 0] 28))
  clear hW9
  have HP9' := Lib.hid (HP9.out.keep HA9.out (fun _ _ h => h))
  have HL9' := Lib.hid (HL9.out.keep HA9.out (fun _ _ h => h))
  have B9' : Hid (Below w.heap.size w W9) := B9.out.trans (HA9.out.below B9.out.size (fun _ h => h.elim))
  have hx9' : W9.cell? ⟨xb, 2, none⟩ = some (.int .i64 8) := (HA9.out.cell (p := ⟨xb, 2, none⟩) (cell_lt hx9) (fun h => h)).trans hx9
  have HT9 := Lib.hid (line_take_due lb lb v8 l8 _ 5 W9 HL9'.out hn8 (by rw [e8]; simp))
  rw [e8] at HT9
  refine HT9.out.mono ?_
  rintro e w10 ⟨rfl, v10, l10, hL10, hp10, hF10, hv10⟩
  have HP10 := Lib.hid (HP9'.out.keep hF10 (fun k hk hs => by have := HL9'.out.ge (Nat.le_refl _) k hs; have := HPL4.out k hk; omega))
  have B10 : Hid (Below w.heap.size w w10) := B9'.out.trans (hF10.below B9'.out.size (fun k hk => by have := HL9'.out.ge (Nat.le_refl _) k hk; omega))
  have hx10 : w10.cell? ⟨xb, 2, none⟩ = some (.int .i64 8) := (hF10.cell (p := ⟨xb, 2, none⟩) (cell_lt hx9') HL8L.out).trans hx9'
  have hxb := cell_lt hx10
  clear hL10 hp10 hF10 hv10 e8 hn8 HT9 HP9' HL9' B9' HP9 HL9 B9 HA9 hx9 hx9' hpp8
  have HLEN := Lib.hid (fun o => pile_len pb base v4 l4 (w10.alloc o) (HP10.out.keep ((Fr.refl (fun _ => False) w10).alloc o) (fun _ _ h => h)))
  rw [HL4L.out] at HLEN
  go_wp2_with fail
  refine (HLEN.out _).mono ?_
  rintro e w11 ⟨rfl, rfl⟩
  go_wp2
  go_ret
  exact ⟨rfl, B10.out.alloc B10.out.size _⟩
end Go.Proofs.Ytllmdhkeapabjaa
