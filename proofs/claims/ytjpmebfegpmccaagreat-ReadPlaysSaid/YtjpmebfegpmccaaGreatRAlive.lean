/- arboretumlaw21.alive returns true; ReadNone returns true, whatever its argument. -/
import Derived.Test.YtjpmebfegpmccaaGreatReady
namespace Go.Proofs.YtjpmebfegpmccaaGreat
open Go.RowKit

/-- What was told does not lie in the queue's memory. -/
theorem told_apart {qb base n : Nat} {v' ov : Value} {l' : List Wt} {seq : Int} {w w' : World} {xs : List Value} (ho : w'.ownsRow w.heap.size 3 1 ov n xs) (hq : QueueI qb base v' l' seq w') (hqb : qb < w.heap.size) :
    ∀ g, ov.ownBlock = some g → ¬ queueF qb v' g := by
  rintro g hg (rfl | hk)
  · have := (ho.lt g hg).1
    omega
  · exact owns_ne hq.1.2.2.1 ho (by decide) hk hg

/-- A row of one number, read. -/
theorem one_told {w : World} {base : Nat} {ov : Value} {x : Int} (h : w.ownsRow base 3 1 ov 1 (rowOf ncells [x])) : ∃ g cap, ov = .slice (some ⟨g, 0, none⟩) 1 cap ∧ w.cell? ⟨g, 0, none⟩ = some (.int .i64 x) := by
  obtain ⟨g, cap, hv, _, _, _⟩ := owns_len h (by omega)
  subst hv
  exact ⟨g, cap, rfl, by rw [h.cellAt 0 (by omega)]; rfl⟩

theorem rdg_new2 (w : World) (x y : Rd) (t : TypeId) : RdG rcells (w.alloc (.cells #[.int .i64 x.1, .int .i64 x.2.1, .int .i64 x.2.2, .int .i64 y.1, .int .i64 y.2.1, .int .i64 y.2.2] t)) (w.alloc (.cells #[.int .i64 x.1, .int .i64 x.2.1, .int .i64 x.2.2, .int .i64 y.1, .int .i64 y.2.1, .int .i64 y.2.2] t)).heap.size (some ⟨w.heap.size, 0, none⟩) 2 [x, y] := by
  have := RdG.fresh (f := rcells) w [x, y] t
  refine RdG.more this ?_
  simp

set_option maxHeartbeats 1000000 in
set_option maxRecDepth 100000 in
theorem alive_true (w : World) : Calls Tryz.prog 4 #[] w fun e w' => e = .returned (.bool true) ∧ Below w.heap.size w w' := by
  go_enter Tryz.func4, Tryz.ntmps4
  go_wp2_with fail
  refine (queue_new _).mono ?_
  rintro e w1 ⟨rfl, hQ, hb1⟩
  have hq1 := hQ.lt w.heap.size (.inl rfl)
  have HB1 := Lib.hid hb1
  have hadd : Calls Tryz.prog 6 #[.pointer (some ⟨w.heap.size, 0, none⟩), .slice (some ⟨w1.heap.size, 0, none⟩) 2 2] (w1.alloc (.cells #[.int .i64 7, .int .i64 3, .int .i64 1, .int .i64 8, .int .i64 2, .int .i64 2] 52)) fun e w' => e = .returned (.tuple #[]) ∧
      ∃ v' l', QueueI w.heap.size w.heap.size v' l' 2 w' ∧ l'.Perm [(7, 3, 1, 1), (8, 2, 2, 2)] ∧ Below w.heap.size w w' := by
    have hk := hQ.keep ((Fr.refl (fun _ => False) w1).alloc (.cells #[.int .i64 7, .int .i64 3, .int .i64 1, .int .i64 8, .int .i64 2, .int .i64 2] 52)) (fun _ _ h => h)
    refine (queue_add w.heap.size w.heap.size _ [] 0 [(7, 3, 1), (8, 2, 2)] _ 2 2 _ hk (rdg_new2 w1 (7, 3, 1) (8, 2, 2) _) (fun b o e _ hs => ?_) (by simp) (by omega) (by omega)).mono ?_
    · injection e with e
      injection e with e _
      have := hQ.lt _ hs
      omega
    · rintro e w2 ⟨he, v', l', hq, hp, hF, _⟩
      exact ⟨he, v', l', hq, hp, (hb1.alloc hb1.size _).trans (hF.below (by simp; omega) (hQ.ge (Nat.le_refl _)))⟩
  have HADD := Lib.hid hadd
  clear hQ hb1 hadd
  go_wp2_with fail
  refine HADD.out.mono ?_
  rintro e w2 ⟨rfl, v2, l2, hq2, hp2, hb2⟩
  have HR := Lib.hid (queue_ready _ _ v2 l2 2 1 3 w2 hq2)
  have hlt2 := hq2.lt w.heap.size (.inl rfl)
  have HGE2 := Lib.hid (hq2.ge (Nat.le_refl _))
  have HP2 := Lib.hid hp2
  have HB2 := Lib.hid hb2
  clear hq2 hp2 hb2
  go_wp2_with fail
  refine HR.out.mono ?_
  rintro e w3 ⟨ov, T, v3, l3, rfl, hp, hs, ho, hq, hl3, hF, hge⟩
  have hf1 : (T.filter fun x => pickR 1 3 (rdOf x)) = [(7, 3, 1, 1)] := by
    have : (T.filter fun x => pickR 1 3 (rdOf x)).Perm [(7, 3, 1, 1)] := (hp.trans HP2.out).filter _
    exact List.perm_singleton.1 this
  have hf2 : l3.Perm [(8, 2, 2, 2)] := hl3.trans ((hp.trans HP2.out).filter _)
  rw [hf1] at ho
  obtain ⟨g, cap, hov, hcell⟩ := one_told ho
  have hap := told_apart ho hq hlt2 g (by rw [hov]; rfl)
  have HB3 : Hid (Below w.heap.size w w3) := HB2.out.trans (hF.below (by omega) HGE2.out)
  have HR3 := Lib.hid (queue_ready _ _ v3 l3 2 2 3 w3 hq)
  have hlt3 := hq.lt w.heap.size (.inl rfl)
  have HGE3 := Lib.hid (hq.ge (Nat.le_refl _))
  have HC := Lib.hid (And.intro hcell hap)
  have HP3 := Lib.hid hf2
  clear hp hs ho hq hl3 hF hge hf1 hf2 hcell hap
  subst hov
  go_wp2_with fail
  refine HR3.out.mono ?_
  rintro e w4 ⟨ov4, T4, v4, l4, rfl, hp, hs, ho, hq, hl4, hF, hge⟩
  have hf1 : (T4.filter fun x => pickR 2 3 (rdOf x)) = [(8, 2, 2, 2)] := by
    have : (T4.filter fun x => pickR 2 3 (rdOf x)).Perm [(8, 2, 2, 2)] := (hp.trans HP3.out).filter _
    exact List.perm_singleton.1 this
  have hf2 : l4.Perm [] := hl4.trans ((hp.trans HP3.out).filter _)
  rw [hf1] at ho
  obtain ⟨g4, cap4, hov, hcell4⟩ := one_told ho
  have hcell := (hF.cell (p := ⟨g, 0, none⟩) (cell_lt HC.out.1) HC.out.2).trans HC.out.1
  have HB4 : Hid (Below w.heap.size w w4) := HB3.out.trans (hF.below (by omega) HGE3.out)
  have HL := Lib.hid (queue_len _ _ v4 l4 2 w4 hq)
  have hl0 : l4 = [] := List.perm_nil.1 hf2
  rw [hl0] at HL
  clear hp hs ho hq hl4 hF hge hf1 hf2 hl0
  subst hov
  go_wp2_with fail
  refine HL.out.mono ?_
  rintro e w5 ⟨rfl, rfl⟩
  go_wp2
  go_ret
  exact ⟨rfl, HB4.out⟩

theorem nadd (v : Value) (w : World) : Calls Tryz.prog 6 #[.pointer none, v] w fun e w' => e = .returned (.tuple #[]) ∧ w = w' := by
  go_enter Tryz.func6, Tryz.ntmps6
  go_wp2
  refine bodyPost_ret (results_none rfl _ _ _) rfl ?_
  exact ⟨rfl, rfl⟩

theorem ntake (fv : Value) (w : World) : Calls Tryz.prog 17 #[.pointer none, fv] w fun e w' => e = .returned (.slice none 0 0) ∧ w = w' := by
  go_enter Tryz.func17, Tryz.ntmps17
  go_wp2
  go_ret
  exact ⟨rfl, rfl⟩

theorem nready (a b : Int) (w : World) : Calls Tryz.prog 8 #[.pointer none, .int .i64 a, .int .i64 b] w fun e w' => e = .returned (.slice none 0 0) ∧ Below w.heap.size w w' := by
  go_enter Tryz.func8, Tryz.ntmps8
  go_wp2_with fail
  refine (ntake _ _).mono ?_
  rintro e w' ⟨rfl, rfl⟩
  go_wp2
  go_ret
  exact ⟨rfl, ((Below.refl _ _).alloc (Nat.le_refl _) _).alloc (by simp) _⟩

theorem nclear (w : World) : Calls Tryz.prog 12 #[.pointer none] w fun e w' => e = .returned (.slice none 0 0) ∧ w = w' := by
  go_enter Tryz.func12, Tryz.ntmps12
  go_wp2_with fail
  refine (ntake _ _).mono ?_
  rintro e w' ⟨rfl, rfl⟩
  go_wp2
  go_ret
  exact ⟨rfl, rfl⟩

theorem nlen (w : World) : Calls Tryz.prog 14 #[.pointer none] w fun e w' => e = .returned (.int .i64 0) ∧ w = w' := by
  go_enter Tryz.func14, Tryz.ntmps14
  go_wp2
  go_ret
  exact ⟨rfl, rfl⟩

end Go.Proofs.YtjpmebfegpmccaaGreat
