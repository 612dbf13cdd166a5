/- conf.Change: what it answers, its code too. (conf.Change's walk of XConfC with a stronger end.) -/
import Derived.Test.YtmfidemkmmbioaaGreatCRefE
namespace Go.Proofs.YtmfidemkmmbioaaGreat
open Go.RowKit

set_option maxHeartbeats 2000000 in
set_option maxRecDepth 100000 in
theorem change_code (p : Option Addr) (n c : Nat) (zs : List Int) (add : Bool) (id : Int) (w : World) (h : RdI w w.heap.size p n zs) (hn : n ≤ 1000) :
    Calls Tryz.prog 7 #[.slice p n c, .bool add, .int .i64 id] w (ChP zs add id w) := by
  obtain ⟨N, hN⟩ : ∃ N, (CL.nrm zs).length = N := ⟨_, rfl⟩
  have hNn : N ≤ 1000 := by have := CL.nrm_length zs; have := h.1; omega
  have hb0 : Below w.heap.size w (w.alloc (.cells #[.int .i64 id] 3)) := (Below.refl _ w).alloc (Nat.le_refl _) _
  have HR0 := Lib.hid ((h.below hb0).more hb0.size)
  have HB0 := Lib.hid hb0
  have HNN := Lib.hid hN
  have HHAS := Lib.hid (has_ints p n c _ zs id (w.alloc (.cells #[.int .i64 id] 3)) HR0.out (by omega))
  have HNRM := Lib.hid (norm_ints p n c zs (w.alloc (.cells #[.int .i64 id] 3)) HR0.out (by omega) N HNN.out)
  have HC0 : Hid ((w.alloc (.cells #[.int .i64 id] 3)).cell? ⟨w.heap.size, 0, none⟩ = some (.int .i64 id)) := Lib.hid (by go_simp)
  have hsz0 : (w.alloc (.cells #[.int .i64 id] 3)).heap.size = w.heap.size + 1 := by simp
  have HSZ := Lib.hid hsz0
  clear h hb0 hN hsz0
  generalize hbb : decide (id ∈ zs) = had at *
  have HHAD := Lib.hid hbb
  clear hbb
  go_enter Tryz.func7, Tryz.ntmps7
  go_wp2_with fail
  refine HHAS.out.mono ?_
  rintro e w1 ⟨rfl, rfl⟩
  go_wp2_with fail
  refine HNRM.out.mono ?_
  rintro e w2 ⟨g, cap, rfl, ho, hb⟩
  have HO := Lib.hid ho
  have HB := Lib.hid hb
  have hid2 : w2.cell? ⟨w.heap.size, 0, none⟩ = some (.int .i64 id) := (hb.cell (p := ⟨w.heap.size, 0, none⟩) (by simp)).trans HC0.out
  have HBW : Hid (Below w.heap.size w w2) := HB0.out.trans (hb.mono HB0.out.size)
  clear ho hb
  have HID := Lib.hid (isId_int id w2)
  go_wp2_with fail
  refine HID.out.mono ?_
  rintro e w3 ⟨rfl, rfl⟩
  generalize hisid : CL.isId id = isid at *
  have HIS := Lib.hid hisid
  clear hisid
  cases isid with
  | false =>
    go_wp2
    go_ret2
    exact ChP.nil (CL.ch_arg HIS.out) HBW.out
  | true =>
    cases add with
    | true =>
      cases had with
      | true =>
        have hin : id ∈ zs := by simpa using HHAD.out
        have HIN := Lib.hid hin
        clear hin
        go_wp2
        go_ret2
        exact ChP.nil (CL.ch_dup HIS.out HIN.out) HBW.out
      | false =>
        have hin : id ∉ zs := by simpa using HHAD.out
        have HIN := Lib.hid hin
        clear hin
        by_cases h9 : 9 ≤ N
        · go_wp2
          go_ret2
          exact ChP.nil (CL.ch_full HIS.out HIN.out (by rw [HNN.out]; exact h9)) HBW.out
        · obtain ⟨M, hM⟩ : ∃ M, (CL.nrm (CL.nrm zs ++ [id])).length = M := ⟨_, rfl⟩
          have HM := Lib.hid hM
          clear hM
          have hrd : RdI (w2.alloc (.cells #[.int .i64 id] 3)) (w2.alloc (.cells #[.int .i64 id] 3)).heap.size (some ⟨w2.heap.size, 0, none⟩) 1 [id] := rd_new w2 [id] 3
          have HRD := Lib.hid hrd
          clear hrd
          have hlt2 := cell_lt hid2
          go_wp2_with (first
            | (at_builtin; refine append_rd rfl _ _ rfl w.heap.size (.slice g N cap) N (rowOf ncells (CL.nrm zs)) rfl ((owns_more HO.out (by simp)).alloc _) (some ⟨w2.heap.size, 0, none⟩) 1 1 [id] rfl HRD.out (fun h => by cases h) (by omega) (by have := HBW.out.size; simp; omega) ?_; intro v3 w3 hown3 hgr3
               rw [← rowOf_append] at hown3
               obtain ⟨p3, c3, rfl⟩ := owns_slice hown3
               have HO3 := Lib.hid hown3
               have HB3 := Lib.hid ((HBW.out.alloc HBW.out.size (.cells #[.int .i64 id] 3)).grown hgr3 (by have := HBW.out.size; simp; omega) (fun x hx => ((owns_more HO.out (by simp : w.heap.size ≤ _)).lt x hx).1))
               clear hown3 hgr3)
            | fail)
          have HN3 := Lib.hid (norm_ints p3 (N + 1) c3 (CL.nrm zs ++ [id]) w3 (RdI.of_own HO3.out (by rw [List.length_append, HNN.out]; rfl)) (by omega) M HM.out)
          refine HN3.out.mono ?_
          rintro e w4 ⟨g4, c4, rfl, ho4, hb4⟩
          have HO4 := Lib.hid ho4
          have HB4 : Hid (Below w.heap.size w w4) := HB3.out.trans (hb4.mono HB3.out.size)
          have HLE := Lib.hid HB3.out.size
          clear ho4 hb4
          go_wp2
          go_ret2
          have HC := Lib.hid (CL.ch_put HIS.out HIN.out (by rw [HNN.out]; exact h9))
          refine ⟨_, by rw [HC.out.1]; rfl, ?_, HB4.out⟩
          rw [HC.out.2, HM.out]
          exact owns_more HO4.out HLE.out
    | false =>
      cases had with
      | false =>
        have hin : id ∉ zs := by simpa using HHAD.out
        have HIN := Lib.hid hin
        clear hin
        go_wp2
        go_ret2
        exact ChP.nil (CL.ch_none HIS.out HIN.out) HBW.out
      | true =>
        have hin : id ∈ zs := by simpa using HHAD.out
        have HIN := Lib.hid hin
        clear hin
        by_cases h1 : N = 1
        · subst h1
          go_wp2
          go_ret2
          exact ChP.nil (CL.ch_state HIS.out HIN.out HNN.out) HBW.out
        · obtain ⟨M, hM⟩ : ∃ M, ((CL.nrm zs).filter (fun x => !(x == id))).length = M := ⟨_, rfl⟩
          have HM := Lib.hid hM
          clear hM
          have hpos : 0 < (CL.nrm zs).length := List.length_pos_of_mem (CL.nrm_mem.2 HIN.out)
          have HDEL : Hid (Calls Tryz.prog 30 #[.slice g N cap, .func (.func 31) #[] #[.pointer (some ⟨w.heap.size, 0, none⟩)]] w2 fun e w' => ∃ q c, e = .returned (.slice q M c) ∧ w'.ownsRow (w.heap.size + 1) 3 1 (.slice q M c) M (rowOf ncells ((CL.nrm zs).filter (fun x => !(x == id)))) ∧ w2.grownBy w' (Value.slice g N cap).ownBlock) := by
            have ho' := HO.out
            rw [HSZ.out] at ho'
            exact delete_own (w.heap.size + 1) w.heap.size id (.slice g N cap) (CL.nrm zs) w2 hpos (by rw [HNN.out]; omega) (by rw [HNN.out]; exact ho') (by omega) hid2 M HM.out
          clear hpos
          have hne : ((N : Int) == 1) = false := by rw [beq_eq_false_iff_ne]; omega
          go_wp2_with fail
          refine HDEL.out.mono ?_
          rintro e w4 ⟨g4, c4, rfl, ho4, hg4⟩
          have HO4 := Lib.hid ho4
          have HB4 : Hid (Below w.heap.size w w4) := HBW.out.grown hg4 HBW.out.size (fun k hk => by have := (HO.out.lt k hk).1; rw [HSZ.out] at this; omega)
          clear ho4 hg4
          go_wp2
          go_ret2
          have HC := Lib.hid (CL.ch_drop HIS.out HIN.out (by rw [HNN.out]; exact h1))
          refine ⟨_, by rw [HC.out.1]; rfl, ?_, HB4.out⟩
          rw [HC.out.2, HM.out]
          exact owns_more HO4.out (by omega)
end Go.Proofs.YtmfidemkmmbioaaGreat
