/- arboretumlaw17.alive returns true. -/
import Derived.Test.YtmfidemkmmbioaaGreatConfC
import Derived.Test.YtmfidemkmmbioaaGreatConfR
import Derived.Test.YtmfidemkmmbioaaGreatConfN
namespace Go.Proofs.YtmfidemkmmbioaaGreat
open Go.RowKit

namespace CL
theorem up3 : Up [1, 2, 3] := by unfold Up; decide
theorem up2 : Up [1, 2] := by unfold Up; decide
theorem nrm3 : nrm [1, 2, 3] = [1, 2, 3] := nrm_of_up up3
theorem nrm2 : nrm [1, 2] = [1, 2] := nrm_of_up up2
theorem a_change : change [1, 2] true 3 = some [1, 2, 3] := by
  unfold change
  rw [if_neg (by decide), if_pos rfl, if_neg (by decide), nrm2, if_neg (by decide)]
  exact congrArg some nrm3
theorem a_srt : srt [5, 0, 7] = [0, 5, 7] := srt_unique ((srt_perm _).trans (by decide)) (srt_sorted _) (by decide)
theorem a_reached : reached [1, 2, 3] [1, 3] [5, 7] = 5 := by
  unfold reached
  rw [nrm3, if_neg (by decide)]
  have : ([1, 2, 3] : List Int).map (val [1, 3] [5, 7]) = [5, 0, 7] := by decide
  rw [this, a_srt]
  rfl
theorem a_won : won [1, 2, 3] [1, 3, 3] = true := by unfold won; rw [nrm3]; decide
theorem a_won2 : won [1, 2, 3] [1, 1] = false := by unfold won; rw [nrm3]; decide
theorem a_near : near [1, 2, 3] [1, 2] = true := by
  unfold near
  have : nrm ([1, 2, 3] ++ [1, 2]) = [1, 2, 3] := up_ext (nrm_up _) up3 (fun x => by rw [nrm_mem]; simp; omega)
  rw [this]
  decide
theorem a_valid : Valid [1, 3] := valid_of (by decide) (by decide) (by unfold Up; decide) (by decide)
theorem a_valid2 : ¬ Valid [3, 1] := fun h => by
  have := h.up
  unfold Up at this
  revert this
  decide
end CL

theorem RdI.al {w : World} {p : Option Addr} {n : Nat} {zs : List Int} (h : RdI w w.heap.size p n zs) (o : Obj) : RdI (w.alloc o) (w.alloc o).heap.size p n zs :=
  (h.below ((Below.refl _ _).alloc (Nat.le_refl _) _)).more (by simp)
theorem rd_new2 (w : World) (zs : List Int) (t : TypeId) (k : Nat) (hk : w.heap.size = k) : RdI (w.alloc (.cells (rowOf ncells zs).toArray t)) (w.alloc (.cells (rowOf ncells zs).toArray t)).heap.size (some ⟨k, 0, none⟩) zs.length zs := by
  subst hk
  exact rd_new w zs t

set_option maxHeartbeats 2000000 in
set_option maxRecDepth 100000 in
theorem alive_true (w : World) : Calls Tryz.prog 4 #[] w fun e w' => e = .returned (.bool true) ∧ Below w.heap.size w w' := by
  go_enter Tryz.func4, Tryz.ntmps4
  go_wp2_with fail
  refine (change_ints _ 2 2 [1, 2] true 3 _ (rd_new w [1, 2] 3) (by omega)).mono ?_
  rintro e w1 ⟨v, code, rfl, hb1, ⟨hc, _⟩ | ⟨l, N, q, c, hc, hN, rfl, rfl, hq, ho⟩⟩
  · rw [CL.a_change] at hc; cases hc
  rw [CL.a_change] at hc
  injection hc with hc
  subst hc
  have hN' : 3 = N := hN
  subst hN'
  have HR := Lib.hid (RdI.of_own ho rfl)
  have HQ := Lib.hid hq
  have HB1 : Hid (Below w.heap.size w w1) := ((Below.refl _ w).alloc (Nat.le_refl _) _).trans (hb1.mono (by simp))
  clear ho hb1 hN hq
  have HQ4 : Hid (Calls Tryz.prog 16 #[.int .i64 4] w1 fun e w' => e = .returned (.int .i64 3) ∧ w1 = w') := quorum_int 4 w1 (by omega)
  go_wp2_with fail
  refine HQ4.out.mono ?_
  rintro e w2 ⟨rfl, rfl⟩
  clear HQ4
  have HRE := Lib.hid (reached_ints _ _ _ 3 3 2 2 2 2 [1, 2, 3] [1, 3] [5, 7] _ ((rd_new w1 [1, 2, 3] 3).al (.cells #[.int .i64 1, .int .i64 3] 3) |>.al (.cells #[.int .i64 5, .int .i64 7] 3))
    ((rd_new2 (w1.alloc (.cells #[.int .i64 1, .int .i64 2, .int .i64 3] 3)) [1, 3] 3 (w1.heap.size + 1) (by simp)).al (.cells #[.int .i64 5, .int .i64 7] 3))
    (rd_new2 ((w1.alloc (.cells #[.int .i64 1, .int .i64 2, .int .i64 3] 3)).alloc (.cells #[.int .i64 1, .int .i64 3] 3)) [5, 7] 3 (w1.heap.size + 1 + 1) (by simp)) (by omega) (by omega) (by omega))
  rw [CL.a_reached] at HRE
  go_wp2_with fail
  refine HRE.out.mono ?_
  rintro e w3 ⟨rfl, hb3⟩
  have hb3' : Below w1.heap.size w1 w3 := ((((Below.refl _ w1).alloc (Nat.le_refl _) _).alloc (by simp) _).alloc (by simp; omega) _).trans (hb3.mono (by simp; omega))
  have HR3 := Lib.hid ((HR.out.below hb3').more hb3'.size)
  have HB3 : Hid (Below w.heap.size w w3) := HB1.out.trans (hb3'.mono HB1.out.size)
  clear hb3 hb3' HRE HR HB1
  have HW1 := Lib.hid (won_ints q _ 3 c 3 3 [1, 2, 3] [1, 3, 3] _ (HR3.out.al (.cells #[.int .i64 1, .int .i64 3, .int .i64 3] 3)) (rd_new w3 [1, 3, 3] 3) (by omega) (by omega))
  rw [CL.a_won] at HW1
  go_wp2_with fail
  refine HW1.out.mono ?_
  rintro e w4 ⟨rfl, hb4⟩
  have hb4' : Below w3.heap.size w3 w4 := ((Below.refl _ w3).alloc (Nat.le_refl _) _).trans (hb4.mono (by simp))
  have HR4 := Lib.hid ((HR3.out.below hb4').more hb4'.size)
  have HB4 : Hid (Below w.heap.size w w4) := HB3.out.trans (hb4'.mono HB3.out.size)
  clear hb4 hb4' HW1 HR3 HB3
  have HW2 := Lib.hid (won_ints q _ 3 c 2 2 [1, 2, 3] [1, 1] _ (HR4.out.al (.cells #[.int .i64 1, .int .i64 1] 3)) (rd_new w4 [1, 1] 3) (by omega) (by omega))
  rw [CL.a_won2] at HW2
  go_wp2_with fail
  refine HW2.out.mono ?_
  rintro e w5 ⟨rfl, hb5⟩
  have hb5' : Below w4.heap.size w4 w5 := ((Below.refl _ w4).alloc (Nat.le_refl _) _).trans (hb5.mono (by simp))
  have HR5 := Lib.hid ((HR4.out.below hb5').more hb5'.size)
  have HB5 : Hid (Below w.heap.size w w5) := HB4.out.trans (hb5'.mono HB4.out.size)
  clear hb5 hb5' HW2 HR4 HB4
  have HNE := Lib.hid (near_ints q _ 3 c 2 2 [1, 2, 3] [1, 2] _ (HR5.out.al (.cells #[.int .i64 1, .int .i64 2] 3)) (rd_new w5 [1, 2] 3) HQ.out (fun h => by cases h) (by omega) (by omega))
  rw [CL.a_near] at HNE
  go_wp2_with fail
  refine HNE.out.mono ?_
  rintro e w6 ⟨rfl, hb6⟩
  have hb6' : Below w5.heap.size w5 w6 := ((Below.refl _ w5).alloc (Nat.le_refl _) _).trans (hb6.mono (by simp))
  have HB6 : Hid (Below w.heap.size w w6) := HB5.out.trans (hb6'.mono HB5.out.size)
  clear hb6 hb6' HNE HR5 HB5
  have HV1 := Lib.hid (valid_ints _ 2 2 _ [1, 3] _ (rd_new w6 [1, 3] 3))
  go_wp2_with fail
  refine HV1.out.mono ?_
  rintro e w7 ⟨b7, m7, rfl, hv7, hw7⟩
  obtain rfl : b7 = true := hv7.2 CL.a_valid
  have HB7 : Hid (Below w.heap.size w w7) := Lib.hid (by rw [hw7]; exact ((Fr.of_all (S := fun _ => False) (((Below.refl _ w6).alloc (Nat.le_refl _) _))).drewN _).below (Nat.le_refl _) (fun _ h => h.elim) |>.mono HB6.out.size |> HB6.out.trans)
  clear hv7 hw7 HV1 HB6
  have HV2 := Lib.hid (valid_ints _ 2 2 _ [3, 1] _ (rd_new w7 [3, 1] 3))
  go_wp2_with fail
  refine HV2.out.mono ?_
  rintro e w8 ⟨b8, m8, rfl, hv8, hw8⟩
  obtain rfl : b8 = false := by
    cases b8 with
    | false => rfl
    | true => exact absurd (hv8.1 rfl) CL.a_valid2
  have HB8 : Hid (Below w.heap.size w w8) := Lib.hid (by rw [hw8]; exact ((Fr.of_all (S := fun _ => False) (((Below.refl _ w7).alloc (Nat.le_refl _) _))).drewN _).below (Nat.le_refl _) (fun _ h => h.elim) |>.mono HB7.out.size |> HB7.out.trans)
  clear hv8 hw8 HV2 HB7
  go_wp2
  go_ret
  exact ⟨rfl, HB8.out⟩
end Go.Proofs.YtmfidemkmmbioaaGreat
