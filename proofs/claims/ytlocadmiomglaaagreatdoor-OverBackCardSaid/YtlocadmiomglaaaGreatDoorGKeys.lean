/- pager: Made, Dropped, Spare. -/
import Derived.Test.YtlocadmiomglaaaGreatDoorGDrop
import Derived.Test.YtlocadmiomglaaaGreatDoorLayK
namespace Go.Proofs.YtlocadmiomglaaaGreatDoor
open Go.RowKit Go.Maps Go.Sort Go.Shelf Go.Conc

theorem keysP_call (mb : Option Nat) (W : World) : Calls Tryz.prog 50 #[.map mb] W fun e w' => e = .returned (.func (.func 128) #[] #[.pointer (some ⟨W.heap.size, 0, none⟩)]) ∧ w' = W.alloc (.cells #[.map mb] 102) :=
  (callsIn_wide (n := 5)).1 (AnyZI.keys_in Tryz.keysP Fence.wide 5 trivial rfl mb W)

/-- What Collect of a map's keys hands back. -/
def ColR (w : World) (L : List Int) (W : World) (e : Ending) (w' : World) : Prop :=
  ∃ v ss, e = .returned v ∧ ss.Perm L ∧ w'.ownsRow w.heap.size 3 1 v ss.length (rowOf ncells ss) ∧ Below w.heap.size W w'

theorem row_down {w' : World} {B B' : Nat} {v : Value} {ss : List Int} (hB : B ≤ B') (ho : w'.ownsRow B' 3 1 v ss.length (ss.map encZ)) : w'.ownsRow B 3 1 v ss.length (rowOf ncells ss) := by
  rw [rowOf_map]
  refine ⟨ho.1, ?_⟩
  rcases ho.2 with e | ⟨g, c, cur, e, hbase, rest⟩
  · exact .inl e
  · exact .inr ⟨g, c, cur, e, by omega, rest⟩

theorem collectP {b n : Nat} {D : DP} {w : World} {L : List Int} (ho : w.ownsMap Tryz.prog 3 heldR b n D) (hR : SetR L D) (hn : n ≤ 1000000) :
    Calls Tryz.prog 127 #[.func (.func 128) #[] #[.pointer (some ⟨w.heap.size, 0, none⟩)]] (w.alloc (.cells #[.map (some b)] 102)) (ColR w L (w.alloc (.cells #[.map (some b)] 102))) := by
  have hsz := ho.size_le
  have hseq : SeqGives Fence.wide 1 Tryz.prog 128 #[.pointer (some ⟨w.heap.size, 0, none⟩)] encZ (fun ss => ss.Perm (intKeys D)) (Maps.size D) (w.alloc (.cells #[.map (some b)] 102)) :=
    AnyZI.keys_gives (ρ := Tryz.keysP_ren) { Tryz.keysP with } Fence.wide _ trivial rfl (by omega) w.heap.size b n D _ (by simp) (by simp) (own_map_fr ho ((Fr.refl (fun _ => False) w).alloc _) (fun h => h))
  have cS := AnyZI.collect_in Tryz.collectK Fence.wide 3 trivial trivial rfl (by omega) 128 #[.pointer (some ⟨w.heap.size, 0, none⟩)] trivial (enters_of Tryz.func128 (by kernel_rfl) rfl) _ (Maps.size D) (by unfold maxLen; omega) (by omega) _ hseq
  change CallsIn _ _ Tryz.prog 127 _ _ _ at cS
  refine ((callsIn_wide (n := 3)).1 cS).mono ?_
  rintro e w' ⟨v, ss, he, hp, hrow, _, hb⟩
  exact ⟨v, ss, he, hp.trans hR.keys.symm, row_down (by simp) hrow, hb.mono (by simp)⟩


set_option maxHeartbeats 1000000 in
set_option maxRecDepth 100000 in
theorem sorted_keys {w W : World} {L : List Int} (fv : Value) (hC : Calls Tryz.prog 127 #[fv] W (ColR w L W)) (hL : L.length ≤ 1000000) (hW : w.heap.size ≤ W.heap.size) :
    Calls Tryz.prog 49 #[fv] W fun e w' => ∃ u, e = .returned u ∧ w'.ownsRow w.heap.size 3 1 u L.length (rowOf ncells (CL.srt L)) ∧ Below w.heap.size W w' := by
  have HC := Lib.hid hC
  clear hC
  go_enter Tryz.func49, Tryz.ntmps49
  go_wp2_with fail
  refine HC.out.mono ?_
  rintro e w1 ⟨v, ss, rfl, hp, ho, hb⟩
  have hlen := hp.length_eq
  have ho' := ho
  rw [rowOf_map] at ho'
  have HS := Lib.hid (sort_own w.heap.size v ss w1 (by omega) ho')
  have HLT := Lib.hid (fun k hk => (ho.lt k hk).1)
  have hsrt : CL.srt ss = CL.srt L := CL.srt_of_perm hp
  rw [hsrt, hlen] at HS
  have HB := Lib.hid hb
  clear ho ho' hb hsrt hp
  go_wp2_with fail
  refine HS.out.mono ?_
  rintro e w2 ⟨rfl, ho2, hg2⟩
  have HO2 := Lib.hid ho2
  have HB2 : Hid (Below w.heap.size W w2) := Lib.hid (HB.out.grown hg2 (Nat.le_trans hW HB.out.size) HLT.out)
  clear ho2 hg2
  go_wp2
  go_ret
  exact ⟨v, rfl, by rw [rowOf_map]; exact HO2.out, HB2.out⟩

section
variable {pb base : Nat} {s : PgS} {U : Nat → Prop} {w w' : World}
set_option maxHeartbeats 1000000 in
set_option maxRecDepth 100000 in
theorem pg_made (h : Pg pb base s U w) (hn : s.nm ≤ 1000000) (hl : s.A.length ≤ 1000000) : Calls Tryz.prog 15 #[.pointer (some ⟨pb, 0, none⟩)] w fun e w' => ∃ u, e = .returned u ∧ w'.ownsRow w.heap.size 3 1 u s.A.length (rowOf ncells (CL.srt (s.A.map (·.1)))) ∧ Below w.heap.size w w' := by
  have c5 := h.cells.c5
  have HNO := Lib.hid (pg_none h.cells)
  obtain ⟨D, ho, hR⟩ := h.made
  have HK := Lib.hid (keysP_call (some s.bm) w)
  have HS := Lib.hid (sorted_keys (w := w) _ (collectP ho hR.set hn) (by rw [List.length_map]; exact hl) (by simp))
  rw [List.length_map] at HS
  have HB := Lib.hid ((Below.refl w.heap.size w).alloc (Nat.le_refl _) (.cells #[.map (some s.bm)] 102))
  clear h ho hR hn hl
  go_enter Tryz.func15, Tryz.ntmps15
  go_wp2_with fail
  refine HNO.out.mono ?_
  rintro e w1 ⟨rfl, hw1⟩
  subst hw1
  go_wp2_with fail
  refine HK.out.mono ?_
  rintro e w2 ⟨rfl, rfl⟩
  go_wp2_with fail
  refine HS.out.mono ?_
  rintro e w3 ⟨u, rfl, ho, hb⟩
  have HO := Lib.hid ho
  have HB3 := Lib.hid (HB.out.trans hb)
  clear ho hb
  go_wp2
  go_ret
  exact ⟨u, rfl, HO.out, HB3.out⟩


end
end Go.Proofs.YtlocadmiomglaaaGreatDoor
