/- free's Free: the pins' numbers, collected. -/
import Derived.Test.YtedcpckocedcoaaGreatFreeL
import Derived.Test.YtedcpckocedcoaaGreatLayK
namespace Go.Proofs.YtedcpckocedcoaaGreat
open Go.RowKit Go.Maps Go.Sort Go.Shelf

theorem keys_call (mb : Option Nat) (W : World) : Calls Tryz.prog 44 #[.map mb] W fun e w' => e = .returned (.func (.func 108) #[] #[.pointer (some ⟨W.heap.size, 0, none⟩)]) ∧ w' = W.alloc (.cells #[.map mb] 37) :=
  (callsIn_wide (n := 5)).1 (AnyZI.keys_in Tryz.keysK Fence.wide 5 trivial rfl mb W)

theorem collect_keys {base n : Nat} {vp : Value} {D : DU} {w : World} (h : PinsI base vp n D w) (hn : n ≤ 1000000) :
    ∃ mb, vp = .map mb ∧ Calls Tryz.prog 43 #[.func (.func 108) #[] #[.pointer (some ⟨w.heap.size, 0, none⟩)]] (w.alloc (.cells #[vp] 37)) fun e w' => ∃ v ss, e = .returned v ∧ ss.Perm (intKeys D) ∧ w'.ownsRow w.heap.size 3 1 v ss.length (rowOf ncells ss) ∧ ss.length ≤ 1000000 ∧ Below w.heap.size (w.alloc (.cells #[vp] 37)) w' := by
  have fin : ∀ {e : Ending} {w' : World} {ss : List Int} {v : Value}, w'.ownsRow (w.alloc (.cells #[vp] 37)).heap.size 3 1 v ss.length (ss.map encZ) → w'.ownsRow w.heap.size 3 1 v ss.length (rowOf ncells ss) := fun {e w' ss v} ho => by
    rw [rowOf_map]
    refine ⟨ho.1, ?_⟩
    rcases ho.2 with e | ⟨g, c, cur, e, hbase, rest⟩
    · exact .inl e
    · exact .inr ⟨g, c, cur, e, by simp at hbase; omega, rest⟩
  rcases h with ⟨rfl, rfl⟩ | ⟨b, rfl, _, ho⟩
  · have hseq : SeqGives Fence.wide 1 Tryz.prog 108 #[.pointer (some ⟨w.heap.size, 0, none⟩)] encZ (fun ss : List Int => ss = []) 0 (w.alloc (.cells #[.map none] 37)) :=
      AnyZI.keys_gives_nil (ρ := Tryz.keysK_ren) { Tryz.keysK with } Fence.wide _ trivial rfl w.heap.size _ (by simp) (by simp)
    have cS := AnyZI.collect_in Tryz.collectK Fence.wide 3 trivial trivial rfl (by omega) 108 #[.pointer (some ⟨w.heap.size, 0, none⟩)] trivial (enters_of Tryz.func108 (by kernel_rfl) rfl) _ 0 (Nat.zero_le _) (by omega) _ hseq
    change CallsIn _ _ Tryz.prog 43 _ _ _ at cS
    refine ⟨none, rfl, ((callsIn_wide (n := 3)).1 cS).mono ?_⟩
    rintro e w' ⟨v, ss, he, rfl, hrow, _, hb⟩
    exact ⟨v, [], he, List.Perm.refl _, fin (e := e) hrow, by simp, hb.mono (by simp)⟩
  · have hbl := ho.lt
    have hsz := ho.size_le
    have hseq : SeqGives Fence.wide 1 Tryz.prog 108 #[.pointer (some ⟨w.heap.size, 0, none⟩)] encZ (fun ss => ss.Perm (intKeys D)) (Maps.size D) (w.alloc (.cells #[.map (some b)] 37)) :=
      AnyZI.keys_gives (ρ := Tryz.keysK_ren) { Tryz.keysK with } Fence.wide _ trivial rfl (by omega) w.heap.size b n D _ (by simp) (by simp) (own_fr ho ((Fr.refl (fun _ => False) w).alloc _) (fun h => h))
    have cS := AnyZI.collect_in Tryz.collectK Fence.wide 3 trivial trivial rfl (by omega) 108 #[.pointer (some ⟨w.heap.size, 0, none⟩)] trivial (enters_of Tryz.func108 (by kernel_rfl) rfl) _ (Maps.size D) (by unfold maxLen; omega) (by omega) _ hseq
    change CallsIn _ _ Tryz.prog 43 _ _ _ at cS
    refine ⟨some b, rfl, ((callsIn_wide (n := 3)).1 cS).mono ?_⟩
    rintro e w' ⟨v, ss, he, hp, hrow, _, hb⟩
    have hl : ss.length = Maps.size D := by
      rw [hp.length_eq]
      obtain ⟨es, rfl⟩ := ho.isMap
      simp [intKeys, Maps.size]
    exact ⟨v, ss, he, hp, fin (e := e) hrow, by omega, hb.mono (by simp)⟩
end Go.Proofs.YtedcpckocedcoaaGreat
