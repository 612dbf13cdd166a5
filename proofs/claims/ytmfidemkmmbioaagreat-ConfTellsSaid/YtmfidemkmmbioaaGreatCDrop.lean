/- arboretumref1.Drop: a number out of rising ones. -/
import Derived.Test.YtmfidemkmmbioaaGreatCPut
namespace Go.Proofs.YtmfidemkmmbioaaGreat
open Go.RowKit

def DropPost (w : World) (n : Nat) (l : List Int) (e : Ending) (w' : World) : Prop := ∃ u, e = .returned (.tuple #[u, .bool true]) ∧ w'.ownsRow w.heap.size 3 1 u (n - 1) (rowOf ncells l) ∧ Below w.heap.size w w'

set_option maxHeartbeats 40000000 in
set_option maxRecDepth 100000 in
theorem ref_drop (b o n c : Nat) (zs : List Int) (x : Int) (w : World) (h : RdI w w.heap.size (some ⟨b, o, none⟩) n zs) (hn : n ≤ 1000) (hc : n ≤ c) (hcm : c ≤ maxLen) (hu : CL.Up zs) (hx : x ∈ zs) :
    Calls Tryz.prog 33 #[.slice (some ⟨b, o, none⟩) n c, .int .i64 x] w (DropPost w n (zs.filter (fun y => !(y == x)))) := by
  have H := Lib.hid h
  have HN := Lib.hid hn
  have HU := Lib.hid hu
  have HX := Lib.hid hx
  have hcm' : c ≤ 9223372036854775807 := by unfold maxLen at hcm; omega
  clear h hcm hu hx
  go_enter Tryz.func33, Tryz.ntmps33
  go_wp2
  go_loopw [6] (fun iv wr => ∃ k : Nat, k ≤ n ∧ iv = .int .i64 k ∧ wr = w ∧ Hid (∀ i, i < k → HL.el zs i ≠ x)) (fun iv _ => n - (intOf iv).toNat)
  case atStart => exact ⟨0, Nat.zero_le _, rfl, rfl, Lib.hid (fun i hi => by omega)⟩
  case round =>
    obtain ⟨k, hk, rfl, rfl, HLE⟩ := hrel
    by_cases hlt : k < n
    · have hltI : (k : Int) < (n : Int) := by omega
      obtain ⟨b', o', e, hb, hc'⟩ := H.out.2 (by omega)
      injection e with e
      injection e with e1 e2 _
      subst e1 e2
      have hcell := hc' k hlt
      clear hc'
      by_cases hy : HL.el zs k = x
      · have HFI : Hid (zs.filter (fun y => !(y == x)) = zs.take k ++ zs.drop (k + 1)) := Lib.hid (CL.drop_at HU.out (by have := H.out.1; omega) hy).symm
        have hq : (x == x) = true := by simp
        rw [hy] at hcell
        have HT := Lib.hid (H.out.takes hk)
        have HD := Lib.hid (H.out.drops (show k + 1 ≤ n by omega))
        have hd0 : Below wr.heap.size wr wr.drew := ((Fr.refl (fun _ => False) wr).drew).below (Nat.le_refl _) (fun _ h => h.elim)
        have HB0 := Lib.hid hd0
        clear hd0 hy HLE
        have hkc : k ≤ c := by omega
        have hkc1 : k + 1 ≤ c := by omega
        have hwr : IntKind.i64.wrap ((k : Int) + 1) = ((k + 1 : Nat) : Int) := by rw [IntWalk.i64_in _ ⟨by omega, by omega⟩]; omega
        have hi0 : (0 : Int) ≤ (k : Int) + 1 := by omega
        have hi1 : (k : Int) + 1 ≤ (n : Int) := by omega
        rcases Nat.lt_or_ge (k + 1) c with hck | hck
        · have hck2 : ¬ c = k + 1 := by omega
          go_wp2_with fail
          go_region_law (first
            | (refine step_append_rd rfl _ _ rfl wr.heap.size (.slice none 0 0) 0 [] rfl (World.ownsRow_nil _ _ _ _) _ k _ wr.heap.size (zs.take k) rfl (HT.out.below HB0.out) (fun h => by cases h) (by omega) (by simp) ?_; intro v3 w3 hown3 hgr3; have H3 := Lib.hid (rp_one (B := wr.heap.size) (w := wr) HB0.out hown3 hgr3); clear hown3 hgr3)
            | (refine step_append_rd rfl _ _ rfl wr.heap.size v3 k (rowOf ncells (zs.take k)) rfl H3.out.1 _ (n - (k + 1)) _ wr.heap.size (zs.drop (k + 1)) rfl (HD.out.below H3.out.2) (fun h => by cases h) (by omega) (H3.out.2.size) ?_; intro v5 w5 hown5 hgr5; have H5 := Lib.hid (rp_two (n := k) H3.out.1 H3.out.2 hown5 (.inl hgr5)); clear hown5 hgr5))
          all_goals
            go_wp2
            go_ret2
            refine ⟨v5, rfl, ?_, H5.out.2⟩
            have e := H5.out.1
            rw [show k + (n - (k + 1)) = n - 1 by omega] at e
            rw [HFI.out, rowOf_append]
            exact e
        · obtain rfl : n = k + 1 := by omega
          obtain rfl : c = k + 1 := by omega
          have hkk : (k : Int) ≤ (k : Int) + 1 := by omega
          go_wp2_with fail
          go_region_law (first
            | (refine step_append_rd rfl _ _ rfl wr.heap.size (.slice none 0 0) 0 [] rfl (World.ownsRow_nil _ _ _ _) _ k _ wr.heap.size (zs.take k) rfl (HT.out.below HB0.out) (fun h => by cases h) (by omega) (by simp) ?_; intro v3 w3 hown3 hgr3; have H3 := Lib.hid (rp_one (B := wr.heap.size) (w := wr) HB0.out hown3 hgr3); clear hown3 hgr3)
            | (refine step_append_rd rfl _ _ rfl wr.heap.size v3 k (rowOf ncells (zs.take k)) rfl H3.out.1 _ 0 _ wr.heap.size [] rfl ⟨rfl, fun h => absurd h (by omega)⟩ (fun h => by cases h) (by omega) (H3.out.2.size) ?_; intro v5 w5 hown5 hgr5; have H5 := Lib.hid (rp_two (n := k) H3.out.1 H3.out.2 hown5 (.inl hgr5)); clear hown5 hgr5))
          all_goals
            go_wp2
            go_ret2
            refine ⟨v5, rfl, ?_, H5.out.2⟩
            have e := H5.out.1
            rw [HFI.out, List.drop_eq_nil_of_le (by have := H.out.1; omega), List.append_nil]
            simpa [rowOf] using e
      · have HLE2 : Hid (∀ i, i < k + 1 → HL.el zs i ≠ x) := Lib.hid (fun i hi => by
          by_cases e : i = k
          · subst e; exact hy
          · exact HLE.out i (by omega))
        have hq : (HL.el zs k == x) = false := by rw [beq_eq_false_iff_ne]; exact hy
        clear HLE hy
        generalize HL.el zs k = y at *
        go_wp2
        go_roundw
        case rel => exact ⟨k + 1, by omega, by go_num, trivial, HLE2⟩
        case measure => simp [intOf]; omega
    · exfalso
      obtain ⟨i, hi, he⟩ := List.getElem_of_mem HX.out
      have h1 := HL.el_eq zs i hi
      rw [List.getElem?_eq_getElem hi] at h1
      injection h1 with h1
      exact HLE.out i (by have := H.out.1; omega) (h1.symm.trans he)
end Go.Proofs.YtmfidemkmmbioaaGreat
