/- arboretumref1.Sorted answers. -/
import Derived.Test.YtoagbcbkaloacaaGreatDoorGRefS
namespace Go.Proofs.YtoagbcbkaloacaaGreatDoor
open Go.RowKit Go.Maps Go.Conc

/-- Sorted, of whatever list. -/
theorem RdI.cap0 {w : World} {B n : Nat} {zs : List Int} (h : RdI w B none n zs) : n = 0 := by
  rcases Nat.eq_zero_or_pos n with h0 | h0
  · exact h0
  · obtain ⟨b, o, e, _⟩ := h.2 h0
    cases e

set_option maxHeartbeats 4000000 in
set_option maxRecDepth 100000 in
theorem ref_sorted (p : Option Addr) (n c : Nat) (zs : List Int) (w : World) (h : RdI w w.heap.size p n zs) (hn : n ≤ 1000) :
    Calls Tryz.prog 37 #[.slice p n c] w fun e w' => ∃ q m d, e = .returned (.slice q m d) ∧ Below w.heap.size w w' := by
  have H := Lib.hid h
  clear h
  go_enter Tryz.func37, Tryz.ntmps37
  go_wp2
  go_loopw [3, 4] (fun tv iv wr => ∃ (k : Nat) (us : List Int), k ≤ n ∧ iv = .int .i64 k ∧ Hid (us.length = k) ∧ Hid (wr.ownsRow w.heap.size 3 1 tv k (rowOf ncells us)) ∧ Hid (Below w.heap.size w wr)) (fun _ iv _ => n - (intOf iv).toNat)
  case atStart => exact ⟨0, [], Nat.zero_le _, rfl, Lib.hid rfl, Lib.hid (World.ownsRow_nil _ _ _ _), Lib.hid (Below.refl _ _)⟩
  case round =>
    obtain ⟨k, us, hk, rfl, hus, ho, hb⟩ := hrel
    by_cases hlt : k < n
    · obtain ⟨b, o, e, hbl, hc⟩ := (H.out.below hb.out).2 (by omega)
      have hcell := hc k hlt
      subst e
      clear hc
      generalize HL.el zs k = x at *
      have HPU : Hid (∀ tv, wr.ownsRow w.heap.size 3 1 tv k (rowOf ncells us) → Calls Tryz.prog 66 #[tv, .int .i64 x] wr fun e w' => ∃ u us', e = .returned u ∧ us'.length = k + 1 ∧ w'.ownsRow w.heap.size 3 1 u (k + 1) (rowOf ncells us') ∧ Below w.heap.size w w') := Lib.hid (fun tv ho' => by
        have hs := hb.out.size
        have down : ∀ {w' : World} {u : Value} {xs : List Value}, w'.ownsRow wr.heap.size 3 1 u (k + 1) xs → w'.ownsRow w.heap.size 3 1 u (k + 1) xs := fun {w' u xs} h => by
          refine ⟨h.1, ?_⟩
          rcases h.2 with e | ⟨g, c, cur, e, hbase, rest⟩
          · exact .inl e
          · exact .inr ⟨g, c, cur, e, by omega, rest⟩
        rcases ho'.2 with ⟨rfl, h0⟩ | ⟨g, cap, cur, rfl, _, _, hcap, hmax, _⟩
        · subst h0
          refine (ref_put_nil x wr).mono ?_
          rintro e w' ⟨u, us', he, hl, ho2, hb2⟩
          exact ⟨u, us', he, hl, down ho2, hb.out.trans (hb2.mono hs)⟩
        · refine (ref_put g 0 k cap us x wr (RdI.of_own ho' hus.out) (by omega) hcap hmax).mono ?_
          rintro e w' ⟨u, us', he, hl, ho2, hb2⟩
          exact ⟨u, us', he, hl, down ho2, hb.out.trans (hb2.mono hs)⟩)
      have HPP := Lib.hid (HPU.out _ ho.out)
      clear HPU ho hb hus
      go_wp2_with fail
      refine HPP.out.mono ?_
      rintro e w3 ⟨u, us', rfl, hl, ho3, hb3⟩
      have HO3 := Lib.hid ho3
      have HB3 := Lib.hid hb3
      have HL3 := Lib.hid hl
      clear ho3 hb3 hl HPP
      go_wp2
      go_roundw
      case rel => exact ⟨k + 1, us', by omega, by go_num, HL3, HO3, HB3⟩
      case measure => simp [intOf]; omega
    · obtain ⟨q, d, rfl⟩ := owns_slice ho.out
      go_wp2
      go_ret
      exact ⟨q, k, d, rfl, hb.out⟩
end Go.Proofs.YtoagbcbkaloacaaGreatDoor
