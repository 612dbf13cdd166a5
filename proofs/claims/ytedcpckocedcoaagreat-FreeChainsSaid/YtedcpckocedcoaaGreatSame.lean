/- arboretumbook.SameInts: are two lists of ints alike? -/
import Derived.Test.YtedcpckocedcoaaGreatInts
import Derived.Deep.QuietTactic
import Derived.BigQuiet
namespace Go.Proofs.YtedcpckocedcoaaGreat
open Go.RowKit

/-- What SameInts answers. -/
def SamePost {α : Type} (zs us : List α) (w : World) (e : Ending) (w' : World) : Prop :=
  ∃ (b : Bool) (m : Nat), e = .returned (.bool b) ∧ (b = true ↔ zs = us) ∧ w' = w.drewN m

theorem same_fin {α : Type} [Inhabited α] {zs us : List α} (hl : zs.length = us.length) (h : ∀ j, j < zs.length → HL.el zs j = HL.el us j) : zs = us := HL.ext_el hl h

set_option maxHeartbeats 1000000 in
set_option maxRecDepth 100000 in
theorem same_ints (p q : Option Addr) (n c m d : Nat) (zs us : List Int) (w : World) (B B' : Nat) (h1 : RdI w B p n zs) (h2 : RdI w B' q m us) (hn : n ≤ 1000000) (hm : m ≤ 1000000) :
    Calls Tryz.prog 25 #[.slice p n c, .slice q m d] w (SamePost zs us w) := by
  have hz := h1.1
  have hu := h2.1
  by_cases hnm : n = m
  · subst hnm
    have hne : ((n : Int) != (n : Int)) = false := by simp
    have H1 := Lib.hid h1
    have H2 := Lib.hid h2
    have HZ := Lib.hid hz
    have HU := Lib.hid hu
    clear h1 h2 hz hu hm
    go_enter Tryz.func25, Tryz.ntmps25
    go_wp2
    clear hne
    go_loopw [5, 4] (fun iv _ wr => ∃ k m' : Nat, k ≤ n ∧ iv = .int .i64 k ∧ wr = w.drewN m' ∧ ∀ j, j < k → HL.el zs j = HL.el us j) (fun iv _ _ => n - (intOf iv).toNat)
    case atStart => exact ⟨0, 0, Nat.zero_le _, rfl, rfl, fun j hj => by omega⟩
    case round =>
      obtain ⟨k, m', hk, rfl, rfl, hall⟩ := hrel
      have HA := Lib.hid hall; clear hall
      by_cases hlt : k < n
      · obtain ⟨b1, o1, e1, _, c1⟩ := H1.out.2 (by omega)
        obtain ⟨b2, o2, e2, _, c2⟩ := H2.out.2 (by omega)
        subst e1 e2
        have q1 := c1 k hlt
        have q2 := c2 k hlt
        clear c1 c2
        by_cases he : HL.el zs k = HL.el us k
        · have g : (HL.el zs k == HL.el us k) = true := by rw [beq_iff_eq]; exact he
          have HE := Lib.hid he
          clear he
          generalize hx : HL.el zs k = x at *
          generalize hy : HL.el us k = y at *
          have HX := Lib.hid (And.intro hx hy); clear hx hy
          go_wp2
          go_quiet (fail)
          go_wp2
          go_roundw
          case rel => exact ⟨k + 1, _, by omega, by go_num, rfl, fun j hj => by
            by_cases e : j = k
            · subst e; rw [HX.out.1, HX.out.2]; exact HE.out
            · exact HA.out j (by omega)⟩
          case measure => simp [intOf]; omega
        · have g : (HL.el zs k == HL.el us k) = false := by rw [beq_eq_false_iff_ne]; exact he
          have HE := Lib.hid he
          clear he
          generalize hx : HL.el zs k = x at *
          generalize hy : HL.el us k = y at *
          have HX := Lib.hid (And.intro hx hy); clear hx hy
          go_wp2
          go_quiet (fail)
          go_wp2
          go_ret
          exact ⟨false, _, rfl, ⟨(fun h => by cases h), (fun h => by exfalso; apply HE.out; rw [← HX.out.1, ← HX.out.2, h])⟩, World.drewN_drewN ..⟩
      · go_wp2
        go_ret
        exact ⟨true, m', rfl, ⟨fun _ => same_fin (by rw [HZ.out, HU.out]) (fun j hj => HA.out j (by rw [HZ.out] at hj; omega)), fun _ => rfl⟩, rfl⟩
  · have hne : ((n : Int) != (m : Int)) = true := by rw [bne_iff_ne]; omega
    have HD : Hid (¬ zs = us) := fun e => hnm (by rw [← hz, ← hu, e])
    clear h1 h2 hz hu
    go_enter Tryz.func25, Tryz.ntmps25
    go_wp2
    go_ret
    exact ⟨false, 0, rfl, ⟨(fun h => by cases h), (fun h => absurd h HD.out)⟩, rfl⟩
end Go.Proofs.YtedcpckocedcoaaGreat
