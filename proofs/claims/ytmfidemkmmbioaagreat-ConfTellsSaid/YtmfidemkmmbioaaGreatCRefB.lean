/- arboretumref16's Valid, Won, Near: what they answer. -/
import Derived.Test.YtmfidemkmmbioaaGreatCRef
import Derived.Test.YtmfidemkmmbioaaGreatLater
namespace Go.Proofs.YtmfidemkmmbioaaGreat
open Go.RowKit

/-- It tells whether P. -/
def TellP (P : Prop) (w : World) (e : Ending) (w' : World) : Prop := ∃ b, e = .returned (.bool b) ∧ (b = true ↔ P) ∧ Below w.heap.size w w'

/-- The ways a member may stand. -/
theorem rise_cases (k : Nat) (y p : Int) : (y < 1) ∨ (¬ y < 1 ∧ 64 < y) ∨ (¬ y < 1 ∧ ¬ 64 < y ∧ k = 0) ∨ (¬ y < 1 ∧ ¬ 64 < y ∧ 0 < k ∧ y ≤ p) ∨ (¬ y < 1 ∧ ¬ 64 < y ∧ 0 < k ∧ ¬ y ≤ p) := by omega

set_option maxHeartbeats 4000000 in
set_option maxRecDepth 100000 in
theorem ref_rising (p : Option Addr) (n c B : Nat) (zs : List Int) (w : World) (h : RdI w B p n zs) (hB : B ≤ w.heap.size) (hn : n ≤ 1000) :
    Calls Tryz.prog 35 #[.slice p n c] w (TellP (CL.goodTo zs n) w) := by
  have H := Lib.hid (h.more hB)
  clear h
  go_enter Tryz.func35, Tryz.ntmps35
  go_wp2
  go_loopw [3] (fun iv wr => ∃ k : Nat, k ≤ n ∧ iv = .int .i64 k ∧ Hid (CL.goodTo zs k) ∧ Hid (Below w.heap.size w wr)) (fun iv _ => n - (intOf iv).toNat)
  case atStart => exact ⟨0, Nat.zero_le _, rfl, Lib.hid (fun i hi => by omega), Lib.hid (Below.refl _ _)⟩
  case round =>
    obtain ⟨k, hk, rfl, HG, HB⟩ := hrel
    by_cases hlt : k < n
    · have hltI : (k : Int) < (n : Int) := by omega
      obtain ⟨b, o, hp, _, hcs⟩ := (H.out.below HB.out).2 (by omega)
      have hcell := hcs k hlt
      have hcell1 : 0 < k → wr.cell? ⟨b, o + (k - 1), none⟩ = some (.int .i64 (HL.el zs (k - 1))) := fun h => hcs (k - 1) (by omega)
      have hl9 := cell_lt hcell
      clear hcs
      subst hp
      have HRC := Lib.hid (rise_cases k (HL.el zs k) (HL.el zs (k - 1)))
      have HNO : Hid (CL.goodTo zs n → CL.isId (HL.el zs k) = true ∧ (0 < k → HL.el zs (k - 1) < HL.el zs k)) := Lib.hid (fun hg => hg k hlt)
      have HYES : Hid (CL.isId (HL.el zs k) = true → (0 < k → HL.el zs (k - 1) < HL.el zs k) → CL.goodTo zs (k + 1)) := Lib.hid (fun h1 h2 => CL.goodTo_succ HG.out h1 h2)
      have q1 : ∀ q : Later wr, q.1.cell? ⟨b, o + k, none⟩ = some (.int .i64 (HL.el zs k)) := fun q => (q.2.cell (p := ⟨b, o + k, none⟩) hl9).trans hcell
      have q2 : 0 < k → ∀ q : Later wr, q.1.cell? ⟨b, o + (k - 1), none⟩ = some (.int .i64 (HL.el zs (k - 1))) := fun h q => (q.2.cell (p := ⟨b, o + (k - 1), none⟩) hl9).trans (hcell1 h)
      generalize HL.el zs k = y at *
      generalize HL.el zs (k - 1) = pv at *
      clear hcell hcell1 hl9 HG
      have fin : ∀ wq : World, Below wr.heap.size wr wq → Below w.heap.size w wq := fun _ hq => HB.out.trans (hq.mono HB.out.size)
      have FIN := Lib.hid fin
      clear fin
      rcases HRC.out with h1 | ⟨h1, h2⟩ | ⟨h1, h2, h3⟩ | ⟨h1, h2, h3, h4⟩ | ⟨h1, h2, h3, h4⟩
      · have p1 : decide (y < 1) = true := decide_eq_true h1
        have HR : Hid (¬ CL.goodTo zs n) := Lib.hid (fun hg => by
          have := (HNO.out hg).1
          unfold CL.isId at this
          simp at this
          omega)
        clear h1 q2 HRC HNO HYES
        go_wp2
        refine wp_region_later (by kernel_rfl) (by kernel_rfl) ?_
        repeat (go_big_quiet_step (fail))
        refine wpQuiet_nil ?_
        intro W1 hw'
        obtain ⟨⟨wq, hq⟩, hw''⟩ := hw'
        subst hw''
        have HB1 := Lib.hid (FIN.out _ hq)
        clear q1 p1 hq
        go_wp2
        go_ret
        exact ⟨false, rfl, ⟨(fun h => by cases h), fun h => absurd h HR.out⟩, HB1.out⟩
      · have p1 : decide (y < 1) = false := decide_eq_false h1
        have p2 : decide (64 < y) = true := decide_eq_true h2
        have HR : Hid (¬ CL.goodTo zs n) := Lib.hid (fun hg => by
          have := (HNO.out hg).1
          unfold CL.isId at this
          simp at this
          omega)
        clear h1 h2 q2 HRC HNO HYES
        go_wp2
        refine wp_region_later (by kernel_rfl) (by kernel_rfl) ?_
        repeat (go_big_quiet_step (fail))
        refine wpQuiet_nil ?_
        intro W1 hw'
        obtain ⟨⟨wq, hq⟩, hw''⟩ := hw'
        subst hw''
        have HB1 := Lib.hid (FIN.out _ hq)
        clear q1 p1 p2 hq
        go_wp2
        go_ret
        exact ⟨false, rfl, ⟨(fun h => by cases h), fun h => absurd h HR.out⟩, HB1.out⟩
      · have p1 : decide (y < 1) = false := decide_eq_false h1
        have p2 : decide (64 < y) = false := decide_eq_false h2
        have HR : Hid (CL.goodTo zs (k + 1)) := Lib.hid (HYES.out (by unfold CL.isId; simp; omega) (fun h => by omega))
        subst h3
        clear h1 h2 q2 HRC HNO HYES
        rw [Nat.add_zero] at q1
        go_wp2
        refine wp_region_later (by kernel_rfl) (by kernel_rfl) ?_
        repeat (go_big_quiet_step (fail))
        refine wpQuiet_nil ?_
        intro W1 hw'
        obtain ⟨⟨wq, hq⟩, hw''⟩ := hw'
        subst hw''
        have HB1 := Lib.hid (FIN.out _ hq)
        clear q1 p1 p2 hq
        go_wp2
        go_roundw
        case rel => exact ⟨1, by omega, by simp, HR, HB1⟩
        case measure => simp [intOf]; omega
      · have p1 : decide (y < 1) = false := decide_eq_false h1
        have p2 : decide (64 < y) = false := decide_eq_false h2
        have p3 : decide (y ≤ pv) = true := decide_eq_true h4
        have HR : Hid (¬ CL.goodTo zs n) := Lib.hid (fun hg => by
          have := (HNO.out hg).2 h3
          omega)
        have q3 := q2 h3
        have hk0 : (0 : Int) < (k : Int) := by omega
        have e1 : IntKind.i64.wrap ((k : Int) - 1) = ((k - 1 : Nat) : Int) := by rw [IntWalk.i64_in _ ⟨by omega, by omega⟩]; omega
        have hk1 : k - 1 < n := by omega
        clear h1 h2 h4 q2 HRC HNO HYES
        go_wp2
        refine wp_region_later (by kernel_rfl) (by kernel_rfl) ?_
        repeat (go_big_quiet_step (fail))
        refine wpQuiet_nil ?_
        intro W1 hw'
        obtain ⟨⟨wq, hq⟩, hw''⟩ := hw'
        subst hw''
        have HB1 := Lib.hid (FIN.out _ hq)
        clear q1 q3 p1 p2 p3 hq
        go_wp2
        go_ret
        exact ⟨false, rfl, ⟨(fun h => by cases h), fun h => absurd h HR.out⟩, HB1.out⟩
      · have p1 : decide (y < 1) = false := decide_eq_false h1
        have p2 : decide (64 < y) = false := decide_eq_false h2
        have p3 : decide (y ≤ pv) = false := decide_eq_false h4
        have HR : Hid (CL.goodTo zs (k + 1)) := Lib.hid (HYES.out (by unfold CL.isId; simp; omega) (fun h => by omega))
        have q3 := q2 h3
        have hk0 : (0 : Int) < (k : Int) := by omega
        have e1 : IntKind.i64.wrap ((k : Int) - 1) = ((k - 1 : Nat) : Int) := by rw [IntWalk.i64_in _ ⟨by omega, by omega⟩]; omega
        have hk1 : k - 1 < n := by omega
        clear h1 h2 h4 q2 HRC HNO HYES
        go_wp2
        refine wp_region_later (by kernel_rfl) (by kernel_rfl) ?_
        repeat (go_big_quiet_step (fail))
        refine wpQuiet_nil ?_
        intro W1 hw'
        obtain ⟨⟨wq, hq⟩, hw''⟩ := hw'
        subst hw''
        have HB1 := Lib.hid (FIN.out _ hq)
        clear q1 q3 p1 p2 p3 hq
        go_wp2
        go_roundw
        case rel => exact ⟨k + 1, by omega, by simp, HR, HB1⟩
        case measure => simp [intOf]; omega
    · obtain rfl : k = n := by omega
      have hltI : ¬ (k : Int) < (k : Int) := by omega
      go_wp2
      go_ret
      exact ⟨true, rfl, ⟨fun _ => HG.out, fun _ => rfl⟩, HB.out⟩

set_option maxHeartbeats 1000000 in
set_option maxRecDepth 100000 in
theorem ref_valid (p : Option Addr) (n c B : Nat) (zs : List Int) (w : World) (h : RdI w B p n zs) (hB : B ≤ w.heap.size) (hn : n ≤ 1000) :
    Calls Tryz.prog 13 #[.slice p n c] w (TellP (CL.Valid zs) w) := by
  have HR := Lib.hid (ref_rising p n c B zs w h hB hn)
  have HL0 := Lib.hid h.1
  clear h
  by_cases h1 : (1 : Int) ≤ (n : Int)
  · by_cases h9 : (n : Int) ≤ 9
    · go_enter Tryz.func13, Tryz.ntmps13
      go_wp2_with fail
      refine HR.out.mono ?_
      rintro e w1 ⟨b, rfl, hb, hbb⟩
      have HBI : Hid (b = true ↔ CL.Valid zs) := Lib.hid ⟨fun e => ⟨by have := HL0.out; omega, by have := HL0.out; omega, by rw [HL0.out]; exact hb.1 e⟩, fun e => hb.2 (by have := e.2.2; rwa [HL0.out] at this)⟩
      have HB := Lib.hid hbb
      clear hb hbb HR
      go_wp2
      go_ret
      exact ⟨b, rfl, HBI.out, HB.out⟩
    · have HBI : Hid (¬ CL.Valid zs) := Lib.hid (fun e => by have := e.2.1; have := HL0.out; omega)
      go_enter Tryz.func13, Tryz.ntmps13
      go_wp2
      go_ret
      exact ⟨false, rfl, ⟨(fun h => by cases h), fun h => absurd h HBI.out⟩, Below.refl _ _⟩
  · have HBI : Hid (¬ CL.Valid zs) := Lib.hid (fun e => by have := e.1; have := HL0.out; omega)
    go_enter Tryz.func13, Tryz.ntmps13
    go_wp2
    go_ret
    exact ⟨false, rfl, ⟨(fun h => by cases h), fun h => absurd h HBI.out⟩, Below.refl _ _⟩
end Go.Proofs.YtmfidemkmmbioaaGreat
