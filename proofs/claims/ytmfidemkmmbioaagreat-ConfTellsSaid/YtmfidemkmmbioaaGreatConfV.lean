/- conf: the contracts of isId, Valid and Won. -/
import Derived.Test.YtmfidemkmmbioaaGreatConf
namespace Go.Proofs.YtmfidemkmmbioaaGreat
open Go.RowKit

namespace CL
def isId (x : Int) : Bool := decide (1 ≤ x) && decide (x ≤ 64)
/-- The first k members are as they must be. -/
def goodTo (zs : List Int) (k : Nat) : Prop := ∀ i, i < k → isId (HL.el zs i) = true ∧ (0 < i → HL.el zs (i - 1) < HL.el zs i)
def Valid (zs : List Int) : Prop := 1 ≤ zs.length ∧ zs.length ≤ 9 ∧ goodTo zs zs.length

theorem goodTo_succ {zs : List Int} {k : Nat} (h : goodTo zs k) (h1 : isId (HL.el zs k) = true) (h2 : 0 < k → HL.el zs (k - 1) < HL.el zs k) : goodTo zs (k + 1) := by
  intro i hi
  by_cases e : i = k
  · subst e; exact ⟨h1, h2⟩
  · exact h i (by omega)

theorem Valid.up {zs : List Int} (h : Valid zs) : Up zs := by
  have key : ∀ d i, i + d + 1 < zs.length → HL.el zs i < HL.el zs (i + d + 1) := by
    intro d
    induction d with
    | zero => intro i hi; have := (h.2.2 (i + 1) (by omega)).2 (by omega); simpa using this
    | succ d ih =>
      intro i hi
      have h1 := ih i (by omega)
      have h2 := (h.2.2 (i + (d + 1) + 1) hi).2 (by omega)
      have e : i + (d + 1) + 1 - 1 = i + d + 1 := by omega
      rw [e] at h2
      omega
  unfold Up
  rw [List.pairwise_iff_getElem]
  intro i j hi hj hij
  have h1 := HL.el_eq zs i hi
  have h2 := HL.el_eq zs j hj
  rw [List.getElem?_eq_getElem hi] at h1
  rw [List.getElem?_eq_getElem hj] at h2
  injection h1 with h1
  injection h2 with h2
  rw [h1, h2]
  have := key (j - i - 1) i (by omega)
  have e : i + (j - i - 1) + 1 = j := by omega
  rw [e] at this
  exact this

theorem Valid.id {zs : List Int} (h : Valid zs) : ∀ x ∈ zs, isId x = true := by
  intro x hx
  obtain ⟨j, hj, e⟩ := List.getElem_of_mem hx
  have h1 := HL.el_eq zs j hj
  rw [List.getElem?_eq_getElem hj] at h1
  injection h1 with h1
  have := (h.2.2 j hj).1
  rw [← h1, e] at this
  exact this

theorem valid_of {zs : List Int} (h1 : 1 ≤ zs.length) (h9 : zs.length ≤ 9) (hu : Up zs) (hi : ∀ x ∈ zs, isId x = true) : Valid zs := by
  refine ⟨h1, h9, fun i hi' => ⟨hi _ (el_mem hi'), fun h0 => ?_⟩⟩
  have a1 := HL.el_eq zs i hi'
  have a2 := HL.el_eq zs (i - 1) (by omega)
  rw [List.getElem?_eq_getElem hi'] at a1
  rw [List.getElem?_eq_getElem (by omega)] at a2
  injection a1 with a1
  injection a2 with a2
  rw [← a1, ← a2]
  exact List.pairwise_iff_getElem.1 hu (i - 1) i (by omega) hi' (by omega)
end CL

set_option maxRecDepth 100000 in
theorem isId_int (x : Int) (w : World) :
    Calls Tryz.prog 29 #[.int .i64 x] w fun e w' => e = .returned (.bool (CL.isId x)) ∧ w = w' := by
  unfold CL.isId
  by_cases h1 : 1 ≤ x
  · by_cases h2 : x ≤ 64
    · go_enter Tryz.func29, Tryz.ntmps29
      go_wp2
      go_ret
      exact ⟨by simp [h1, h2], rfl⟩
    · go_enter Tryz.func29, Tryz.ntmps29
      go_wp2
      go_ret
      exact ⟨by simp [h2], rfl⟩
  · go_enter Tryz.func29, Tryz.ntmps29
    go_wp2
    go_ret
    exact ⟨by simp; omega, rfl⟩

set_option maxHeartbeats 1000000 in
set_option maxRecDepth 100000 in
theorem valid_ints (p : Option Addr) (n c B : Nat) (zs : List Int) (w : World) (h : RdI w B p n zs) :
    Calls Tryz.prog 12 #[.slice p n c] w fun e w' => ∃ b m, e = .returned (.bool b) ∧ (b = true ↔ CL.Valid zs) ∧ w' = w.drewN m := by
  have hl := h.1
  have HC := Lib.hid h
  have HLN := Lib.hid hl
  clear h hl
  by_cases h1 : n < 1
  · have : n = 0 := by omega
    subst this
    go_enter Tryz.func12, Tryz.ntmps12
    go_wp2
    go_ret
    exact ⟨false, 0, rfl, ⟨fun h => (by cases h), fun h => by have := h.1; have := HLN.out; omega⟩, rfl⟩
  · by_cases h9 : 9 < n
    · go_enter Tryz.func12, Tryz.ntmps12
      go_wp2
      go_ret
      exact ⟨false, 0, rfl, ⟨fun h => (by cases h), fun h => by have := h.2.1; have := HLN.out; omega⟩, rfl⟩
    · go_enter Tryz.func12, Tryz.ntmps12
      go_wp2
      go_loopw [15] (fun iv wr => ∃ k : Nat, k ≤ n ∧ iv = .int .i64 k ∧ CL.goodTo zs k ∧ ∃ m, wr = w.drewN m) (fun iv _ => n - (intOf iv).toNat)
      case atStart => exact ⟨0, Nat.zero_le _, rfl, fun i hi => by omega, 0, rfl⟩
      case round =>
        obtain ⟨k, hk, rfl, hg, m, rfl⟩ := hrel
        have HG := Lib.hid hg
        clear hg
        by_cases hlt : k < n
        · obtain ⟨b, o, hp, _, hcs⟩ := HC.out.2 (by omega)
          have hcell := hcs k hlt
          have hcell1 : 0 < k → w.cell? ⟨b, o + (k - 1), none⟩ = some (.int .i64 (HL.el zs (k - 1))) := fun h => hcs (k - 1) (by omega)
          clear hcs
          subst hp
          have HI := Lib.hid (isId_int (HL.el zs k))
          by_cases hid : CL.isId (HL.el zs k) = true
          · rw [hid] at HI
            by_cases hk0 : k = 0
            · subst hk0
              have HID := Lib.hid hid
              clear hid hcell1
              rw [Nat.add_zero] at hcell
              generalize hx : HL.el zs 0 = x at *
              have HX := Lib.hid hx; clear hx
              go_wp2_with fail
              refine (HI.out _).mono ?_
              rintro e w1 ⟨rfl, rfl⟩
              go_wp2
              go_roundw
              case rel => exact ⟨1, by omega, by go_num, CL.goodTo_succ HG.out (by rw [HX.out]; exact HID.out) (fun h => by omega), m, rfl⟩
              case measure => simp [intOf]; omega
            · have hc1 := hcell1 (by omega)
              have e1 : IntKind.i64.wrap ((k : Int) - 1) = ((k - 1 : Nat) : Int) := by rw [IntWalk.i64_in _ ⟨by omega, by omega⟩]; omega
              have hpos : 0 < k := by omega
              have HID := Lib.hid hid
              have HK0 := Lib.hid hk0
              by_cases hle : HL.el zs k ≤ HL.el zs (k - 1)
              · have HLE := Lib.hid hle
                have hbl : decide (HL.el zs k ≤ HL.el zs (k - 1)) = true := by simpa using hle
                clear hid hcell1 hk0 hle
                generalize hx : HL.el zs k = x at *
                generalize hy : HL.el zs (k - 1) = y at *
                have HX := Lib.hid hx
                have HY := Lib.hid hy
                clear hx hy
                go_wp2_with fail
                refine (HI.out _).mono ?_
                rintro e w1 ⟨rfl, rfl⟩
                go_wp2
                go_ret
                refine ⟨false, m, rfl, ⟨fun h => (by cases h), fun h => ?_⟩, rfl⟩
                have := (h.2.2 k (by have := HLN.out; omega)).2 (by have := HK0.out; omega)
                rw [HX.out, HY.out] at this
                have := HLE.out
                omega
              · have HLE := Lib.hid hle
                have hbl : decide (HL.el zs k ≤ HL.el zs (k - 1)) = false := by simpa using hle
                clear hid hcell1 hk0 hle
                generalize hx : HL.el zs k = x at *
                generalize hy : HL.el zs (k - 1) = y at *
                have HX := Lib.hid hx
                have HY := Lib.hid hy
                clear hx hy
                go_wp2_with fail
                refine (HI.out _).mono ?_
                rintro e w1 ⟨rfl, rfl⟩
                go_wp2
                go_roundw
                case rel => exact ⟨k + 1, by omega, by go_num, CL.goodTo_succ HG.out (by rw [HX.out]; exact HID.out) (fun _ => by rw [HX.out, HY.out]; have := HLE.out; omega), m, rfl⟩
                case measure => simp [intOf]; omega
          · have hid' : CL.isId (HL.el zs k) = false := by simpa using hid
            rw [hid'] at HI
            have HID := Lib.hid hid'
            clear hid hid' hcell1
            generalize hx : HL.el zs k = x at *
            have HX := Lib.hid hx; clear hx
            go_wp2_with fail
            refine (HI.out _).mono ?_
            rintro e w1 ⟨rfl, rfl⟩
            go_wp2
            go_ret
            refine ⟨false, m, rfl, ⟨fun h => (by cases h), fun h => ?_⟩, rfl⟩
            have := (h.2.2 k (by have := HLN.out; omega)).1
            rw [HX.out, HID.out] at this
            cases this
        · go_wp2
          go_ret
          have hkn : k = n := by omega
          refine ⟨true, m, rfl, ⟨fun _ => ⟨by have := HLN.out; omega, by have := HLN.out; omega, ?_⟩, fun _ => rfl⟩, rfl⟩
          rw [HLN.out, ← hkn]
          exact HG.out
end Go.Proofs.YtmfidemkmmbioaaGreat
