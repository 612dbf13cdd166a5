/- container/heap's down over any value of heap.Interface whose Len, Less and Swap meet their contracts. -/
import Derived.Test.YtjpmebfegpmccaaGreatHeapC
namespace Go.Proofs.YtjpmebfegpmccaaGreat
open Go.RowKit

/-- What holds of the list as 'down' goes on. -/
def DownRel {α : Type} [Inhabited α] (lt : α → α → Bool) (I : List α → World → Prop) (F : World → World → Prop) (l0 : List α) (w : World) (lo n i0 i : Nat) (wr : World) : Prop :=
  ∃ l, I l wr ∧ F w wr ∧ l.Perm l0 ∧ HL.DownInv lt lo i0 l n i ∧ (∀ k, n ≤ k → HL.el l k = HL.el l0 k) ∧ (i = i0 → l = l0)

/-- What 'down' leaves. -/
def DownPost {α : Type} [Inhabited α] (lt : α → α → Bool) (I : List α → World → Prop) (F : World → World → Prop) (l0 : List α) (w : World) (lo n i0 : Nat) (e : Ending) (w' : World) : Prop :=
  ∃ l b, e = .returned (.bool b) ∧ I l w' ∧ F w w' ∧ l.Perm l0 ∧ (∀ k, n ≤ k → HL.el l k = HL.el l0 k) ∧ (b = false → l = l0 ∧ ∀ k, 0 < k → k < n → lo ≤ (k - 1) / 2 → k ≠ i0 → HL.okAt lt l k) ∧ (b = true → HL.HeapTo lt lo l n)

theorem DownRel.step {it : Value} {α : Type} [Inhabited α] {lt : α → α → Bool} {I : List α → World → Prop} {F : World → World → Prop} (H : HeapRep Tryz.prog it lt I F) {l0 l : List α} {w w1 w2 : World} {lo n i0 i c : Nat}
    (hn : n ≤ l0.length) (hi : i0 ≤ i) (hF : F w w1) (hp : l.Perm l0) (hd : HL.DownInv lt lo i0 l n i) (hk : ∀ k, n ≤ k → HL.el l k = HL.el l0 k) (hc : 2 * i + 1 < n) (hcc : HL.kid lt l n i = c)
    (hl : lt (HL.el l c) (HL.el l i) = true) (hI : I (HL.swp l i c) w2) (hF' : F w1 w2) : i0 ≤ c ∧ i < c ∧ c < n ∧ DownRel lt I F l0 w lo n i0 c w2 := by
  have hl0 := hp.length_eq
  have hcn : c < n ∧ i < c := by subst hcc; unfold HL.kid; split <;> omega
  refine ⟨by omega, hcn.2, hcn.1, _, hI, H.trans _ _ _ hF hF', (HL.swp_perm _ _ _ (by omega) (by omega)).trans hp, ?_, fun k kn => ?_, fun e => by omega⟩
  · subst hcc
    exact hd.step H.ord (by omega) hi hc hl
  · rw [HL.el_swp _ _ _ _ (by omega) (by omega), if_neg (by omega), if_neg (by omega)]
    exact hk k kn

theorem DownPost.mk {it : Value} {α : Type} [Inhabited α] {lt : α → α → Bool} {I : List α → World → Prop} {F : World → World → Prop} (H : HeapRep Tryz.prog it lt I F) {l0 l : List α} {w w1 w2 : World} {lo n i0 i : Nat}
    (hi : i0 ≤ i) (hF : F w w1) (hp : l.Perm l0) (hd : HL.DownInv lt lo i0 l n i) (hk : ∀ k, n ≤ k → HL.el l k = HL.el l0 k) (he : i = i0 → l = l0) (hI : I l w2) (hF' : F w1 w2)
    (hc : n ≤ 2 * i + 1 ∨ lt (HL.el l (HL.kid lt l n i)) (HL.el l i) = false) : DownPost lt I F l0 w lo n i0 (.returned (.bool (decide (i0 < i)))) w2 := by
  have hdone := hd.done H.ord hc
  refine ⟨l, _, rfl, hI, H.trans _ _ _ hF hF', hp, hk, fun hb => ?_, fun hb => ?_⟩
  · have : i = i0 := by simp at hb; omega
    exact ⟨he this, fun k k0 kn kl ki => hdone k k0 kn kl (.inl ki)⟩
  · have : i0 < i := by simp at hb; omega
    exact fun k k0 kn kl => hdone k k0 kn kl (.inr this)

set_option maxHeartbeats 1000000 in
theorem heap_down {it : Value} {α : Type} [Inhabited α] {lt : α → α → Bool} {I : List α → World → Prop} {F : World → World → Prop} (H : HeapRep Tryz.prog it lt I F)
    (l0 : List α) (w : World) (h0 : I l0 w) (lo : Nat) (n i0 : Int) (hn0 : 0 ≤ n) (hn : n ≤ l0.length) (hi0 : 0 ≤ i0) (hd : HL.DownInv lt lo i0.toNat l0 n.toNat i0.toNat) (hib : i0 ≤ 1000000) :
    Calls Tryz.prog 89 #[it, .int .i64 i0, .int .i64 n] w (DownPost lt I F l0 w lo n.toNat i0.toNat) := by
  obtain ⟨i0, rfl⟩ := Int.eq_ofNat_of_zero_le hi0
  obtain ⟨n, rfl⟩ := Int.eq_ofNat_of_zero_le hn0
  simp only [Int.toNat_natCast] at hd ⊢
  have HS := Lib.hid H; clear H
  have hs0 := HS.out.small _ _ h0
  have hst : DownRel lt I F l0 w lo n i0 i0 w := ⟨l0, h0, HS.out.refl _, List.Perm.refl _, hd, fun _ _ => rfl, fun _ => rfl⟩
  have HST := Lib.hid hst; clear hst h0 hd
  have hn1 : n ≤ l0.length := by omega
  clear hn
  go_enter Tryz.func89, Tryz.ntmps89
  go_wp2
  go_loopw [7, 8, 9, 10] (fun iv _ _ _ wr => ∃ i : Nat, i0 ≤ i ∧ (i = i0 ∨ i < n) ∧ iv = .int .i64 i ∧ DownRel lt I F l0 w lo n i0 i wr) (fun iv _ _ _ _ => n - (intOf iv).toNat)
  case atStart => exact ⟨i0, Nat.le_refl _, .inl rfl, rfl, HST.out⟩
  case round =>
    clear HST hi0 hn0
    obtain ⟨i, hi, hin, rfl, l, hI, hF, hp, hd, hk, he⟩ := hrel
    have hl0 : l.length ≤ l0.length := Nat.le_of_eq hp.length_eq
    have hl1 : l0.length ≤ l.length := Nat.le_of_eq hp.length_eq.symm
    have HK := Lib.hid hk; clear hk
    have HD := Lib.hid hd; clear hd
    have HE := Lib.hid he; clear he
    have hib2 : i ≤ 1000000 := by omega
    by_cases hc : 2 * i + 1 < n
    · have hin' : i < n := by omega
      clear hin
      have HL1 := Lib.hid (fun (h2 : 2 * i + 2 < n) => HS.out.less l wr hI (2 * (i : Int) + 1 + 1) (2 * (i : Int) + 1) (by omega) (by omega) (by omega) (by omega))
      have HL2 := Lib.hid (fun w1 (h : I l w1) (c : Int) (hc0 : 0 ≤ c) (hcn : c < n) => HS.out.less l w1 h c i (by omega) (by omega) (by omega) (by omega))
      have HSW := Lib.hid (fun w1 (h : I l w1) (c : Int) (hc0 : 0 ≤ c) (hcn : c < n) => HS.out.swap l w1 h i c (by omega) (by omega) (by omega) (by omega))
      have e1 : (2 * (i : Int) + 1 + 1).toNat = 2 * i + 2 := by omega
      have e2 : (2 * (i : Int) + 1).toNat = 2 * i + 1 := by omega
      have E1 := Lib.hid e1; have E2 := Lib.hid e2; clear e1 e2
      by_cases h2 : 2 * i + 2 < n
      · have hL := HL1.out h2
        clear HL1
        rw [E1.out, E2.out] at hL
        cases h1 : lt (HL.el l (2 * i + 2)) (HL.el l (2 * i + 1)) with
        | true =>
          rw [h1] at hL
          have HL1 := Lib.hid hL; clear hL
          have HC := Lib.hid (show HL.kid lt l n i = 2 * i + 2 by unfold HL.kid; rw [if_pos ⟨h2, h1⟩])
          clear h1
          have HLB := Lib.hid (fun w1 (h : I l w1) => HL2.out w1 h (2 * (i : Int) + 1 + 1) (by omega) (by omega))
          have HSB := Lib.hid (fun w1 (h : I l w1) => HSW.out w1 h (2 * (i : Int) + 1 + 1) (by omega) (by omega))
          clear HL2 HSW
          rw [E1.out, Int.toNat_natCast] at HLB HSB
          cases h3 : lt (HL.el l (2 * i + 2)) (HL.el l i) with
          | false =>
            rw [h3] at HLB
            have H3 := Lib.hid h3; clear h3
            go_wp2_with (first | ((with_reducible refine wpI2 HL1.out ?_ ?_ ?_ ?_ ?_); rfl; rfl; rfl; rfl; rintro v w1 ⟨rfl, hI1, hF1⟩) | ((with_reducible refine wpI2 (HLB.out _ hI1) ?_ ?_ ?_ ?_ ?_); rfl; rfl; rfl; rfl; rintro v w2 ⟨rfl, hI2, hF2⟩))
            go_ret
            exact DownPost.mk HS.out hi hF hp HD.out HK.out HE.out hI2 (HS.out.trans _ _ _ hF1 hF2) (.inr (by rw [HC.out]; exact H3.out))
          | true =>
            rw [h3] at HLB
            have H3 := Lib.hid h3; clear h3
            go_wp2_with (first | ((with_reducible refine wpI2 HL1.out ?_ ?_ ?_ ?_ ?_); rfl; rfl; rfl; rfl; rintro v w1 ⟨rfl, hI1, hF1⟩) | ((with_reducible refine wpI2 (HLB.out _ hI1) ?_ ?_ ?_ ?_ ?_); rfl; rfl; rfl; rfl; rintro v w2 ⟨rfl, hI2, hF2⟩) | ((with_reducible refine wpI2 (HSB.out _ hI2) ?_ ?_ ?_ ?_ ?_); rfl; rfl; rfl; rfl; rintro v w3 ⟨hI3, hF3⟩))
            obtain ⟨q1, q2, q3, q4⟩ := DownRel.step HS.out hn1 hi (HS.out.trans _ _ _ hF (HS.out.trans _ _ _ hF1 hF2)) hp HD.out HK.out hc HC.out H3.out hI3 hF3
            go_roundw
            case rel => exact ⟨2 * i + 2, q1, .inr q3, by go_num, q4⟩
            case measure => simp [intOf]; omega
        | false =>
          rw [h1] at hL
          have HL1 := Lib.hid hL; clear hL
          have HC := Lib.hid (show HL.kid lt l n i = 2 * i + 1 by unfold HL.kid; rw [if_neg (fun h => by rw [h1] at h; cases h.2)])
          clear h1
          have HLB := Lib.hid (fun w1 (h : I l w1) => HL2.out w1 h (2 * (i : Int) + 1) (by omega) (by omega))
          have HSB := Lib.hid (fun w1 (h : I l w1) => HSW.out w1 h (2 * (i : Int) + 1) (by omega) (by omega))
          clear HL2 HSW
          rw [E2.out, Int.toNat_natCast] at HLB HSB
          cases h3 : lt (HL.el l (2 * i + 1)) (HL.el l i) with
          | false =>
            rw [h3] at HLB
            have H3 := Lib.hid h3; clear h3
            go_wp2_with (first | ((with_reducible refine wpI2 HL1.out ?_ ?_ ?_ ?_ ?_); rfl; rfl; rfl; rfl; rintro v w1 ⟨rfl, hI1, hF1⟩) | ((with_reducible refine wpI2 (HLB.out _ hI1) ?_ ?_ ?_ ?_ ?_); rfl; rfl; rfl; rfl; rintro v w2 ⟨rfl, hI2, hF2⟩))
            go_ret
            exact DownPost.mk HS.out hi hF hp HD.out HK.out HE.out hI2 (HS.out.trans _ _ _ hF1 hF2) (.inr (by rw [HC.out]; exact H3.out))
          | true =>
            rw [h3] at HLB
            have H3 := Lib.hid h3; clear h3
            go_wp2_with (first | ((with_reducible refine wpI2 HL1.out ?_ ?_ ?_ ?_ ?_); rfl; rfl; rfl; rfl; rintro v w1 ⟨rfl, hI1, hF1⟩) | ((with_reducible refine wpI2 (HLB.out _ hI1) ?_ ?_ ?_ ?_ ?_); rfl; rfl; rfl; rfl; rintro v w2 ⟨rfl, hI2, hF2⟩) | ((with_reducible refine wpI2 (HSB.out _ hI2) ?_ ?_ ?_ ?_ ?_); rfl; rfl; rfl; rfl; rintro v w3 ⟨hI3, hF3⟩))
            obtain ⟨q1, q2, q3, q4⟩ := DownRel.step HS.out hn1 hi (HS.out.trans _ _ _ hF (HS.out.trans _ _ _ hF1 hF2)) hp HD.out HK.out hc HC.out H3.out hI3 hF3
            go_roundw
            case rel => exact ⟨2 * i + 1, q1, .inr q3, by go_num, q4⟩
            case measure => simp [intOf]; omega
      · have HC := Lib.hid (show HL.kid lt l n i = 2 * i + 1 by unfold HL.kid; rw [if_neg (fun h => h2 h.1)])
        clear HL1
        have HLB := Lib.hid (fun w1 (h : I l w1) => HL2.out w1 h (2 * (i : Int) + 1) (by omega) (by omega))
        have HSB := Lib.hid (fun w1 (h : I l w1) => HSW.out w1 h (2 * (i : Int) + 1) (by omega) (by omega))
        clear HL2 HSW
        rw [E2.out, Int.toNat_natCast] at HLB HSB
        cases h3 : lt (HL.el l (2 * i + 1)) (HL.el l i) with
        | false =>
          rw [h3] at HLB
          have H3 := Lib.hid h3; clear h3
          go_wp2_with (first | ((with_reducible refine wpI2 (HLB.out _ hI) ?_ ?_ ?_ ?_ ?_); rfl; rfl; rfl; rfl; rintro v w2 ⟨rfl, hI2, hF2⟩))
          go_ret
          exact DownPost.mk HS.out hi hF hp HD.out HK.out HE.out hI2 hF2 (.inr (by rw [HC.out]; exact H3.out))
        | true =>
          rw [h3] at HLB
          have H3 := Lib.hid h3; clear h3
          go_wp2_with (first | ((with_reducible refine wpI2 (HLB.out _ hI) ?_ ?_ ?_ ?_ ?_); rfl; rfl; rfl; rfl; rintro v w2 ⟨rfl, hI2, hF2⟩) | ((with_reducible refine wpI2 (HSB.out _ hI2) ?_ ?_ ?_ ?_ ?_); rfl; rfl; rfl; rfl; rintro v w3 ⟨hI3, hF3⟩))
          obtain ⟨q1, q2, q3, q4⟩ := DownRel.step HS.out hn1 hi (HS.out.trans _ _ _ hF hF2) hp HD.out HK.out hc HC.out H3.out hI3 hF3
          go_roundw
          case rel => exact ⟨2 * i + 1, q1, .inr q3, by go_num, q4⟩
          case measure => simp [intOf]; omega
    · go_wp2
      go_ret
      exact DownPost.mk HS.out hi hF hp HD.out HK.out HE.out hI (HS.out.refl _) (.inl (by omega))
end Go.Proofs.YtjpmebfegpmccaaGreat
