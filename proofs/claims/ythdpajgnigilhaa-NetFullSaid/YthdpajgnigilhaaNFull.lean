/- arboretumlaw27.NetFull: the walk. -/
import Derived.Test.YthdpajgnigilhaaNetX
namespace Go.Proofs.Ythdpajgnigilhaa
open Go.RowKit Go.Conc

set_option maxHeartbeats 1000000 in
set_option maxRecDepth 100000 in
theorem netFull_out (n m : Int) (h : n < 0 ∨ 700 < n ∨ m < 0 ∨ 100 < m) (w : World) :
    Calls Try.prog 3 #[.int .i64 n, .int .i64 m] w fun e w' => e = .returned (.bool true) ∧ Below w.heap.size w w' := by
  by_cases h1 : n < 0
  · clear h
    go_enter Try.func3, Try.ntmps3
    go_wp2_with fail
    refine (alive_true _).mono ?_
    rintro e w1 ⟨rfl, hb⟩
    go_wp2
    go_ret
    exact ⟨rfl, hb⟩
  · by_cases h2 : 700 < n
    · clear h
      go_enter Try.func3, Try.ntmps3
      go_wp2_with fail
      refine (alive_true _).mono ?_
      rintro e w1 ⟨rfl, hb⟩
      go_wp2
      go_ret
      exact ⟨rfl, hb⟩
    · by_cases h3 : m < 0
      · clear h
        go_enter Try.func3, Try.ntmps3
        go_wp2_with fail
        refine (alive_true _).mono ?_
        rintro e w1 ⟨rfl, hb⟩
        go_wp2
        go_ret
        exact ⟨rfl, hb⟩
      · have h4 : 100 < m := by omega
        clear h
        go_enter Try.func3, Try.ntmps3
        go_wp2_with fail
        refine (alive_true _).mono ?_
        rintro e w1 ⟨rfl, hb⟩
        go_wp2
        go_ret
        exact ⟨rfl, hb⟩

/-- Between two packets that are dropped. -/
def FullRel (w : World) (sent k : Nat) (wr : World) : Prop := ∃ S F, S.length = sent - k ∧ Nt w.heap.size w.heap.size S (0 + (sent : Int)) (.map none) none (.deferred none) F wr ∧ Below w.heap.size w wr

set_option maxHeartbeats 4000000 in
set_option maxRecDepth 100000 in
theorem netFull_in (n m : Nat) (hn : n ≤ 700) (hm : m ≤ 100) (w : World) :
    Calls Try.prog 3 #[.int .i64 n, .int .i64 m] w fun e w' => e = .returned (.bool true) ∧ Below w.heap.size w w' := by
  have hlk : Hid (∀ (W : World), CutW none (.deferred none) W → look (.map none) 0 0 false W) := Lib.hid (fun W _ => look_nil 0 0 W)
  have h1 : ¬ (n : Int) < 0 := by omega
  have h2 : ¬ (700 : Int) < n := by omega
  have h3 : ¬ (m : Int) < 0 := by omega
  have h4 : ¬ (100 : Int) < m := by omega
  go_enter Try.func3, Try.ntmps3
  go_wp2_with fail
  refine (nt_new w).mono ?_
  rintro e w1 ⟨rfl, hN1, hb1⟩
  have HB1 := Lib.hid hb1
  obtain ⟨W2, hmk, hR2, hF2⟩ := make_pk n (by omega) w1
  have HS := Lib.hid (nt_send_many 1 n W2 (by omega) hN1 hlk.out hR2 hF2 (by omega) (by omega))
  clear hb1 hN1 hR2 hF2
  go_wp2_with fail
  refine HS.out.mono ?_
  obtain ⟨sent, hsent⟩ : ∃ s, min n (600 - ([] : List Nd).length) = s := ⟨_, rfl⟩
  rw [hsent]
  have hs6 : sent = min n 600 := by rw [← hsent]; rfl
  have hmin : (min (n : Int) 600) = (sent : Int) := by omega
  have hs7 : sent ≤ 600 := by omega
  have HSN : Hid (sent = min n 600) := Lib.hid hs6
  clear hs6 hsent HS hmk
  rintro e w3 ⟨rfl, S3, F3, hl3, hN3, hst3⟩
  have hb3 : Below w.heap.size w w3 := HB1.out.trans (hst3.1.below HB1.out.size (fun i hi => by have : i = w.heap.size := hi; omega))
  have HLE := Lib.hid (nt_len hN3)
  have HL3 : Hid (S3.length = sent) := Lib.hid (by simpa using hl3)
  rw [HL3.out] at HLE
  have HR3 : Hid (FullRel w sent 0 w3) := Lib.hid ⟨S3, F3, HL3.out, hN3, hb3⟩
  clear hN3 hst3 hb3 hl3 HB1
  go_wp2_with fail
  refine HLE.out.mono ?_
  rintro e w4 ⟨rfl, rfl⟩
  clear HLE
  go_wp2
  go_loopw [7] (fun i wr => ∃ k : Nat, k ≤ m ∧ k ≤ sent ∧ i = .int .i64 k ∧ Hid (FullRel w sent k wr)) (fun i _ => m - (intOf i).toNat)
  case atStart => exact ⟨0, Nat.zero_le _, Nat.zero_le _, rfl, HR3⟩
  case round =>
    obtain ⟨k, hk, hks, rfl, hrel⟩ := hrel
    by_cases hgo : k < m ∧ k < sent
    · obtain ⟨hkm, hkl⟩ := hgo
      obtain ⟨S, F, hl, hN, hb⟩ := hrel.out
      have HD := Lib.hid (nt_drop 0 hN (by omega))
      have HNB := Lib.hid (fun w' (hF : Fr F wr w') => hN.below (Nat.le_refl _) hb hF)
      have HL := Lib.hid hl
      clear hl hN hb hrel
      go_wp2_with fail
      refine HD.out.mono ?_
      rintro e w5 ⟨rfl, x, ts, -, -, -, S', F', hp, hN', hst⟩
      have hr5 : Hid (FullRel w sent (k + 1) w5) := Lib.hid ⟨S', F', by have := hp.length_eq; have := HL.out; simp at *; omega, hN', HNB.out _ hst.1⟩
      clear hp hN' hst
      go_wp2
      go_roundw
      case rel => exact ⟨k + 1, by omega, by omega, by go_num, hr5⟩
      case measure => simp [intOf]; omega
    · obtain ⟨S, F, hl, hN, hb⟩ := hrel.out
      have hke : k = min m sent := by omega
      have HB := Lib.hid hb
      have HL : Hid (S.length = sent - k) := Lib.hid hl
      have HN := Lib.hid hN
      have HSM : Hid (min m sent = k) := Lib.hid hke.symm
      have hmin2 : min (m : Int) (sent : Int) = (k : Int) := by omega
      have hge : k < m → ¬ (k : Int) < sent := fun h => by omega
      have hparts : ¬ (k : Int) < m ∨ ((k : Int) < m ∧ ¬ (k : Int) < sent) := by omega
      clear hl hN hb hrel hgo hke hge
      rcases hparts with ht | ⟨ht, ht2⟩
      all_goals
        have HAL := Lib.hid (alive_true wr)
        go_wp2_with fail
        refine HAL.out.mono ?_
        rintro e w6 ⟨rfl, hb6⟩
        have hF6 : Fr (fun _ => False) wr w6 := Fr.of_all (S := fun _ => False) hb6
        have HN6 := Lib.hid (HN.out.keep hF6 (fun _ _ h => h) (fun _ _ h => h))
        have HB6 := Lib.hid (HB.out.trans (hb6.mono HB.out.size))
        have HLE := Lib.hid (nt_len HN6.out)
        rw [HL.out] at HLE
        have hsub : ((sent - k : Nat) : Int) = (sent : Int) - k := by omega
        rw [hsub] at HLE
        clear hb6 hF6 hsub HAL
        go_wp2_with fail
        refine HLE.out.mono ?_
        rintro e w7 ⟨rfl, rfl⟩
        clear HLE
        obtain ⟨W8, hmk, hR8, hF8⟩ := make_pk 700 (by omega) w6
        have HS := Lib.hid (nt_send_many 2 700 W8 (by omega) HN6.out hlk.out hR8 hF8 (by omega) (by omega))
        rw [HL.out, show min 700 (600 - (sent - k)) = 600 - (sent - k) by omega] at HS
        have hsub : ((600 - (sent - k) : Nat) : Int) = 600 - ((sent : Int) - k) := by omega
        rw [hsub] at HS
        have hmk7 : (Instr.makeSlice 26 (.int .i64 700) (.int .i64 700)).run Try.prog w6 = .ok (.slice (some ⟨w6.heap.size, 0, none⟩) 700 700) W8 := hmk
        have HNB := Lib.hid (fun w' F' (h : Step F F' w6 w') => HN6.out.below (Nat.le_refl _) HB6.out h.1)
        clear hR8 hF8 hmk hsub HN6
        go_wp2_with fail
        refine HS.out.mono ?_
        rintro e w9 ⟨rfl, S9, F9, hl9, hN9, hst9⟩
        have hl9' : S9.length = 600 := by omega
        have HCL := Lib.hid (nt_clear hN9 (by omega))
        rw [hl9'] at HCL
        have HB9 := Lib.hid (HNB.out _ _ hst9)
        have HNB9 := Lib.hid (fun w' (hF : Fr F9 w9 w') => hN9.below (Nat.le_refl _) HB9.out hF)
        clear hmk7 hl9 hN9 hst9 HS hl9' HNB
        go_wp2_with fail
        refine HCL.out.mono ?_
        rintro e w10 ⟨rfl, F10, hN10, hst10⟩
        have HLE := Lib.hid (nt_len hN10)
        have HB10 := Lib.hid (HNB9.out _ hst10.1)
        clear hN10 hst10 HCL
        go_wp2_with fail
        refine HLE.out.mono ?_
        rintro e w11 ⟨rfl, rfl⟩
        go_wp2
        go_ret
        exact ⟨rfl, HB10.out⟩

theorem netFull_walk (n m : Int) (w : World) :
    Calls Try.prog 3 #[.int .i64 n, .int .i64 m] w fun e w' => e = .returned (.bool true) ∧ Below w.heap.size w w' := by
  by_cases h : n < 0 ∨ 700 < n ∨ m < 0 ∨ 100 < m
  · exact netFull_out n m h w
  · obtain ⟨n', rfl⟩ := Int.eq_ofNat_of_zero_le (show 0 ≤ n by omega)
    obtain ⟨m', rfl⟩ := Int.eq_ofNat_of_zero_le (show 0 ≤ m by omega)
    exact netFull_in n' m' (by omega) (by omega) w
end Go.Proofs.Ythdpajgnigilhaa
